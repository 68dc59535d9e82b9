/-
  Walks of layer 29: monitor.Raised.
-/
import Derived.Test.YtlogokjjphlkkaaW12
namespace Go.Proofs.Ytlogokjjphlkkaa
open Go.RowKit Go.Shelf

theorem from_put {w W : World} (h : From w W) (n blk off : Nat) (d : Array Int) (hb : w.heap.size ≤ blk) : From w (Sort.putRow (Value.int .i64) (Sort.ahead W n) blk off d) :=
  ⟨h.os, h.tape, h.output, by simpa [Sort.ahead] using h.size, fun i hi => by
    rw [← h.block i hi]
    simp only [Sort.putRow, Sort.mapBlock, Array.getElem?_modify, Sort.ahead]
    rw [if_neg (by omega)]⟩
/-- the events of the raised monitors -/
def evsM (l : List Mon) : List Int := (l.filter (·.raised)).map (·.ev)
theorem evsM_succ (l : List Mon) (k : Nat) (hk : k < l.length) : evsM (l.take (k + 1)) = if l[k].raised then evsM (l.take k) ++ [l[k].ev] else evsM (l.take k) := by
  rw [List.take_succ_eq_append_getElem hk, evsM, List.filter_append]
  cases h : l[k].raised <;> simp [h, evsM]
theorem evsM_len (l : List Mon) : (evsM l).length ≤ l.length := by
  have := List.length_filter_le (fun m : Mon => m.raised) l
  simpa [evsM] using this
def raisedM (l : List Mon) : List Int := adj (Sort.insertionSort Sort.ltInt (evsM l).toArray 0 (evsM l).toArray.size).toList
/-- what a call with a new list of numbers that lies anywhere answers -/
def IntsPost (w : World) (l : List Int) (e : Ending) (w' : World) : Prop := ∃ A c, e = .returned (.slice A l.length c) ∧ Ints w' (.slice A l.length c) l ∧ From w w'
theorem holds_of_own {w : World} {base n c : Nat} {A : Option Addr} {l : List Int} (h : w.ownsRow base 3 1 (.slice A n c) n (ic l)) (hn : 0 < n) : ∃ g, A = some ⟨g, 0, none⟩ ∧ base ≤ g ∧ n ≤ c ∧ c ≤ maxLen ∧ Sort.Holds (Value.int .i64) w g 0 l.toArray := by
  rcases h.2 with ⟨_, rfl⟩ | ⟨g, cap, cur, hv, hg, hh, hnc, hcm, hcs, htk⟩
  · omega
  · injection hv with e1 _ e3
    subst e1 e3
    refine ⟨g, rfl, hg, hnc, hcm, fun j hj => ⟨?_, ?_⟩⟩
    · have hj' : j < l.length := by simpa using hj
      have := h.cells (g := g) rfl j (.int .i64 l[j]) (by simp [ic, hj'])
      rw [Addr.add_mid] at this
      rw [this]
      simp [hj']
    · simp [World.frozen?, hh]
theorem ins0_calls (A : Option Addr) (c : Nat) (w : World) : Calls Try.prog 158 #[.slice A 0 c, .int .i64 0, .int .i64 0, .func (.func 85) #[] #[]] w fun e w' => e = .returned (.tuple #[]) ∧ w' = w := by
  go_enter Try.func158, Try.ntmps158
  go_wp2_with fail
  refine wp_loop_rounds 1 ?_
  rw [rounds_succ]
  go_wp2
  go_end0
  exact ⟨rfl, rfl⟩
theorem pdq0_calls (A : Option Addr) (c : Nat) (k : Int) (w : World) : Calls Try.prog 147 #[.slice A 0 c, .int .i64 0, .int .i64 0, .int .i64 k, .func (.func 85) #[] #[]] w fun e w' => e = .returned (.tuple #[]) ∧ w' = w := by
  go_enter Try.func147, Try.ntmps147
  go_wp2_with fail
  refine wp_loop_rounds 1 ?_
  rw [rounds_succ]
  go_wp2_with fail
  refine (ins0_calls A c w).mono ?_
  rintro e w1 ⟨rfl, rfl⟩
  go_wp2
  refine bodyPost_ret (v := .tuple #[]) (by simp [results, Try.results147, go_sem]) rfl ⟨rfl, rfl⟩
theorem sort0_calls (A : Option Addr) (c : Nat) (w : World) : Calls Try.prog 110 #[.slice A 0 c, .func (.func 85) #[] #[]] w fun e w' => e = .returned (.tuple #[]) ∧ w' = w := by
  have HL := bx (len_calls 0 w (by omega) (by omega))
  go_enter Try.func110, Try.ntmps110
  go_wp2_with fail
  refine HL.out.mono ?_
  rintro e w1 ⟨⟨k, rfl⟩, rfl⟩
  go_wp2_with fail
  refine (pdq0_calls A c k w1).mono ?_
  rintro e w2 ⟨rfl, rfl⟩
  go_wp2
  go_end0
  exact ⟨rfl, rfl⟩
theorem compact0_calls (A : Option Addr) (c : Nat) (w : World) : Calls Try.prog 111 #[.slice A 0 c] w fun e w' => e = .returned (.slice A 0 c) ∧ w' = w := by
  go_enter Try.func111, Try.ntmps111
  go_wp2
  go_ret
  exact ⟨rfl, rfl⟩
set_option maxHeartbeats 1000000 in
theorem raised_calls (A : Option Addr) (c : Nat) (ms : List Mon) (w : World) (h : Mons w (.slice A ms.length c) ms) (hm : ms.length ≤ 12) (r : List Int) (hr : raisedM ms = r) :
    Calls Try.prog 69 #[.slice A ms.length c] w (IntsPost w r) := by
  have H := bx h
  have HR := bx hr
  clear h hr
  go_enter Try.func69, Try.ntmps69
  go_wp2_with fail
  go_loopw [3, 5, 8] (fun v _ i wr => ∃ k : Nat, k ≤ ms.length ∧ i = .int .i64 k ∧ wr.ownsRow w.heap.size 3 1 v (evsM (ms.take k)).length (ic (evsM (ms.take k))) ∧ From w wr) (fun _ _ i _ => ms.length - (intOf i).toNat)
  case atStart => exact ⟨0, Nat.zero_le _, rfl, own_nil _ _ _ _, From.refl _⟩
  case round =>
    obtain ⟨k, hk, rfl, hown, hbw⟩ := hrel
    have hl1 := evsM_len (ms.take k)
    rw [List.length_take] at hl1
    have HO := bx hown
    by_cases hlt : k < ms.length
    · obtain ⟨b, off, AP, cP, rfl, hb, hP, c0, c1, c2, c3, c4, c5, c6, c7⟩ := (H.out.from hbw).at_ hlt
      have hS := evsM_succ ms k hlt
      have HS := bx hS
      clear hS hP hown
      generalize ms[k] = m at *
      obtain ⟨mp, ml, mh, mn, mo, me, mps, mr⟩ := m
      simp only at c0 c1 c2 c3 c4 c5 c6 c7 HS
      have hsz := Below.size hbw
      go_wp2_with fail
      refine (put_calls w.heap.size u3 (evsM (ms.take k)) mr me _ (HO.out.alloc _) (by simp; omega) (by omega)).mono ?_
      rintro e w3 ⟨A3, n3, c3, ys, rfl, hys, rfl, o3, g3, _⟩
      have hy : ys = evsM (ms.take (k + 1)) := by rw [hys, HS.out]
      have hf3 : From w w3 := From.app (hbw.alloc _) (HO.out.alloc _) (Nat.le_refl _) g3
      have HY := bx hy
      clear hy hys
      go_wp2
      go_roundw
      case rel => exact ⟨k + 1, by omega, by go_num, by rw [← HY.out]; exact o3, hf3⟩
      case measure => simp [intOf]; omega
    · obtain rfl : k = ms.length := by omega
      rw [List.take_of_length_le (Nat.le_refl _)] at HO hl1
      clear hown
      obtain ⟨l, hl⟩ : ∃ l, evsM ms = l := ⟨_, rfl⟩
      have hr := HR.out
      rw [raisedM, hl] at hr
      replace HR := bx hr
      rw [hl] at HO hl1
      obtain ⟨A3, c3, rfl⟩ := slice_form HO.out
      by_cases h0 : l.length = 0
      · have hl0 := List.eq_nil_of_length_eq_zero h0
        subst hl0
        obtain rfl : r = [] := by rw [← hr]; simp [Sort.insertionSort, Sort.insOuter, adj]
        have HB := bx hbw
        go_wp2_with fail
        refine (sort0_calls A3 c3 wr).mono ?_
        rintro e w4 ⟨rfl, rfl⟩
        go_wp2_with fail
        refine (compact0_calls A3 c3 _).mono ?_
        rintro e w5 ⟨rfl, rfl⟩
        go_wp2
        go_ret
        exact ⟨A3, c3, rfl, sl_of_own HO.out, HB.out⟩
      · obtain ⟨g, rfl, hg, hnc, hcm, hH⟩ := holds_of_own HO.out (by omega)
        have hls : l.toArray.size = l.length := by simp
        have HS := bx (sortF_calls g 0 c3 l.toArray wr hH (by omega))
        rw [hls] at HS
        have HH := bx hH
        obtain ⟨d, hd⟩ : ∃ d, Sort.insertionSort Sort.ltInt l.toArray 0 l.toArray.size = d := ⟨_, rfl⟩
        have hds : d.size = l.length := by
          rw [← hd]
          have := (Sort.insertionSort_holds (lt := Sort.ltInt) Sort.swo_ltInt l.toArray 0 l.toArray.size (Nat.zero_le _) (Nat.le_refl _)).1.1
          rw [this]; exact hls
        have hd' := hd
        rw [hls] at hd
        rw [hd] at HS
        rw [hd'] at hr
        clear hd hd' hH
        replace HR := bx hr
        clear hr
        have HB := bx hbw
        go_wp2_with fail
        refine HS.out.mono ?_
        rintro e w4 ⟨rfl, n4, rfl⟩
        have hH4 := Sort.holds_putRow (Value.int .i64) (Sort.ahead wr n4) g 0 l.toArray d (Sort.holds_ahead _ _ _ _ _ _ HH.out) (by rw [hds, hls])
        have HC := bx (compact_calls g 0 c3 d _ hH4 (by omega) (by unfold maxLen at hcm; omega))
        rw [hds] at HC
        go_wp2_with fail
        refine HC.out.mono ?_
        rintro e w5 ⟨rfl, n5, d5, rfl, hs5, hp5⟩
        go_wp2
        go_ret
        rw [Sort.putRow_ahead_putRow _ _ _ _ _ _ _ _ hs5]
        rw [HR.out] at hp5 ⊢
        have hrl : r.length ≤ d.size := by rw [← HR.out]; have := adj_len d.toList; simpa using this
        refine ⟨_, _, rfl, ⟨.inr ⟨_, _, rfl, fun j u hj => ?_⟩⟩, from_put HB.out _ _ _ _ hg⟩
        have hjr : j < r.length := by have := (List.getElem?_eq_some_iff.1 hj).1; simpa [ic] using this
        have hH5 := Sort.holds_putRow (Value.int .i64) (Sort.ahead wr (n4 + n5)) g 0 l.toArray d5 (Sort.holds_ahead _ _ _ _ _ _ HH.out) (by rw [hs5, hds, hls])
        have hc := (hH5 j (by omega)).1
        refine ⟨g, 0, rfl, World.block_lt_of_cell? _ _ hc, hc.trans ?_⟩
        rw [← hj]
        have := hp5 j hjr
        rw [Array.getElem?_eq_getElem (by omega)] at this
        rw [List.getElem?_eq_getElem hjr] at this
        simp only [ic, List.getElem?_map, List.getElem?_eq_getElem hjr, Option.map_some]
        rw [getElem!_pos d5 j (by omega)]
        injection this with this
        rw [this]
end Go.Proofs.Ytlogokjjphlkkaa
