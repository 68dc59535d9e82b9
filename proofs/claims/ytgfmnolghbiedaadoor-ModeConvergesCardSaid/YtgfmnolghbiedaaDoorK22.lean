/-
  Walks of layer 30: perigeeref30.Sets.
-/
import Derived.Test.YtgfmnolghbiedaaDoorK21
namespace Go.Proofs.YtgfmnolghbiedaaDoor
open Go.RowKit

theorem own_one {X : World} {base : Nat} (hb : base ≤ X.heap.size) (u : Value) (t : TypeId) : (X.alloc (.cells #[u] t)).ownsRow base t 1 (.slice (some ⟨X.heap.size, 0, none⟩) 1 1) 1 [u] :=
  ⟨rfl, .inr ⟨X.heap.size, 1, #[u], rfl, hb, heap_alloc_new X _, Nat.le_refl _, by decide, rfl, rfl⟩⟩
theorem units_at {n m : Nat} (h : m < n) : (units n)[m]'(by simpa [units] using h) = (m : Int) := by simp [units]
theorem units_len (n : Nat) : (units n).length = n := by simp [units]
theorem sets_round {n k m : Nat} (h : m < n) : subs ((units n).drop m) (k + 1) = (subs ((units n).drop (m + 1)) k).map ((m : Int) :: ·) ++ subs ((units n).drop (m + 1)) (k + 1) := by
  rw [subs_round (units n) k m (by rw [units_len]; exact h), units_at h]
theorem sets_end {n k m : Nat} (h : n < m + (k + 1)) : subs ((units n).drop m) (k + 1) = [] := subs_short _ _ (by rw [List.length_drop, units_len]; omega)
/-- what holds at the head of each round of Sets -/
def SetsAt (n k : Nat) (w : World) (T : List (List Int)) (v i : Value) (wr : World) : Prop :=
  ∃ (m : Nat) (ys : List Slc), i = .int .i64 m ∧ m ≤ n + 1 ∧ ys.map (·.s) ++ subs ((units n).drop m) (k + 1) = T ∧ wr.ownsRow w.heap.size 32 1 v ys.length (ys.map Slc.v) ∧ (∀ y ∈ ys, wr.ownsRow w.heap.size 3 1 y.v y.s.length (ic y.s)) ∧ Below w.heap.size w wr
def RestAt (m : Nat) (w wo : World) (ys ys2 : List Slc) (rv v j : Value) (wr : World) : Prop :=
  ∃ (q : Nat) (zs : List Slc), j = .int .i64 q ∧ q ≤ ys2.length ∧ zs.map (·.s) = ys.map (·.s) ++ (ys2.take q).map (fun y => (m : Int) :: y.s) ∧ wr.ownsRow w.heap.size 32 1 v zs.length (zs.map Slc.v) ∧ (∀ y ∈ zs, wr.ownsRow w.heap.size 3 1 y.v y.s.length (ic y.s)) ∧
    Below w.heap.size w wr ∧ wr.ownsRow wo.heap.size 32 1 rv ys2.length (ys2.map Slc.v) ∧ (∀ y ∈ ys2, wr.ownsRow wo.heap.size 3 1 y.v y.s.length (ic y.s)) ∧ (∀ r, v.ownBlock = some r → rv.ownBlock ≠ some r)
theorem cell_row {w : World} {base n c : Nat} {A : Option Addr} {xs : List Value} {e : TypeId} (h : w.ownsRow base e 1 (.slice A n c) n xs) {q : Nat} (hq : q < n) (v : Value) (hv : xs[q]? = some v) :
    ∃ g, A = some ⟨g, 0, none⟩ ∧ base ≤ g ∧ g < w.heap.size ∧ w.cell? ⟨g, q, none⟩ = some v := by
  obtain ⟨g, cap, e0, hb, hlt⟩ := h.form (by omega)
  injection e0 with e1 _ _
  subst e1
  refine ⟨g, rfl, hb, hlt, ?_⟩
  rw [← h.cells (g := g) rfl q v hv]
  unfold Addr.add
  split
  · rename_i h0; rw [h0]
  · simp
theorem rest_next {m q : Nat} {w wo wr w5 w7 : World} {ys ys2 zs : List Slc} {rv v : Value} {A5 : Option Addr} {c5 g cap : Nat} {yl : List Int} {hq : q < ys2.length}
    (hy : (ys2[q]).s = yl) (hzs : zs.map (·.s) = ys.map (·.s) ++ (ys2.take q).map (fun y => (m : Int) :: y.s)) (zrow : wr.ownsRow w.heap.size 32 1 v zs.length (zs.map Slc.v)) (zown : ∀ y ∈ zs, wr.ownsRow w.heap.size 3 1 y.v y.s.length (ic y.s))
    (zbw : Below w.heap.size w wr) (rrow : wr.ownsRow wo.heap.size 32 1 rv ys2.length (ys2.map Slc.v)) (rown : ∀ y ∈ ys2, wr.ownsRow wo.heap.size 3 1 y.v y.s.length (ic y.s)) (rne : ∀ r, v.ownBlock = some r → rv.ownBlock ≠ some r)
    (o5 : w5.ownsRow wr.heap.size 3 1 (.slice A5 (yl.length + 1) c5) (yl.length + 1) (ic ((m : Int) :: yl))) (g5 : (wr.alloc (.cells #[.int .i64 m] 3)).grownBy w5 (some wr.heap.size))
    (o7 : w7.ownsRow w.heap.size 32 1 (.slice (some ⟨g, 0, none⟩) (zs.length + 1) cap) (zs.length + 1) (zs.map Slc.v ++ [.slice A5 (yl.length + 1) c5])) (g7 : (w5.alloc (.cells #[.slice A5 (yl.length + 1) c5] 32)).grownBy w7 v.ownBlock)
    (hat : v.ownBlock = some g ∨ g = w5.heap.size + 1) :
    RestAt m w wo ys ys2 rv (.slice (some ⟨g, 0, none⟩) (zs.length + 1) cap) (.int .i64 (q + 1 : Nat)) w7 := by
  have zsz := zbw.size
  have s5 := g5.size
  rw [World.size_alloc] at s5
  have s7 := g7.size
  rw [World.size_alloc] at s7
  have hb5 : Below wr.heap.size wr w5 := ((Below.refl _ wr).alloc (Nat.le_refl _) _).grown g5 (by simp) (fun r e => by cases e; exact Nat.le_refl _)
  have zr5 := (own_call zrow hb5).alloc (.cells #[.slice A5 (yl.length + 1) c5] 32)
  have keep : ∀ {B n : Nat} {u : Value} {xs : List Value}, wr.ownsRow B 3 1 u n xs → w7.ownsRow B 3 1 u n xs := fun h => own_apart ((own_call h hb5).alloc _) zr5 (by decide) g7
  refine ⟨q + 1, zs ++ [⟨A5, c5, (m : Int) :: yl⟩], rfl, hq, ?_, ?_, ?_, ?_, ?_, fun y hy => keep (rown y hy), ?_⟩
  · rw [List.map_append, hzs, List.take_succ_eq_append_getElem hq, List.map_append, List.append_assoc]
    simp only [List.map_cons, List.map_nil, hy]
  · rw [List.length_append, List.map_append]; exact o7
  · intro y hy
    rcases List.mem_append.1 hy with hy | hy
    · exact keep (zown y hy)
    · obtain rfl := List.mem_singleton.1 hy
      exact own_apart ((own_base o5 zsz).alloc _) zr5 (by decide) g7
  · exact (((zbw.trans (hb5.mono zsz)).alloc (by omega) _)).grown g7 (by rw [World.size_alloc]; omega) (fun r e => (own_lt zrow e).1)
  · refine ((own_call rrow hb5).alloc _).kept g7 ?_
    by_cases h : rv.ownBlock = none
    · exact .inl h
    · exact .inr fun e => by
        cases hr : rv.ownBlock with
        | none => exact h hr
        | some r => exact rne r (by first | rw [← e, hr] | rw [e, hr]) hr
  · intro r e e'
    have e : g = r := by simpa [Value.ownBlock] using e
    subst e
    rcases hat with h | h
    · exact rne _ h e'
    · have := (own_lt rrow e').2
      omega
theorem sets_zero (first n : Nat) (w : World) (l : List Int) : Calls Tryd.prog 59 #[.int .i64 first, .int .i64 n, .int .i64 0] w (ListsPost w (subs l 0)) := by
  go_enter Tryd.func59, Tryd.ntmps59
  go_wp2
  go_ret
  refine ⟨[⟨none, 0, []⟩], _, _, by rw [subs_zero]; rfl, rfl, own_one (Nat.le_refl _) _ _, ?_, (Below.refl _ _).alloc (Nat.le_refl _) _⟩
  intro y hy
  obtain rfl := List.mem_singleton.1 hy
  exact World.ownsRow_nil _ _ _ _
set_option maxRecDepth 100000 in
set_option maxHeartbeats 1600000 in
theorem sets_succ (n k : Nat) (hn : n ≤ 20) (hk : k ≤ 20) (ih : ∀ (first : Nat) (w : World), first ≤ n + 1 → Calls Tryd.prog 59 #[.int .i64 first, .int .i64 n, .int .i64 k] w (ListsPost w (subs ((units n).drop first) k)))
    (first : Nat) (w : World) (hf : first ≤ n + 1) : Calls Tryd.prog 59 #[.int .i64 first, .int .i64 n, .int .i64 ((k : Int) + 1)] w (ListsPost w (subs ((units n).drop first) (k + 1))) := by
  obtain ⟨i0, hi, hz0, hz1, hz2⟩ := info_parts Tryd.infoInt
  obtain ⟨j0, hj, hy0, hy1, hy2⟩ := info_parts Tryd.infoInts
  obtain ⟨T, hT⟩ : ∃ T, subs ((units n).drop first) (k + 1) = T := ⟨_, rfl⟩
  have HTl := bx (show T.length ≤ 2 ^ 20 by
    rw [← hT]
    have h1 := subs_len ((units n).drop first) (k + 1)
    have h2 : 2 ^ ((units n).drop first).length ≤ 2 ^ 20 := Nat.pow_le_pow_right (by decide) (by rw [List.length_drop, units_len]; omega)
    omega)
  have HT := bx hT
  rw [hT]
  clear hT
  have ek : ((k : Int) + 1 == 0) = false := by simp; omega
  have IH := bx ih
  clear ih
  go_enter Tryd.func59, Tryd.ntmps59
  go_wp2
  go_loopw [7, 8, 9, 10] (fun v i _ _ wr => SetsAt n k w T v i wr) (fun _ i _ _ _ => n + 1 - (intOf i).toNat)
  case atStart => exact ⟨first, [], rfl, hf, by rw [← HT.out]; rfl, World.ownsRow_nil _ _ _ _, by simp, Below.refl _ _⟩
  case round =>
    obtain ⟨m, ys, rfl, hm, hys, hrow, hown, hbw⟩ := hrel
    have hsz := hbw.size
    have HYS := bx hys
    clear hys
    by_cases hlt : m + (k + 1) ≤ n
    · have t1 : (m : Int) ≤ (n : Int) - ((k : Int) + 1) := by omega
      have IHm := bx (IH.out (m + 1) wr (by omega))
      obtain ⟨T2, hT2⟩ : ∃ T2, subs ((units n).drop (m + 1)) k = T2 := ⟨_, rfl⟩
      have HR := bx (show ys.map (·.s) ++ (T2.map ((m : Int) :: ·) ++ subs ((units n).drop (m + 1)) (k + 1)) = T by rw [← HYS.out, sets_round (show m < n by omega), hT2])
      have hT2l : T2.length ≤ 1048576 := by
        rw [← hT2]
        have h1 := subs_len ((units n).drop (m + 1)) k
        have h2 : 2 ^ ((units n).drop (m + 1)).length ≤ 2 ^ 20 := Nat.pow_le_pow_right (by decide) (by rw [List.length_drop, units_len]; omega)
        omega
      rw [hT2] at IHm
      have hysl : ys.length ≤ 1048576 := by
        have h1 := congrArg List.length HYS.out
        rw [List.length_append, List.length_map] at h1
        have := HTl.out
        omega
      have HT2 := bx hT2
      clear hT2
      go_wp2_with fail
      refine (show Calls Tryd.prog 59 #[.int .i64 ((m : Int) + 1), .int .i64 n, .int .i64 k] wr (ListsPost wr T2) from IHm.out).mono ?_
      rintro e w3 ⟨ys2, A2, c2, hm2, rfl, row2, own2, hb3⟩
      have hys2l : ys2.length = T2.length := by rw [← hm2, List.length_map]
      have HM2 := bx hm2
      have hsz3 := hb3.size
      have hbw3 := hbw.trans (hb3.mono hsz)
      have hrow3 := own_call hrow hb3
      have hown3 : ∀ y ∈ ys, w3.ownsRow w.heap.size 3 1 y.v y.s.length (ic y.s) := fun y hy => own_call (hown y hy) hb3
      have hlt3 : ∀ r, u7.ownBlock = some r → (Value.slice A2 ys2.length c2).ownBlock ≠ some r := fun r e e' => by
        have h1 := (own_lt hrow e).2
        have h2 := (own_lt row2 e').1
        omega
      have H2l := bx hys2l
      clear hm2 hys2l
      go_wp2
      obtain ⟨wo, rfl⟩ : ∃ wo : World, wo = wr := ⟨_, rfl⟩
      go_loopw [7, 10] (fun v j wr => RestAt m w wo ys ys2 (.slice A2 ys2.length c2) v j wr) (fun _ j _ => ys2.length - (intOf j).toNat)
      case atStart => exact ⟨0, ys, rfl, Nat.zero_le _, by simp, hrow3, hown3, hbw3, row2, own2, hlt3⟩
      case round =>
        obtain ⟨q, zs, rfl, hq, hzs, zrow, zown, zbw, rrow, rown, rne⟩ := hrel
        have HZS := bx hzs
        clear hzs hrow3 hown3 row2 own2 hlt3
        have zsz := zbw.size
        by_cases hql : q < ys2.length
        · obtain ⟨y, hy⟩ : ∃ y, ys2[q] = y := ⟨_, rfl⟩
          have hyo := rown y (by rw [← hy]; exact List.getElem_mem hql)
          have hyl : y.s.length = k := by
            have : y.s ∈ T2 := by rw [← HM2.out, ← hy]; exact List.mem_map.2 ⟨_, List.getElem_mem hql, rfl⟩
            rw [← HT2.out] at this
            exact (mem_subs _ _ _ this).2
          obtain ⟨g2, rfl, hg2a, hg2, hcell⟩ := cell_row rrow hql y.v (by rw [List.getElem?_map, List.getElem?_eq_getElem hql, hy]; rfl)
          have HYE := bx (show (ys2[q]).s = y.s by rw [hy])
          clear hy
          rcases y with ⟨yA, yc, yl⟩
          simp only [Slc.v] at hyo hcell hyl
          have hyk : yl.length ≤ 20 := by omega
          have hy2l : ys2.length ≤ 1048576 := by have := H2l.out; omega
          have hzl : zs.length ≤ 2097152 := by
            have h1 := congrArg List.length HZS.out
            rw [List.length_append, List.length_map, List.length_map, List.length_map, List.length_take] at h1
            have := H2l.out
            omega
          have HS := bx (src_of_own hyo)
          clear hyl hyo
          have q1 : (0 : Int) ≤ (q : Int) := by omega
          have q2 : (q : Int) < (ys2.length : Int) := by omega
          have q3 := World.new_ne wr _ hcell
          have hb1 : Below wr.heap.size wr (wr.alloc (.cells #[.int .i64 m] 3)) := (Below.refl _ wr).alloc (Nat.le_refl _) _
          go_wp2_with (first | (at_builtin; refine append_src rfl (.tmp 36) (.tmp 40) 32 rfl wr.heap.size 3 i0 (.int .i64 0) 8 Tryd.underlying32 hi hz0 hz1 hz2 rfl (.slice (some ⟨wr.heap.size, 0, none⟩) 1 1) 1 [(m : Int)] rfl (own_one (Nat.le_refl _) _ _) wr.heap.size (.slice yA yl.length yc) yl rfl (HS.out.below hb1) (by unfold maxLen; omega) (by omega) (by simp) ?_; intro v5 w5 o5 g5; rw [Nat.add_comm 1] at o5; obtain ⟨A5, c5, rfl⟩ := slice_form o5; have hb5 : Below wr.heap.size wr w5 := hb1.grown g5 (by simp) (fun r e => by cases e; exact Nat.le_refl _); have hs5 := hb5.size; have zr5 := own_call zrow hb5) | (at_builtin; refine wpList_append_lies _ rfl (.tmp 34) (.tmp 42) 33 rfl w.heap.size 32 j0 (.slice none 0 0) 1 24 Tryd.underlying33 hj hy0 hy1 hy2 rfl (by decide) u7 zs.length (zs.map Slc.v) rfl (zr5.alloc _) ⟨w5.heap.size, 0, none⟩ 1 1 [.slice A5 (yl.length + 1) c5] rfl rfl (cell_one_new _ _ _) (by simp [Value.oneCell']) (by decide) (by unfold maxLen; omega) (by omega) (by simp; omega) (w5.heap.size + 1) (by simp) ?_; intro g cap w7 o7 g7 hat _))
          have HN := rest_next HYE.out HZS.out zrow zown zbw rrow rown rne o5 g5 o7 g7 hat
          exact ⟨HN, by simp [intOf]; omega⟩
        · obtain rfl : q = ys2.length := by omega
          have HF := bx (show zs.map (·.s) ++ subs ((units n).drop (m + 1)) (k + 1) = T by
            rw [HZS.out, List.take_of_length_le (Nat.le_refl _), ← HR.out, ← HM2.out, List.map_map, List.append_assoc]; rfl)
          go_wp2
          refine ⟨⟨m + 1, zs, by go_num, by omega, HF.out, zrow, zown, zbw⟩, by simp [intOf]; omega⟩
    · have t1 : ¬ (m : Int) ≤ (n : Int) - ((k : Int) + 1) := by omega
      have HE := bx (show ys.map (·.s) = T by rw [← HYS.out, sets_end (by omega), List.append_nil])
      obtain ⟨A', c', rfl⟩ := slice_form hrow
      go_wp2
      go_ret
      exact ⟨ys, A', c', HE.out, rfl, hrow, hown, hbw⟩
theorem sets_calls (n : Nat) (hn : n ≤ 20) : ∀ (k : Nat), k ≤ 20 → ∀ (first : Nat) (w : World), first ≤ n + 1 → Calls Tryd.prog 59 #[.int .i64 first, .int .i64 n, .int .i64 k] w (ListsPost w (subs ((units n).drop first) k)) := by
  intro k
  induction k with
  | zero => intro _ first w _; exact sets_zero first n w _
  | succ k ih => intro hk first w hf; exact sets_succ n k hn (by omega) (ih (by omega)) first w hf
end Go.Proofs.YtgfmnolghbiedaaDoor
