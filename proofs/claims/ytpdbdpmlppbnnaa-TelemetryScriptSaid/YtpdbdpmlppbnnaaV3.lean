/-
  Walks of layer 28: Take.
-/
import Derived.Test.YtpdbdpmlppbnnaaV2
import Derived.Deep.CutRange
namespace Go.Proofs.Ytpdbdpmlppbnnaa
open Go.RowKit Go.Shelf

/-- numbers in memory that no change of block p touches -/
def Apart (w : World) (p : Nat) (v : Value) (l : List Int) : Prop := ∀ W', (∀ k, k < w.heap.size → k ≠ p → W'.heap[k]? = w.heap[k]?) → w.heap.size ≤ W'.heap.size → Ints W' v l
theorem Apart.self {w : World} {p : Nat} {v : Value} {l : List Int} (h : Apart w p v l) : Ints w v l := h w (fun _ _ _ => rfl) (Nat.le_refl _)
theorem apart_low {w : World} {p B : Nat} {v : Value} {l : List Int} (h : Sl w B v l.length (ic l)) (hB : B ≤ p) (hp : p < w.heap.size) : Apart w p v l := by
  intro W' hk hs
  rcases h.out with h | ⟨a, c, e, h⟩
  · exact ⟨.inl h⟩
  · refine ⟨.inr ⟨a, c, e, fun j u hj => ?_⟩⟩
    obtain ⟨b, off, e1, e2, e3⟩ := h j u hj
    refine ⟨b, off, e1, by omega, ?_⟩
    rw [← e3]
    exact World.cell?_of_block (w := w) (hk b (by omega) (by omega))
theorem apart_own {w : World} {p n base c : Nat} {A : Option Addr} {l : List Int} {cs : Array Value} {t : TypeId} (hn : l.length = n) (h : w.ownsRow base 3 1 (.slice A n c) n (ic l)) (hp : w.heap[p]? = some (.cells cs t (0, 0))) (ht : t ≠ 3) : Apart w p (.slice A n c) l := by
  intro W' hk _
  have := sl_of_own (own_heapOf (w' := W') h (fun i ds hi => (hk i (Array.getElem?_eq_some_iff.1 hi).1 (cells_ne hi hp (Ne.symm ht))).trans hi))
  show Sl _ _ _ l.length _
  rw [hn]
  exact this
/-- what Take answers: number, error, and what is taken then -/
def takeP (n : Nat) (all : List (List Int)) (l : List Int) : Int × Int × List (List Int) :=
  if l.length ≠ n then (0, 1, all) else if ¬ ∀ x ∈ l, fitsV x then (0, 5, all) else if all.length = 1000001 then (0, 9, all) else ((all.length : Nat), 0, all ++ [l])
def SrcPost (S : Nat → Prop) (w : World) (p n : Nat) (all : List (List Int)) (bs : Nat) (v : Value) (e : Ending) (w' : World) : Prop :=
  e = .returned v ∧ Off S w w' ∧ Src (GrowS S w w') w' p n all bs
def SrcPostX (S : Nat → Prop) (w : World) (p n : Nat) (all : List (List Int)) (bs : Nat) (v : Value) (e : Ending) (w' : World) : Prop := SrcPost S w p n all bs v e w' ∧ OffX p w w'
set_option maxHeartbeats 2000000 in
set_option maxRecDepth 10000 in
theorem takeX_calls (S : Nat → Prop) (p n : Nat) (all : List (List Int)) (bs : Nat) (v : Value) (l : List Int) (w : World) (h : Src S w p n all bs) (hl : Apart w p v l) (hm : l.length ≤ 9223372036854775807) (a c : Int) (all' : List (List Int)) (ht : takeP n all l = (a, c, all')) :
    Calls Try.prog 36 #[.pointer (some ⟨p, 0, none⟩), v] w (SrcPostX S w p n all' bs (.tuple #[.int .i64 a, .int .i64 c])) := by
  obtain ⟨b, last, m, vb, M, hc⟩ := h
  obtain ⟨A, cv, rfl⟩ := hl.self.form
  have HC := bx hc
  have HL := bx hl
  have HT := bx ht
  have hnn := hc.nn
  obtain ⟨x0, x1, x2, x3, x4, f0, f1, f2, f3, f4, hpl⟩ := box5 hc.box
  have SAME := bx (fun (w' : World) (k : From w w') => (show Src (GrowS S w w') w' p n all bs from ⟨b, last, m, vb, M, by
    have h := HC.out.from k
    exact { h with
      lt := fun i hi => by rcases hi with hi | hi; exact h.lt i hi; exact hi.2
      pS := .inl h.pS
      bS := .inl h.bS
      base := h.base.mono fun _ => .inl
      there := fun x h1 h2 h3 => by obtain ⟨v, e, r⟩ := h.there x h1 h2 h3; exact ⟨v, e, r.mono fun _ => .inl⟩ }⟩))
  clear ht hl hc
  by_cases c1 : l.length = n
  · have d1 : ((l.length : Int) != (n : Int)) = false := by simp; omega
    have hln : l.length ≤ 1000000 := by omega
    have C1 := bx c1
    clear c1
    have hci : ∃ t : Bool, t = false ↔ ∀ x ∈ l, fitsV x := by
      by_cases hh : ∀ x ∈ l, fitsV x
      · exact ⟨false, ⟨fun _ => hh, fun _ => rfl⟩⟩
      · exact ⟨true, ⟨fun h => Bool.noConfusion h, fun h => absurd h hh⟩⟩
    obtain ⟨t, ht⟩ := hci
    have HCT := bx (containsG_calls (.slice A l.length cv) l w HL.out.self hln t ht)
    have HTT := bx ht
    clear ht
    go_enter Try.func36, Try.ntmps36
    go_wp2_with fail
    refine HCT.out.mono ?_
    rintro e w1 ⟨rfl, rfl⟩
    cases t
    · by_cases c2 : last = 1000000
      · have d2 : ((last : Int) == 1000000) = true := by simp [c2]
        have hr : a = 0 ∧ c = 9 ∧ all' = all := by
          have h := HT.out
          rw [takeP, if_neg (fun h => h C1.out), if_neg (fun h => h (HTT.out.1 rfl)), if_pos (by rw [HC.out.len, c2])] at h
          simp only [Prod.mk.injEq] at h
          exact ⟨h.1.symm, h.2.1.symm, h.2.2.symm⟩
        obtain ⟨rfl, rfl, rfl⟩ := hr
        go_wp2_with fail
        refine bodyPost_ret (v := .tuple #[.int .i64 0, .int .i64 9]) (by simp [results, Try.results36, go_sem]) rfl ?_
        exact ⟨⟨rfl, Off.refl _ _, SAME.out _ (From.refl _)⟩, offX_of HC.out.map (Off.refl _ _)⟩
      · have d2 : ((last : Int) == 1000000) = false := by simp; omega
        have HFT := bx (HTT.out.1 rfl)
        have hbp : b ≠ p := by
          rintro rfl
          obtain ⟨D, ⟨es, clock, hb, _⟩, _⟩ := HC.out.map
          rw [HC.out.box] at hb
          cases hb
        have hr : a = (last + 1 : Nat) ∧ c = 0 ∧ all' = all ++ [l] := by
          have h := HT.out
          rw [takeP, if_neg (fun h => h C1.out), if_neg (fun h => h (HTT.out.1 rfl)), if_neg (by rw [HC.out.len]; omega), HC.out.len] at h
          simp only [Prod.mk.injEq] at h
          exact ⟨h.1.symm, h.2.1.symm, h.2.2.symm⟩
        obtain ⟨rfl, rfl, rfl⟩ := hr
        have ew : IntKind.i64.wrap ((last : Int) + 1) = (last : Int) + 1 := IntWalk.i64_in _ (by have := HC.out.tick; omega)
        go_upto_region 8 with fail
        obtain ⟨W1, hW1⟩ : ∃ W, w1.setCell ⟨p, 1, none⟩ (.int .i64 ((last : Int) + 1)) = W := ⟨_, rfl⟩
        have b1 : W1.heap[p]? = some (.cells #[.int .i64 n, .int .i64 ((last : Int) + 1), .int .i64 bs, vb, .map (some b)] 100 (0, 0)) := by rw [← hW1]; exact heap_set_at HC.out.box 1 _
        have o1 : Off S w1 W1 := by rw [← hW1]; exact (Off.refl _ _).set (.inl HC.out.pS) _ _
        have O1X := bx (show Off (fun k => k = p ∨ k = b) w1 W1 by rw [← hW1]; exact (Off.refl _ _).set (.inl (.inl rfl)) _ _)
        have i1 := keepI_set (i := 1) HC.out.box (by decide) (.int .i64 ((last : Int) + 1))
        rw [hW1] at i1
        have m1 : MapIs 3 .i64 W1 b m (snv 0 (.slice none 0 0)) M := HC.out.map.sameAt (by rw [← hW1]; exact heap_set_off _ hbp.symm _ _)
        have l1 : Ints W1 (.slice A l.length cv) l := HL.out W1 (fun k _ hk => by rw [← hW1]; exact heap_set_off _ (Ne.symm hk) _ _) (by rw [← hW1]; simp [World.setCell])
        have HB1 := bx b1
        have HM1 := bx m1
        have HCL := bx (fun (V : World) (k : From W1 V) => cloneI_calls (.slice A l.length cv) l V (l1.from k) hln)
        try rw [hW1]
        obtain ⟨y0, y1, y2, y3, y4, g0, g1, g2, g3, g4, hpl1⟩ := box5 b1
        have O1 := bx o1
        have I1 := bx i1
        clear hW1 o1 i1 m1 l1 b1
        have hm6 : m ≤ 1000000 := by have := HC.out.m_le; have := HC.out.tick; omega
        have hwf : (Lit.int .i64 ((last : Int) + 1)).wf = true := by have := HC.out.tick; simp only [Lit.wf, Bool.and_eq_true, decide_eq_true_eq]; show -9223372036854775808 ≤ _ ∧ _ ≤ (9223372036854775807 : Int); omega
        have hwf2 : (Lit.int .i64 ((last : Int) + 1 - 64)).wf = true := by have := HC.out.tick; simp only [Lit.wf, Bool.and_eq_true, decide_eq_true_eq]; show -9223372036854775808 ≤ _ ∧ _ ≤ (9223372036854775807 : Int); omega
        have ew2 : IntKind.i64.wrap ((last : Int) + 1 - 64) = (last : Int) + 1 - 64 := IntWalk.i64_in _ (by have := HC.out.tick; omega)
        have HZ := bx hln
        go_cut [] from 6 (fun wx => ∃ A2 c2, wx.ownsRow W1.heap.size 3 1 (.slice A2 l.length c2) l.length (ic l) ∧ MapIs 3 .i64 wx b (m + 1) (snv 0 (.slice none 0 0)) (fun y => if y = (last : Int) + 1 then some (snv ((last : Int) + 1) (.slice A2 l.length c2)) else M y) ∧ Off (fun k => k = b) W1 wx)
        case first =>
          go_region_with (go_at_call 52; refine (HCL.out _ (by first | exact From.refl _ | exact (From.refl _).drew)).mono ?_; rintro e W2 ⟨A2, c2, rfl, o2, k2⟩; obtain ⟨z0, z1, z2, z3, z4, t0, t1, t2, t3, t4, hpl2⟩ := box5 (k2.heap HB1.out); obtain ⟨W3, hrun, m3, u3⟩ := (HM1.out.sameAt (k2.block b HM1.out.lt)).put (t := 98) Try.underlying3 Try.underlying98 hm6 (x := (last : Int) + 1) hwf (snv ((last : Int) + 1) (.slice A2 l.length c2)))
          all_goals
            go_wp2
            go_meet
            case rel => exact ⟨A2, c2, own_heapOf o2 (keepI_turned u3), m3, (show Off (fun k => k = b) W1 W3 from Off.turned (Off.of (show From W1 W2 from ⟨k2.os, k2.tape, k2.output, k2.size, k2.block⟩)) (.inl rfl) u3)⟩
        case rest =>
          obtain ⟨A2, c2, o3, m3, off3⟩ := hcut
          have HO3 := bx o3
          have HM3 := bx m3
          have HF3 := bx off3
          have b3 : wc.heap[p]? = some (.cells #[.int .i64 n, .int .i64 ((last : Int) + 1), .int .i64 bs, vb, .map (some b)] 100 (0, 0)) := (off3.block p hpl1 (Ne.symm hbp)).trans HB1.out
          obtain ⟨W4, hrun4, m4, u4⟩ := (show MapIs 3 .i64 wc.drew b (m + 1) _ _ from m3).del (t := 98) Try.underlying3 Try.underlying98 hwf2 0
          have b4 : W4.heap[p]? = some (.cells #[.int .i64 n, .int .i64 ((last : Int) + 1), .int .i64 bs, vb, .map (some b)] 100 (0, 0)) := (u4.grown.block p (by have := off3.size; show p < wc.heap.size; omega) (by simpa using Ne.symm hbp)).trans b3
          have HB4 := bx b4
          have HU4 := bx u4
          have HM4 := bx m4
          obtain ⟨z0, z1, z2, z3, z4, t0, t1, t2, t3, t4, hpl2⟩ := box5 (show wc.drew.heap[p]? = _ from b3)
          obtain ⟨r0, r1, r2, r3, r4, s0, s1, s2, s3, s4, hpl4⟩ := box5 b4
          clear o3 m3 off3 b3 b4 u4 m4 y0 y1 y2 y3 y4 g0 g1 g2 g3 g4
          go_upto_region 9 with fail
          go_region
          all_goals
            go_wp2
            refine bodyPost_ret (v := .tuple #[.int .i64 (last + 1 : Nat), .int .i64 0]) (by simp [results, Try.results36, go_sem]) rfl ?_
            have hoff : Off S w1 W4 := (O1.out.trans (HF3.out.mono fun k hk => by rw [hk]; exact HC.out.bS)).trans ((show Off S wc wc.drew from ⟨rfl, rfl, rfl, Nat.le_refl _, fun _ _ _ => rfl⟩).turned (.inl HC.out.bS) HU4.out)
            have hi3 : ∀ (i : Nat) (cs : Array Value), w1.heap[i]? = some (.cells cs 3 (0, 0)) → W4.heap[i]? = some (.cells cs 3 (0, 0)) := fun i cs hi =>
              keepI_turned HU4.out i cs (keepI_off HF3.out (fun k hk ds he => by subst hk; exact HM1.out.ne he rfl) i cs (I1.out i cs hi))
            have hG : ∀ k, S k → GrowS S w1 W4 k := fun k hk => .inl hk
            have hX : Off (fun k => k = p ∨ k = b) w1 W4 := (O1X.out.trans (HF3.out.mono fun k hk => .inr hk)).trans ((show Off (fun k => k = p ∨ k = b) wc wc.drew from ⟨rfl, rfl, rfl, Nat.le_refl _, fun _ _ _ => rfl⟩).turned (.inl (.inr rfl)) HU4.out)
            refine ⟨⟨rfl, hoff, b, last + 1, m + 1, vb, (fun y => if y = (last : Int) + 1 - 64 then none else if y = (last : Int) + 1 then some (snv ((last : Int) + 1) (.slice A2 l.length c2)) else M y), ?_⟩, offX_of HC.out.map hX⟩
            exact {
              lt := fun i hi => by
                rcases hi with hi | hi
                · exact Nat.lt_of_lt_of_le (HC.out.lt i hi) hoff.size
                · exact hi.2
              pS := .inl HC.out.pS
              bS := .inl HC.out.bS
              box := HB4.out
              map := HM4.out
              m_le := by have := HC.out.m_le; omega
              len := by rw [List.length_append, HC.out.len]; rfl
              tick := by have := HC.out.tick; omega
              nn := HC.out.nn
              ok := fun z hz => by
                rcases List.mem_append.1 hz with hz | hz
                · exact HC.out.ok z hz
                · obtain rfl := List.mem_singleton.1 hz
                  exact ⟨C1.out, HFT.out⟩
              bs_le := by have := HC.out.bs_le; omega
              base := by
                have hb := HC.out.bs_le
                have hl := HC.out.len
                rw [show (all ++ [l]).getD bs [] = all.getD bs [] by rw [List.getD_eq_getElem?_getD, List.getElem?_append_left (by omega), ← List.getD_eq_getElem?_getD]]
                exact (HC.out.base.keepI hi3).mono hG
              there := fun x h1 h2 h3 => by
                have hl := HC.out.len
                by_cases hx : x = last + 1
                · subst hx
                  refine ⟨_, by rw [if_neg (by omega), if_pos (by omega)]; rfl, ?_⟩
                  rw [show (all ++ [l]).getD (last + 1) [] = l by rw [List.getD_eq_getElem?_getD, List.getElem?_append_right (by omega), hl]; simp]
                  refine irow_of rfl (own_heapOf HO3.out (fun i cs hi => keepI_turned HU4.out i cs hi)) (fun k a b => .inr ⟨?_, b⟩)
                  exact Nat.le_trans O1.out.size a
                · obtain ⟨v, e, r⟩ := HC.out.there x h1 (by omega) (by omega)
                  refine ⟨v, by rw [if_neg (by omega), if_neg (by omega), e], ?_⟩
                  rw [show (all ++ [l]).getD x [] = all.getD x [] by rw [List.getD_eq_getElem?_getD, List.getElem?_append_left (by omega), ← List.getD_eq_getElem?_getD]]
                  exact (r.keepI hi3).mono hG
              gone := fun x hx => by
                by_cases h1 : x = (last : Int) + 1 - 64
                · rw [if_pos h1]
                · rw [if_neg h1, if_neg (by omega)]
                  exact HC.out.gone x (by omega) }
    · have hr : a = 0 ∧ c = 5 ∧ all' = all := by
        have h := HT.out
        rw [takeP, if_neg (fun h => h C1.out), if_pos (fun h => by have := HTT.out.2 h; cases this)] at h
        simp only [Prod.mk.injEq] at h
        exact ⟨h.1.symm, h.2.1.symm, h.2.2.symm⟩
      obtain ⟨rfl, rfl, rfl⟩ := hr
      go_wp2_with fail
      refine bodyPost_ret (v := .tuple #[.int .i64 0, .int .i64 5]) (by simp [results, Try.results36, go_sem]) rfl ?_
      exact ⟨⟨rfl, Off.refl _ _, SAME.out _ (From.refl _)⟩, offX_of HC.out.map (Off.refl _ _)⟩
  · have d1 : ((l.length : Int) != (n : Int)) = true := by simp; omega
    have hr : a = 0 ∧ c = 1 ∧ all' = all := by
      have h := HT.out
      rw [takeP, if_pos c1] at h
      simp only [Prod.mk.injEq] at h
      exact ⟨h.1.symm, h.2.1.symm, h.2.2.symm⟩
    obtain ⟨rfl, rfl, rfl⟩ := hr
    go_enter Try.func36, Try.ntmps36
    go_wp2_with fail
    refine bodyPost_ret (v := .tuple #[.int .i64 0, .int .i64 1]) (by simp [results, Try.results36, go_sem]) rfl ?_
    exact ⟨⟨rfl, Off.refl _ _, SAME.out _ (From.refl _)⟩, offX_of HC.out.map (Off.refl _ _)⟩
theorem take_calls (S : Nat → Prop) (p n : Nat) (all : List (List Int)) (bs : Nat) (v : Value) (l : List Int) (w : World) (h : Src S w p n all bs) (hl : Apart w p v l) (hm : l.length ≤ 9223372036854775807) (a c : Int) (all' : List (List Int)) (ht : takeP n all l = (a, c, all')) :
    Calls Try.prog 36 #[.pointer (some ⟨p, 0, none⟩), v] w (SrcPost S w p n all' bs (.tuple #[.int .i64 a, .int .i64 c])) :=
  (takeX_calls S p n all bs v l w h hl hm a c all' ht).mono fun _ _ h => h.1
end Go.Proofs.Ytpdbdpmlppbnnaa
