/-
  Walks of layer 30: diagnose.All.
-/
import Derived.Test.YtgfmnolghbiedaaK8
import Derived.WalkMore
namespace Go.Proofs.Ytgfmnolghbiedaa
open Go.RowKit Go.Shelf
attribute [local go_sem] Oper.semAt_some

/-- the explanations among the sets that have come -/
def good (sh : List (List Int)) (seen : List Int) (pre : List Slc) : List Slc := pre.filter fun y => expl sh y.s seen []
theorem Try.infoInts : (Try.prog.info? 25).map (fun i => (i.zero, i.size, i.bytes)) = some (some (.slice none 0 0), 1, 24) := by kernel_rfl
/-- a list of lists of the call's own -/
def ListsPost (w : World) (T : List (List Int)) (e : Ending) (Y : World) : Prop :=
  ∃ (ys : List Slc) (A : Option Addr) (c : Nat), ys.map (·.s) = T ∧ e = .returned (.slice A ys.length c) ∧ Y.ownsRow w.heap.size 25 1 (.slice A ys.length c) ys.length (ys.map Slc.v) ∧
    (∀ y ∈ ys, Y.ownsRow w.heap.size 3 1 y.v y.s.length (ic y.s)) ∧ Below w.heap.size w Y
/-- what All's loop keeps between two rounds over sets -/
structure AllAt (w W1 : World) (sh : List (List Int)) (seen : List Int) (ds : List Deferred) (pre : List Slc) (W : World) : Prop where
  out : ∃ v, Boxed W (w.heap.size + 1 + 1) 22 v ∧ W.ownsRow (w.heap.size + 1 + 1) 25 1 v (good sh seen pre).length ((good sh seen pre).map Slc.v) ∧ (v = .slice none 0 0 ↔ good sh seen pre = [])
  own : ∀ y ∈ pre, W.ownsRow (w.heap.size + 1 + 1) 3 1 y.v y.s.length (ic y.s)
  marks : MarksOk w.heap.size W ds
  below : Below (w.heap.size + 1 + 1) W1 W
  ints : KInt none W1 W
theorem AllAt.row {w W1 X Y : World} {sh : List (List Int)} {seen : List Int} {ds : List Deferred} {pre : List Slc} {row : Option Nat} {B : Nat} (h : AllAt w W1 sh seen ds pre X) (hg : X.grownBy Y row) (hB : W1.heap.size ≤ B) (hB2 : w.heap.size + 1 + 1 ≤ W1.heap.size)
    (hr : ∀ r, row = some r → RowS B pre r X) : AllAt w W1 sh seen ds pre Y := by
  obtain ⟨⟨v, b1, b2, b3⟩, o, m, bl, ki⟩ := h
  have hc : ∀ r, row = some r → ∃ cs t fz, X.heap[r]? = some (.cells cs t fz) := fun r e => (hr r e).2.2.elim fun cs h => ⟨cs, _, h⟩
  refine ⟨⟨v, b1.kept hg ?_, b2.kept hg ?_, b3⟩, fun y hy => (o y hy).kept hg ?_, m.cells hg hc, bl.grown hg (by have := bl.size; have := ki.size; omega) (fun r e => by have := (hr r e).1; omega), ?_⟩
  · intro e
    obtain ⟨_, _, cs, fz, h⟩ := hr _ e.symm
    rw [show X.heap[w.heap.size + 1 + 1]? = _ from b1] at h; cases h
  · rcases b2.2 with ⟨rfl, _⟩ | ⟨g, cap, cur, rfl, _, hh, _⟩
    · exact .inl rfl
    · refine .inr fun e => ?_
      obtain ⟨_, _, cs, fz, h⟩ := hr g (by simpa [Value.ownBlock] using e.symm)
      rw [hh] at h; cases h
  · cases ho : y.v.ownBlock with
    | none => exact .inl rfl
    | some r =>
      refine .inr fun e => ?_
      exact (hr r e.symm).2.1 y hy ho
  · refine ⟨Nat.le_trans ki.size hg.size, fun b cs fz hb hn => ?_⟩
    have h1 := ki.same b cs fz hb hn
    refine (hg.block b (Array.getElem?_eq_some_iff.1 h1).1 fun e => ?_).trans h1
    have := (hr b e.symm).1
    have := (Array.getElem?_eq_some_iff.1 hb).1
    omega
theorem AllAt.put {w W1 X : World} {sh : List (List Int)} {seen : List Int} {ds : List Deferred} {pre : List Slc} {M l : Nat} {o o' : Obj} (h : AllAt w W1 sh seen ds pre X) (hl : X.heap[l]? = some o) (ho : o.isCells = false) (hM : M ≤ l) (hM2 : w.heap.size + 1 + 1 ≤ M)
    (hlt : ∀ d ∈ ds, ∀ D, d.target = .collected D → D < M) : AllAt w W1 sh seen ds pre (X.putObj l o') := by
  obtain ⟨⟨v, b1, b2, b3⟩, o1, m, bl, ki⟩ := h
  refine ⟨⟨v, boxed_put b1 hl ho, own_put b2 hl ho, b3⟩, fun y hy => own_put (o1 y hy) hl ho, m.put hM hlt, ?_, ki.trans ⟨by simp, fun b cs fz hb _ => (World.putObj_heap_other (by rintro rfl; rw [hl] at hb; cases hb; cases ho)).trans hb⟩⟩
  exact ⟨bl.os, bl.tape, bl.output, by simpa using bl.size, fun i hi => (World.putObj_heap_other (by omega)).trans (bl.block i hi)⟩
theorem subs_len : ∀ (l : List Int) (k : Nat), (subs l k).length ≤ 2 ^ l.length := by
  intro l
  induction l with
  | nil => intro k; cases k <;> simp [subs]
  | cons x xs ih =>
    intro k
    cases k with
    | zero => simp [subs]; exact Nat.one_le_two_pow
    | succ k =>
      have h1 := ih k
      have h2 := ih (k + 1)
      simp only [subs, List.length_append, List.length_map, List.length_cons, Nat.pow_succ]
      omega
theorem good_skip {sh : List (List Int)} {seen : List Int} {pre : List Slc} {x : Slc} (h : expl sh x.s seen [] = false) : good sh seen (pre ++ [x]) = good sh seen pre := by simp [good, h]
theorem good_take {sh : List (List Int)} {seen : List Int} {pre : List Slc} {x : Slc} (h : expl sh x.s seen [] = true) : good sh seen (pre ++ [x]) = good sh seen pre ++ [x] := by simp [good, h]
theorem AllAt.call {w W1 X Y : World} {sh : List (List Int)} {seen : List Int} {ds : List Deferred} {pre : List Slc} (h : AllAt w W1 sh seen ds pre X) (hb : Below X.heap.size X Y) (hB2 : w.heap.size + 1 + 1 ≤ W1.heap.size) : AllAt w W1 sh seen ds pre Y :=
  h.row (B := W1.heap.size) (grown_of_below hb none) (Nat.le_refl _) hB2 (fun r e => by cases e)
theorem AllAt.skip {w W1 X : World} {sh : List (List Int)} {seen : List Int} {ds : List Deferred} {pre : List Slc} {x : Slc} (h : AllAt w W1 sh seen ds pre X) (hv : expl sh x.s seen [] = false) (hx : X.ownsRow (w.heap.size + 1 + 1) 3 1 x.v x.s.length (ic x.s)) : AllAt w W1 sh seen ds (pre ++ [x]) X := by
  obtain ⟨o, o1, m, bl, ki⟩ := h
  refine ⟨by rw [good_skip hv]; exact o, fun y hy => ?_, m, bl, ki⟩
  rcases List.mem_append.1 hy with hy | hy
  · exact o1 y hy
  · obtain rfl := List.mem_singleton.1 hy; exact hx
theorem kint_append {W w1 : World} {r B n : Nat} {v v' : Value} {xs : List Value} {tmp : Obj} (hbx : Boxed W r 22 v) (hrow : W.ownsRow B 25 1 v n xs) (hg : (W.alloc tmp).grownBy w1 v.ownBlock) : KInt none W (w1.setCell ⟨r, 0, none⟩ v') := by
  refine ⟨?_, fun b cs fz hb _ => ?_⟩
  · have := hg.size; simp [World.setCell] at this ⊢; omega
  · have hlt := (Array.getElem?_eq_some_iff.1 hb).1
    refine (Below.heap_setCell _ _ _ _ ?_).trans ((hg.block b (by simp; omega) ?_).trans ((heap_alloc_old W tmp hlt).trans hb))
    · simp only [ne_eq]
      rintro rfl
      rw [show W.heap[b]? = _ from hbx] at hb; cases hb
    · intro e
      rcases hrow.2 with ⟨rfl, _⟩ | ⟨g, cap, cur, rfl, _, hh, _⟩
      · simp [Value.ownBlock] at e
      · have : b = g := by simpa [Value.ownBlock] using e
        subst this
        rw [hh] at hb; cases hb
theorem allOf_at {sh : List (List Int)} {seen clear : List Int} {k : Nat} (hk : k ≤ (cand sh clear).length) (h : ∀ j, j < k → noneAt sh seen (cand sh clear) j) (hne : (subs (cand sh clear) k).filter (fun s => expl sh s seen []) ≠ []) :
    allOf sh seen clear = (subs (cand sh clear) k).filter (fun s => expl sh s seen []) := by
  rw [allOf, firstOf_eq _ k (fun j hj => filter_none (h j hj)) hne _ (by omega)]
theorem allOf_none {sh : List (List Int)} {seen clear : List Int} (h : ∀ j, j < (cand sh clear).length + 1 → noneAt sh seen (cand sh clear) j) : allOf sh seen clear = [] := by
  rw [allOf, firstOf_nil _ _ (fun j hj => filter_none (h j hj))]
theorem good_map (sh : List (List Int)) (seen : List Int) (xs : List Slc) : (good sh seen xs).map (·.s) = (xs.map (·.s)).filter (fun s => expl sh s seen []) := by
  rw [List.filter_map]; rfl
set_option maxRecDepth 10000 in
theorem all_calls (n : Int) (AG : Option Addr) (cG : Nat) (sh : List (List Int)) (AS : Option Addr) (cS : Nat) (seen : List Int) (AC : Option Addr) (cC : Nat) (clear : List Int) (w : World)
    (hl : Lists w w.heap.size AG sh) (hn : sh.length ≤ 20) (h1 : Ints w w.heap.size AS seen) (hm1 : seen.length ≤ 9223372036854775807) (h2 : Ints w w.heap.size AC clear) (hm2 : clear.length ≤ 9223372036854775807) :
    Calls Try.prog 21 #[.agg #[.int .i64 n, .slice AG sh.length cG], .slice AS seen.length cS, .slice AC clear.length cC] w (ListsPost w (allOf sh seen clear)) := by
  refine (callsIn_wide (n := 3)).1 ?_
  refine callsIn_of_wp_marks Try.func21 rfl trivial (wpIn_wide.2 ?_) rfl
  simp only [Try.ntmps21, List.size_toArray, List.length_cons, List.length_nil, Nat.reduceAdd, Nat.reduceSub, Array.replicate_succ, Array.replicate_zero, List.push_toArray, List.append_toArray, List.nil_append, List.cons_append]
  go_wp2_with fail
  go_step3
  go_wp2_with fail
  obtain ⟨W0, hW0⟩ : ∃ W0, ((w.alloc (.cells #[.int .i64 n, .slice AG sh.length cG] 24)).alloc (.cells #[.slice AS seen.length cS] 25)).alloc (.cells #[.slice none 0 0] 22) = W0 := ⟨_, rfl⟩
  have hW : W0.heap.size = w.heap.size + 3 := by rw [← hW0]; simp
  have hB0 : Below w.heap.size w W0 := by rw [← hW0]; exact (((Below.refl _ w).alloc (Nat.le_refl _) _).alloc (by simp) _).alloc (by simp; omega) _
  have hG0 : GBox W0 (w.heap.size + 1 + 1) w.heap.size n sh := by
    rw [← hW0]
    exact (((gbox_new w n AG cG sh hl (by omega)).below ((Below.refl _ _).alloc (by simp) _)).below (((Below.refl _ _).alloc (by simp) _).mono (Nat.le_refl _))).more (by omega)
  have hU0 : UBox W0 (w.heap.size + 1 + 1) (w.heap.size + 1) seen := by
    have hb1 : Below w.heap.size w (w.alloc (.cells #[.int .i64 n, .slice AG sh.length cG] 24)) := (Below.refl _ w).alloc (Nat.le_refl _) _
    have := ubox_new (w.alloc (.cells #[.int .i64 n, .slice AG sh.length cG] 24)) AS cS seen ((h1.below hb1).more hb1.size) hm1 25
    rw [World.size_alloc] at this
    rw [← hW0]
    exact this.below ((Below.refl _ _).alloc (by simp) _)
  have r0 : Boxed W0 (w.heap.size + 1 + 1) 22 (.slice none 0 0) := by
    rw [← hW0]
    have := Boxed.new ((w.alloc (.cells #[.int .i64 n, .slice AG sh.length cG] 24)).alloc (.cells #[.slice AS seen.length cS] 25)) 22 (.slice none 0 0)
    rw [World.size_alloc, World.size_alloc] at this
    exact this
  rw [hW0]
  refine (cand_calls n AG cG sh AC cC clear W0 ((hl.below hB0).more hB0.size) (by omega) ((h2.below hB0).more hB0.size) hm2).mono ?_
  rintro e W1 ⟨A8, c8, rfl, o8, hB1⟩
  have hs1 := hB1.size
  have hB1' : Below (w.heap.size + 1 + 1) W0 W1 := hB1.mono (by omega)
  have hG1 := hG0.below hB1'
  have hU1 := hU0.below hB1'
  have x0 : Boxed W1 (w.heap.size + 1 + 1) 22 (.slice none 0 0) := (hB1.block _ (by omega)).trans r0
  clear hG0 hU0 r0 hW0 hl h1 h2
  have hle := cand_len sh clear
  obtain ⟨l, hcl⟩ : ∃ l, cand sh clear = l := ⟨_, rfl⟩
  rw [hcl] at o8 hle ⊢
  have HC := bx hcl
  clear hcl
  have hrow1 : IRow W1 none A8 c8 l := irow_own o8
  have hw2 : w.heap.size + 1 + 1 ≤ W1.heap.size := by omega
  obtain ⟨i0, hi, hz0, hz1, hz2⟩ := info_parts Try.infoInts
  have hbig : ∀ k, (subs l k).length ≤ 1048576 := fun k => Nat.le_trans (subs_len l k) (Nat.le_trans (Nat.pow_le_pow_right (by decide) (show l.length ≤ 20 by omega)) (by decide))
  go_wp2
  go_step3
  go_wp2
  refine wp_loop (fun a wr => ∃ (k : Nat) (ds : List Deferred) (u9 u10 u18 u19 u20 u21 u22 u23 u24 u25 u26 u27 u28 u29 u30 u31 u32 u33 u34 u35 : Value), a = { tmps := #[.agg #[.int .i64 n, .slice AG sh.length cG], .slice AS seen.length cS, .slice AC clear.length cC, .pointer (some ⟨w.heap.size, 0, none⟩), .pointer (some ⟨w.heap.size + 1, 0, none⟩), undef, .slice none 0 0, .pointer (some ⟨w.heap.size + 1 + 1, 0, none⟩), .slice A8 l.length c8, u9, u10, .agg #[.int .i64 n, .slice AG sh.length cG], .slice AC clear.length cC, .slice A8 l.length c8, .slice A8 l.length c8, .int .i64 l.length, .int .i64 (l.length + 1), .int .i64 k, u18, u19, u20, u21, u22, u23, u24, u25, u26, u27, u28, u29, u30, u31, u32, u33, u34, u35, undef], defers := ds } ∧
      k ≤ l.length + 1 ∧ (∀ j, j < k → noneAt sh seen l j) ∧ AllAt w W1 sh seen ds [] wr)
    (fun a _ => l.length + 1 - (intOf (a.tmps.getD 17 undef)).toNat) ?start ?round
  case start => exact ⟨0, [], _, _, _, _, _, _, _, _, _, _, _, _, _, _, _, _, _, _, _, _, rfl, by omega, fun j hj => absurd hj (by omega), ⟨_, x0, World.ownsRow_nil _ _ _ _, by simp [good]⟩, by simp, trivial, Below.refl _ _, KInt.refl _ _⟩
  case round =>
    rintro a wr ⟨k, ds, u9, u10, u18, u19, u20, u21, u22, u23, u24, u25, u26, u27, u28, u29, u30, u31, u32, u33, u34, u35, rfl, hk, hno, hat⟩
    have Hno := bx hno
    clear hno
    have hbw := hat.below
    have hkw := hat.ints
    have hks := hkw.size
    by_cases hlt : k < l.length + 1
    · go_wp2_with (go_at_call 37; refine (subsets_calls _ _ _ _ _).mono ?_; rintro e w' ⟨rfl, rfl⟩)
      obtain ⟨W2, hW2⟩ : ∃ W2, (wr.alloc (.cells #[.slice A8 l.length c8] 25)).alloc (.cells #[.int .i64 k] 3) = W2 := ⟨_, rfl⟩
      have s2 : W2.heap.size = wr.heap.size + 2 := by rw [← hW2]; simp
      have hb2 : Below wr.heap.size wr W2 := by rw [← hW2]; exact ((Below.refl _ _).alloc (Nat.le_refl _) _).alloc (by simp) _
      have y0 : Boxed W2 wr.heap.size 25 (.slice A8 l.length c8) := by rw [← hW2]; exact (Boxed.new wr _ _).alloc _
      have y1 : Boxed W2 (wr.heap.size + 1) 3 (.int .i64 k) := by rw [← hW2]; have := Boxed.new (wr.alloc (.cells #[.slice A8 l.length c8] 25)) 3 (.int .i64 k); rw [World.size_alloc] at this; exact this
      rw [hW2]
      clear hW2
      have hat2 := hat.call hb2 hw2
      have hltd : ∀ d ∈ ds, ∀ D, d.target = .collected D → D < W2.heap.size := by
        intro d hd D hD
        obtain ⟨D', e, hlt'⟩ := hat.marks.lt d hd
        rw [hD] at e; injection e with e; omega
      have hrow2 : IRow W2 none A8 c8 l := hrow1.moved hat2.ints (fun r e => by cases e)
      refine wpIn_wide.1 (range_feeds (n := 3) (by omega) (gf := 43) (lb := #[.pointer (some ⟨wr.heap.size, 0, none⟩), .pointer (some ⟨wr.heap.size + 1, 0, none⟩)]) (by simp [Act.eval]) (enters_of Try.func43 (by kernel_rfl) rfl)
        (sets_feeds _ wr.heap.size (wr.heap.size + 1) A8 c8 l k W2 (by omega) (by omega) y0.cell y1.cell hrow2 (by omega)) (fun _ => rfl)
        (fun B pre r X h => ⟨h.1, h.2.2.elim fun cs h => ⟨cs, _, h⟩⟩)
        KInt.trans (fun X l _ o' h hc => ⟨by simp, fun b cs fz hb _ => (World.putObj_heap_other (by rintro rfl; rw [h] at hb; cases hb; cases hc)).trans hb⟩)
        (fun B pre x X l o o' h ho hc => ⟨h.1, own_put h.2 ho hc⟩)
        (fun pre W => AllAt w W1 sh seen ds pre W) (fun _ _ => False)
        (fun pre X Y row h hg hr => h.row hg (B := W2.heap.size + 2) (by omega) hw2 hr)
        (fun pre X l o o' hl ho hc h => h.put ho hc hl (by omega) hltd)
        (fun _ _ _ h _ => h) (fun _ _ _ _ _ _ _ _ h => h) hat2
        (fun x => { tmps := #[.agg #[.int .i64 n, .slice AG sh.length cG], .slice AS seen.length cS, .slice AC clear.length cC, .pointer (some ⟨w.heap.size, 0, none⟩), .pointer (some ⟨w.heap.size + 1, 0, none⟩), undef, .slice none 0 0, .pointer (some ⟨w.heap.size + 1 + 1, 0, none⟩), .slice A8 l.length c8, .int .i64 k, x.v, .agg #[.int .i64 n, .slice AG sh.length cG], .slice AC clear.length cC, .slice A8 l.length c8, .slice A8 l.length c8, .int .i64 l.length, .int .i64 (l.length + 1), .int .i64 k, .bool true, .int .i64 k, .slice A8 l.length c8, .int .i64 k, .func (.func 43) #[] #[.pointer (some ⟨wr.heap.size, 0, none⟩), .pointer (some ⟨wr.heap.size + 1, 0, none⟩)], x.v, u24, u25, u26, u27, u28, u29, u30, u31, u32, u33, u34, u35, undef], defers := [] }) ?assign ?body ?done ?stop)
      case assign =>
        intro m lp x W K hK
        gi_wp2
        exact hK
      case body =>
        rintro m lp pre ⟨xA, xc, xs⟩ X hatX ⟨hpos, hel'⟩
        obtain ⟨_, l1, g0, AG', cG', gg1, hlX⟩ := (hG1.below hatX.below).more (show w.heap.size + 1 + 1 ≤ X.heap.size by have := hatX.ints.size; omega)
        obtain ⟨_, l2, AU, cU, u0, hiX⟩ := (hU1.below hatX.below).more (show w.heap.size + 1 + 1 ≤ X.heap.size by have := hatX.ints.size; omega)
        simp only [Slc.v] at hel' ⊢
        have Hx := bx (ints_of_own hel')
        have hlen := own_len hel'
        have hplen : pre.length ≤ 1048576 := by have h1 := hpos.length_le; have h2 := hbig k; simp only [List.length_map, List.length_append, List.length_cons, List.length_nil] at h1; omega
        cases hv : expl sh xs seen []
        · have HV := bx hv
          clear hv
          gi_wp2_with fail
          refine ⟨trivial, wide_n, ?_⟩
          refine (CallsIn.inRound lp (callsIn_wide.2 (explains_calls n AG' cG' sh xA xc xs AU cU seen none 0 [] X hlX l1 Hx.out hlen hiX l2 Ints.nil (by simp) false HV.out))).mono ?_
          rintro e w5 ⟨rfl, hb5⟩
          gi_wp2
          refine ⟨keeps_below hb5, KInt.of_grown (grown_of_below hb5 none), (hatX.call hb5 hw2).skip (x := ⟨xA, xc, xs⟩) HV.out ?_⟩
          exact own_base (hel'.kept (grown_of_below hb5 none) (by cases (Value.slice xA xs.length xc).ownBlock <;> simp)) (by omega)
        · have HV := bx hv
          clear hv
          gi_wp2_with fail
          refine ⟨trivial, wide_n, ?_⟩
          refine (CallsIn.inRound lp (callsIn_wide.2 (explains_calls n AG' cG' sh xA xc xs AU cU seen none 0 [] X hlX l1 Hx.out hlen hiX l2 Ints.nil (by simp) true HV.out))).mono ?_
          rintro e w5 ⟨rfl, hb5⟩
          have hat5 := hatX.call hb5 hw2
          have hel5 := hel'.kept (grown_of_below hb5 none) (by cases (Value.slice xA xs.length xc).ownBlock <;> simp)
          obtain ⟨v, hbx, hrow, hnil⟩ := hat5.out
          have hbc := hbx.cell
          have hgl : (good sh seen pre).length ≤ pre.length := List.length_filter_le _ _
          have hs5 : w.heap.size + 1 + 1 ≤ w5.heap.size := by have := hat5.ints.size; omega
          have HN := bx hnil
          clear hnil
          gi_wp2_with (gi_at_builtin; refine wpListIn_append_own _ rfl _ _ 22 rfl (w.heap.size + 1 + 1) 25 i0 (.slice none 0 0) 1 24 Try.underlying22 hi hz0 hz1 hz2 rfl (by decide) _ _ _ rfl (hrow.alloc _) ⟨w5.heap.size, 0, none⟩ 1 1 [.slice xA xs.length xc] rfl rfl (cell_one_new _ _ _) (by simp [Value.oneCell']) (by unfold maxLen; omega) (by omega) (by simp; omega) ?_; intro v' w6 hown' hgrow _; obtain ⟨g', cap', rfl⟩ := ownsRow_succ hown'; obtain ⟨hv1, hv2, hr2, hk2, hb2'⟩ := hbx.appended (by decide) hrow hs5 (Nat.le_refl _) hown' hgrow; have hc1 := hv1.cell; have hf1 := hv1.frozen)
          have k57 := kint_append (v' := .slice (some ⟨g', 0, none⟩) ((good sh seen pre).length + 1) cap') hbx hrow hgrow
          have hgt : good sh seen (pre ++ [⟨xA, xc, xs⟩]) = good sh seen pre ++ [⟨xA, xc, xs⟩] := good_take HV.out
          refine ⟨(keeps_below hb5).trans (hk2.from _), (KInt.of_grown (grown_of_below hb5 none)).trans k57, ⟨_, hv2, ?_, ?_⟩, ?_, hat5.marks.others hk2, hat5.below.trans hb2', hat5.ints.trans k57⟩
          · rw [hgt]; simpa [Slc.v] using hr2
          · rw [hgt]; simp
          · intro y hy
            rcases List.mem_append.1 hy with hy | hy
            · exact k57.owns (hat5.own y hy) (fun r _ => by simp)
            · obtain rfl := List.mem_singleton.1 hy
              exact k57.owns (own_base hel5 (by omega)) (fun r _ => by simp)
      case done =>
        rintro D xs W hD hS h hK
        obtain ⟨v, hbx, hrow, hnil⟩ := h.out
        have hgm := good_map sh seen xs
        rw [hS] at hgm
        have hds : ∀ d' ∈ ds, d'.target ≠ .collected D := by
          intro d hd e
          have := hltd d hd D e
          omega
        by_cases hg : good sh seen xs = []
        · obtain rfl := hnil.2 hg
          have hc := hbx.cell
          have HN := bx (show ∀ j, j < k + 1 → noneAt sh seen l j by
            intro j hj
            by_cases hjk : j < k
            · exact Hno.out j hjk
            · obtain rfl : j = k := by omega
              intro t ht
              rw [hg] at hgm
              have := List.filter_eq_nil_iff.1 hgm.symm t ht
              simpa using this)
          clear hgm hg hrow hnil
          go_wp2
          exact ⟨⟨k + 1, _, _, _, _, _, _, _, _, _, _, _, _, _, _, _, _, _, _, _, _, _, rfl, by omega, HN.out, ⟨_, hbx, World.ownsRow_nil _ _ _ _, by simp [good]⟩, by simp, ⟨⟨D, rfl, by omega, hK, hds⟩, h.marks⟩, h.below, h.ints⟩, by simp [intOf]; omega⟩
        · have hpos : 0 < (good sh seen xs).length := List.length_pos_iff.2 hg
          obtain ⟨g, cap, rfl, _, _⟩ := hrow.form hpos
          have hc := hbx.cell
          have HA := bx (show (good sh seen xs).map (·.s) = allOf sh seen clear by
            rw [hgm, allOf_at (k := k) (by rw [HC.out]; omega) (by rw [HC.out]; exact Hno.out) (by rw [HC.out, ← hgm]; simpa using hg), HC.out])
          have hgt : ((0 : Int) < ((good sh seen xs).length : Int)) := by omega
          clear hgm hnil
          have hbw5 : Below w.heap.size w W := (hB0.trans (hB1.mono hB0.size)).trans (h.below.mono (by omega))
          go_wp2
          rw [Exit.noGoto_ret]
          refine leaves_marks (B := w.heap.size) (_ :: ds) _ ⟨⟨D, rfl, by omega, hK, hds⟩, h.marks⟩ ?_
          intro W' hkk
          exact ⟨_, results_tmp rfl _ _ _, good sh seen xs, some ⟨g, 0, none⟩, cap, HA.out, rfl, own_cells (own_base hrow (by omega)) hkk.cells, fun y hy => own_cells (own_base (h.own y (List.mem_filter.1 hy).1) (by omega)) hkk.cells, hbw5.trans hkk.below⟩
      case stop => exact fun _ _ _ _ _ h => h.elim
    · obtain rfl : k = l.length + 1 := by omega
      obtain ⟨v, hbx, _, hnil⟩ := hat.out
      obtain rfl := hnil.2 rfl
      have hc := hbx.cell
      have HA := bx (show allOf sh seen clear = [] from allOf_none (by rw [HC.out]; exact Hno.out))
      have hbw5 : Below w.heap.size w wr := (hB0.trans (hB1.mono hB0.size)).trans (hat.below.mono (by omega))
      go_wp2
      refine leaves_marks (B := w.heap.size) ds _ hat.marks ?_
      intro W' hkk
      exact ⟨_, results_tmp rfl _ _ _, [], none, 0, HA.out.symm, rfl, World.ownsRow_nil _ _ _ _, by simp, hbw5.trans hkk.below⟩
end Go.Proofs.Ytgfmnolghbiedaa
