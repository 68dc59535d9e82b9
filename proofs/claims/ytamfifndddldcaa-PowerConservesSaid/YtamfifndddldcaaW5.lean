/-
  Walk of layer 10: power.Reserve.
-/
import Derived.Test.YtamfifndddldcaaW4
import Derived.RangeFuncBox
import Derived.Maps.OwnIn
import Derived.Maps.AppendAt
namespace Go.Proofs.Ytamfifndddldcaa
open Go.RowKit Go.Shelf
attribute [local go_sem] Oper.semAt_some

theorem endT_snoc_bd (t : List Wn) (hw : ∀ x ∈ t, 0 ≤ x.f ∧ x.f < x.u ∧ x.u ≤ 2000000) : ∀ k, k ≤ t.length → 0 ≤ endT (t.take k) ∧ endT (t.take k) ≤ 2000000 := by
  intro k
  induction k with
  | zero => intro _; simp [endT]
  | succ k ih =>
    intro hk
    have h1 := ih (by omega)
    have h2 := hw t[k] (List.getElem_mem (by omega))
    rw [endT_take t k (by omega)]
    omega
theorem endT_bd (t : List Wn) (hw : ∀ x ∈ t, 0 ≤ x.f ∧ x.f < x.u ∧ x.u ≤ 2000000) : 0 ≤ endT t ∧ endT t ≤ 2000000 := by
  have := endT_snoc_bd t hw t.length (Nat.le_refl _)
  rwa [List.take_length] at this
theorem strs_len (c un s : Int) (t : List Wn) : ∀ at_, (strs c un s t at_).length ≤ 2 * t.length + 1 := by
  induction t with
  | nil => intro at_; unfold strs; split <;> simp
  | cons x t ih =>
    intro at_
    unfold strs
    have h1 := ih at_
    have h2 := ih (min x.u un)
    split
    · simp
    · split
      · simp only [List.length_cons]; omega
      · split
        · simp only [List.length_cons]; omega
        · simp only [List.length_cons]; omega
/-- stretches with their surplus -/
def sur (e : Int) (x : Str) : Int × Int := (x.1.1, x.1.2 - e)
def surs (e : Int) (l : List Str) : List (Int × Int) := l.map (sur e)
theorem surs_snoc (e : Int) (l : List Str) (x : Str) : (surs e (l ++ [x])).flatMap scs = (surs e l).flatMap scs ++ scs (sur e x) := by simp [surs]
theorem surs_len (e : Int) (l : List Str) : (surs e l).length = l.length := by simp [surs]
theorem Try.infoSt : (Try.prog.info? 74).map (fun i => (i.zero, i.size, i.bytes)) = some (some (.agg #[.int .i64 0, .int .i64 0]), 2, 16) := by kernel_rfl
theorem cells_new2 (w : World) (cs : List Value) (e : TypeId) : ∀ j u, cs[j]? = some u → (w.alloc (.cells cs.toArray e)).cell? ((⟨w.heap.size, 0, none⟩ : Addr).add j) = some u := by
  intro j u hj
  rw [Addr.add_mid, World.cell?_alloc_new, Nat.zero_add]
  simpa using hj
/-- behind an append to the row in the box B -/
theorem box_appended {W w1 : World} {m₀ n₀ B : Nat} {t e : TypeId} {size : Nat} {v v' : Value} {k m : Nat} {xs ys : List Value} {tmp : Obj}
    (hv : Boxed W B t v) (hte : t ≠ e) (hrow : W.ownsRow n₀ e size v k xs) (hn₀ : n₀ ≤ W.heap.size) (hm : m₀ ≤ n₀) (hB : m₀ ≤ B)
    (hown' : w1.ownsRow n₀ e size v' m ys) (hgrow : (W.alloc tmp).grownBy w1 v.ownBlock) :
    Boxed w1 B t v ∧ Boxed (w1.setCell ⟨B, 0, none⟩ v') B t v' ∧ (w1.setCell ⟨B, 0, none⟩ v').ownsRow n₀ e size v' m ys ∧ KeepsOthers W (w1.setCell ⟨B, 0, none⟩ v') ∧ Below m₀ W (w1.setCell ⟨B, 0, none⟩ v') := by
  have hv1 : Boxed w1 B t v := (hv.alloc tmp).kept hgrow (hv.not_row hte hrow)
  refine ⟨hv1, hv1.set v', hown'.kept (grownBy_setCell' w1 B v') (.inr (hv1.not_row hte hown').symm), ?_, ?_⟩
  · refine ((KeepsOthers.alloc W tmp).trans (KeepsOthers.of_grownBy hgrow fun j o ej hj => ?_)).trans (KeepsOthers.setCell _ _ _)
    rcases (hrow.alloc tmp).2 with ⟨rfl, _⟩ | ⟨g, cap, cur, rfl, _, hgb, _⟩
    · simp [Value.ownBlock] at ej
    · obtain rfl : g = j := by simpa [Value.ownBlock] using ej
      rw [hgb] at hj; cases hj; rfl
  · refine (((Below.refl m₀ W).alloc (Nat.le_trans hm hn₀) tmp).grown hgrow (by simp; omega) fun j ej => ?_).setCell (p := ⟨B, 0, none⟩) hB v'
    rcases hrow.2 with ⟨rfl, _⟩ | ⟨g, cap, cur, rfl, hb, _, _⟩
    · simp [Value.ownBlock] at ej
    · obtain rfl : g = j := by simpa [Value.ownBlock] using ej
      omega
theorem own_type {W : World} {base size n : Nat} {e : TypeId} {v : Value} {xs : List Value} (h : W.ownsRow base e size v n xs) {r : Nat} (hr : v.ownBlock = some r) : ∃ cs fz, W.heap[r]? = some (Obj.cells cs e fz) := by
  rcases h.2 with ⟨rfl, _⟩ | ⟨g, cap, cur, rfl, _, hgb, _⟩
  · simp [Value.ownBlock] at hr
  · obtain rfl : g = r := by simpa [Value.ownBlock] using hr
    exact ⟨_, _, hgb⟩
theorem rowX_of_own {W : World} {base n b : Nat} {e : TypeId} {v : Value} {l : List (Int × Int)} (h : W.ownsRow base e 2 v n (l.flatMap scs)) (hn : n = l.length) (hb : b < base ∨ W.heap.size ≤ b) : RowX W b v l := by
  subst hn
  rcases h.2 with ⟨rfl, h0⟩ | ⟨g, cap, cur, rfl, hg, hgb, _⟩
  · exact ⟨.inl ⟨rfl, List.eq_nil_of_length_eq_zero h0⟩⟩
  · refine ⟨.inr ⟨g, cap, cur, e, _, rfl, ?_, hgb, ?_⟩⟩
    · have := (Array.getElem?_eq_some_iff.1 hgb).1
      omega
    · intro j u hj
      have := h.cells (g := g) rfl j u hj
      rwa [Addr.add_mid, cell_of_row _ _ _ _ _ _ hgb, Nat.zero_add] at this
/-- the need, from the last stretch on -/
def needF (l : List (Int × Int)) : Int := l.foldl (fun n x => max 0 (n - x.1 * x.2)) 0
theorem needF_snoc (l : List (Int × Int)) (x : Int × Int) : needF (l ++ [x]) = max 0 (needF l - x.1 * x.2) := by simp [needF]
theorem needF_eq (e : Int) (L : List (Int × Int)) : needF (L.map fun x => (x.1, x.2 - e)).reverse = needS e L := by
  unfold needF needS
  rw [List.foldl_reverse]
  induction L with
  | nil => rfl
  | cons x l ih => simp only [List.map_cons, List.foldr_cons, ih]
theorem own_heap {β : Type} {B : Nat} (D : Nat) (o : Obj) (h : D < B) : OwnFrom B (fun (_ : β) W => W.heap[D]? = some o) := fun _ _ _ _ hs hg hr =>
  (hg.block D (Array.getElem?_eq_some_iff.1 hs).1 (fun e => by have := (hr D e.symm).1; omega)).trans hs
/-- a stretch in a box -/
def StC (W : World) (r : Nat) (x : Int × Int) : Prop := W.heap[r]? = some (Obj.cells #[.int .i64 x.1, .int .i64 x.2] 74 (0, 0))
set_option maxRecDepth 100000 in
theorem reserve_calls (A : Option Addr) (cap : Nat) (t : List Wn) (c fr e s : Int) (w : World) (h : Wins w (.slice A t.length cap) t) (hm : t.length ≤ 1000)
    (hfr : 0 ≤ fr ∧ fr ≤ 2000000) (he : 0 ≤ e ∧ e ≤ 10000000) (hs : 0 ≤ s ∧ s ≤ 10000000) (hw : ∀ x ∈ t, 0 ≤ x.f ∧ x.f < x.u ∧ x.u ≤ 2000000) (q : Int) (hq : needS e (strs c (endT t) s t fr) = q) :
    Calls Try.prog 24 #[.slice A t.length cap, .int .i64 c, .int .i64 fr, .int .i64 e, .int .i64 s] w fun r w' => r = .returned (.int .i64 q) ∧ From w w' := by
  have hun := endT_bd t hw
  obtain ⟨un, hu⟩ : ∃ un, endT t = un := ⟨_, rfl⟩
  rw [hu] at hq hun
  have HU := bx hu
  have HQ := bx hq
  have HS := bx h
  clear h hq hu
  refine (callsIn_wide (n := 3)).1 ?_
  refine callsIn_of_wp_marks Try.func24 rfl trivial ?_ rfl
  simp only [Try.ntmps24, List.size_toArray, List.length_cons, List.length_nil, Nat.reduceAdd, Nat.reduceSub, Array.replicate_succ, Array.replicate_zero, List.push_toArray, List.append_toArray, List.nil_append, List.cons_append]
  have hE := fun W (hW : From w W) => end_calls A cap t W (HS.out.from hW) (by omega) un HU.out
  have HE := bx hE
  clear hE
  have hF : From w ((w.alloc (.cells #[.int .i64 e] 3)).alloc (.cells #[.slice none 0 0] 69)) := ((From.refl _).alloc _).alloc _
  gi_wp2_with (first | (refine ⟨trivial, ?_⟩; gi_at_call 39; refine (callsIn_wide.2 (HE.out _ hF)).mono ?_; rintro e w1 ⟨rfl, hf1⟩) | (refine ⟨trivial, ?_⟩; gi_at_call 38; refine (callsIn_wide.2 (stretches_calls _ _ _ _ _ _ _ _)).mono ?_; rintro e w' ⟨rfl, rfl⟩) | gi_in)
  obtain ⟨S, hS1⟩ : ∃ S, w1.heap.size = S := ⟨_, rfl⟩
  have hf0 := hf1
  replace hf1 := hF.trans hf0
  have gS : w.heap.size + 2 ≤ S := by
    have := Below.size hf0
    simp at this
    omega
  have r0 : Boxed w1 w.heap.size 3 (.int .i64 e) := hf0.heap ((Below.heap_alloc _ _ _ (by simp)).trans (heap_alloc_new w _))
  have r1 : Boxed w1 (w.heap.size + 1) 69 (.slice none 0 0) := hf0.heap (by have := heap_alloc_new (w.alloc (.cells #[.int .i64 e] 3)) (.cells #[.slice none 0 0] 69); rwa [World.size_alloc] at this)
  have hSl : Sl w1 w.heap.size (.slice A t.length cap) t.length (t.flatMap wcs) := HS.out.below hf1
  obtain ⟨W0, hW0⟩ : ∃ V, ((((w1.alloc (.cells #[.slice A t.length cap] 45)).alloc (.cells #[.int .i64 c] 3)).alloc (.cells #[.int .i64 fr] 3)).alloc (.cells #[.int .i64 un] 3)).alloc (.cells #[.int .i64 s] 3) = V := ⟨_, rfl⟩
  have F5 : From w1 W0 := by rw [← hW0]; exact (((((From.refl _).alloc _).alloc _).alloc _).alloc _).alloc _
  have rS : StB W0 S (.slice A t.length cap) c fr un s := by
    rw [← hW0, ← hS1]
    exact stB_new w1 _ _ _ _ _
  have z0 : W0.heap.size = S + 5 := by rw [← hW0, ← hS1]; simp
  rw [hS1, hW0]
  replace r0 : Boxed W0 w.heap.size 3 (.int .i64 e) := F5.heap r0
  replace r1 : Boxed W0 (w.heap.size + 1) 69 (.slice none 0 0) := F5.heap r1
  have hB0 : From w W0 := hf1.trans F5
  replace hSl : Sl W0 w.heap.size (.slice A t.length cap) t.length (t.flatMap wcs) := HS.out.below hB0
  clear hW0 F5 hf1 hf0 hF HE
  obtain ⟨L, hL⟩ : ∃ L, strs c un s t fr = L := ⟨_, rfl⟩
  have hst := str_stops 2 S w.heap.size A cap t c fr un s (by omega) hfr hun hs hw W0 hSl rS (by omega) (by omega)
  have hLl := strs_len c un s t fr
  rw [hL] at hst HQ hLl
  obtain ⟨i0, hi, hz0, hz1, hz2⟩ := info_parts Try.infoSt
  refine wpIn_rangeFunc_ownG rfl (by omega) (gf := 50) (lb := #[.pointer (some ⟨S + 2, 0, none⟩), .pointer (some ⟨S, 0, none⟩), .pointer (some ⟨S + 3, 0, none⟩), .pointer (some ⟨S + 1, 0, none⟩), .pointer (some ⟨S + 4, 0, none⟩)]) (by simp [Act.eval]) trivial (enters_of Try.func50 (by kernel_rfl) rfl)
    hst KeepS.t (KeepS.b (by omega) (by omega)) (Below.refl _ _) (fun _ => rfl)
    (fun pre W => (∃ v, Boxed W (w.heap.size + 1) 69 v ∧ W.ownsRow (S + 5) 74 2 v pre.length ((surs e pre).flatMap scs) ∧ True) ∧ Boxed W w.heap.size 3 (.int .i64 e) ∧ Below w.heap.size w W ∧ S + 5 ≤ W.heap.size)
    (fun _ _ _ => False)
    (OwnFrom.and (Own.from (holdsRow_own _ _ _ _ _ (fun pre => pre.length) (fun pre => (surs e pre).flatMap scs) (fun _ _ => True)) _) (OwnFrom.and (Own.from (boxed_own _ _ _) _) (OwnFrom.and (ownFrom_below (Nat.le_refl _) (by omega)) (fun _ _ _ _ hs hg _ => Nat.le_trans hs hg.size))))
    (fun k => fun _ _ _ _ hs _ _ => hs)
    ⟨⟨_, r1, World.ownsRow_nil _ _ _ _, trivial⟩, r0, hB0, by omega⟩
    (fun x => { tmps := #[.slice A t.length cap, .int .i64 c, .int .i64 fr, .int .i64 e, .int .i64 s, undef, undef, undef, .pointer (some ⟨w.heap.size, 0, none⟩), undef, .int .i64 0, .pointer (some ⟨w.heap.size + 1, 0, none⟩), .int .i64 x.1.1, .int .i64 x.1.2, undef, undef, undef, .slice A t.length cap, .int .i64 c, .int .i64 fr, .slice A t.length cap, .int .i64 un, .int .i64 s, .func (.func 50) #[] #[.pointer (some ⟨S + 2, 0, none⟩), .pointer (some ⟨S, 0, none⟩), .pointer (some ⟨S + 3, 0, none⟩), .pointer (some ⟨S + 1, 0, none⟩), .pointer (some ⟨S + 4, 0, none⟩)], .int .i64 x.1.1, .int .i64 x.1.2, undef, undef, undef, undef, undef, undef, undef, undef, undef, undef, undef, undef, undef, undef, undef, undef, undef, undef, undef, undef, undef], defers := [] }) ?assign ?body ?done ?s
  case assign =>
    intro l x W K hK
    simp only [encStr]
    gi_wp2
    exact hK
  case body =>
    rintro lp pre x W ⟨⟨v, hv, hrow, -⟩, hbe, hB, hz⟩ hlt
    obtain ⟨⟨n, g⟩, x1, x2, x3, x4⟩ := x
    simp only at x1 x2 x3 x4
    have c0 := hbe.cell
    have c1 := hv.cell
    have f1 := hv.frozen
    gi_wp2_with (gi_at_builtin; refine wpListIn_append_own _ rfl _ _ 69 rfl (S + 5) 74 i0 _ 2 16 Try.underlying69 hi hz0 hz1 hz2 rfl (by decide) _ _ _ rfl (hrow.alloc _) ⟨W.heap.size, 0, none⟩ 1 1 [.int .i64 n, .int .i64 (g - e)] rfl rfl (cells_new2 _ _ _) (by simp [Value.oneCell']) (by unfold maxLen; omega) (by omega) (by simp; omega) ?_; intro v' w1' hown' hgrow _; obtain ⟨g', cap', rfl⟩ := ownsRow_succ hown'; obtain ⟨hv1, hv2, hr2, hk2, hb2⟩ := box_appended (m₀ := w.heap.size) hv (by decide) hrow hz (by omega) (by omega) hown' hgrow; have hc1 := hv1.cell; have hf1 := hv1.frozen)
    have hks : KeepS w.heap.size S W (w1'.setCell ⟨w.heap.size + 1, 0, none⟩ (.slice (some ⟨g', 0, none⟩) (pre.length + 1) cap')) := by
      refine (((KeepS.refl _ _ W).alloc _ (by omega) (by omega)).t (KeepS.of_row hgrow (by simp; omega) (by simp; omega) fun r hr => ?_)).set _ _ _ (by omega) (by omega) (boxed_not hv1 (by decide))
      have h1 := own_lt (hrow.alloc (.cells #[.int .i64 n, .int .i64 (g - e)] 74)) hr
      refine ⟨by omega, by omega, fun cs fz hh => ?_⟩
      obtain ⟨cs', fz', hh'⟩ := own_type (hrow.alloc (.cells #[.int .i64 n, .int .i64 (g - e)] 74)) hr
      rw [hh'] at hh
      cases hh
    refine ⟨hk2.from _, hks, ⟨_, hv2, ?_, trivial⟩, ?_, hB.trans hb2, Nat.le_trans hz hks.size⟩
    · rw [surs_snoc, List.length_append]
      exact hr2
    · exact ((hbe.alloc _).kept hgrow (hbe.not_row (by decide) hrow)).other (by omega) _
  case done =>
    rintro D xs W hD hxs ⟨⟨v, hv, hrow, -⟩, hbe, hB, hz⟩ hK
    obtain ⟨A2, c2, rfl⟩ := slice_form hrow
    have hle : (surs e xs).length = xs.length := surs_len e xs
    have hxl : xs.length = L.length := by rw [← hxs]; simp
    have hdS : surs e xs = L.map fun x => (x.1, x.2 - e) := by rw [← hxs]; simp [surs, sur, Function.comp_def]
    have hq : needF (surs e xs).reverse = q := by rw [hdS, needF_eq]; exact HQ.out
    have HQ2 := bx hq
    clear hq hdS
    obtain ⟨N, hN⟩ : ∃ N, W.heap.size = N := ⟨_, rfl⟩
    have hDN : D < N := by rw [← hN]; exact (Array.getElem?_eq_some_iff.1 hK).1
    have c1 := hv.cell
    rw [← hle] at c1 hrow hv
    have HM := bx (show (surs e xs).length ≤ 2001 by omega)
    clear hle hxl hxs
    have g1 : (W.alloc (.cells #[.int .i64 0] 3)).cell? ⟨w.heap.size + 1, 0, none⟩ = some (.slice A2 (surs e xs).length c2) := cell_alloc c1 _
    gi_wp2_with (first | (refine ⟨trivial, ?_⟩; gi_at_call 40; refine (callsIn_wide.2 (backward_calls _ _ _ _)).mono ?_; rintro e w' ⟨rfl, rfl⟩) | gi_in)
    obtain ⟨W2, hW2⟩ : ∃ V, (W.alloc (.cells #[.int .i64 0] 3)).alloc (.cells #[.slice A2 (surs e xs).length c2] 69) = V := ⟨_, rfl⟩
    rw [hW2]
    have z2 : W2.heap.size = N + 2 := by rw [← hW2, ← hN]; simp
    have b0 : Boxed W2 N 3 (.int .i64 0) := by rw [← hW2, ← hN]; exact (Boxed.new W _ _).alloc _
    have b1 : Boxed W2 (N + 1) 69 (.slice A2 (surs e xs).length c2) := by
      rw [← hW2, ← hN]
      have := Boxed.new (W.alloc (.cells #[.int .i64 0] 3)) 69 (.slice A2 (surs e xs).length c2)
      rwa [World.size_alloc] at this
    have hRX : RowX W2 N (.slice A2 (surs e xs).length c2) (surs e xs) := by rw [← hW2]; exact (rowX_of_own hrow rfl (.inr (by omega))).keep (((KeepX.refl _ _).alloc _).alloc _)
    have hB2 : Below w.heap.size w W2 := by rw [← hW2]; exact (hB.alloc (by omega) _).alloc (by simp; omega) _
    have hK2 : W2.heap[D]? = some (.deferred (some [])) := by rw [← hW2]; exact (Below.heap_alloc _ _ _ (by simp; omega)).trans ((Below.heap_alloc _ _ _ (by omega)).trans hK)
    have hww : ∀ x ∈ surs e xs, 0 ≤ x.1 ∧ x.1 ≤ 10000000 ∧ -10000000 ≤ x.2 ∧ x.2 ≤ 10000000 := by
      intro x hx
      obtain ⟨y, _, rfl⟩ := List.mem_map.1 hx
      have := y.2
      simp only [sur]
      omega
    clear hW2 g1 c1
    refine wpIn_rangeFunc_ownH rfl (by omega) (gf := 51) (lb := #[.pointer (some ⟨N + 1, 0, none⟩)]) (by simp [Act.eval]) trivial (enters_of Try.func51 (by kernel_rfl) rfl)
      (back_stops 2 N (N + 1) A2 c2 (surs e xs) (Nat.le_trans HM.out (by omega)) hww W2 hRX b1 (by omega)) KeepX.t KeepX.b (Below.refl _ _) (fun _ => rfl)
      (fun pre X => Boxed X N 3 (.int .i64 (needF (pre.map (·.1.2)))) ∧ (0 ≤ needF (pre.map (·.1.2)) ∧ needF (pre.map (·.1.2)) ≤ pre.length * 100000000000000) ∧ Below w.heap.size w X ∧ X.heap[D]? = some (.deferred (some [])) ∧ N + 2 ≤ X.heap.size)
      (fun _ _ _ => False)
      (OwnFrom.and (Own.from (boxed_own _ _ _) _) (OwnFrom.and (ownFrom_pure _ _) (OwnFrom.and (ownFrom_below (Nat.le_refl _) (by omega)) (OwnFrom.and (own_heap D _ (by omega)) (fun _ _ _ _ hs hg _ => Nat.le_trans hs hg.size)))))
      (fun k => fun _ _ _ _ hs _ _ => hs)
      ⟨b0, ⟨by simp [needF], by simp [needF]⟩, hB2, hK2, by omega⟩
      (fun x a' X => ∃ Bz, N + 1 < Bz ∧ StC X Bz x.1.2 ∧ a' = { tmps := #[.slice A t.length cap, .int .i64 c, .int .i64 fr, .int .i64 e, .int .i64 s, undef, undef, undef, .pointer (some ⟨w.heap.size, 0, none⟩), undef, .int .i64 0, .pointer (some ⟨w.heap.size + 1, 0, none⟩), undef, undef, .pointer (some ⟨N, 0, none⟩), undef, .pointer (some ⟨Bz, 0, none⟩), .slice A t.length cap, .int .i64 c, .int .i64 fr, .slice A t.length cap, .int .i64 un, .int .i64 s, .func (.func 50) #[] #[.pointer (some ⟨S + 2, 0, none⟩), .pointer (some ⟨S, 0, none⟩), .pointer (some ⟨S + 3, 0, none⟩), .pointer (some ⟨S + 1, 0, none⟩), .pointer (some ⟨S + 4, 0, none⟩)], undef, undef, undef, undef, undef, undef, undef, undef, undef, undef, .slice A2 (surs e xs).length c2, .func (.func 51) #[] #[.pointer (some ⟨N + 1, 0, none⟩)], .int .i64 x.1.1, .agg #[.int .i64 x.1.2.1, .int .i64 x.1.2.2], undef, undef, undef, undef, undef, undef, undef, undef, undef], defers := [] })
      (fun x a' => fun _ X Y row ⟨Bz, h1, h2, h3⟩ hg hr => ⟨Bz, h1, (grownBy_keeps_cells hg (fun r e => (hr r e).2) h2 rfl).trans h2, h3⟩) ?assign2 ?body2 ?done2 ?s2
    case assign2 =>
      rintro l pre x X K ⟨i1, i2, i3, i4, i5⟩ hK'
      simp only [encB]
      gi_wp2
      refine hK' _ _ ((KeepsOthers.alloc _ _).from _) ((KeepX.refl _ _).alloc _) ⟨i1.alloc _, i2, i3.alloc (by omega) _, (Below.heap_alloc _ _ _ (by omega)).trans i4, by simp; omega⟩ ⟨X.heap.size, by omega, heap_alloc_new _ _, rfl⟩
    case body2 =>
      rintro l pre x a' X hl ⟨r, hr⟩ ⟨i1, i2, i3, i4, i5⟩ ⟨Bz, hBz, hst, rfl⟩ hlt
      have hF : needF ((pre ++ [x]).map (·.1.2)) = max 0 (needF (pre.map (·.1.2)) - x.1.2.1 * x.1.2.2) := by
        rw [List.map_append, List.map_cons, List.map_nil, needF_snoc]
      have hPL : (pre ++ [x]).length = pre.length + 1 := by simp
      have hlt2 := Nat.lt_of_lt_of_le hlt HM.out
      obtain ⟨⟨ix, n, g⟩, y1, y2, y3, y4⟩ := x
      simp only at y1 y2 y3 y4 hF hst
      have e0 : X.cell? ⟨Bz, 0, none⟩ = some (.int .i64 n) := by rw [cell_of_row _ _ _ _ _ _ hst]; rfl
      have e1 : X.cell? ⟨Bz, 1, none⟩ = some (.int .i64 g) := by rw [cell_of_row _ _ _ _ _ _ hst]; rfl
      have c0 := i1.cell
      have f0 := i1.frozen
      have I1 := bx i1
      have HP := bx hPL
      clear i1 hst hlt hPL
      generalize needF (pre.map (·.1.2)) = z at *
      obtain ⟨p, hp⟩ : ∃ p, n * g = p := ⟨_, rfl⟩
      have hpb := prod_bd (n := n) (a := g) (N := 10000000) (M := 10000000) (by omega) (by omega) (by omega) (by omega) (by omega)
      rw [hp] at hpb hF
      obtain ⟨p1, p2⟩ := hpb
      obtain ⟨i2a, i2b⟩ := i2
      by_cases h0 : 0 < z - p
      case pos =>
        rw [show max 0 (z - p) = z - p by omega] at hF
        have HF := bx hF
        clear hF
        gi_wp2
        refine ⟨(KeepsOthers.setCell _ _ _).from _, (KeepX.refl _ _).set _ _, ?_, ?_, i3.setCell (p := ⟨_, 0, none⟩) (by simp; omega) _, (heap_set_off X (by omega) _ _).trans i4, by simpa using i5⟩
        · rw [HF.out]; exact I1.out.set _
        · rw [HF.out, HP.out]; omega
      case neg =>
        rw [show max 0 (z - p) = 0 by omega] at hF
        have HF := bx hF
        clear hF
        gi_wp2
        refine ⟨(KeepsOthers.setCell _ _ _).from _, (KeepX.refl _ _).set _ _, ?_, ?_, i3.setCell (p := ⟨_, 0, none⟩) (by simp; omega) _, (heap_set_off X (by omega) _ _).trans i4, by simpa using i5⟩
        · rw [HF.out]; exact I1.out.set _
        · rw [HF.out, HP.out]; omega
    case done2 =>
      rintro D2 ys X hD2 hys ⟨i1, i2, i3, i4, i5⟩ hK3
      rw [hys, HQ2.out] at i1
      have c0 := i1.cell
      have hlt3 : D2 < X.heap.size := (Array.getElem?_eq_some_iff.1 hK3).1
      have hKd : (X.putObj D2 (.deferred none)).heap[D]? = some (.deferred (some [])) := (World.putObj_heap_other (by omega)).trans i4
      have hb1 := belowK_b (n₀ := w.heap.size) (w := W2) (by omega) X D2 _ (.deferred none) hD2 hK3 rfl rfl
      have hb2 := belowK_b (n₀ := w.heap.size) (w := W0) (by omega) (X.putObj D2 (.deferred none)) D _ (.deferred none) hD hKd rfl rfl
      have HFin := bx (i3.trans (hb1.trans hb2))
      clear hb1 hb2 i3
      gi_wp2
      refine ⟨by simp, .inl ⟨_, _, rfl, run_takeDeferred hK3, ?_⟩⟩
      refine ⟨by simp, .inl ⟨_, _, rfl, run_takeDeferred hKd, ?_⟩⟩
      exact ⟨_, results_tmp rfl _ _ _, rfl, HFin.out⟩
    case s2 =>
      rintro D2 k pre X hD2 _ hn _
      exact hn.elim
  case s =>
    rintro D k pre W hD _ hn _
    exact hn.elim
end Go.Proofs.Ytamfifndddldcaa
