/-
  Walks of layer 28: NewSource, NewSink, Get.
-/
import Derived.Test.YtpdbdpmlppbnnaaV2
import Derived.Deep.CutRange
namespace Go.Proofs.Ytpdbdpmlppbnnaa
open Go.RowKit Go.Shelf

/-- a sink in memory: what it has -/
structure SnkC (S : Nat → Prop) (w : World) (p b n m : Nat) (M : Int → Option Value) (H : Nat → Option (List Int)) : Prop where
  lt : ∀ k, S k → k < w.heap.size
  pS : S p
  bS : S b
  box : w.heap[p]? = some (.cells #[.map (some b)] 103 (0, 0))
  map : MapIs 81 .u64 w b m (snv 0 (.slice none 0 0)) M
  nn : 1 ≤ n ∧ n ≤ 32
  ok : ∀ q l, H q = some l → q ≤ 1000000 ∧ l.length = n ∧ ∀ x ∈ l, fitsV x
  there : ∀ (q : Nat) l, H q = some l → ∃ v, M q = some (snv q v) ∧ IRow S w v l
  gone : ∀ q : Nat, H q = none → M q = none
def Snk (S : Nat → Prop) (w : World) (p n m : Nat) (H : Nat → Option (List Int)) : Prop := ∃ b M, SnkC S w p b n m M H
theorem SnkC.same {S : Nat → Prop} {w w' : World} {p b n m : Nat} {M : Int → Option Value} {H : Nat → Option (List Int)} (h : SnkC S w p b n m M H) (hs : w.heap.size ≤ w'.heap.size) (k : SameOn S w w') : SnkC S w' p b n m M H :=
  { h with
    lt := fun i hi => Nat.lt_of_lt_of_le (h.lt i hi) hs
    box := (k p h.pS).trans h.box
    map := h.map.sameAt (k b h.bS)
    there := fun q l hq => by
      obtain ⟨v, e, r⟩ := h.there q l hq
      exact ⟨v, e, r.same k⟩ }
theorem SnkC.from {S : Nat → Prop} {w w' : World} {p b n m : Nat} {M : Int → Option Value} {H : Nat → Option (List Int)} (h : SnkC S w p b n m M H) (k : From w w') : SnkC S w' p b n m M H := h.same k.size (SameOn.of k h.lt)
theorem Src.same {S : Nat → Prop} {w w' : World} {p n bs : Nat} {all : List (List Int)} (h : Src S w p n all bs) (hs : w.heap.size ≤ w'.heap.size) (k : SameOn S w w') : Src S w' p n all bs := by
  obtain ⟨b, last, m, vb, M, h⟩ := h
  exact ⟨b, last, m, vb, M, h.same hs k⟩
theorem Snk.same {S : Nat → Prop} {w w' : World} {p n m : Nat} {H : Nat → Option (List Int)} (h : Snk S w p n m H) (hs : w.heap.size ≤ w'.heap.size) (k : SameOn S w w') : Snk S w' p n m H := by
  obtain ⟨b, M, h⟩ := h
  exact ⟨b, M, h.same hs k⟩
theorem Src.lt {S : Nat → Prop} {w : World} {p n bs : Nat} {all : List (List Int)} (h : Src S w p n all bs) : ∀ k, S k → k < w.heap.size := by
  obtain ⟨_, _, _, _, _, h⟩ := h
  exact h.lt
theorem Snk.lt {S : Nat → Prop} {w : World} {p n m : Nat} {H : Nat → Option (List Int)} (h : Snk S w p n m H) : ∀ k, S k → k < w.heap.size := by
  obtain ⟨_, _, h⟩ := h
  exact h.lt
theorem Src.from {S : Nat → Prop} {w w' : World} {p n bs : Nat} {all : List (List Int)} (h : Src S w p n all bs) (k : From w w') : Src S w' p n all bs := h.same k.size (SameOn.of k h.lt)
theorem Snk.from {S : Nat → Prop} {w w' : World} {p n m : Nat} {H : Nat → Option (List Int)} (h : Snk S w p n m H) (k : From w w') : Snk S w' p n m H := h.same k.size (SameOn.of k h.lt)
/-- a block of one cell -/
theorem box1 {w : World} {b : Nat} {x : Value} {t : TypeId} (h : w.heap[b]? = some (.cells #[x] t (0, 0))) : w.cell? ⟨b, 0, none⟩ = some x ∧ w.frozen? ⟨b, 0, none⟩ = false ∧ b < w.heap.size :=
  ⟨by rw [cell_of_row _ _ _ _ _ _ h]; rfl, by simp [World.frozen?, h], (Array.getElem?_eq_some_iff.1 h).1⟩
theorem newSource_nil (n : Int) (w : World) (h : n < 1 ∨ 32 < n) : Calls Try.prog 28 #[.int .i64 n] w fun e w' => e = .returned (.pointer none) ∧ w' = w := by
  by_cases h1 : n < 1
  · have d1 : decide (n < 1) = true := decide_eq_true h1
    clear h
    go_enter Try.func28, Try.ntmps28
    go_wp2_with fail
    go_ret
    exact ⟨rfl, rfl⟩
  · have d1 : decide (n < 1) = false := decide_eq_false h1
    have d2 : decide (n > 32) = true := decide_eq_true (by omega)
    clear h
    go_enter Try.func28, Try.ntmps28
    go_wp2_with fail
    go_ret
    exact ⟨rfl, rfl⟩
theorem newSink_nil (n : Int) (w : World) (h : n < 1 ∨ 32 < n) : Calls Try.prog 29 #[.int .i64 n] w fun e w' => e = .returned (.pointer none) ∧ w' = w := by
  by_cases h1 : n < 1
  · have d1 : decide (n < 1) = true := decide_eq_true h1
    clear h
    go_enter Try.func29, Try.ntmps29
    go_wp2_with fail
    go_ret
    exact ⟨rfl, rfl⟩
  · have d1 : decide (n < 1) = false := decide_eq_false h1
    have d2 : decide (n > 32) = true := decide_eq_true (by omega)
    clear h
    go_enter Try.func29, Try.ntmps29
    go_wp2_with fail
    go_ret
    exact ⟨rfl, rfl⟩
theorem fits_zeros (n : Nat) : ∀ x ∈ List.replicate n (0 : Int), fitsV x := by
  intro x hx
  rw [(List.mem_replicate.1 hx).2]
  exact ⟨by decide, by decide⟩
/-- a new object's blocks -/
def NewS (w w' : World) : Nat → Prop := fun k => w.heap.size ≤ k ∧ k < w'.heap.size
theorem newSource_calls (n : Nat) (w : World) (h : 1 ≤ n ∧ n ≤ 32) : Calls Try.prog 28 #[.int .i64 n] w fun e w' => ∃ p, e = .returned (.pointer (some ⟨p, 0, none⟩)) ∧ From w w' ∧ Src (NewS w w') w' p n [List.replicate n 0] 0 := by
  have d1 : decide ((n : Int) < 1) = false := decide_eq_false (by omega)
  have d2 : decide ((n : Int) > 32) = false := decide_eq_false (by omega)
  obtain ⟨W1, hmk, o1, k1⟩ := make_ints w n (by omega)
  have hmm := @run_makeMap Try.prog 98 W1
  obtain ⟨W2, hW2⟩ : ∃ W, W1.alloc (.map #[] 0) = W := ⟨_, rfl⟩
  have m2 := mapIs_new 3 .i64 W1 (snv 0 (.slice none 0 0))
  rw [hW2] at hmm m2
  have k2 : From W1 W2 := by rw [← hW2]; exact (From.refl _).alloc _
  have hsz : W2.heap.size = W1.heap.size + 1 := by rw [← hW2]; simp
  have O1 := bx o1
  have M2 := bx m2
  have K1 := bx k1
  have K2 := bx k2
  have HS := bx hsz
  have HN := bx h
  clear h hW2 m2 k2 k1 o1 hsz
  go_enter Try.func28, Try.ntmps28
  go_wp2
  go_ret
  have h0 := own_lt O1.out (r := w.heap.size) rfl
  have hs2 := HS.out
  have k3 : From W2 (W2.alloc (.cells #[.int .i64 n, .int .i64 0, .int .i64 0, .slice (some ⟨w.heap.size, 0, none⟩) n n, .map (some W1.heap.size)] 100)) := (From.refl _).alloc _
  refine ⟨W2.heap.size, rfl, (K1.out.trans K2.out).trans k3, W1.heap.size, 0, 0, .slice (some ⟨w.heap.size, 0, none⟩) n n, (fun _ => none), ?_⟩
  exact {
    lt := fun i hi => hi.2
    pS := ⟨by omega, by simp⟩
    bS := ⟨by omega, by simp; omega⟩
    box := heap_alloc_new _ _
    map := M2.out.sameAt (k3.block _ (by omega))
    m_le := Nat.le_refl _
    len := rfl
    tick := by omega
    nn := HN.out
    ok := fun l hl => by
      obtain rfl := List.mem_singleton.1 hl
      exact ⟨by simp, fits_zeros n⟩
    bs_le := Nat.le_refl _
    base := irow_of (by simp) (own_call O1.out (K2.out.trans k3)) (fun k a b => ⟨a, b⟩)
    there := fun x h1 h2 _ => by omega
    gone := fun _ _ => rfl }
theorem newSink_calls (n : Nat) (w : World) (h : 1 ≤ n ∧ n ≤ 32) : Calls Try.prog 29 #[.int .i64 n] w fun e w' => ∃ p, e = .returned (.pointer (some ⟨p, 0, none⟩)) ∧ From w w' ∧ Snk (NewS w w') w' p n 1 (fun q => if q = 0 then some (List.replicate n 0) else none) := by
  have d1 : decide ((n : Int) < 1) = false := decide_eq_false (by omega)
  have d2 : decide ((n : Int) > 32) = false := decide_eq_false (by omega)
  have hmm := @run_makeMap Try.prog 101 w
  obtain ⟨W1, hW1⟩ : ∃ W, w.alloc (.map #[] 0) = W := ⟨_, rfl⟩
  have m1 := mapIs_new 81 .u64 w (snv 0 (.slice none 0 0))
  rw [hW1] at hmm m1
  have k1 : From w W1 := by rw [← hW1]; exact (From.refl _).alloc _
  have hsz : W1.heap.size = w.heap.size + 1 := by rw [← hW1]; simp
  obtain ⟨W2, hmk, o2, k2⟩ := make_ints W1 n (by omega)
  obtain ⟨W3, hput, m3, u3⟩ := (m1.sameAt (w' := W2) (k2.block _ (by omega))).put (t := 101) Try.underlying81 Try.underlying101 (by omega) (x := 0) (by decide) (snv 0 (.slice (some ⟨W1.heap.size, 0, none⟩) n n))
  have O2 := bx o2
  have M3 := bx m3
  have U3 := bx u3
  have K1 := bx k1
  have K2 := bx k2
  have HS := bx hsz
  have HN := bx h
  clear h hW1 m1 m3 u3 k2 k1 o2 hsz
  go_enter Try.func29, Try.ntmps29
  go_wp2
  go_ret
  have h0 := own_lt O2.out (r := W1.heap.size) rfl
  have hs2 := HS.out
  have hs3 := U3.out.grown.size
  have k4 : From W3 (W3.alloc (.cells #[.map (some w.heap.size)] 103)) := (From.refl _).alloc _
  have hf : From w W3 := From.off (S := fun k => k = w.heap.size) (K1.out.trans K2.out) ((Off.refl _ _).turned (.inl rfl) U3.out) (fun i hi => by omega)
  refine ⟨W3.heap.size, rfl, hf.trans k4, w.heap.size, (fun y => if y = 0 then some (snv 0 (.slice (some ⟨W1.heap.size, 0, none⟩) n n)) else none), ?_⟩
  exact {
    lt := fun i hi => hi.2
    pS := ⟨by have := K1.out.size; have := K2.out.size; omega, by simp⟩
    bS := ⟨by omega, by simp; omega⟩
    box := heap_alloc_new _ _
    map := M3.out.sameAt (k4.block _ (by omega))
    nn := HN.out
    ok := fun q l hl => by
      split at hl
      · injection hl with hl
        subst hl
        exact ⟨by omega, by simp, fits_zeros n⟩
      · cases hl
    there := fun q l hl => by
      split at hl
      · rename_i e
        subst e
        injection hl with hl
        subst hl
        refine ⟨.slice (some ⟨W1.heap.size, 0, none⟩) n n, by simp, irow_of (by simp) (own_call (own_heapOf O2.out (fun i cs hi => keepI_turned U3.out i cs hi)) k4) (fun k a b => ⟨by omega, b⟩)⟩
      · cases hl
    gone := fun q hq => by
      split at hq
      · cases hq
      · rw [if_neg (by omega)] }
/-- what Get answers -/
def getP (H : Nat → Option (List Int)) (q : Int) : List Int × Bool := if q < 0 then ([], false) else ((H q.toNat).getD [], (H q.toNat).isSome)
def GetPost (w : World) (x : List Int × Bool) (e : Ending) (w' : World) : Prop :=
  ∃ A c, e = .returned (.tuple #[.slice A x.1.length c, .bool x.2]) ∧ w'.ownsRow w.heap.size 3 1 (.slice A x.1.length c) x.1.length (ic x.1) ∧ From w w'
set_option maxHeartbeats 1000000 in
theorem get_calls (S : Nat → Prop) (p n m : Nat) (H : Nat → Option (List Int)) (q : Int) (w : World) (h : Snk S w p n m H) (hq : q ≤ 9223372036854775807) :
    Calls Try.prog 30 #[.pointer (some ⟨p, 0, none⟩), .int .i64 q] w (GetPost w (getP H q)) := by
  obtain ⟨b, M, hc⟩ := h
  have HC := bx hc
  obtain ⟨x0, _, _⟩ := box1 hc.box
  clear hc
  by_cases h0 : q < 0
  · have d1 : decide (q < 0) = true := decide_eq_true h0
    rw [getP, if_pos h0]
    clear h0 hq
    go_enter Try.func30, Try.ntmps30
    go_wp2_with fail
    refine bodyPost_ret (v := .tuple #[.slice none 0 0, .bool false]) (by simp [results, Try.results30, go_sem]) rfl ?_
    exact ⟨none, 0, rfl, own_nil _ _ _ _, From.refl _⟩
  · obtain ⟨k, hk⟩ : ∃ k : Nat, q = k := ⟨q.toNat, by omega⟩
    subst hk
    have d1 : decide ((k : Int) < 0) = false := decide_eq_false h0
    have ew : IntKind.u64.wrap (k : Int) = (k : Int) := by rw [IntKind.wrap_u64]; omega
    have hwf : (Lit.int .u64 (k : Int)).wf = true := by simp only [Lit.wf, Bool.and_eq_true, decide_eq_true_eq]; show (0 : Int) ≤ _ ∧ _ ≤ (18446744073709551615 : Int); omega
    have hlk := HC.out.map.look (t := 101) Try.underlying81 Try.underlying101 (zero_snap w) hwf
    rw [getP, if_neg h0, show ((k : Int)).toNat = k by omega]
    clear h0 hwf
    cases hH : H k with
    | none =>
      rw [HC.out.gone k hH] at hlk
      simp only [Option.getD_none, Option.isSome_none] at hlk ⊢
      have HCL := bx (fun (V : World) => cloneI_calls (.slice none 0 0) [] V (Sl.nil _ _) (by simp))
      clear hH hq
      go_enter Try.func30, Try.ntmps30
      go_wp2_with fail
      refine (HCL.out _).mono ?_
      rintro e w2 ⟨A2, c2, rfl, o2, k2⟩
      go_wp2
      refine bodyPost_ret (v := .tuple #[.slice A2 0 c2, .bool false]) (by simp [results, Try.results30, go_sem]) rfl ?_
      exact ⟨A2, c2, rfl, own_base o2 (by simp), ((From.refl _).alloc _).trans k2⟩
    | some l =>
      obtain ⟨v, e, r⟩ := HC.out.there k l hH
      rw [e] at hlk
      simp only [Option.getD_some, Option.isSome_some] at hlk ⊢
      obtain ⟨A, c, rfl⟩ := r.form
      have hln := (HC.out.ok k l hH).2.1
      have hnn := HC.out.nn
      have HCL := bx (fun (V : World) (k : From w V) => cloneI_calls (.slice A l.length c) l V (r.ints.from k) (by omega))
      clear hH hq e r hln hnn
      go_enter Try.func30, Try.ntmps30
      go_wp2_with fail
      refine (HCL.out _ ((From.refl _).alloc _)).mono ?_
      rintro e w2 ⟨A2, c2, rfl, o2, k2⟩
      go_wp2
      refine bodyPost_ret (v := .tuple #[.slice A2 l.length c2, .bool true]) (by simp [results, Try.results30, go_sem]) rfl ?_
      exact ⟨A2, c2, rfl, own_base o2 (by simp), ((From.refl _).alloc _).trans k2⟩
end Go.Proofs.Ytpdbdpmlppbnnaa
