/-
  Walks of layer 28's reference: Base.
-/
import Derived.Test.YtpdbdpmlppbnnaaU20
namespace Go.Proofs.Ytpdbdpmlppbnnaa
open Go.RowKit Go.Shelf

/-- a snapshot in the domain of bases -/
def BaseP (q : Int) (vs : List Int) : Prop := ValidP q vs ∧ 1 ≤ vs.length ∧ vs.length ≤ 32
theorem baseR_calls (q : Int) (v : Value) (vs : List Int) (w : World) (h : Ints w v vs) (hm : vs.length ≤ 9223372036854775807) (t : Bool) (ht : t = true ↔ BaseP q vs) :
    Calls Try.prog 14 #[snv q v] w fun e w' => e = .returned (.bool t) ∧ From w w' := by
  obtain ⟨A, c, rfl⟩ := h.form
  obtain ⟨V, hV⟩ : ∃ V, w.alloc (.cells #[.int .i64 q, .slice A vs.length c] 24) = V := ⟨_, rfl⟩
  have b0 := heap_alloc_new w (.cells #[.int .i64 q, .slice A vs.length c] 24)
  rw [hV] at b0
  have kV : From w V := by rw [← hV]; exact (From.refl _).alloc _
  have hs : ∃ s : Bool, s = true ↔ ValidP q vs := by
    by_cases hv : ValidP q vs
    · exact ⟨true, by simp [hv]⟩
    · exact ⟨false, by simp [hv]⟩
  obtain ⟨s, hs⟩ := hs
  have HVR := bx (validR_calls q (.slice A vs.length c) vs V (h.from kV) hm s hs)
  have HT := bx (show t = (s && (decide (1 ≤ vs.length) && decide (vs.length ≤ 32))) from by
    rw [Bool.eq_iff_iff, ht, Bool.and_eq_true, Bool.and_eq_true, decide_eq_true_eq, decide_eq_true_eq, hs]
    exact Iff.rfl)
  have HX := bx (fun (W : World) (k : From V W) => box2 (k.heap b0))
  have HK := bx kV
  obtain ⟨x0, x1, _, _, _⟩ := box2 b0
  clear h ht b0 kV hs
  go_enter Try.func14, Try.ntmps14
  go_wp2_with fail
  clear hV x0 x1
  refine HVR.out.mono ?_
  rintro e w2 ⟨rfl, k2⟩
  obtain ⟨x0, x1, _, _, _⟩ := HX.out w2 k2
  cases s
  · have HQ := bx (show t = false by rw [HT.out, Bool.false_and])
    go_wp2_with fail
    go_ret
    exact ⟨ret_bool HQ.out.symm, HK.out.trans k2⟩
  · by_cases h1 : 1 ≤ vs.length
    · have y1 : decide ((vs.length : Int) ≥ 1) = true := decide_eq_true (by omega)
      by_cases h2 : vs.length ≤ 32
      · have y2 : decide ((vs.length : Int) ≤ 32) = true := decide_eq_true (by omega)
        have HQ := bx (show t = true by rw [HT.out, decide_eq_true h1, decide_eq_true h2]; rfl)
        clear h1 h2
        go_wp2_with fail
        go_ret
        exact ⟨ret_bool HQ.out.symm, HK.out.trans k2⟩
      · have y2 : decide ((vs.length : Int) ≤ 32) = false := decide_eq_false (by omega)
        have HQ := bx (show t = false by rw [HT.out, decide_eq_true h1, decide_eq_false h2]; rfl)
        clear h1 h2
        go_wp2_with fail
        go_ret
        exact ⟨ret_bool HQ.out.symm, HK.out.trans k2⟩
    · have y1 : decide ((vs.length : Int) ≥ 1) = false := decide_eq_false (by omega)
      have HQ := bx (show t = false by rw [HT.out, decide_eq_false h1]; rfl)
      clear h1
      go_wp2_with fail
      go_ret
      exact ⟨ret_bool HQ.out.symm, HK.out.trans k2⟩
end Go.Proofs.Ytpdbdpmlppbnnaa
