/-
  Walks of layer 28's reference: value, Valid, Base.
-/
import Derived.Test.YtpdbdpmlppbnnaaU19
namespace Go.Proofs.Ytpdbdpmlppbnnaa
open Go.RowKit Go.Shelf

theorem valueR_calls (n : Int) (w : World) : Calls Try.prog 80 #[.int .i64 n] w fun e w' => e = .returned (.bool (decide (fitsV n))) ∧ w' = w := by
  by_cases h : fitsV n
  · have h2 := h
    unfold fitsV at h2
    obtain ⟨a, b⟩ := h2
    have z1 : decide (n ≥ -2147483647) = true := decide_eq_true a
    have z2 : decide (n ≤ 2147483647) = true := decide_eq_true b
    have HD := bx (show decide (fitsV n) = true from decide_eq_true h)
    clear h
    go_enter Try.func80, Try.ntmps80
    go_wp2
    go_ret
    exact ⟨ret_bool HD.out.symm, rfl⟩
  · have HD := bx (show decide (fitsV n) = false from decide_eq_false h)
    have HN := bx h
    clear h
    by_cases a : n ≥ -2147483647
    · have hb : ¬ n ≤ 2147483647 := fun b => HN.out ⟨a, b⟩
      have z1 : decide (n ≥ -2147483647) = true := decide_eq_true a
      have z2 : decide (n ≤ 2147483647) = false := decide_eq_false hb
      go_enter Try.func80, Try.ntmps80
      go_wp2
      go_ret
      exact ⟨ret_bool HD.out.symm, rfl⟩
    · have z1 : decide (n ≥ -2147483647) = false := decide_eq_false a
      go_enter Try.func80, Try.ntmps80
      go_wp2
      go_ret
      exact ⟨ret_bool HD.out.symm, rfl⟩
/-- a snapshot is valid -/
def ValidP (q : Int) (vs : List Int) : Prop := (∀ x ∈ vs, fitsV x) ∧ 0 ≤ q ∧ q ≤ 1000000
theorem validR_calls (q : Int) (v : Value) (vs : List Int) (w : World) (h : Ints w v vs) (hm : vs.length ≤ 9223372036854775807) (t : Bool) (ht : t = true ↔ ValidP q vs) :
    Calls Try.prog 51 #[snv q v] w fun e w' => e = .returned (.bool t) ∧ From w w' := by
  obtain ⟨A, c, rfl⟩ := h.form
  obtain ⟨V, hV⟩ : ∃ V, w.alloc (.cells #[.int .i64 q, .slice A vs.length c] 24) = V := ⟨_, rfl⟩
  have b0 := heap_alloc_new w (.cells #[.int .i64 q, .slice A vs.length c] 24)
  rw [hV] at b0
  have kV : From w V := by rw [← hV]; exact (From.refl _).alloc _
  have HV := bx (fun (W : World) => valueR_calls (w := W))
  have HT := bx ht
  have HX := bx (fun (W : World) (k : From V W) => box2 (k.heap b0))
  have HI := bx (h.from kV)
  have HK := bx kV
  clear h ht b0 kV
  go_enter Try.func51, Try.ntmps51
  go_wp2_with fail
  clear hV
  go_loopw [3] (fun i wr => ∃ k : Nat, k ≤ vs.length ∧ i = .int .i64 k ∧ (∀ j (hj : j < vs.length), j < k → fitsV vs[j]) ∧ From V wr) (fun i _ => vs.length - (intOf i).toNat)
  case atStart => exact ⟨0, Nat.zero_le _, rfl, fun j _ hj => absurd hj (Nat.not_lt_zero _), From.refl _⟩
  case round =>
    obtain ⟨k, hk, rfl, hall, hf⟩ := hrel
    have HA := bx hall
    have HF := bx hf
    clear hall
    obtain ⟨x0, x1, _, _, _⟩ := HX.out wr hf
    by_cases hlt : k < vs.length
    · obtain ⟨b, f, rfl, _, v4⟩ := ints_at (HI.out.from hf) hlt
      have HNX := bx (fun (hx : fitsV vs[k]) => (show ∀ j (hj : j < vs.length), j < k + 1 → fitsV vs[j] from fun j hj hj2 => by
        by_cases hq : j = k
        · subst hq; exact hx
        · exact HA.out j hj (by omega)))
      have HNO := bx (fun (hx : ¬ fitsV vs[k]) => (show t = false by
        cases t
        · rfl
        · exact absurd ((HT.out.1 rfl).1 vs[k] (List.getElem_mem hlt)) hx))
      generalize vs[k] = x at *
      have z1 : decide ((k : Int) < (vs.length : Int)) = true := decide_eq_true (by omega)
      have z2 : (k : Int) < (vs.length : Int) := by omega
      have z3 : (0 : Int) ≤ (k : Int) := by omega
      clear hf
      go_wp2_with fail
      refine (HV.out wr x).mono ?_
      rintro e w' ⟨he, hw⟩
      rw [hw]
      clear hw w'
      by_cases hx : fitsV x
      · rw [decide_eq_true hx] at he
        subst he
        have HN := bx (HNX.out hx)
        clear hx
        go_wp2_with fail
        go_roundw
        case rel => exact ⟨k + 1, by omega, by go_num, HN.out, HF.out⟩
        case measure => simp [intOf]; omega
      · rw [decide_eq_false hx] at he
        subst he
        have HN := bx (HNO.out hx)
        clear hx
        go_wp2
        go_ret
        exact ⟨ret_bool HN.out.symm, HK.out.trans HF.out⟩
    · have z1 : decide ((k : Int) < (vs.length : Int)) = false := decide_eq_false (by omega)
      have HALL := bx (show ∀ x ∈ vs, fitsV x from fun x hx => by
        obtain ⟨j, hj, rfl⟩ := List.getElem_of_mem hx
        exact HA.out j hj (by omega))
      have HTQ := bx (show t = (decide (q ≥ 0) && decide (q ≤ 1000000)) from by
        rw [Bool.eq_iff_iff, HT.out, Bool.and_eq_true, decide_eq_true_eq, decide_eq_true_eq]
        exact ⟨fun h => ⟨h.2.1, h.2.2⟩, fun h => ⟨HALL.out, h.1, h.2⟩⟩)
      clear hf
      by_cases h0 : q ≥ 0
      · have y0 : decide (q ≥ 0) = true := decide_eq_true h0
        have HQ := bx (show t = decide (q ≤ 1000000) by rw [HTQ.out, y0, Bool.true_and])
        clear h0
        go_wp2_with fail
        go_ret
        exact ⟨ret_bool HQ.out.symm, HK.out.trans HF.out⟩
      · have y0 : decide (q ≥ 0) = false := decide_eq_false h0
        have HQ := bx (show t = false by rw [HTQ.out, y0, Bool.false_and])
        clear h0
        go_wp2_with fail
        go_ret
        exact ⟨ret_bool HQ.out.symm, HK.out.trans HF.out⟩
end Go.Proofs.Ytpdbdpmlppbnnaa
