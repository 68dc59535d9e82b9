/-
  Walks of layer 31: the specification's Safe; Recover, both.
-/
import Derived.Test.YtgfmnolghbiedaaDoorP2
namespace Go.Proofs.YtgfmnolghbiedaaDoor
open Go.RowKit Go.Shelf

set_option maxHeartbeats 2000000 in
theorem refSafe_calls (lev bud : Int) (v : Value) (l : UL) (w : World) (h : US w w.heap.size v l) (hm : l.length ≤ 8796093022208) :
    Calls Tryd.prog 31 #[.agg #[.int .i64 lev, .int .i64 bud, v]] w (ModePost w 2 bud l) := by
  obtain ⟨A, c, rfl⟩ := h.form
  have H := bx h
  clear h
  obtain ⟨W0, hW0⟩ : ∃ W0, (w.alloc (.cells #[.int .i64 lev, .int .i64 bud, .slice A l.length c] 24)).alloc (.cells #[.int .i64 0, .int .i64 0, .slice none 0 0] 24) = W0 := ⟨_, rfl⟩
  have hF1 : From (w.alloc (.cells #[.int .i64 lev, .int .i64 bud, .slice A l.length c] 24)) W0 := by rw [← hW0]; exact From.alloc (Below.refl _ _) _
  have hF0 : From w W0 := From.trans (From.alloc (Below.refl _ _) _) hF1
  have s0 : W0.heap.size = w.heap.size + 2 := by rw [← hW0]; simp
  have HR := bx (show RCell W0 (w.heap.size + 1) by have := rcell_new (w.alloc (.cells #[.int .i64 lev, .int .i64 bud, .slice A l.length c] 24)); rw [hW0, World.size_alloc] at this; exact this)
  have HM := bx ((mcell_new w lev bud A l.length c).from hF1)
  obtain ⟨q0, q1, q2⟩ := HM.out.facts
  clear hF1
  go_enter Tryd.func31, Tryd.ntmps31
  go_wp2_with fail
  have hFd : From W0 W0.drew := From.drew (Below.refl _ _)
  go_region_with (first | (go_at_call 37; refine (copied_calls (.slice A l.length c) l W0.drew (H.out.from (hF0.trans hFd)) hm).mono ?_; rintro e w3 ⟨A3, c3, rfl, o3, hx⟩; have hb3 : From W0 w3 := hFd.trans hx; obtain ⟨p0, p1, p2⟩ := (HM.out.from hb3).facts; obtain ⟨r0, r1, r2, t0, t1, t2⟩ := (HR.out.from hb3).facts))
  all_goals
    go_wp2
    refine bodyPost_ret (v := .agg #[.int .i64 2, .int .i64 bud, .slice A3 l.length c3]) (by simp [results, Tryd.results31, go_sem, r0, r1, r2]) rfl ⟨A3, c3, rfl, ?_, ?_⟩
    · exact own_base (set3_own o3 (by show w.heap.size + 1 < _; have := hFd.size; omega) _ _ _) (by have := hFd.size; omega)
    · exact set3_from (hF0.trans hb3) (by omega) _ _ _
/-- what Recover answers -/
def RecPost (w : World) (lev bud : Int) (healthy : Bool) (l : UL) (e : Ending) (w' : World) : Prop :=
  (healthy = true ∧ 0 < lev → ∃ A c, e = .returned (.tuple #[.agg #[.int .i64 (lev - 1), .int .i64 bud, .slice A l.length c], .int .i64 0]) ∧ w'.ownsRow w.heap.size 44 2 (.slice A l.length c) l.length (uc l)) ∧
  (¬ (healthy = true ∧ 0 < lev) → e = .returned (.tuple #[.agg #[.int .i64 0, .int .i64 0, .slice none 0 0], .int .i64 44])) ∧ From w w'
set_option maxHeartbeats 2000000 in
theorem recover_calls (lev bud : Int) (healthy : Bool) (v : Value) (l : UL) (w : World) (h : US w w.heap.size v l) (hm : l.length ≤ 8796093022208) (hl0 : -9223372036854775808 ≤ lev) (hl1 : lev ≤ 9223372036854775807) :
    Calls Tryd.prog 32 #[.agg #[.int .i64 lev, .int .i64 bud, v], .bool healthy] w (RecPost w lev bud healthy l) := by
  obtain ⟨A, c, rfl⟩ := h.form
  have H := bx h
  clear h
  obtain ⟨W0, hW0⟩ : ∃ W0, (w.alloc (.cells #[.int .i64 lev, .int .i64 bud, .slice A l.length c] 24)).alloc (.cells #[.int .i64 0, .int .i64 0, .slice none 0 0] 24) = W0 := ⟨_, rfl⟩
  have hF1 : From (w.alloc (.cells #[.int .i64 lev, .int .i64 bud, .slice A l.length c] 24)) W0 := by rw [← hW0]; exact From.alloc (Below.refl _ _) _
  have hF0 : From w W0 := From.trans (From.alloc (Below.refl _ _) _) hF1
  have s0 : W0.heap.size = w.heap.size + 2 := by rw [← hW0]; simp
  have HR := bx (show RCell W0 (w.heap.size + 1) by have := rcell_new (w.alloc (.cells #[.int .i64 lev, .int .i64 bud, .slice A l.length c] 24)); rw [hW0, World.size_alloc] at this; exact this)
  have HM := bx ((mcell_new w lev bud A l.length c).from hF1)
  obtain ⟨q0, q1, q2⟩ := HM.out.facts
  clear hF1
  by_cases hh : healthy = true ∧ 0 < lev
  · obtain ⟨rfl, hl⟩ := hh
    have hl' : ¬ lev ≤ 0 := by omega
    have ew : IntKind.i64.wrap (lev - 1) = lev - 1 := IntWalk.i64_in _ (by omega)
    go_enter Tryd.func32, Tryd.ntmps32
    go_wp2_with fail
    refine (at_calls lev bud (lev - 1) (.slice A l.length c) l W0 (H.out.from hF0) hm).mono ?_
    rintro e w3 ⟨A3, c3, rfl, o3, hx⟩
    have hb3 : From W0 w3 := hx
    clear q0 q1 q2
    obtain ⟨r0, r1, r2, t0, t1, t2⟩ := (HR.out.from hb3).facts
    go_wp2
    refine bodyPost_ret (v := .tuple #[.agg #[.int .i64 (lev - 1), .int .i64 bud, .slice A3 l.length c3], .int .i64 0]) (by simp [results, Tryd.results32, go_sem, r0, r1, r2]) rfl ⟨fun _ => ⟨A3, c3, rfl, own_base (set3_own o3 (by omega) _ _ _) (by omega)⟩, fun h => absurd ⟨rfl, hl⟩ h, set3_from (hF0.trans hb3) (by omega) _ _ _⟩
  · cases healthy
    case false =>
      go_enter Tryd.func32, Tryd.ntmps32
      obtain ⟨r0, r1, r2, t0, t1, t2⟩ := HR.out.facts
      go_wp2
      refine bodyPost_ret (v := .tuple #[.agg #[.int .i64 0, .int .i64 0, .slice none 0 0], .int .i64 44]) (by simp [results, Tryd.results32, go_sem, r0, r1, r2]) rfl ⟨fun hh => absurd hh.1 (by simp), fun _ => rfl, set3_from hF0 (by omega) _ _ _⟩
    case true =>
      have hl' : lev ≤ 0 := by
        by_cases h0 : lev ≤ 0
        · exact h0
        · exact absurd ⟨rfl, by omega⟩ hh
      clear hh
      go_enter Tryd.func32, Tryd.ntmps32
      obtain ⟨r0, r1, r2, t0, t1, t2⟩ := HR.out.facts
      go_wp2
      refine bodyPost_ret (v := .tuple #[.agg #[.int .i64 0, .int .i64 0, .slice none 0 0], .int .i64 44]) (by simp [results, Tryd.results32, go_sem, r0, r1, r2]) rfl ⟨fun hh => absurd hh.2 (by omega), fun _ => rfl, set3_from hF0 (by omega) _ _ _⟩
set_option maxHeartbeats 2000000 in
theorem refRecover_calls (lev bud : Int) (healthy : Bool) (v : Value) (l : UL) (w : World) (h : US w w.heap.size v l) (hm : l.length ≤ 8796093022208) (hl0 : -9223372036854775808 ≤ lev) (hl1 : lev ≤ 9223372036854775807) :
    Calls Tryd.prog 33 #[.agg #[.int .i64 lev, .int .i64 bud, v], .bool healthy] w (RecPost w lev bud healthy l) := by
  obtain ⟨A, c, rfl⟩ := h.form
  have H := bx h
  clear h
  obtain ⟨W0, hW0⟩ : ∃ W0, (w.alloc (.cells #[.int .i64 lev, .int .i64 bud, .slice A l.length c] 24)).alloc (.cells #[.int .i64 0, .int .i64 0, .slice none 0 0] 24) = W0 := ⟨_, rfl⟩
  have hF1 : From (w.alloc (.cells #[.int .i64 lev, .int .i64 bud, .slice A l.length c] 24)) W0 := by rw [← hW0]; exact From.alloc (Below.refl _ _) _
  have hF0 : From w W0 := From.trans (From.alloc (Below.refl _ _) _) hF1
  have s0 : W0.heap.size = w.heap.size + 2 := by rw [← hW0]; simp
  have HR := bx (show RCell W0 (w.heap.size + 1) by have := rcell_new (w.alloc (.cells #[.int .i64 lev, .int .i64 bud, .slice A l.length c] 24)); rw [hW0, World.size_alloc] at this; exact this)
  have HM := bx ((mcell_new w lev bud A l.length c).from hF1)
  obtain ⟨q0, q1, q2⟩ := HM.out.facts
  clear hF1
  by_cases hh : healthy = true ∧ 0 < lev
  · obtain ⟨rfl, hl⟩ := hh
    have hl' : ¬ lev ≤ 0 := by omega
    have ew : IntKind.i64.wrap (lev - 1) = lev - 1 := IntWalk.i64_in _ (by omega)
    go_enter Tryd.func33, Tryd.ntmps33
    go_wp2_with fail
    have hFd : From W0 W0.drew := From.drew (Below.refl _ _)
    go_region_with (first | (go_at_call 37; refine (copied_calls (.slice A l.length c) l W0.drew (H.out.from (hF0.trans hFd)) hm).mono ?_; rintro e w3 ⟨A3, c3, rfl, o3, hx⟩; have hb3 : From W0 w3 := hFd.trans hx; obtain ⟨p0, p1, p2⟩ := (HM.out.from hb3).facts; obtain ⟨r0, r1, r2, t0, t1, t2⟩ := (HR.out.from hb3).facts))
    all_goals
      go_wp2
      refine bodyPost_ret (v := .tuple #[.agg #[.int .i64 (lev - 1), .int .i64 bud, .slice A3 l.length c3], .int .i64 0]) (by simp [results, Tryd.results33, go_sem, r0, r1, r2]) rfl ⟨fun _ => ⟨A3, c3, rfl, own_base (set3_own o3 (by show w.heap.size + 1 < _; have := hFd.size; omega) _ _ _) (by have := hFd.size; omega)⟩, fun h => absurd ⟨rfl, hl⟩ h, set3_from (hF0.trans hb3) (by omega) _ _ _⟩
  · cases healthy
    case false =>
      go_enter Tryd.func33, Tryd.ntmps33
      obtain ⟨r0, r1, r2, t0, t1, t2⟩ := HR.out.facts
      go_wp2
      refine bodyPost_ret (v := .tuple #[.agg #[.int .i64 0, .int .i64 0, .slice none 0 0], .int .i64 44]) (by simp [results, Tryd.results33, go_sem, r0, r1, r2]) rfl ⟨fun hh => absurd hh.1 (by simp), fun _ => rfl, set3_from hF0 (by omega) _ _ _⟩
    case true =>
      have hl' : lev ≤ 0 := by
        by_cases h0 : lev ≤ 0
        · exact h0
        · exact absurd ⟨rfl, by omega⟩ hh
      clear hh
      go_enter Tryd.func33, Tryd.ntmps33
      obtain ⟨r0, r1, r2, t0, t1, t2⟩ := HR.out.facts
      go_wp2
      refine bodyPost_ret (v := .tuple #[.agg #[.int .i64 0, .int .i64 0, .slice none 0 0], .int .i64 44]) (by simp [results, Tryd.results33, go_sem, r0, r1, r2]) rfl ⟨fun hh => absurd hh.2 (by omega), fun _ => rfl, set3_from hF0 (by omega) _ _ _⟩
end Go.Proofs.YtgfmnolghbiedaaDoor
