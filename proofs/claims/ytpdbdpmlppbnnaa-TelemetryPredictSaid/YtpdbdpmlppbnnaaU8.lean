/-
  Walks of layer 2's reference: signed numbers read.
-/
import Derived.Test.YtpdbdpmlppbnnaaU7
namespace Go.Proofs.Ytpdbdpmlppbnnaa
open Go.RowKit Go.Shelf

theorem RfV.okb {w : World} {v : Value} {s : St} (h : RfV w v s) : OkB s := by
  cases s with
  | bad e => trivial
  | good l =>
    obtain ⟨A, c, _, _, h, _⟩ := h
    exact h
set_option maxHeartbeats 1000000 in
theorem fReadInt_calls (v : Value) (s : St) (w0 w : World) (h : RfV w0 v s) (k00 : From w0 w) :
    Calls Try.prog 88 #[v] w (ReadPost w0 w (.int .i64 (zag (rdS s).1)) (rdS s).2) := by
  obtain ⟨A, n, c, rfl⟩ := h.form
  have HR := bx (fun W (k : From w W) => fReadUint_calls (.agg #[.slice A n c, .int .i64 s.err]) s w0 W h (k00.trans k))
  have hu := rdS_lt h.okb
  clear h
  obtain ⟨u, hu2⟩ : ∃ u, (rdS s).1 = u := ⟨_, rfl⟩
  rw [hu2] at hu HR ⊢
  obtain ⟨s2, hs2⟩ : ∃ s2, (rdS s).2 = s2 := ⟨_, rfl⟩
  rw [hs2] at HR ⊢
  clear hu2 hs2
  have HZ := bx (fun W => fZag_calls u W hu)
  obtain ⟨W, hW⟩ : ∃ W, (w.alloc (.cells #[.slice A n c, .int .i64 s.err] 84)).alloc (.cells #[.slice none 0 0, .int .i64 0] 84) = W := ⟨_, rfl⟩
  have k0 : From w W := by rw [← hW]; exact (From.alloc (From.refl _) _).alloc _
  have b0 : W.heap[w.heap.size + 1]? = some (.cells #[.slice none 0 0, .int .i64 0] 84 (0, 0)) := by rw [← hW]; have := heap_alloc_new (w.alloc (.cells #[.slice A n c, .int .i64 s.err] 84)) (.cells #[.slice none 0 0, .int .i64 0] 84); rwa [World.size_alloc] at this
  have r0 : W.heap[w.heap.size]? = some (.cells #[.slice A n c, .int .i64 s.err] 84 (0, 0)) := by rw [← hW]; exact ((From.refl _).alloc _).heap (heap_alloc_new _ _)
  have HB := bx b0
  have HR0 := bx r0
  have HK := bx k0
  obtain ⟨q0, q1, _, _, _⟩ := box2 r0
  clear b0 r0 k0
  go_enter Try.func88, Try.ntmps88
  go_wp2_with fail
  clear hW q0 q1
  refine (HR.out W HK.out).mono ?_
  rintro r w2 ⟨v2, rfl, hv2, k2⟩
  obtain ⟨A2, n2, c2, rfl⟩ := hv2.form
  have HV2 := bx hv2
  clear hv2
  have r2 := k2.heap HR0.out
  have b2 := k2.heap HB.out
  obtain ⟨q0, q1, q2, q3, _⟩ := box2 r2
  obtain ⟨x, hx⟩ : ∃ x, s2.err = x := ⟨_, rfl⟩
  rw [hx] at HV2 ⊢
  clear hx
  have HK2 := bx (HK.out.trans k2)
  have HB2 := bx b2
  have HR2 := bx r2
  clear b2 r2
  go_wp2_with fail
  obtain ⟨W3, hW3⟩ : ∃ W3, (w2.setCell ⟨w.heap.size, 0, none⟩ (.slice A2 n2 c2)).setCell ⟨w.heap.size, 1, none⟩ (.int .i64 x) = W3 := ⟨_, rfl⟩
  have r3 : W3.heap[w.heap.size]? = some (.cells #[.slice A2 n2 c2, .int .i64 x] 84 (0, 0)) := by rw [← hW3]; exact box2_set HR2.out _ _
  have b3 : W3.heap[w.heap.size + 1]? = some (.cells #[.slice none 0 0, .int .i64 0] 84 (0, 0)) := by rw [← hW3, heap_set_off _ (by omega), heap_set_off _ (by omega)]; exact HB2.out
  have k3 : From w W3 := by rw [← hW3]; exact from_set (from_set HK2.out (Nat.le_refl _) _ _) (Nat.le_refl _) _ _
  rw [hW3]
  clear hW3 q0 q1 q2 q3
  obtain ⟨q0, q1, q2, q3, _⟩ := box2 r3
  obtain ⟨t0, t1, t2, t3, _⟩ := box2 b3
  have HB3 := bx b3
  have HK3 := bx k3
  clear b3 r3 k3 k2
  go_region_with (go_at_call 104; refine (HZ.out _).mono ?_; rintro e V3 ⟨rfl, rfl⟩)
  all_goals
    go_wp2
    have b9 := box2_set HB3.out (.slice A2 n2 c2) (.int .i64 x)
    refine bodyPost_ret (v := .tuple #[.agg #[.slice A2 n2 c2, .int .i64 x], .int .i64 (zag u)]) (by simp [results, Try.results88, go_sem, cell_of_row _ _ _ _ _ _ b9]) rfl ⟨_, rfl, HV2.out, (from_set (from_set HK3.out (by omega) _ _) (by omega) _ _).drew⟩
end Go.Proofs.Ytpdbdpmlppbnnaa
