/-
  Walks of layer 28: Order, of the program and of the reference.
-/
import Derived.Test.YtpdbdpmlppbnnaaS10
import Derived.Test.YtpdbdpmlppbnnaaS3
import Derived.Test.YtpdbdpmlppbnnaaS5
namespace Go.Proofs.Ytpdbdpmlppbnnaa
open Go.RowKit Go.Shelf

/-- what Order answers -/
def OrdPost (w : World) (P : List Int) (e : Ending) (w' : World) : Prop := ∃ o, Good P 0 o ∧ o.length = P.length ∧ RowPost w (nl o) e w'
theorem insNil_calls (F : Value) (w : World) : Calls Try.prog 101 #[.slice none 0 0, .int .i64 0, .int .i64 0, F] w fun e w' => e = .returned (.tuple #[]) ∧ w' = w := by
  go_enter Try.func101, Try.ntmps101
  go_wp2_with fail
  refine wp_loop_rounds 1 ?_
  rw [rounds_succ]
  go_wp2
  go_end0
  exact ⟨rfl, rfl⟩
theorem stableNil_calls (F : Value) (w : World) : Calls Try.prog 78 #[.slice none 0 0, .int .i64 0, F] w fun e w' => e = .returned (.tuple #[]) ∧ w' = w := by
  have HI := bx (insNil_calls F w)
  go_enter Try.func78, Try.ntmps78
  go_wp2_with fail
  refine wp_loop_rounds 1 ?_
  rw [rounds_succ]
  go_wp2_with fail
  refine HI.out.mono ?_
  rintro e w1 ⟨rfl, hw⟩
  rw [hw]
  clear hw
  go_wp2_with fail
  refine wp_loop_rounds 1 ?_
  rw [rounds_succ]
  go_wp2
  go_end0
  exact ⟨rfl, rfl⟩
theorem sortNil_calls (F : Value) (w : World) : Calls Try.prog 48 #[.slice none 0 0, F] w fun e w' => e = .returned (.tuple #[]) ∧ w' = w := by
  have HI := bx (stableNil_calls F w)
  go_enter Try.func48, Try.ntmps48
  go_wp2_with fail
  refine HI.out.mono ?_
  rintro e w1 ⟨rfl, hw⟩
  rw [hw]
  clear hw
  go_wp2
  go_end0
  exact ⟨rfl, rfl⟩
set_option maxHeartbeats 1000000 in
theorem order_calls (A : Option Addr) (c : Nat) (P : List Int) (w : World) (h : Ints w (.slice A P.length c) P) (hn : P.length ≤ 17592186044416) :
    Calls Try.prog 12 #[.slice A P.length c] w (OrdPost w P) := by
  obtain ⟨W, hW⟩ : ∃ W, w.alloc (.cells #[.slice A P.length c] 22) = W := ⟨_, rfl⟩
  have k0 : From w W := by rw [← hW]; exact (From.refl _).alloc _
  have b0 : W.heap[w.heap.size]? = some (.cells #[.slice A P.length c] 22 (0, 0)) := by rw [← hW]; exact heap_alloc_new _ _
  have HB := bx b0
  have HK := bx k0
  have H := bx h
  have c0 : W.cell? ⟨w.heap.size, 0, none⟩ = some (.slice A P.length c) := by rw [cell_of_row _ _ _ _ _ _ b0]; rfl
  clear h b0 k0
  obtain ⟨n, hN⟩ : ∃ n, P.length = n := ⟨_, rfl⟩
  have HN := bx hN
  rw [hN] at hn hW c0 ⊢
  clear hN
  go_enter Try.func12, Try.ntmps12
  go_wp2_with fail
  clear hW c0
  go_loopw [3, 7] (fun o i wr => ∃ k : Nat, k ≤ n ∧ i = .int .i64 k ∧ (k = 0 → o = .slice none 0 0) ∧ wr.ownsRow W.heap.size 3 1 o k (ic (nl (List.range k))) ∧ From W wr) (fun _ i _ => n - (intOf i).toNat)
  case atStart => exact ⟨0, Nat.zero_le _, rfl, fun _ => rfl, own_nil _ _ _ _, From.refl _⟩
  case round =>
    obtain ⟨k, hk, rfl, hz, ho, hf⟩ := hrel
    have HZ := bx hz
    have HO := bx ho
    have HF := bx hf
    clear ho hf hz
    by_cases hlt : k < n
    · have z1 : (k : Int) < (n : Int) := by omega
      go_wp2_with (at_builtin; refine app_sl rfl _ _ 22 rfl Try.elInt rfl (HO.out.alloc _) 1 [.int .i64 k] rfl (sl_new wr [.int .i64 k] 3 1 1) rfl (by simp [Value.oneCell']) (by omega) (by unfold maxLen; omega) (by have := Below.size HF.out; simp; omega) ?_; intro A3 c3 w3 o3 g3 _)
      go_roundw
      case rel => exact ⟨k + 1, by omega, by go_num, fun h => by omega, by rw [nl_range]; exact o3, From.app (HF.out.alloc _) (HO.out.alloc _) (Nat.le_refl _) g3⟩
      case measure => simp [intOf]; omega
    · obtain rfl : k = n := by omega
      by_cases h0 : k = 0
      · have ho := HZ.out h0
        subst h0 ho
        have HS := bx (fun F => sortNil_calls F wr)
        go_wp2_with fail
        refine (HS.out _).mono ?_
        rintro e w2 ⟨rfl, hw⟩
        rw [hw]
        clear hw
        go_wp2_with fail
        go_ret
        exact ⟨[], good_nil _ _, HN.out.symm, none, 0, rfl, own_nil _ _ _ _, HK.out.trans HF.out⟩
      · obtain ⟨g, cap, hv, _⟩ := HO.out.form (by omega)
        subst hv
        have hsz := (Array.getElem?_eq_some_iff.1 HB.out).1
        have hSR : SR W.heap.size wr g cap k w.heap.size P (List.range' 0 k) := ⟨by rw [← List.range_eq_range']; exact HO.out, by simp, ⟨A, c, HF.out.heap HB.out, by
          have := (H.out.from (HK.out)).below HF.out
          exact this⟩, fun x hx => by rw [HN.out]; rw [← List.range_eq_range'] at hx; exact List.mem_range.1 hx, Below.size HF.out⟩
        have HS := bx (sortStable_calls W.heap.size g cap k w.heap.size P wr hSR (by omega))
        clear hSR
        go_wp2_with fail
        refine HS.out.mono ?_
        rintro e w2 ⟨rfl, ⟨o, o1, o2, h1⟩, h2⟩
        have HR := bx (And.intro (And.intro o1 o2) (And.intro h1 h2))
        clear o1 o2 h1 h2
        go_wp2_with fail
        go_ret
        obtain ⟨⟨o1, o2⟩, h1, h2⟩ := HR.out
        have hl : (nl o).length = k := by rw [nl_len]; exact o2
        refine ⟨o, o1, o2.trans HN.out.symm, some ⟨g, 0, none⟩, cap, by rw [hl]; rfl, by rw [hl]; exact own_base h1.own (by omega), ?_⟩
        refine Below.grown (HK.out.trans HF.out) h2 (Below.size (HK.out.trans HF.out)) (fun q hq => ?_)
        injection hq with hq
        have := (own_block HO.out).1
        omega
end Go.Proofs.Ytpdbdpmlppbnnaa
