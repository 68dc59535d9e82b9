/-
  Walks: Order of fewer than twenty priorities.
-/
import Derived.Test.YtpdbdpmlppbnnaaS2
namespace Go.Proofs.Ytpdbdpmlppbnnaa
open Go.RowKit Go.Shelf

theorem stable0_calls (lo g c n pb : Nat) (P : List Int) (d : List Nat) (w : World) (h : SR lo w g c n pb P d) (hn : n < 20) :
    Calls Try.prog 78 #[.slice (some ⟨g, 0, none⟩) n c, .int .i64 n, .func (.func 49) #[] #[.pointer (some ⟨pb, 0, none⟩)]] w fun e w' =>
      e = .returned (.tuple #[]) ∧ SR lo w' g c n pb P (insOut (ltN P) 0 n 1 d) ∧ w.grownBy w' (some g) := by
  have HI := bx (insS_calls lo g c n pb 0 n P d w h (Nat.zero_le _) (Nat.le_refl _) (by omega))
  clear h
  have z1 : decide ((20 : Int) ≤ (n : Int)) = false := decide_eq_false (by omega)
  have z2 : decide ((20 : Int) < (n : Int)) = false := decide_eq_false (by omega)
  go_enter Try.func78, Try.ntmps78
  go_wp2_with fail
  refine wp_loop_rounds 1 ?_
  rw [rounds_succ]
  go_wp2_with fail
  refine HI.out.mono ?_
  rintro e w1 ⟨rfl, h1, h2⟩
  go_wp2_with fail
  refine wp_loop_rounds 1 ?_
  rw [rounds_succ]
  go_wp2
  go_end0
  exact ⟨rfl, h1, h2⟩
theorem sortStable0_calls (lo g c n pb : Nat) (P : List Int) (d : List Nat) (w : World) (h : SR lo w g c n pb P d) (hn : n < 20) :
    Calls Try.prog 48 #[.slice (some ⟨g, 0, none⟩) n c, .func (.func 49) #[] #[.pointer (some ⟨pb, 0, none⟩)]] w fun e w' =>
      e = .returned (.tuple #[]) ∧ SR lo w' g c n pb P (insOut (ltN P) 0 n 1 d) ∧ w.grownBy w' (some g) := by
  have HI := bx (stable0_calls lo g c n pb P d w h hn)
  clear h
  go_enter Try.func48, Try.ntmps48
  go_wp2_with fail
  refine HI.out.mono ?_
  rintro e w1 ⟨rfl, h1, h2⟩
  go_wp2
  go_end0
  exact ⟨rfl, h1, h2⟩
theorem nl_range (k : Nat) : ic (nl (List.range (k + 1))) = ic (nl (List.range k)) ++ [.int .i64 k] := by
  rw [List.range_succ]
  simp [ic, nl]
theorem order0_calls (A : Option Addr) (c : Nat) (P : List Int) (w : World) (h : Ints w (.slice A P.length c) P) (h0 : 0 < P.length) (hn : P.length < 20) :
    Calls Try.prog 12 #[.slice A P.length c] w (RowPost w (nl (insOut (ltN P) 0 P.length 1 (List.range P.length)))) := by
  obtain ⟨W, hW⟩ : ∃ W, w.alloc (.cells #[.slice A P.length c] 22) = W := ⟨_, rfl⟩
  have k0 : From w W := by rw [← hW]; exact (From.refl _).alloc _
  have b0 : W.heap[w.heap.size]? = some (.cells #[.slice A P.length c] 22 (0, 0)) := by rw [← hW]; exact heap_alloc_new _ _
  have HB := bx b0
  have HK := bx k0
  have H := bx h
  have c0 : W.cell? ⟨w.heap.size, 0, none⟩ = some (.slice A P.length c) := by rw [cell_of_row _ _ _ _ _ _ b0]; rfl
  clear h b0 k0
  obtain ⟨n, hN⟩ : ∃ n, P.length = n := ⟨_, rfl⟩
  have HN := bx hN
  rw [hN] at h0 hn hW c0 ⊢
  clear hN
  go_enter Try.func12, Try.ntmps12
  go_wp2_with fail
  clear hW c0
  go_loopw [3, 7] (fun o i wr => ∃ k : Nat, k ≤ n ∧ i = .int .i64 k ∧ wr.ownsRow W.heap.size 3 1 o k (ic (nl (List.range k))) ∧ From W wr) (fun _ i _ => n - (intOf i).toNat)
  case atStart => exact ⟨0, Nat.zero_le _, rfl, own_nil _ _ _ _, From.refl _⟩
  case round =>
    obtain ⟨k, hk, rfl, ho, hf⟩ := hrel
    have HO := bx ho
    have HF := bx hf
    clear ho hf
    by_cases hlt : k < n
    · have z1 : (k : Int) < (n : Int) := by omega
      go_wp2_with (at_builtin; refine app_sl rfl _ _ 22 rfl Try.elInt rfl (HO.out.alloc _) 1 [.int .i64 k] rfl (sl_new wr [.int .i64 k] 3 1 1) rfl (by simp [Value.oneCell']) (by omega) (by unfold maxLen; omega) (by have := Below.size HF.out; simp; omega) ?_; intro A3 c3 w3 o3 g3 _)
      go_roundw
      case rel => exact ⟨k + 1, by omega, by go_num, by rw [nl_range]; exact o3, From.app (HF.out.alloc _) (HO.out.alloc _) (Nat.le_refl _) g3⟩
      case measure => simp [intOf]; omega
    · obtain rfl : k = n := by omega
      obtain ⟨g, cap, hv, _⟩ := HO.out.form h0
      subst hv
      have hsz := (Array.getElem?_eq_some_iff.1 HB.out).1
      have hSR : SR W.heap.size wr g cap k w.heap.size P (List.range k) := ⟨HO.out, by simp, ⟨A, c, HF.out.heap HB.out, by
        have := (H.out.from (HK.out)).below HF.out
        exact this⟩, fun x hx => by rw [HN.out]; exact List.mem_range.1 hx, Below.size HF.out⟩
      have HS := bx (sortStable0_calls W.heap.size g cap k w.heap.size P (List.range k) wr hSR hn)
      clear hSR
      go_wp2_with fail
      refine HS.out.mono ?_
      rintro e w2 ⟨rfl, h1, h2⟩
      go_wp2
      go_ret
      have hl : (nl (insOut (ltN P) 0 k 1 (List.range k))).length = k := by rw [nl_len]; exact h1.len
      refine ⟨some ⟨g, 0, none⟩, cap, by rw [hl]; rfl, by rw [hl]; exact own_base h1.own (by omega), ?_⟩
      refine Below.grown (HK.out.trans HF.out) h2 (Below.size (HK.out.trans HF.out)) (fun q hq => ?_)
      injection hq with hq
      have := (own_block HO.out).1
      omega
end Go.Proofs.Ytpdbdpmlppbnnaa
