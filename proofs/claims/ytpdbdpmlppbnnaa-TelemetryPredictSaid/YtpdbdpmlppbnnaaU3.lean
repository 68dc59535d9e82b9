/-
  Walks of layer 2: a writer's numbers, its bytes.
-/
import Derived.Test.YtpdbdpmlppbnnaaU2
namespace Go.Proofs.Ytpdbdpmlppbnnaa
open Go.RowKit Go.Shelf

theorem zig_bits (n : Int) (h : -9223372036854775808 ≤ n ∧ n ≤ 9223372036854775807) : bits .xor .u64 (IntKind.u64.wrap (IntKind.u64.wrap n * 2)) (IntKind.u64.wrap (n / 9223372036854775808)) = (zig n : Int) := by
  unfold zig
  by_cases h0 : 0 ≤ n
  · rw [if_pos h0]
    have e1 : IntKind.u64.wrap (IntKind.u64.wrap n * 2) = ((2 * n.toNat : Nat) : Int) := by rw [IntKind.wrap_u64, IntKind.wrap_u64]; omega
    have e2 : IntKind.u64.wrap (n / 9223372036854775808) = ((0 : Nat) : Int) := by rw [IntKind.wrap_u64]; omega
    rw [e1, e2, bits_xor_u64_nat _ _ (by omega) (by omega), Nat.xor_zero]
  · rw [if_neg h0]
    have e1 : IntKind.u64.wrap (IntKind.u64.wrap n * 2) = (((2 * n + 18446744073709551616).toNat : Nat) : Int) := by rw [IntKind.wrap_u64, IntKind.wrap_u64]; omega
    have e2 : IntKind.u64.wrap (n / 9223372036854775808) = ((18446744073709551615 : Nat) : Int) := by rw [IntKind.wrap_u64]; omega
    rw [e1, e2, bits_xor_u64_nat _ _ (by omega) (by omega)]
    obtain ⟨x, hx⟩ : ∃ x, (2 * n + 18446744073709551616).toNat = x := ⟨_, rfl⟩
    have hx64 : x < 2 ^ 64 := by omega
    have e3 : x ^^^ 18446744073709551615 = 18446744073709551615 - x := by
      have h1 : (BitVec.ofNat 64 x ^^^ BitVec.allOnes 64).toNat = x ^^^ 18446744073709551615 := by
        rw [BitVec.toNat_xor, BitVec.toNat_ofNat, Nat.mod_eq_of_lt hx64]; rfl
      rw [← h1, BitVec.xor_allOnes, BitVec.toNat_not, BitVec.toNat_ofNat, Nat.mod_eq_of_lt hx64]
    rw [hx, e3]
    omega
theorem zig_lt (n : Int) (h : -9223372036854775808 ≤ n ∧ n ≤ 9223372036854775807) : zig n < 18446744073709551616 := by
  unfold zig
  split <;> omega
theorem wUint_calls (lo b : Nat) (l : List Int) (n : Nat) (w : World) (h : Wr lo w b l) (hn : n < 18446744073709551616) (hl : l.length ≤ 1000000) (hlo : lo ≤ w.heap.size) :
    Calls Try.prog 90 #[.pointer (some ⟨b, 0, none⟩), .int .u64 n] w fun e w' => e = .returned (.tuple #[]) ∧ Wr lo w' b (l ++ encU n) ∧ Below lo w w' ∧ KeepT w w' := by
  have HP := bx (put_calls lo b l n w h hn hl hlo)
  clear h
  go_enter Try.func90, Try.ntmps90
  go_wp2_with fail
  refine HP.out.mono ?_
  rintro e w1 ⟨rfl, h1, h2⟩
  go_wp2
  go_end0
  exact ⟨rfl, h1, h2⟩
set_option maxHeartbeats 1000000 in
theorem wInt_calls (lo b : Nat) (l : List Int) (n : Int) (w : World) (h : Wr lo w b l) (hn : -9223372036854775808 ≤ n ∧ n ≤ 9223372036854775807) (hl : l.length ≤ 1000000) (hlo : lo ≤ w.heap.size) :
    Calls Try.prog 91 #[.pointer (some ⟨b, 0, none⟩), .int .i64 n] w fun e w' => e = .returned (.tuple #[]) ∧ Wr lo w' b (l ++ encU (zig n)) ∧ Below lo w w' ∧ KeepT w w' := by
  have HP := bx (put_calls lo b l (zig n) w h (zig_lt n hn) hl hlo)
  have HZ := bx (zig_bits n hn)
  clear h
  go_enter Try.func91, Try.ntmps91
  go_wp2_with fail
  rw [HZ.out]
  refine HP.out.mono ?_
  rintro e w1 ⟨rfl, h1, h2⟩
  go_wp2
  go_end0
  exact ⟨rfl, h1, h2⟩
theorem wDone_calls (lo b : Nat) (l : List Int) (w : World) (h : Wr lo w b l) (hl : l.length ≤ 1000000) :
    Calls Try.prog 92 #[.pointer (some ⟨b, 0, none⟩)] w (YRow w l) := by
  obtain ⟨A, c, N, hw⟩ := h
  obtain ⟨c0, _, _⟩ := hw.facts
  obtain rfl := hw.len
  have HC := bx (cloneY_calls (.slice A l.length c) l w (sl_of_own hw.own) (by omega))
  clear hw
  go_enter Try.func92, Try.ntmps92
  go_wp2_with fail
  refine HC.out.mono ?_
  rintro e w1 ⟨A1, c1, rfl, o1, k1⟩
  go_wp2
  go_ret
  exact ⟨A1, c1, rfl, o1, k1⟩
end Go.Proofs.Ytpdbdpmlppbnnaa
