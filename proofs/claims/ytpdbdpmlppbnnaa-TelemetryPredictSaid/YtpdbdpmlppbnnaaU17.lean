/-
  Walks of layer 28's reference: SameBools, Same.
-/
import Derived.Test.YtpdbdpmlppbnnaaU16
import Derived.Test.YtpdbdpmlppbnnaaS3
namespace Go.Proofs.Ytpdbdpmlppbnnaa
open Go.RowKit Go.Shelf

theorem take_eqB {xs ys : List Bool} {k : Nat} (h1 : k < xs.length) (h2 : k < ys.length) : (xs.take (k + 1) = ys.take (k + 1)) ↔ (xs.take k = ys.take k ∧ xs[k] = ys[k]) := by
  rw [List.take_succ_eq_append_getElem h1, List.take_succ_eq_append_getElem h2]
  constructor
  · intro h
    have := List.append_inj h (by simp; omega)
    exact ⟨this.1, by simpa using this.2⟩
  · rintro ⟨h, e⟩
    rw [h, e]
/-- what SameInts answers -/
def SameBPost (xs ys : List Bool) (w : World) (e : Ending) (w' : World) : Prop := e = .returned (.bool (decide (xs = ys))) ∧ ∃ m, w' = w.drewN m
theorem sameL_calls (A B : Option Addr) (c d : Nat) (xs ys : List Bool) (w : World) (h1 : Bools w (.slice A xs.length c) xs) (h2 : Bools w (.slice B ys.length d) ys) (hm : xs.length ≤ 9223372036854775807) :
    Calls Try.prog 21 #[.slice A xs.length c, .slice B ys.length d] w (SameBPost xs ys w) := by
  by_cases hl : xs.length = ys.length
  case neg =>
    have hd : decide (xs = ys) = false := decide_eq_false (fun e => hl (by rw [e]))
    have hi : ((xs.length : Int) != (ys.length : Int)) = true := by simp; omega
    have HD := bx hd
    clear hd
    go_enter Try.func21, Try.ntmps21
    go_wp2
    go_ret
    exact ⟨ret_bool HD.out.symm, 0, rfl⟩
  have hi : ((xs.length : Int) != (ys.length : Int)) = false := by simp; omega
  have HL := bx hl
  clear hl
  go_enter Try.func21, Try.ntmps21
  go_wp2
  go_loopw [5] (fun i wr => ∃ k : Nat, k ≤ xs.length ∧ i = .int .i64 k ∧ xs.take k = ys.take k ∧ ∃ m, wr = w.drewN m) (fun i _ => xs.length - (intOf i).toNat)
  case atStart => exact ⟨0, Nat.zero_le _, rfl, by simp, 0, rfl⟩
  case round =>
    obtain ⟨k, hk, rfl, hno, m, hm'⟩ := hrel
    have hbw : Below w.heap.size w wr := by rw [hm']; exact below_drewN (Below.refl _ _) m
    have HM := bx hm'
    have Hno := bx hno
    clear hno hm'
    by_cases hlt : k < xs.length
    · obtain ⟨b, off, rfl, hb, g1⟩ := bools_at (h1.below hbw) hlt
      obtain ⟨b', off', rfl, hb', g2⟩ := bools_at (h2.below hbw) (k := k) (by have := HL.out; omega)
      have Ht := bx (@take_eqB xs ys k hlt (by have := HL.out; omega))
      have z1 : (0 : Int) ≤ (k : Int) := by omega
      have z2 : (k : Int) < (xs.length : Int) := by omega
      have z3 : (k : Int) < (ys.length : Int) := by have := HL.out; omega
      generalize xs[k] = x at *
      generalize ys[k]'(by have := HL.out; omega) = y at *
      by_cases hxy : x = y
      · subst hxy
        have t0 : (x != x) = false := by simp
        go_wp2_with fail
        go_quiet (fail)
        go_wp2
        go_roundw
        case rel => exact ⟨k + 1, by omega, by go_num, Ht.out.2 ⟨Hno.out, trivial⟩, m + nq, by rw [HM.out, drewN_add]⟩
        case measure => simp [intOf]; omega
      · have HD := bx (show decide (xs = ys) = false from decide_eq_false (fun e => hxy (Ht.out.1 (by rw [e])).2))
        cases x <;> cases y
        · exact absurd rfl hxy
        · go_wp2_with fail
          go_quiet (fail)
          go_wp2
          go_ret
          exact ⟨ret_bool HD.out.symm, m + nq, by rw [HM.out, drewN_add]⟩
        · go_wp2_with fail
          go_quiet (fail)
          go_wp2
          go_ret
          exact ⟨ret_bool HD.out.symm, m + nq, by rw [HM.out, drewN_add]⟩
        · exact absurd rfl hxy
    · obtain rfl : k = xs.length := by omega
      have HD := bx (show decide (xs = ys) = true from decide_eq_true (by have := Hno.out; rwa [List.take_of_length_le (Nat.le_refl _), List.take_of_length_le (by have := HL.out; omega)] at this))
      go_wp2
      go_ret
      exact ⟨ret_bool HD.out.symm, m, HM.out⟩
theorem sameL_val (v u : Value) (xs ys : List Bool) (w : World) (h1 : Bools w v xs) (h2 : Bools w u ys) (hm : xs.length ≤ 9223372036854775807) :
    Calls Try.prog 21 #[v, u] w fun e w' => e = .returned (.bool (decide (xs = ys))) ∧ From w w' := by
  obtain ⟨A, c, rfl⟩ := h1.form
  obtain ⟨B, d, rfl⟩ := h2.form
  refine (sameL_calls A B c d xs ys w h1 h2 hm).mono ?_
  rintro e w' ⟨h, q, rfl⟩
  exact ⟨h, From.drewN (From.refl _) q⟩
theorem sameI_val (v u : Value) (xs ys : List Int) (w : World) (h1 : Ints w v xs) (h2 : Ints w u ys) (hm : xs.length ≤ 9223372036854775807) :
    Calls Try.prog 11 #[v, u] w fun e w' => e = .returned (.bool (decide (xs = ys))) ∧ From w w' := by
  obtain ⟨A, c, rfl⟩ := h1.form
  obtain ⟨B, d, rfl⟩ := h2.form
  refine (same_calls A B c d xs ys w h1 h2 hm).mono ?_
  rintro e w' ⟨h, q, rfl⟩
  exact ⟨h, From.drewN (From.refl _) q⟩
theorem sameS_calls (q r : Int) (v u : Value) (xs ys : List Int) (w : World) (h1 : Ints w v xs) (h2 : Ints w u ys) (hm : xs.length ≤ 9223372036854775807) :
    Calls Try.prog 20 #[snv q v, snv r u] w fun e w' => e = .returned (.bool (decide (q = r) && decide (xs = ys))) ∧ From w w' := by
  have HS := bx (fun W (k : From w W) => sameI_val v u xs ys W (h1.from k) (h2.from k) hm)
  obtain ⟨A, c, rfl⟩ := h1.form
  obtain ⟨B, d, rfl⟩ := h2.form
  obtain ⟨y, hy⟩ : ∃ y, decide (xs = ys) = y := ⟨_, rfl⟩
  rw [hy] at HS ⊢
  clear h1 h2 hy
  by_cases hq : q = r
  · subst hq
    have e1 : (q == q) = true := by simp
    go_enter Try.func20, Try.ntmps20
    go_wp2_with fail
    refine (HS.out _ ((From.alloc (From.refl _) _).alloc _)).mono ?_
    rintro e w1 ⟨rfl, k1⟩
    go_wp2
    go_ret
    exact ⟨ret_bool (by simp), (((From.refl _).alloc _).alloc _).trans k1⟩
  · have e1 : (q == r) = false := by simpa using hq
    have HQ := bx (decide_eq_false hq)
    go_enter Try.func20, Try.ntmps20
    go_wp2
    go_ret
    exact ⟨ret_bool (by rw [HQ.out]; rfl), ((From.refl _).alloc _).alloc _⟩
end Go.Proofs.Ytpdbdpmlppbnnaa
