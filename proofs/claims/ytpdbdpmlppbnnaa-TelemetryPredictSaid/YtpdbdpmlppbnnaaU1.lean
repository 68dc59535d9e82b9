/-
  Plain law of layer 2: numbers in groups of seven bits, written and read. No program in sight.
-/
import Derived.Test.YtpdbdpmlppbnnaaB1
namespace Go.Proofs.Ytpdbdpmlppbnnaa

/-- the encoding of an unsigned number -/
def encU (n : Nat) : List Int := if h : n < 128 then [(n : Int)] else ((n % 128 : Nat) + 128 : Int) :: encU (n / 128)
termination_by n
decreasing_by omega
theorem encU_lt {n : Nat} (h : n < 128) : encU n = [(n : Int)] := by rw [encU, dif_pos h]
theorem encU_ge {n : Nat} (h : ¬ n < 128) : encU n = ((n % 128 : Nat) + 128 : Int) :: encU (n / 128) := by rw [encU, dif_neg h]
/-- what a read gives: an error, or the number and the bytes that are left -/
inductive Rd where
  | err (e : Int)
  | ok (n : Nat) (r : List Int)
/-- read a number, from its k-th group on -/
def rdGo : List Int → Nat → Nat → Rd
  | [], _, _ => .err 6
  | c :: r, k, acc => if (k = 9 ∧ c ≠ 1) ∨ (0 < k ∧ c = 0) then .err 7 else if c < 128 then .ok (acc + c.toNat * 128 ^ k) r else rdGo r (k + 1) (acc + (c.toNat % 128) * 128 ^ k)
def rdU (l : List Int) : Rd := rdGo l 0 0
theorem encU_byte (n : Nat) : ∀ x ∈ encU n, 0 ≤ x ∧ x ≤ 255 := by
  induction n using Nat.strongRecOn with
  | _ n ih =>
    by_cases h : n < 128
    · rw [encU_lt h]; intro x hx; obtain rfl := List.mem_singleton.1 hx; omega
    · rw [encU_ge h]
      intro x hx
      rcases List.mem_cons.1 hx with rfl | hx
      · omega
      · exact ih (n / 128) (by omega) x hx
theorem rd_enc : ∀ (n k acc : Nat) (r : List Int), k ≤ 9 → n < 2 ^ (64 - 7 * k) → (0 < k → 0 < n) → rdGo (encU n ++ r) k acc = .ok (acc + n * 128 ^ k) r := by
  intro n
  induction n using Nat.strongRecOn with
  | _ n ih =>
    intro k acc r hk hn h0
    by_cases h : n < 128
    · rw [encU_lt h, List.cons_append, List.nil_append]
      unfold rdGo
      rw [if_neg, if_pos (by omega)]
      · simp
      · rintro (⟨rfl, h1⟩ | ⟨h1, h2⟩)
        · have h2 := h0 (by omega)
          have h3 : n < 2 := by simpa using hn
          omega
        · have := h0 h1
          omega
    · rw [encU_ge h, List.cons_append]
      unfold rdGo
      have hk9 : k ≠ 9 := by
        rintro rfl
        have h3 : n < 2 := by simpa using hn
        omega
      rw [if_neg (by omega), if_neg (by omega)]
      have e : ((((n % 128 : Nat) + 128 : Int).toNat) % 128) = n % 128 := by omega
      rw [e, ih (n / 128) (by omega) (k + 1) _ r (by omega) ?_ (by omega)]
      · congr 1
        rw [Nat.pow_succ]
        have h4 := Nat.div_add_mod n 128
        have h5 : n * 128 ^ k = (128 * (n / 128) + n % 128) * 128 ^ k := by rw [h4]
        rw [h5, Nat.add_mul, Nat.mul_comm (128 ^ k) 128, ← Nat.mul_assoc, Nat.mul_comm (n / 128) 128]
        omega
      · have h6 : 64 - 7 * k = (64 - 7 * (k + 1)) + 7 := by omega
        rw [h6, Nat.pow_add] at hn
        exact Nat.div_lt_of_lt_mul (by rw [Nat.mul_comm]; exact hn)
/-- the unsigned number of a number, and back -/
def zig (n : Int) : Nat := if 0 ≤ n then 2 * n.toNat else 2 * (-(n + 1)).toNat + 1
def zag (u : Nat) : Int := if u % 2 = 0 then (u / 2 : Nat) else -((u / 2 : Nat) : Int) - 1
theorem zag_zig (n : Int) : zag (zig n) = n := by
  unfold zag zig
  split <;> split <;> omega
theorem zig_bd {n : Int} {M : Nat} (h : -(M : Int) ≤ n ∧ n ≤ M) : zig n ≤ 2 * M := by
  unfold zig
  split <;> omega
theorem encU_len : ∀ (m n : Nat), n < 128 ^ (m + 1) → (encU n).length ≤ m + 1 := by
  intro m
  induction m with
  | zero =>
    intro n h
    rw [encU_lt (by simpa using h)]
    simp
  | succ m ih =>
    intro n h
    by_cases h1 : n < 128
    · rw [encU_lt h1]; simp
    · rw [encU_ge h1, List.length_cons]
      have := ih (n / 128) (Nat.div_lt_of_lt_mul (by rw [Nat.mul_comm, ← Nat.pow_succ]; exact h))
      omega
theorem encU_pos (n : Nat) : 0 < (encU n).length := by
  by_cases h : n < 128
  · rw [encU_lt h]; simp
  · rw [encU_ge h]; simp
end Go.Proofs.Ytpdbdpmlppbnnaa
