/-
  Walks of layer 29: the reference's Count.
-/
import Derived.Test.YtlogokjjphlkkaaW18
namespace Go.Proofs.Ytlogokjjphlkkaa
open Go.RowKit Go.Shelf

theorem trues_takeS (bs : List Bool) (k : Nat) (hk : k < bs.length) : trues (bs.take (k + 1)) = trues (bs.take k) + if bs[k] then 1 else 0 := by
  rw [List.take_add_one, List.getElem?_eq_getElem hk]
  cases hb : bs[k] <;> simp [trues, List.count_append]
set_option maxRecDepth 100000 in
set_option maxHeartbeats 1000000 in
theorem count29_calls (A : Option Addr) (c : Nat) (bs : List Bool) (w : World) (h : Bools w (.slice A bs.length c) bs) (hm : bs.length ≤ 1000) (n : Nat) (hn : trues bs = n) :
    Calls Try.prog 107 #[.slice A bs.length c] w fun e w' => e = .returned (.int .i64 n) ∧ w' = w := by
  have HB := bx h
  have HN := bx hn
  clear h hn
  go_enter Try.func107, Try.ntmps107
  go_wp2_with fail
  go_loopw [3, 4] (fun a i wr => wr = w ∧ ∃ k t : Nat, k ≤ bs.length ∧ t = trues (bs.take k) ∧ a = .int .i64 t ∧ i = .int .i64 k) (fun _ i _ => bs.length - (intOf i).toNat)
  case atStart => exact ⟨rfl, 0, 0, Nat.zero_le _, rfl, rfl, rfl⟩
  case round =>
    obtain ⟨rfl, k, t, hk, ht, rfl, rfl⟩ := hrel
    have htk : t ≤ k := by rw [ht]; exact Nat.le_trans (trues_le _) (by rw [List.length_take]; omega)
    by_cases hlt : k < bs.length
    · have z1 : (k : Int) < (bs.length : Int) := by omega
      have z2 : (0 : Int) ≤ (k : Int) := by omega
      have hT := trues_takeS bs k hlt
      obtain ⟨vb, vo, rfl, _, vcell⟩ := bools_at HB.out hlt
      rw [← ht] at hT
      have HT := bx hT
      clear hT ht
      generalize bs[k] = v at *
      cases v
      · go_wp2
        go_roundw
        case rel => exact ⟨by first | trivial | rfl, k + 1, t, by omega, by have := HT.out; simp at this; omega, rfl, by go_num⟩
        case measure => simp [intOf]; omega
      · go_wp2
        go_roundw
        case rel => exact ⟨by first | trivial | rfl, k + 1, t + 1, by omega, by have := HT.out; simp at this; omega, by go_num, by go_num⟩
        case measure => simp [intOf]; omega
    · obtain rfl : k = bs.length := by omega
      rw [List.take_of_length_le (Nat.le_refl _), HN.out] at ht
      subst ht
      go_wp2
      go_ret
      exact ⟨rfl, rfl⟩
end Go.Proofs.Ytlogokjjphlkkaa
