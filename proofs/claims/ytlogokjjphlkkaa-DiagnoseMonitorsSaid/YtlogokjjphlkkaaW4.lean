/-
  Walks: perigeeref01.Around, Pick, Bound; perigeeref29.Make.
-/
import Derived.Test.YtlogokjjphlkkaaW3
namespace Go.Proofs.Ytlogokjjphlkkaa
open Go.RowKit Go.Shelf

/-- a number that fits -/
abbrev Fits (x : Int) : Prop := -9223372036854775808 ≤ x ∧ x ≤ 9223372036854775807
def around (n m : Int) : Int := (if n < 0 then -(n + 1) else n) % m
theorem around_bd (n m : Int) (hm : 0 < m) : 0 ≤ around n m ∧ around n m < m := ⟨Int.emod_nonneg _ (by omega), Int.emod_lt_of_pos _ hm⟩
theorem around_calls (n m : Int) (w : World) (h0 : -9223372036854775808 ≤ n) (h1 : n ≤ 9223372036854775807) (hm0 : 0 < m) (hm1 : m ≤ 9223372036854775807) :
    Calls Try.prog 34 #[.int .i64 n, .int .i64 m] w fun e w' => e = .returned (.int .i64 (around n m)) ∧ w' = w := by
  have hz : ¬ m = 0 := by omega
  by_cases hn : n < 0
  · have e1 : IntKind.i64.wrap (n + 1) = n + 1 := IntWalk.i64_in _ (by omega)
    have e2 : IntKind.i64.wrap (-(n + 1)) = -(n + 1) := IntWalk.i64_in _ (by omega)
    have HX := bx (show (-(n + 1)).tmod m = around n m by rw [around, if_pos hn, Int.tmod_eq_emod_of_nonneg (by omega)])
    have hb := around_bd n m hm0
    rw [← HX.out] at hb
    go_enter Try.func34, Try.ntmps34
    go_wp2
    go_ret
    exact ⟨ret_int (by first | exact HX.out | (rw [← HX.out, Int.neg_tmod])), rfl⟩
  · have HX := bx (show n % m = around n m by rw [around, if_neg hn])
    have hb := around_bd n m hm0
    rw [← HX.out] at hb
    go_enter Try.func34, Try.ntmps34
    go_wp2
    go_ret
    exact ⟨ret_int HX.out, rfl⟩
def pickI (l : List Int) (i m : Int) : Int := if 0 ≤ i ∧ i < l.length then around (l.getD i.toNat 0) m else 0
theorem pick_bd (l : List Int) (i m : Int) (hm : 0 < m) : 0 ≤ pickI l i m ∧ pickI l i m < m := by
  unfold pickI
  split
  · exact around_bd _ _ hm
  · omega
theorem pick_calls (A : Option Addr) (c : Nat) (l : List Int) (i m : Int) (w : World) (h : Ints w (.slice A l.length c) l) (hx : ∀ x ∈ l, -9223372036854775808 ≤ x ∧ x ≤ 9223372036854775807) (hm0 : 0 < m) (hm1 : m ≤ 9223372036854775807) (y : Int) (hy : pickI l i m = y) :
    Calls Try.prog 94 #[.slice A l.length c, .int .i64 i, .int .i64 m] w fun e w' => e = .returned (.int .i64 y) ∧ w' = w := by
  by_cases h0 : i < 0
  · have HY := bx (show (0 : Int) = y by rw [← hy, pickI, if_neg (by omega)])
    clear hy hx
    go_enter Try.func94, Try.ntmps94
    go_wp2
    go_ret
    exact ⟨ret_int HY.out, rfl⟩
  by_cases h1 : (l.length : Int) ≤ i
  · have HY := bx (show (0 : Int) = y by rw [← hy, pickI, if_neg (by omega)])
    clear hy hx
    go_enter Try.func94, Try.ntmps94
    go_wp2
    go_ret
    exact ⟨ret_int HY.out, rfl⟩
  · obtain ⟨k, rfl⟩ : ∃ k : Nat, i = k := ⟨i.toNat, by omega⟩
    have hk : k < l.length := by omega
    obtain ⟨b, off, rfl, hb, c1⟩ := ints_at h hk
    obtain ⟨x0, x1⟩ := hx l[k] (List.getElem_mem hk)
    have HY := bx (show around l[k] m = y by rw [← hy, pickI, if_pos (by omega)]; simp [List.getD_eq_getElem?_getD, List.getElem?_eq_getElem hk])
    generalize l[k] = u at *
    have z1 : (k : Int) < (l.length : Int) := by omega
    have z2 : (0 : Int) ≤ (k : Int) := by omega
    clear hy hx
    go_enter Try.func94, Try.ntmps94
    go_wp2_with fail
    refine (around_calls u m w x0 x1 hm0 hm1).mono ?_
    rintro e w1 ⟨rfl, rfl⟩
    go_wp2
    go_ret
    exact ⟨ret_int HY.out, rfl⟩
def boundI (n m : Int) : Int := around n (2 * m + 1) - m
theorem bound_bd (n m : Int) (hm : 0 ≤ m) : -m ≤ boundI n m ∧ boundI n m ≤ m := by
  have := around_bd n (2 * m + 1) (by omega)
  unfold boundI
  omega
theorem bound_calls (n m : Int) (w : World) (h0 : -9223372036854775808 ≤ n) (h1 : n ≤ 9223372036854775807) (hm0 : 0 ≤ m) (hm1 : m ≤ 2305843009213693952) :
    Calls Try.prog 72 #[.int .i64 n, .int .i64 m] w fun e w' => e = .returned (.int .i64 (boundI n m)) ∧ w' = w := by
  have e1 : IntKind.i64.wrap (2 * m) = 2 * m := IntWalk.i64_in _ (by omega)
  have e2 : IntKind.i64.wrap (2 * m + 1) = 2 * m + 1 := IntWalk.i64_in _ (by omega)
  have hb := around_bd n (2 * m + 1) (by omega)
  have HA := bx (around_calls n (2 * m + 1) w h0 h1 (by omega) (by omega))
  have HX := bx (show around n (2 * m + 1) - m = boundI n m from rfl)
  generalize around n (2 * m + 1) = y at *
  have e3 : IntKind.i64.wrap (y - m) = y - m := IntWalk.i64_in _ (by omega)
  go_enter Try.func72, Try.ntmps72
  go_wp2_with fail
  refine HA.out.mono ?_
  rintro e w1 ⟨rfl, rfl⟩
  go_wp2
  go_ret
  exact ⟨ret_int HX.out, rfl⟩
end Go.Proofs.Ytlogokjjphlkkaa
