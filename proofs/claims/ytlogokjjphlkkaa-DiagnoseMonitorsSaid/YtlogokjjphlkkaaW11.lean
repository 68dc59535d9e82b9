/-
  Walks: perigeeref01.SameInts, perigeeref01.Has.
-/
import Derived.Test.YtlogokjjphlkkaaW10
namespace Go.Proofs.Ytlogokjjphlkkaa
open Go.RowKit Go.Shelf

theorem take_eq {xs ys : List Int} {k : Nat} (h1 : k < xs.length) (h2 : k < ys.length) : (xs.take (k + 1) = ys.take (k + 1)) ↔ (xs.take k = ys.take k ∧ xs[k] = ys[k]) := by
  rw [List.take_succ_eq_append_getElem h1, List.take_succ_eq_append_getElem h2]
  constructor
  · intro h
    have := List.append_inj h (by simp; omega)
    exact ⟨this.1, by simpa using this.2⟩
  · rintro ⟨h, e⟩
    rw [h, e]
/-- what SameInts answers -/
def SamePost (xs ys : List Int) (w : World) (e : Ending) (w' : World) : Prop := e = .returned (.bool (decide (xs = ys))) ∧ ∃ m, w' = w.drewN m
theorem same_calls (A B : Option Addr) (c d : Nat) (xs ys : List Int) (w : World) (h1 : Ints w (.slice A xs.length c) xs) (h2 : Ints w (.slice B ys.length d) ys) (hm : xs.length ≤ 9223372036854775807) :
    Calls Try.prog 22 #[.slice A xs.length c, .slice B ys.length d] w (SamePost xs ys w) := by
  by_cases hl : xs.length = ys.length
  case neg =>
    have hd : decide (xs = ys) = false := decide_eq_false (fun e => hl (by rw [e]))
    have hi : ((xs.length : Int) != (ys.length : Int)) = true := by simp; omega
    have HD := bx hd
    clear hd
    go_enter Try.func22, Try.ntmps22
    go_wp2
    go_ret
    exact ⟨ret_bool HD.out.symm, 0, rfl⟩
  have hi : ((xs.length : Int) != (ys.length : Int)) = false := by simp; omega
  have HL := bx hl
  clear hl
  go_enter Try.func22, Try.ntmps22
  go_wp2
  go_loopw [5] (fun i wr => ∃ k : Nat, k ≤ xs.length ∧ i = .int .i64 k ∧ xs.take k = ys.take k ∧ ∃ m, wr = w.drewN m) (fun i _ => xs.length - (intOf i).toNat)
  case atStart => exact ⟨0, Nat.zero_le _, rfl, by simp, 0, rfl⟩
  case round =>
    obtain ⟨k, hk, rfl, hno, m, hm'⟩ := hrel
    have hbw : Below w.heap.size w wr := by rw [hm']; exact below_drewN (Below.refl _ _) m
    have HM := bx hm'
    have Hno := bx hno
    clear hno hm'
    by_cases hlt : k < xs.length
    · obtain ⟨b, off, rfl, hb, g1⟩ := ints_at (h1.below hbw) hlt
      obtain ⟨b', off', rfl, hb', g2⟩ := ints_at (h2.below hbw) (k := k) (by have := HL.out; omega)
      have Ht := bx (@take_eq xs ys k hlt (by have := HL.out; omega))
      have z1 : (0 : Int) ≤ (k : Int) := by omega
      have z2 : (k : Int) < (xs.length : Int) := by omega
      have z3 : (k : Int) < (ys.length : Int) := by have := HL.out; omega
      generalize xs[k] = x at *
      generalize ys[k]'(by have := HL.out; omega) = y at *
      by_cases hxy : x = y
      · subst hxy
        have t0 : (x != x) = false := by simp
        go_wp2_with fail
        go_quiet (fail)
        go_wp2
        go_roundw
        case rel => exact ⟨k + 1, by omega, by go_num, Ht.out.2 ⟨Hno.out, trivial⟩, m + nq, by rw [HM.out, drewN_add]⟩
        case measure => simp [intOf]; omega
      · have t0 : (x != y) = true := by simp [hxy]
        have HD := bx (show decide (xs = ys) = false from decide_eq_false (fun e => hxy (Ht.out.1 (by rw [e])).2))
        go_wp2_with fail
        go_quiet (fail)
        go_wp2
        go_ret
        exact ⟨ret_bool HD.out.symm, m + nq, by rw [HM.out, drewN_add]⟩
    · obtain rfl : k = xs.length := by omega
      have HD := bx (show decide (xs = ys) = true from decide_eq_true (by have := Hno.out; rwa [List.take_of_length_le (Nat.le_refl _), List.take_of_length_le (by have := HL.out; omega)] at this))
      go_wp2
      go_ret
      exact ⟨ret_bool HD.out.symm, m, HM.out⟩
theorem has_calls (A : Option Addr) (c : Nat) (xs : List Int) (v : Int) (w : World) (h : Ints w (.slice A xs.length c) xs) (hm : xs.length ≤ 9223372036854775807) :
    Calls Try.prog 79 #[.slice A xs.length c, .int .i64 v] w fun e w' => e = .returned (.bool (xs.contains v)) ∧ w' = w := by
  go_enter Try.func79, Try.ntmps79
  go_wp2
  go_loopw [5] (fun i wr => ∃ k : Nat, k ≤ xs.length ∧ i = .int .i64 k ∧ (xs.take k).contains v = false ∧ wr = w) (fun i _ => xs.length - (intOf i).toNat)
  case atStart => exact ⟨0, Nat.zero_le _, rfl, by simp, rfl⟩
  case round =>
    obtain ⟨k, hk, rfl, hno, rfl⟩ := hrel
    have Hno := bx hno
    clear hno
    by_cases hlt : k < xs.length
    · obtain ⟨b, off, rfl, hb, c1⟩ := ints_at h hlt
      have Hs := bx (show (xs.take (k + 1)).contains v = ((xs.take k).contains v || v == xs[k]) by
        rw [List.take_succ_eq_append_getElem hlt]; simp only [List.contains_append, List.contains_cons, List.contains_nil, Bool.or_false])
      have Hm := bx (fun hv : v = xs[k] => show xs.contains v = true by rw [hv]; simp)
      generalize xs[k] = y at *
      by_cases hv : v = y
      · subst hv
        have Ht := bx (Hm.out rfl)
        go_wp2
        go_ret
        exact ⟨ret_bool (by rw [← Ht.out]; simp), rfl⟩
      · have Hv := bx (show (v == y) = false by simp [hv])
        have hv' : ¬ y = v := fun e => hv e.symm
        go_wp2
        go_roundw
        case rel => exact ⟨k + 1, by omega, by go_num, by rw [Hs.out, Hno.out, Hv.out]; rfl, trivial⟩
        case measure => simp [intOf]; omega
    · obtain rfl : k = xs.length := by omega
      have Hc := bx (show xs.contains v = false by have := Hno.out; rwa [List.take_of_length_le (Nat.le_refl _)] at this)
      go_wp2
      go_ret
      exact ⟨ret_bool (by rw [Hc.out]), rfl⟩
theorem same_val (A B : Option Addr) (c d : Nat) (xs ys : List Int) (w : World) (h1 : Ints w (.slice A xs.length c) xs) (h2 : Ints w (.slice B ys.length d) ys) (hm : xs.length ≤ 9223372036854775807) (t : Bool) (ht : decide (xs = ys) = t) :
    Calls Try.prog 22 #[.slice A xs.length c, .slice B ys.length d] w fun e w' => e = .returned (.bool t) ∧ ∃ m, w' = w.drewN m := by
  subst ht
  exact same_calls A B c d xs ys w h1 h2 hm
theorem has_val (A : Option Addr) (c : Nat) (xs : List Int) (v : Int) (w : World) (h : Ints w (.slice A xs.length c) xs) (hm : xs.length ≤ 9223372036854775807) (t : Bool) (ht : xs.contains v = t) :
    Calls Try.prog 79 #[.slice A xs.length c, .int .i64 v] w fun e w' => e = .returned (.bool t) ∧ w' = w := by
  have := has_calls A c xs v w h hm
  rwa [ht] at this
end Go.Proofs.Ytlogokjjphlkkaa
