/-
  Walks of layer 31: Check, both; Permits, both.
-/
import Derived.Test.YtgfmnolghbiedaaDoorP2
namespace Go.Proofs.YtgfmnolghbiedaaDoor
open Go.RowKit Go.Shelf

/-- a unit that is out of order -/
def badU (u : Int × Int) : Bool := decide (9 < u.2) || (decide (u.1 < 0) || decide (u.2 ≤ u.1))
def checkM (lev bud : Int) (l : UL) : Int := if lev < 0 ∨ 2 < lev ∨ bud < 0 ∨ 2147483647 < bud then 5 else if 16 < l.length then 2 else if l.any badU then 5 else 0
def UAnyPost (us : UL) (w : World) (e : Ending) (w' : World) : Prop := (∃ i : Int, e = .returned (.int .i64 i) ∧ decide (0 ≤ i) = us.any badU) ∧ From w w'
theorem chk1 (a c : Int) (w : World) : Calls Tryd.prog 36 #[.agg #[.int .i64 a, .int .i64 c]] w fun e w' => e = .returned (.bool (badU (a, c))) ∧ From w w' := by
  have hb : From w (w.alloc (.cells #[.int .i64 a, .int .i64 c] 44)) := From.alloc (Below.refl _ _) _
  by_cases h1 : 9 < c
  · have He := bx (show true = badU (a, c) by simp [badU, h1])
    go_enter Tryd.func36, Tryd.ntmps36
    go_wp2
    go_ret
    exact ⟨ret_bool He.out, hb⟩
  · by_cases h2 : a < 0
    · have He := bx (show true = badU (a, c) by simp [badU, h2])
      go_enter Tryd.func36, Tryd.ntmps36
      go_wp2
      go_ret
      exact ⟨ret_bool He.out, hb⟩
    · have He := bx (show decide (c ≤ a) = badU (a, c) by simp [badU, h1, h2])
      go_enter Tryd.func36, Tryd.ntmps36
      go_wp2
      go_ret
      exact ⟨ret_bool He.out, hb⟩
theorem indexFuncU (A : Option Addr) (c : Nat) (us : UL) (w : World) (h : US w w.heap.size (.slice A us.length c) us) (hm : us.length ≤ 9223372036854775807) :
    Calls Tryd.prog 49 #[.slice A us.length c, .func (.func 36) #[] #[]] w (UAnyPost us w) := by
  go_enter Tryd.func49, Tryd.ntmps49
  go_wp2
  go_loopw [5, 8] (fun _ i wr => ∃ k : Nat, k ≤ us.length ∧ i = .int .i64 k ∧ (us.take k).any badU = false ∧ From w wr) (fun _ i _ => us.length - (intOf i).toNat)
  case atStart => exact ⟨0, Nat.zero_le _, rfl, rfl, Below.refl _ _⟩
  case round =>
    obtain ⟨k, hk, rfl, hno, hbw⟩ := hrel
    have Hno := bx hno
    clear hno
    have hw := h.below hbw
    by_cases hlt : k < us.length
    · obtain ⟨b, off, rfl, hb, g1, g2⟩ := hw.at_ hlt
      have Hs := bx (show (us.take (k + 1)).any badU = ((us.take k).any badU || badU us[k]) by
        rw [List.take_succ_eq_append_getElem hlt, List.any_append]; simp)
      have Hm := bx (fun hb : badU us[k] = true => show us.any badU = true from List.any_eq_true.2 ⟨_, List.getElem_mem hlt, hb⟩)
      generalize us[k] = u at *
      obtain ⟨ua, uc'⟩ := u
      cases hi : badU (ua, uc')
      · have Hi := bx hi
        clear hi
        go_wp2_with fail
        refine (chk1 ua uc' wr).mono ?_
        rintro e w' ⟨rfl, hb'⟩
        rw [Hi.out]
        go_wp2
        go_roundw
        case rel => exact ⟨k + 1, by omega, by go_num, by rw [Hs.out, Hno.out, Hi.out]; rfl, hbw.trans hb'⟩
        case measure => simp [intOf]; omega
      · have Hi := bx hi
        have Ht := bx (Hm.out hi)
        clear hi
        go_wp2_with fail
        refine (chk1 ua uc' wr).mono ?_
        rintro e w' ⟨rfl, hb'⟩
        rw [Hi.out]
        go_wp2
        go_ret
        exact ⟨⟨k, rfl, by rw [Ht.out]; simp⟩, hbw.trans hb'⟩
    · obtain rfl : k = us.length := by omega
      have Hc := bx (show us.any badU = false by have := Hno.out; rwa [List.take_of_length_le (Nat.le_refl _)] at this)
      go_wp2
      go_ret
      exact ⟨⟨-1, rfl, by rw [Hc.out]; rfl⟩, hbw⟩
theorem containsFuncU (A : Option Addr) (c : Nat) (us : UL) (w : World) (h : US w w.heap.size (.slice A us.length c) us) (hm : us.length ≤ 9223372036854775807) (x : Bool) (hx : us.any badU = x) :
    Calls Tryd.prog 35 #[.slice A us.length c, .func (.func 36) #[] #[]] w fun e w' => e = .returned (.bool x) ∧ From w w' := by
  go_enter Tryd.func35, Tryd.ntmps35
  go_wp2_with fail
  refine (indexFuncU A c us w h hm).mono ?_
  rintro e w' ⟨⟨i, rfl, hi⟩, hb⟩
  rw [hx] at hi
  have Hi := bx hi
  clear hi
  go_wp2
  go_ret
  exact ⟨ret_bool Hi.out, hb⟩
theorem check_calls (lev bud : Int) (v : Value) (l : UL) (w : World) (h : US w w.heap.size v l) (hm : l.length ≤ 9223372036854775807) (x : Int) (hx : checkM lev bud l = x) :
    Calls Tryd.prog 12 #[.agg #[.int .i64 lev, .int .i64 bud, v]] w fun e w' => e = .returned (.int .i64 x) ∧ From w w' := by
  obtain ⟨A, c, rfl⟩ := h.form
  have H := bx h
  clear h
  obtain ⟨W0, hW0⟩ : ∃ W0, w.alloc (.cells #[.int .i64 lev, .int .i64 bud, .slice A l.length c] 24) = W0 := ⟨_, rfl⟩
  have hF0 : From w W0 := by rw [← hW0]; exact From.alloc (Below.refl _ _) _
  obtain ⟨q0, q1, q2⟩ := (show MCell W0 w.heap.size lev bud A l.length c by rw [← hW0]; exact mcell_new w lev bud A l.length c).facts
  by_cases h1 : lev < 0
  · have HX := bx (show (5 : Int) = x by rw [← hx]; simp [checkM, h1])
    clear hx
    go_enter Tryd.func12, Tryd.ntmps12
    go_wp2
    go_ret
    exact ⟨ret_int HX.out, hF0⟩
  by_cases h2 : 2 < lev
  · have HX := bx (show (5 : Int) = x by rw [← hx]; simp [checkM, h2])
    clear hx
    go_enter Tryd.func12, Tryd.ntmps12
    go_wp2
    go_ret
    exact ⟨ret_int HX.out, hF0⟩
  by_cases h3 : bud < 0
  · have HX := bx (show (5 : Int) = x by rw [← hx]; simp [checkM, h3])
    clear hx
    go_enter Tryd.func12, Tryd.ntmps12
    go_wp2
    go_ret
    exact ⟨ret_int HX.out, hF0⟩
  by_cases h4 : 2147483647 < bud
  · have HX := bx (show (5 : Int) = x by rw [← hx]; simp [checkM, h4])
    clear hx
    go_enter Tryd.func12, Tryd.ntmps12
    go_wp2
    go_ret
    exact ⟨ret_int HX.out, hF0⟩
  by_cases h5 : 16 < l.length
  · have HX := bx (show (2 : Int) = x by rw [← hx]; simp [checkM, h1, h2, h3, h4, h5])
    have h5' : (16 : Int) < (l.length : Int) := by omega
    clear hx
    go_enter Tryd.func12, Tryd.ntmps12
    go_wp2
    go_ret
    exact ⟨ret_int HX.out, hF0⟩
  · have h5' : ¬ (16 : Int) < (l.length : Int) := by omega
    obtain ⟨y, hy⟩ : ∃ y, l.any badU = y := ⟨_, rfl⟩
    have HX := bx (show (if y then (5 : Int) else 0) = x by rw [← hx, ← hy]; simp [checkM, h1, h2, h3, h4, h5])
    have HY := bx hy
    clear hx hy
    go_enter Tryd.func12, Tryd.ntmps12
    go_wp2_with fail
    refine (containsFuncU A c l W0 (H.out.from hF0) hm y HY.out).mono ?_
    rintro e w3 ⟨rfl, hx3⟩
    cases y
    · go_wp2
      go_ret
      exact ⟨ret_int HX.out, hF0.trans hx3⟩
    · go_wp2
      go_ret
      exact ⟨ret_int HX.out, hF0.trans hx3⟩
end Go.Proofs.YtgfmnolghbiedaaDoor
