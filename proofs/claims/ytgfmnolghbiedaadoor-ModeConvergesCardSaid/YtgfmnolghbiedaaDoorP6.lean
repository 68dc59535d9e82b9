/-
  Walks of layer 31: the specification's Same.
-/
import Derived.Test.YtgfmnolghbiedaaDoorP5
namespace Go.Proofs.YtgfmnolghbiedaaDoor
open Go.RowKit Go.Shelf

theorem take_eqU {xs ys : UL} (hl : xs.length = ys.length) {k : Nat} (hk : k < xs.length) : xs.take (k + 1) = ys.take (k + 1) ↔ (xs.take k = ys.take k ∧ xs[k] = ys[k]'(by omega)) := by
  rw [List.take_succ_eq_append_getElem hk, List.take_succ_eq_append_getElem (by omega : k < ys.length)]
  constructor
  · intro h
    have := List.append_inj h (by simp [hl])
    exact ⟨this.1, by simpa using this.2⟩
  · rintro ⟨h1, h2⟩
    rw [h1, h2]
set_option maxHeartbeats 1600000 in
theorem same_callsM (lev bud : Int) (v : Value) (l : UL) (lev' bud' : Int) (v' : Value) (l' : UL) (w : World) (h : US w w.heap.size v l) (h' : US w w.heap.size v' l') (hm : l.length ≤ 8796093022208) (x : Bool) (hx : decide (lev = lev' ∧ bud = bud' ∧ l = l') = x) :
    Calls Tryd.prog 14 #[.agg #[.int .i64 lev, .int .i64 bud, v], .agg #[.int .i64 lev', .int .i64 bud', v']] w fun e w' => e = .returned (.bool x) ∧ From w w' := by
  obtain ⟨A, c, rfl⟩ := h.form
  obtain ⟨A', c', rfl⟩ := h'.form
  have H := bx h
  have H' := bx h'
  clear h h'
  obtain ⟨W0, hW0⟩ : ∃ W0, (w.alloc (.cells #[.int .i64 lev, .int .i64 bud, .slice A l.length c] 24)).alloc (.cells #[.int .i64 lev', .int .i64 bud', .slice A' l'.length c'] 24) = W0 := ⟨_, rfl⟩
  have hF1 : From (w.alloc (.cells #[.int .i64 lev, .int .i64 bud, .slice A l.length c] 24)) W0 := by rw [← hW0]; exact From.alloc (Below.refl _ _) _
  have hF0 : From w W0 := From.trans (From.alloc (Below.refl _ _) _) hF1
  have HM := bx ((mcell_new w lev bud A l.length c).from hF1)
  have HM' := bx (show MCell W0 (w.heap.size + 1) lev' bud' A' l'.length c' by have := mcell_new (w.alloc (.cells #[.int .i64 lev, .int .i64 bud, .slice A l.length c] 24)) lev' bud' A' l'.length c'; rw [hW0, World.size_alloc] at this; exact this)
  clear hF1
  obtain ⟨q0, q1, q2⟩ := HM.out.facts
  obtain ⟨r0, r1, r2⟩ := HM'.out.facts
  by_cases h1 : lev = lev'
  case neg =>
    have HX := bx (show false = x by rw [← hx]; simp [h1])
    have t1 : (lev != lev') = true := by simp [h1]
    clear hx
    go_enter Tryd.func14, Tryd.ntmps14
    go_wp2
    go_ret
    exact ⟨ret_bool HX.out, hF0⟩
  by_cases h2 : bud = bud'
  case neg =>
    have HX := bx (show false = x by rw [← hx]; simp [h2])
    have t1 : (bud != bud') = true := by simp [h2]
    subst h1
    have t2 : (lev != lev) = false := by simp
    clear hx
    go_enter Tryd.func14, Tryd.ntmps14
    go_wp2
    go_ret
    exact ⟨ret_bool HX.out, hF0⟩
  by_cases h3 : l.length = l'.length
  case neg =>
    have HX := bx (show false = x by rw [← hx]; refine (decide_eq_false ?_).symm; rintro ⟨_, _, e⟩; exact h3 (by rw [e]))
    have t1 : ((l.length : Int) != (l'.length : Int)) = true := by simp; omega
    subst h1 h2
    have t2 : (lev != lev) = false := by simp
    have t3 : (bud != bud) = false := by simp
    clear hx
    go_enter Tryd.func14, Tryd.ntmps14
    go_wp2
    go_ret
    exact ⟨ret_bool HX.out, hF0⟩
  · subst h1 h2
    have HX := bx (show decide (l = l') = x by rw [← hx]; simp)
    have HL := bx h3
    have hm' : l'.length ≤ 8796093022208 := by omega
    have t1 : ((l'.length : Int) != (l'.length : Int)) = false := by simp
    have t2 : (lev != lev) = false := by simp
    have t3 : (bud != bud) = false := by simp
    clear hx
    rw [h3] at HM
    rw [h3] at hW0
    rw [h3] at q2
    rw [h3]
    go_enter Tryd.func14, Tryd.ntmps14
    go_wp2
    have HU := bx (H.out.from hF0)
    have HU' := bx (H'.out.from hF0)
    rw [h3] at HU
    clear hW0 q0 q1 q2 r0 r1 r2 h3
    go_loopw [5] (fun i wr => ∃ k : Nat, k ≤ l'.length ∧ i = .int .i64 k ∧ l.take k = l'.take k ∧ From W0 wr) (fun i _ => l'.length - (intOf i).toNat)
    case atStart => exact ⟨0, Nat.zero_le _, rfl, by simp, Below.refl _ _⟩
    case round =>
      obtain ⟨k, hk, rfl, hno, hbw⟩ := hrel
      have Hno := bx hno
      clear hno
      obtain ⟨q0, q1, q2⟩ := (HM.out.from hbw).facts
      obtain ⟨r0, r1, r2⟩ := (HM'.out.from hbw).facts
      by_cases hlt : k < l'.length
      · obtain ⟨b, off, rfl, hb, g1, g2⟩ := (HU.out.from hbw).at_ (show k < l.length by have := HL.out; omega)
        obtain ⟨b', off', rfl, hb', g1', g2'⟩ := (HU'.out.from hbw).at_ hlt
        have Ht := bx (take_eqU HL.out (show k < l.length by have := HL.out; omega))
        have Hne := bx (fun (hne : ¬ l[k]'(by have := HL.out; omega) = l'[k]) => show ¬ l = l' from fun e => hne (by subst e; rfl))
        generalize l[k]'(by have := HL.out; omega) = u at *
        generalize l'[k] = u' at *
        obtain ⟨ua, uc1⟩ := u
        obtain ⟨ub, uc2⟩ := u'
        have z1 : (0 : Int) ≤ (k : Int) := by omega
        have z2 : (k : Int) < (l'.length : Int) := by omega
        by_cases hu : ua = ub ∧ uc1 = uc2
        · obtain ⟨rfl, rfl⟩ := hu
          have y1 : (ua != ua) = false := by simp
          have y2 : (uc1 != uc1) = false := by simp
          go_wp2_with fail
          go_quiet (fail)
          go_wp2
          go_roundw
          case rel => exact ⟨k + 1, by omega, by go_num, Ht.out.2 ⟨Hno.out, trivial⟩, From.drewN hbw nq⟩
          case measure => simp [intOf]; omega
        · have HX2 := bx (show false = x by rw [← HX.out]; exact (decide_eq_false (Hne.out (fun e => hu (by injection e with e1 e2; exact ⟨e1, e2⟩)))).symm)
          by_cases hu1 : ua = ub
          · subst hu1
            have hu2 : ¬ uc1 = uc2 := fun e => hu ⟨rfl, e⟩
            have y1 : (uc1 != uc2) = true := by simp [hu2]
            have y2 : (uc1 == uc2) = false := by simp [hu2]
            clear hu
            go_wp2_with fail
            go_quiet (fail)
            go_wp2
            go_ret
            exact ⟨ret_bool HX2.out, hF0.trans (From.drewN hbw nq)⟩
          · have y1 : (ua != ub) = true := by simp [hu1]
            have y2 : (ua == ub) = false := by simp [hu1]
            clear hu
            go_wp2_with fail
            go_quiet (fail)
            go_wp2
            go_ret
            exact ⟨ret_bool HX2.out, hF0.trans (From.drewN hbw nq)⟩
      · obtain rfl : k = l'.length := by omega
        have HX2 := bx (show true = x by rw [← HX.out]; refine (decide_eq_true ?_).symm; have := Hno.out; rwa [List.take_of_length_le (by have := HL.out; omega), List.take_of_length_le (Nat.le_refl _)] at this)
        go_wp2
        go_ret
        exact ⟨ret_bool HX2.out, hF0.trans hbw⟩
end Go.Proofs.YtgfmnolghbiedaaDoor
