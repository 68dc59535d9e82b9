/-
  Walks of layer 30: perigeeref30.Check.
-/
import Derived.Test.YtgfmnolghbiedaaK18
namespace Go.Proofs.Ytgfmnolghbiedaa
open Go.RowKit

theorem outB_lt {n s : Int} (h : s < 0) : outB n s = true := by unfold outB; rw [decide_eq_true h]; rfl
theorem outB_ge {n s : Int} (h : n ≤ s) : outB n s = true := by unfold outB; rw [decide_eq_true h]; simp
theorem outB_in {n s : Int} (h : ¬ s < 0) (h' : ¬ n ≤ s) : outB n s = false := by unfold outB; rw [decide_eq_false h, decide_eq_false h']; rfl
set_option maxRecDepth 100000 in
set_option maxHeartbeats 1600000 in
theorem refCheck_calls (n : Int) (AG : Option Addr) (cG : Nat) (sh : List (List Int)) (w : World) (hl : Lists w w.heap.size AG sh) (hn : sh.length ≤ 9223372036854775807) (x : Int) (hx : checkG n sh = x) :
    Calls Try.prog 12 #[.agg #[.int .i64 n, .slice AG sh.length cG]] w fun e w' => e = .returned (.int .i64 x) ∧ Below w.heap.size w w' := by
  obtain ⟨W1, hW1⟩ : ∃ W1, w.alloc (.cells #[.int .i64 n, .slice AG sh.length cG] 24) = W1 := ⟨_, rfl⟩
  have s1 : W1.heap.size = w.heap.size + 1 := by rw [← hW1]; simp
  have hb1 : Below w.heap.size w W1 := by rw [← hW1]; exact (Below.refl _ _).alloc (Nat.le_refl _) _
  have hG1 : GBox W1 W1.heap.size w.heap.size n sh := by rw [s1, ← hW1]; exact gbox_new w n AG cG sh hl hn
  have HX := bx hx
  clear hx
  obtain ⟨_, _, gi0, AGi, cGi, gi1, hlG⟩ := hG1
  by_cases h1 : n < 0
  · have HV := bx (HX.out.symm.trans (check_lim (.inl h1)))
    go_enter Try.func12, Try.ntmps12
    go_wp2
    go_ret
    exact ⟨ret_int HV.out.symm, by assumption⟩
  by_cases h2 : 24 < n
  · have HV := bx (HX.out.symm.trans (check_lim (.inr (.inl h2))))
    go_enter Try.func12, Try.ntmps12
    go_wp2
    go_ret
    exact ⟨ret_int HV.out.symm, by assumption⟩
  by_cases h3 : 16 < sh.length
  · have HV := bx (HX.out.symm.trans (check_lim (.inr (.inr h3))))
    go_enter Try.func12, Try.ntmps12
    go_wp2
    go_ret
    exact ⟨ret_int HV.out.symm, by assumption⟩
  have HD := bx (show ¬ (n < 0 ∨ 24 < n ∨ 16 < sh.length) by omega)
  go_enter Try.func12, Try.ntmps12
  go_wp2
  clear hW1 hl
  go_loopw [3, 4] (fun i _ wr => ∃ k : Nat, k ≤ sh.length ∧ i = .int .i64 k ∧ (sh.take k).any (badRng n) = false ∧ Below W1.heap.size W1 wr) (fun i _ _ => sh.length - (intOf i).toNat)
  case atStart => exact ⟨0, Nat.zero_le _, rfl, rfl, Below.refl _ _⟩
  case round =>
    obtain ⟨k, hk, rfl, hno, hbw⟩ := hrel
    have HNO := bx hno
    clear hno
    have hsz := hbw.size
    have c0 : wr.cell? ⟨w.heap.size, 0, none⟩ = some (.int .i64 n) := (hbw.cell (by omega)).trans gi0
    have c1 : wr.cell? ⟨w.heap.size, 1, none⟩ = some (.slice AGi sh.length cGi) := (hbw.cell (by omega)).trans gi1
    by_cases hlt : k < sh.length
    · have Hs := bx (any_take_succ (badRng n) hlt)
      have Ha := bx (@any_at _ (badRng n) sh k hlt)
      have hrow := hlG.at_ k hlt
      generalize sh[k] = l at *
      obtain ⟨b, off, A', c', rfl, hb, g1, g2, g3⟩ := hrow
      have y1 : (k : Int) < (sh.length : Int) := by omega
      have y2 : (0 : Int) ≤ (k : Int) := by omega
      go_wp2
      obtain ⟨wo, hwo⟩ : ∃ wo, wr = wo := ⟨_, rfl⟩
      rw [hwo] at hbw hsz ⊢
      clear hwo c0 c1
      go_loopw [4] (fun j wr => ∃ m : Nat, m ≤ l.length ∧ j = .int .i64 m ∧ (l.take m).any (outB n) = false ∧ Below W1.heap.size W1 wr) (fun j _ => l.length - (intOf j).toNat)
      case atStart => exact ⟨0, by omega, rfl, rfl, hbw⟩
      case round =>
        obtain ⟨m, hm, rfl, hno, hbo⟩ := hrel
        have HNO3 := bx hno
        clear hno
        have hsz := hbo.size
        have c0 : wr.cell? ⟨w.heap.size, 0, none⟩ = some (.int .i64 n) := (hbo.cell (by omega)).trans gi0
        have c1 : wr.cell? ⟨w.heap.size, 1, none⟩ = some (.slice (some ⟨b, off, none⟩) sh.length cGi) := (hbo.cell (by omega)).trans gi1
        have q1 : wr.cell? ⟨b, off + k, none⟩ = some (.slice A' l.length c') := (hbo.cell (by omega)).trans g1
        by_cases hil : m < l.length
        · have Hu := bx (any_take_succ (outB n) hil)
          have Hb := bx (@any_at _ (outB n) l m hil)
          obtain ⟨bl, ol, rfl, hbl, e1⟩ := (g2.below hbo).at_ m hil
          have z2 : (m : Int) < (l.length : Int) := by omega
          have z3 : (0 : Int) ≤ (m : Int) := by omega
          generalize l[m] = y at *
          by_cases hy0 : y < 0
          · have HX2 := bx (HX.out.symm.trans (check_rng HD.out (Ha.out (Hb.out (outB_lt hy0)))))
            have d0 : decide (y < 0) = true := by simpa using hy0
            go_wp2_with fail
            go_quiet (fail)
            go_wp2
            go_ret
            exact ⟨ret_int HX2.out.symm, hb1.trans ((below_drewN hbo _).mono hb1.size)⟩
          · have d0 : decide (y < 0) = false := by simpa using hy0
            by_cases hyn : n ≤ y
            · have HX2 := bx (HX.out.symm.trans (check_rng HD.out (Ha.out (Hb.out (outB_ge hyn)))))
              go_wp2_with fail
              go_quiet (fail)
              go_wp2
              go_ret
              exact ⟨ret_int HX2.out.symm, hb1.trans ((below_drewN hbo _).mono hb1.size)⟩
            · have HU2 := bx (show (l.take (m + 1)).any (outB n) = false by rw [Hu.out, HNO3.out, outB_in hy0 hyn]; rfl)
              go_wp2_with fail
              go_quiet (fail)
              go_wp2
              go_roundw
              case rel => exact ⟨m + 1, by omega, by go_num, HU2.out, below_drewN hbo _⟩
              case measure => simp [intOf]; omega
        · obtain rfl : m = l.length := by omega
          have Hbad := bx (show badRng n l = false by have := HNO3.out; rwa [List.take_of_length_le (Nat.le_refl _)] at this)
          go_wp2
          go_roundw
          case rel => exact ⟨k + 1, by omega, by go_num, by rw [Hs.out, HNO.out, Hbad.out]; rfl, hbo⟩
          case measure => simp [intOf]; omega
    · obtain rfl : k = sh.length := by omega
      have HR := bx (show sh.any (badRng n) = false by have := HNO.out; rwa [List.take_of_length_le (Nat.le_refl _)] at this)
      go_wp2
      clear c0 c1
      obtain ⟨W3, hW3⟩ : ∃ W3, wr = W3 := ⟨_, rfl⟩
      rw [hW3] at hbw ⊢
      clear hW3
      go_loopw [5, 6] (fun i _ wr => ∃ k : Nat, k ≤ sh.length ∧ i = .int .i64 k ∧ (sh.take k).any badOrd = false ∧ Below W1.heap.size W1 wr) (fun i _ _ => sh.length - (intOf i).toNat)
      case atStart => exact ⟨0, Nat.zero_le _, rfl, rfl, hbw⟩
      case round =>
        obtain ⟨k, hk, rfl, hno, hbr⟩ := hrel
        have HNO2 := bx hno
        clear hno
        have hsz := hbr.size
        have c0 : wr.cell? ⟨w.heap.size, 0, none⟩ = some (.int .i64 n) := (hbr.cell (by omega)).trans gi0
        have c1 : wr.cell? ⟨w.heap.size, 1, none⟩ = some (.slice AGi sh.length cGi) := (hbr.cell (by omega)).trans gi1
        by_cases hlt : k < sh.length
        · have Hs := bx (any_take_succ badOrd hlt)
          have Ha := bx (@any_at _ badOrd sh k hlt)
          have hrow := hlG.at_ k hlt
          generalize sh[k] = l at *
          obtain ⟨b, off, A', c', rfl, hb, g1, g2, g3⟩ := hrow
          have y1 : (k : Int) < (sh.length : Int) := by omega
          have y2 : (0 : Int) ≤ (k : Int) := by omega
          go_wp2
          obtain ⟨wo, hwo⟩ : ∃ wo, wr = wo := ⟨_, rfl⟩
          rw [hwo] at hbr hsz ⊢
          clear hwo c0 c1
          go_loopw [6] (fun j wr => ∃ m : Nat, m ≤ l.length ∧ j = .int .i64 ((m : Int) + 1) ∧ ordUpto l (m + 1) = false ∧ Below W1.heap.size W1 wr) (fun j _ => l.length + 1 - (intOf j).toNat)
          case atStart => exact ⟨0, by omega, rfl, ordUpto_one l, hbr⟩
          case round =>
            obtain ⟨m, hm, rfl, hno, hbo⟩ := hrel
            have HNO3 := bx hno
            clear hno
            have hsz := hbo.size
            have c1 : wr.cell? ⟨w.heap.size, 1, none⟩ = some (.slice (some ⟨b, off, none⟩) sh.length cGi) := (hbo.cell (by omega)).trans gi1
            have q1 : wr.cell? ⟨b, off + k, none⟩ = some (.slice A' l.length c') := (hbo.cell (by omega)).trans g1
            by_cases hil : m + 1 < l.length
            · obtain ⟨bl, ol, rfl, hbl, e1⟩ := (g2.below hbo).at_ (m + 1) hil
              obtain ⟨b3, o3, er, _, e2⟩ := (g2.below hbo).at_ m (by omega)
              obtain ⟨rfl, rfl⟩ : bl = b3 ∧ ol = o3 := by injection er with er; injection er with h1 h2 _; exact ⟨h1, h2⟩
              have z1 : (m : Int) + 1 < (l.length : Int) := by omega
              have z2 : (m : Int) < (l.length : Int) := by omega
              have z3 : (0 : Int) ≤ (m : Int) := by omega
              have z4 : (0 : Int) ≤ (m : Int) + 1 := by omega
              have Hu := bx (show ordUpto l (m + 1 + 1) = decide (l[m + 1] ≤ l[m]) by rw [ordUpto_succ, HNO3.out, ordAt_eq (by omega) hil]; rfl)
              have Hb := bx (fun hb : ordUpto l (m + 1 + 1) = true => show badOrd l = true from ordUpto_mono (by omega) hb)
              clear er
              generalize l[m + 1] = y at *
              generalize l[m]'(by omega) = z at *
              by_cases hyz : y ≤ z
              · have HX2 := bx (HX.out.symm.trans (check_ord HD.out HR.out (Ha.out (Hb.out (by rw [Hu.out]; simpa using hyz)))))
                go_wp2_with fail
                go_quiet (fail)
                go_wp2
                go_ret
                exact ⟨ret_int HX2.out.symm, hb1.trans ((below_drewN hbo _).mono hb1.size)⟩
              · have HU2 := bx (show ordUpto l (m + 1 + 1) = false by rw [Hu.out]; simpa using hyz)
                go_wp2_with fail
                go_quiet (fail)
                go_wp2
                go_roundw
                case rel => exact ⟨m + 1, by omega, by go_num, HU2.out, below_drewN hbo _⟩
                case measure => simp [intOf]; omega
            · have Hbad := bx (show badOrd l = false by
                cases h : badOrd l
                · rfl
                · have := ordUpto_mono (k := l.length) (m := m + 1) (by omega) h
                  rw [HNO3.out] at this; cases this)
              go_wp2
              go_roundw
              case rel => exact ⟨k + 1, by omega, by go_num, by rw [Hs.out, HNO2.out, Hbad.out]; rfl, hbo⟩
              case measure => simp [intOf]; omega
        · obtain rfl : k = sh.length := by omega
          have HR2 := bx (show sh.any badOrd = false by have := HNO2.out; rwa [List.take_of_length_le (Nat.le_refl _)] at this)
          have HX2 := bx (HX.out.symm.trans (check_fine HD.out HR.out HR2.out))
          go_wp2
          go_ret
          exact ⟨ret_int HX2.out.symm, hb1.trans (hbr.mono hb1.size)⟩
end Go.Proofs.Ytgfmnolghbiedaa
