/-
  Walks of layer 30: diagnose.Check.
-/
import Derived.Test.YtgfmnolghbiedaaK17
import Derived.Test.YtgfmnolghbiedaaN5
namespace Go.Proofs.Ytgfmnolghbiedaa
open Go.RowKit

theorem check1 (n s : Int) (bg : Nat) (w : World) (hg : w.cell? ⟨bg, 0, none⟩ = some (.int .i64 n)) :
    Calls Try.prog 32 #[.int .i64 s, .pointer (some ⟨bg, 0, none⟩)] w fun e w' => e = .returned (.bool (outB n s)) ∧ Below w.heap.size w w' := by
  by_cases h0 : s < 0
  · have He := bx (show true = outB n s by unfold outB; rw [show decide (s < 0) = true by simpa using h0]; rfl)
    go_enter Try.func32, Try.ntmps32
    go_wp2
    go_ret
    exact ⟨ret_bool He.out, Below.refl _ _⟩
  · have He := bx (show decide (n ≤ s) = outB n s by unfold outB; rw [show decide (s < 0) = false by simpa using h0]; rfl)
    go_enter Try.func32, Try.ntmps32
    go_wp2
    go_ret
    exact ⟨ret_bool He.out, Below.refl _ _⟩
/-- slices.IndexFunc at the closure chk -/
theorem indexFunc_chk (A : Option Addr) (c : Nat) (us : List Int) (n : Int) (bg : Nat) (w : World) (h : Ints w w.heap.size A us) (hm : us.length ≤ 9223372036854775807) (hs : w.cell? ⟨bg, 0, none⟩ = some (.int .i64 n)) :
    Calls Try.prog 40 #[.slice A us.length c, .func (.func 32) #[] #[.pointer (some ⟨bg, 0, none⟩)]] w (AnyPost us (outB n) w) := by
  go_enter Try.func40, Try.ntmps40
  go_wp2
  go_loopw [5, 8] (fun _ i wr => ∃ k : Nat, k ≤ us.length ∧ i = .int .i64 k ∧ (us.take k).any (outB n) = false ∧ Below w.heap.size w wr) (fun _ i _ => us.length - (intOf i).toNat)
  case atStart => exact ⟨0, Nat.zero_le _, rfl, rfl, Below.refl _ _⟩
  case round =>
    obtain ⟨k, hk, rfl, hno, hbw⟩ := hrel
    have Hno := bx hno
    clear hno
    have hw := h.below hbw
    have hS := (hbw.cell (p := ⟨bg, 0, none⟩) (World.block_lt_of_cell? w _ hs)).trans hs
    by_cases hlt : k < us.length
    · obtain ⟨b, off, rfl, hb, g1⟩ := hw.at_ k hlt
      have Hs := bx (show (us.take (k + 1)).any (outB n) = ((us.take k).any (outB n) || (outB n) us[k]) by
        rw [List.take_succ_eq_append_getElem hlt, List.any_append]; simp)
      have Hm := bx (fun hb : (outB n) us[k] = true => show us.any (outB n) = true from List.any_eq_true.2 ⟨_, List.getElem_mem hlt, hb⟩)
      generalize us[k] = u at *
      cases hi : (outB n) u
      · have Hi := bx hi
        clear hi
        go_wp2_with fail
        refine (check1 n u bg wr hS).mono ?_
        rintro e w' ⟨rfl, hb'⟩
        rw [Hi.out]
        go_wp2
        go_roundw
        case rel => exact ⟨k + 1, by omega, by go_num, by rw [Hs.out, Hno.out, Hi.out]; rfl, hbw.trans (hb'.mono hbw.size)⟩
        case measure => simp [intOf]; omega
      · have Hi := bx hi
        have Ht := bx (Hm.out hi)
        clear hi
        go_wp2_with fail
        refine (check1 n u bg wr hS).mono ?_
        rintro e w' ⟨rfl, hb'⟩
        rw [Hi.out]
        go_wp2
        go_ret
        exact ⟨⟨k, rfl, by rw [Ht.out]; simp⟩, hbw.trans (hb'.mono hbw.size)⟩
    · obtain rfl : k = us.length := by omega
      have Hc := bx (show us.any (outB n) = false by have := Hno.out; rwa [List.take_of_length_le (Nat.le_refl _)] at this)
      go_wp2
      go_ret
      exact ⟨⟨-1, rfl, by rw [Hc.out]; rfl⟩, hbw⟩
/-- slices.ContainsFunc at the closure chk -/
theorem containsFunc_chk (A : Option Addr) (c : Nat) (us : List Int) (n : Int) (bg : Nat) (w : World) (h : Ints w w.heap.size A us) (hm : us.length ≤ 9223372036854775807) (hs : w.cell? ⟨bg, 0, none⟩ = some (.int .i64 n)) (x : Bool) (hx : us.any (outB n) = x) :
    Calls Try.prog 31 #[.slice A us.length c, .func (.func 32) #[] #[.pointer (some ⟨bg, 0, none⟩)]] w fun e w' => e = .returned (.bool x) ∧ Below w.heap.size w w' := by
  go_enter Try.func31, Try.ntmps31
  go_wp2_with fail
  refine (indexFunc_chk A c us n bg w h hm hs).mono ?_
  rintro e w' ⟨⟨i, rfl, hi⟩, hb⟩
  rw [hx] at hi
  have Hi := bx hi
  clear hi
  go_wp2
  go_ret
  exact ⟨ret_bool Hi.out, hb⟩
set_option maxRecDepth 10000 in
theorem check_calls (n : Int) (AG : Option Addr) (cG : Nat) (sh : List (List Int)) (w : World) (hl : Lists w w.heap.size AG sh) (hn : sh.length ≤ 9223372036854775807) (x : Int) (hx : checkG n sh = x) :
    Calls Try.prog 13 #[.agg #[.int .i64 n, .slice AG sh.length cG]] w fun e w' => e = .returned (.int .i64 x) ∧ Below w.heap.size w w' := by
  obtain ⟨W1, hW1⟩ : ∃ W1, w.alloc (.cells #[.int .i64 n, .slice AG sh.length cG] 24) = W1 := ⟨_, rfl⟩
  have s1 : W1.heap.size = w.heap.size + 1 := by rw [← hW1]; simp
  have hb1 : Below w.heap.size w W1 := by rw [← hW1]; exact (Below.refl _ _).alloc (Nat.le_refl _) _
  have hG1 : GBox W1 W1.heap.size w.heap.size n sh := by rw [s1, ← hW1]; exact gbox_new w n AG cG sh hl hn
  have HX := bx hx
  clear hx
  obtain ⟨_, _, gi0, AGi, cGi, gi1, hlG⟩ := hG1
  by_cases h1 : n < 0
  · have HV := bx (HX.out.symm.trans (check_lim (.inl h1)))
    go_enter Try.func13, Try.ntmps13
    go_wp2
    go_ret
    exact ⟨ret_int HV.out.symm, by assumption⟩
  by_cases h2 : 24 < n
  · have HV := bx (HX.out.symm.trans (check_lim (.inr (.inl h2))))
    go_enter Try.func13, Try.ntmps13
    go_wp2
    go_ret
    exact ⟨ret_int HV.out.symm, by assumption⟩
  by_cases h3 : 16 < sh.length
  · have HV := bx (HX.out.symm.trans (check_lim (.inr (.inr h3))))
    go_enter Try.func13, Try.ntmps13
    go_wp2
    go_ret
    exact ⟨ret_int HV.out.symm, by assumption⟩
  have HD := bx (show ¬ (n < 0 ∨ 24 < n ∨ 16 < sh.length) by omega)
  go_enter Try.func13, Try.ntmps13
  go_wp2
  clear hW1 hl
  go_loopw [4, 25] (fun _ i wr => ∃ k : Nat, k ≤ sh.length ∧ i = .int .i64 k ∧ (sh.take k).any (badRng n) = false ∧ Below W1.heap.size W1 wr) (fun _ i _ => sh.length - (intOf i).toNat)
  case atStart => exact ⟨0, Nat.zero_le _, rfl, rfl, Below.refl _ _⟩
  case round =>
    obtain ⟨k, hk, rfl, hno, hbw⟩ := hrel
    have HNO := bx hno
    clear hno
    have hsz := hbw.size
    have c0 : wr.cell? ⟨w.heap.size, 0, none⟩ = some (.int .i64 n) := (hbw.cell (by omega)).trans gi0
    have c1 : wr.cell? ⟨w.heap.size, 1, none⟩ = some (.slice AGi sh.length cGi) := (hbw.cell (by omega)).trans gi1
    by_cases hlt : k < sh.length
    · obtain ⟨b, off, A', c', rfl, hb, g1, g2, g3⟩ := (hlG.below hbw).at_ k hlt
      have HI := bx (g2.more hsz)
      have Hs := bx (any_take_succ (badRng n) hlt)
      have Ha := bx (@any_at _ (badRng n) sh k hlt)
      clear g2
      cases hv : badRng n sh[k]
      · have HV := bx hv
        clear hv
        generalize sh[k] = l at *
        go_wp2_with fail
        refine (containsFunc_chk A' c' l n w.heap.size wr HI.out g3 c0 false HV.out).mono ?_
        rintro e w3 ⟨rfl, hb3⟩
        go_wp2
        go_roundw
        case rel => exact ⟨k + 1, by omega, by go_num, by rw [Hs.out, HNO.out, HV.out]; rfl, hbw.trans (hb3.mono hsz)⟩
        case measure => simp [intOf]; omega
      · have HV := bx hv
        have HX2 := bx (HX.out.symm.trans (check_rng HD.out (Ha.out hv)))
        clear hv
        generalize sh[k] = l at *
        go_wp2_with fail
        refine (containsFunc_chk A' c' l n w.heap.size wr HI.out g3 c0 true HV.out).mono ?_
        rintro e w3 ⟨rfl, hb3⟩
        go_wp2
        go_ret
        exact ⟨ret_int HX2.out.symm, hb1.trans ((hbw.trans (hb3.mono hsz)).mono hb1.size)⟩
    · obtain rfl : k = sh.length := by omega
      have HR := bx (show sh.any (badRng n) = false by have := HNO.out; rwa [List.take_of_length_le (Nat.le_refl _)] at this)
      go_wp2
      obtain ⟨W3, hW3⟩ : ∃ W3, wr = W3 := ⟨_, rfl⟩
      rw [hW3] at hbw ⊢
      clear hW3
      go_loopw [6, 7, 36] (fun _ _ i wr => ∃ k : Nat, k ≤ sh.length ∧ i = .int .i64 k ∧ (sh.take k).any badOrd = false ∧ Below W1.heap.size W1 wr) (fun _ _ i _ => sh.length - (intOf i).toNat)
      case atStart => exact ⟨0, Nat.zero_le _, rfl, rfl, hbw⟩
      case round =>
        obtain ⟨k, hk, rfl, hno, hbr⟩ := hrel
        have HNO2 := bx hno
        clear hno
        have hsz := hbr.size
        by_cases hlt : k < sh.length
        · obtain ⟨b, off, A', c', rfl, hb, g1, g2, g3⟩ := (hlG.below hbr).at_ k hlt
          have Hs := bx (any_take_succ badOrd hlt)
          have Ha := bx (@any_at _ badOrd sh k hlt)
          generalize sh[k] = l at *
          go_wp2
          obtain ⟨wo, hwo⟩ : ∃ wo, wr = wo := ⟨_, rfl⟩
          rw [hwo] at hbr hsz g1 g2 ⊢
          clear hwo
          go_loopw [7] (fun j wr => ∃ m : Nat, m ≤ l.length ∧ j = .int .i64 ((m : Int) + 1) ∧ ordUpto l (m + 1) = false ∧ Below wo.heap.size wo wr) (fun j _ => l.length + 1 - (intOf j).toNat)
          case atStart => exact ⟨0, by omega, rfl, ordUpto_one l, Below.refl _ _⟩
          case round =>
            obtain ⟨m, hm, rfl, hno, hbo⟩ := hrel
            have HNO3 := bx hno
            clear hno
            have hbW := hbr.trans (hbo.mono hsz)
            by_cases hil : m + 1 < l.length
            · obtain ⟨bl, ol, rfl, hbl, e1⟩ := (g2.below (hbo.mono hsz)).at_ (m + 1) hil
              obtain ⟨b3, o3, er, _, e2⟩ := (g2.below (hbo.mono hsz)).at_ m (by omega)
              obtain ⟨rfl, rfl⟩ : bl = b3 ∧ ol = o3 := by injection er with er; injection er with h1 h2 _; exact ⟨h1, h2⟩
              have z1 : (m : Int) + 1 < (l.length : Int) := by omega
              have z2 : (m : Int) < (l.length : Int) := by omega
              have z3 : (0 : Int) ≤ (m : Int) := by omega
              have z4 : (0 : Int) ≤ (m : Int) + 1 := by omega
              have Hu := bx (show ordUpto l (m + 1 + 1) = decide (l[m + 1] ≤ l[m]) by rw [ordUpto_succ, HNO3.out, ordAt_eq (by omega) hil]; rfl)
              have Hb := bx (fun hb : ordUpto l (m + 1 + 1) = true => show badOrd l = true from ordUpto_mono (by omega) hb)
              clear er
              generalize l[m + 1] = y at *
              generalize l[m]'(by omega) = z at *
              by_cases hyz : y ≤ z
              · have HX2 := bx (HX.out.symm.trans (check_ord HD.out HR.out (Ha.out (Hb.out (by rw [Hu.out]; simpa using hyz)))))
                go_wp2_with fail
                go_quiet (fail)
                go_wp2
                go_ret
                exact ⟨ret_int HX2.out.symm, hb1.trans ((below_drewN hbW _).mono hb1.size)⟩
              · have HU2 := bx (show ordUpto l (m + 1 + 1) = false by rw [Hu.out]; simpa using hyz)
                go_wp2_with fail
                go_quiet (fail)
                go_wp2
                go_roundw
                case rel => exact ⟨m + 1, by omega, by go_num, HU2.out, below_drewN hbo _⟩
                case measure => simp [intOf]; omega
            · have Hbad := bx (show badOrd l = false by
                cases h : badOrd l
                · rfl
                · have := ordUpto_mono (k := l.length) (m := m + 1) (by omega) h
                  rw [HNO3.out] at this; cases this)
              go_wp2
              go_roundw
              case rel => exact ⟨k + 1, by omega, by go_num, by rw [Hs.out, HNO2.out, Hbad.out]; rfl, hbW⟩
              case measure => simp [intOf]; omega
        · obtain rfl : k = sh.length := by omega
          have HR2 := bx (show sh.any badOrd = false by have := HNO2.out; rwa [List.take_of_length_le (Nat.le_refl _)] at this)
          have HX2 := bx (HX.out.symm.trans (check_fine HD.out HR.out HR2.out))
          go_wp2
          go_ret
          exact ⟨ret_int HX2.out.symm, hb1.trans (hbr.mono hb1.size)⟩
end Go.Proofs.Ytgfmnolghbiedaa
