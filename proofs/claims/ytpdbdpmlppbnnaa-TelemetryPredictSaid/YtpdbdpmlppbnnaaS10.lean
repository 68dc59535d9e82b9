/-
  Walks of slices' stable sort: stable, SortStableFunc.
-/
import Derived.Test.YtpdbdpmlppbnnaaS9
namespace Go.Proofs.Ytpdbdpmlppbnnaa
open Go.RowKit Go.Shelf

theorem Good.pos {P : List Int} {a b : Nat} {l : List Nat} (h : Good P a l) (e : a = b) : Good P b l := e ▸ h
set_option maxHeartbeats 4000000 in
set_option maxRecDepth 10000 in
theorem stable_calls (lo g c n pb : Nat) (P : List Int) (w : World) (h : SR lo w g c n pb P (List.range' 0 n)) (hn : n ≤ 72057594037927936) :
    Calls Try.prog 78 #[.slice (some ⟨g, 0, none⟩) n c, .int .i64 n, .func (.func 49) #[] #[.pointer (some ⟨pb, 0, none⟩)]] w fun e w' =>
      e = .returned (.tuple #[]) ∧ (∃ d, Good P 0 d ∧ d.length = n ∧ SR lo w' g c n pb P d) ∧ w.grownBy w' (some g) := by
  have HH := bx h
  have HI := bx (fun (a b : Nat) (d : List Nat) (w : World) (h : SR lo w g c n pb P d) (hab : a ≤ b) (hb : b ≤ n) => insS_calls lo g c n pb a b P d w h hab hb (by omega))
  have HM := bx (fun (a m b : Nat) (X L R Y : List Nat) (w : World) => symM_calls lo g c n pb P (by omega) (b - a) a m b X L R Y w (Nat.le_refl _))
  clear h
  go_enter Try.func78, Try.ntmps78
  go_wp2_with fail
  go_loopw [7, 8] (fun va vb wr => ∃ (a : Nat) (X : List Nat), va = .int .i64 a ∧ vb = .int .i64 (a + 20 : Nat) ∧ a ≤ n ∧ X.length = a ∧ Pre P 20 X ∧ SR lo wr g c n pb P (X ++ List.range' a (n - a)) ∧ w.grownBy wr (some g)) (fun va _ _ => n - (intOf va).toNat)
  case atStart => exact ⟨0, [], rfl, rfl, Nat.zero_le _, rfl, .zero, by simpa using HH.out, grown_refl _ _⟩
  case round =>
    obtain ⟨a, X, rfl, rfl, han, hX, hP, hS, hG⟩ := hrel
    have HX := bx hX
    have HP := bx hP
    have HS := bx hS
    have HG := bx hG
    clear hX hP hS hG
    by_cases hlt : a + 20 ≤ n
    · have z1 : decide (((a + 20 : Nat) : Int) ≤ (n : Int)) = true := decide_eq_true (by omega)
      have HC := bx (HI.out a (a + 20) _ wr HS.out (by omega) hlt)
      have HG2 := bx (show ∃ l, insOut (ltN P) a (a + 20) (a + 1) (X ++ List.range' a (n - a)) = X ++ (l ++ List.range' (a + 20) (n - (a + 20))) ∧ Good P a l ∧ l.length = 20 by
        obtain ⟨l, h1, h2, h3⟩ := insOut_good (P := P) X (List.range' (a + 20) (n - (a + 20))) 20
        rw [HX.out] at h1 h2
        refine ⟨l, ?_, h2, h3⟩
        rw [← h1, List.range'_append_1]
        congr 3
        omega)
      go_wp2_with fail
      refine HC.out.mono ?_
      rintro e w1 ⟨rfl, h1, h2⟩
      obtain ⟨l, l1, l2, l3⟩ := HG2.out
      rw [l1] at h1
      have H1 := bx h1
      have H2 := bx h2
      have HL := bx (And.intro l2 l3)
      clear h1 h2 l1 l2 l3
      go_wp2_with fail
      go_roundw
      case rel => exact ⟨a + 20, X ++ l, rfl, by go_num, hlt, by rw [List.length_append, HX.out, HL.out.2], .step HP.out (HL.out.1.pos HX.out.symm) HL.out.2, by have := H1.out; rwa [List.append_assoc], HG.out.trans H2.out⟩
      case measure => simp [intOf]; omega
    · have z1 : decide (((a + 20 : Nat) : Int) ≤ (n : Int)) = false := decide_eq_false (by omega)
      have HC := bx (HI.out a n _ wr HS.out han (Nat.le_refl _))
      have HG2 := bx (show ∃ l, insOut (ltN P) a n (a + 1) (X ++ List.range' a (n - a)) = X ++ l ∧ Good P a l ∧ l.length = n - a by
        obtain ⟨l, h1, h2, h3⟩ := insOut_good (P := P) X [] (n - a)
        rw [HX.out] at h1 h2
        rw [show a + (n - a) = n by omega, List.append_nil] at h1
        exact ⟨l, by rw [h1, List.append_nil], h2, h3⟩)
      go_wp2_with fail
      refine HC.out.mono ?_
      rintro e w1 ⟨rfl, h1, h2⟩
      obtain ⟨l, l1, l2, l3⟩ := HG2.out
      rw [l1] at h1
      have hR : Runs P 20 0 (X ++ l) := HP.out.runs (by rw [HX.out]; exact .last l2 (by omega))
      have H1 := bx h1
      have H2 := bx (HG.out.trans h2)
      have HR := bx hR
      obtain ⟨d0, hd0⟩ : ∃ d, X ++ l = d := ⟨_, rfl⟩
      rw [hd0] at H1 HR
      clear h1 h2 l1 l2 l3 hR hd0 hlt han z1
      go_wp2_with fail
      go_loopw [6, 7, 8, 9] (fun vs _ _ _ wr => ∃ (bs : Nat) (d : List Nat), vs = .int .i64 bs ∧ 20 ≤ bs ∧ bs ≤ 2 * n + 20 ∧ Runs P bs 0 d ∧ SR lo wr g c n pb P d ∧ w.grownBy wr (some g)) (fun vs _ _ _ _ => n - (intOf vs).toNat)
      case atStart => exact ⟨20, d0, rfl, Nat.le_refl _, by omega, HR.out, H1.out, H2.out⟩
      case round =>
        obtain ⟨bs, d, rfl, h20, hbs, hR, hS, hG⟩ := hrel
        have HR2 := bx hR
        have HS2 := bx hS
        have HG3 := bx hG
        clear hR hS hG
        by_cases hbn : bs < n
        · have z1 : decide ((bs : Int) < (n : Int)) = true := decide_eq_true (by omega)
          obtain ⟨b2, hb2⟩ : ∃ b2, 2 * bs = b2 := ⟨_, rfl⟩
          have HB2 := bx hb2
          have e1 : IntKind.i64.wrap (2 * (bs : Int)) = (b2 : Int) := by rw [IntWalk.i64_in _ (by omega)]; omega
          have e2 : 2 * (bs : Int) = (b2 : Int) := by omega
          have e3 : IntKind.i64.wrap ((bs : Int) * 2) = (b2 : Int) := by rw [IntWalk.i64_in _ (by omega)]; omega
          have e4 : (bs : Int) * 2 = (b2 : Int) := by omega
          have hb2n : b2 ≤ 2 * n := by omega
          clear hb2
          go_wp2_with fail
          go_loopw [7, 8] (fun va vb wx => ∃ (a b : Nat) (X Y : List Nat), va = .int .i64 a ∧ vb = .int .i64 b ∧ a + b2 = b ∧ a ≤ n ∧ X.length = a ∧ Pre P b2 X ∧ Runs P bs a Y ∧ SR lo wx g c n pb P (X ++ Y) ∧ w.grownBy wx (some g)) (fun va _ _ => n - (intOf va).toNat)
          case atStart => exact ⟨0, b2, [], d, rfl, rfl, by omega, Nat.zero_le _, rfl, .zero, HR2.out, HS2.out, HG3.out⟩
          case round =>
            obtain ⟨a, b, X, Y, rfl, rfl, hb, han, hX, hP, hR, hS, hG⟩ := hrel
            have HBB := bx hb
            obtain ⟨m, hm⟩ : ∃ m, a + bs = m := ⟨_, rfl⟩
            have HMM := bx hm
            have HX := bx hX
            have HP := bx hP
            have HR4 := bx hR
            have HS4 := bx hS
            have HG4 := bx hG
            have HYL := bx (show a + Y.length = n by have := hS.len; rw [List.length_append] at this; omega)
            have ea : IntKind.i64.wrap ((a : Int) + (bs : Int)) = (m : Int) := by rw [IntWalk.i64_in _ (by omega)]; omega
            have ea2 : (a : Int) + (bs : Int) = (m : Int) := by omega
            clear hX hP hR hS hG hb hm
            by_cases hlt : b ≤ n
            · have z2 : decide ((b : Int) ≤ (n : Int)) = true := decide_eq_true (by omega)
              obtain ⟨L, R, T, hY, g1, g2, g3, g4, g5⟩ := HR4.out.two (by omega) (by have := HYL.out; have := HB2.out; have := HBB.out; omega)
              subst hY
              have HGG := bx (And.intro (And.intro g1 g2) (And.intro g3 g4))
              have HT := bx (show Runs P bs b T by have := g5; rwa [HB2.out, HBB.out] at this)
              have HC := bx (HM.out a m b X L R T wr HS4.out HX.out (by have := HMM.out; omega) (by have := HB2.out; have := HBB.out; have := HMM.out; omega) (by omega) (by omega) g1.srt g3.srt (good_sep g1 (by rw [g2]; exact g3)))
              obtain ⟨b', hb'⟩ : ∃ b', b + b2 = b' := ⟨_, rfl⟩
              have HB' := bx hb'
              have eb : IntKind.i64.wrap ((b : Int) + (b2 : Int)) = (b' : Int) := by rw [IntWalk.i64_in _ (by omega)]; omega
              have eb2 : (b : Int) + (b2 : Int) = (b' : Int) := by omega
              have hba : a < b := by have := HBB.out; omega
              clear g1 g2 g3 g4 g5 hb'
              go_wp2_with fail
              refine HC.out.mono ?_
              rintro e w2 ⟨rfl, ⟨M, m1, m2, m3⟩, m4⟩
              have HM1 := bx (good_join HGG.out.1.1 (by rw [HGG.out.1.2]; exact HGG.out.2.1) m1 m2)
              have HML := bx (show M.length = b2 by have := m2.length_eq; rw [List.length_append] at this; have := HGG.out; have := HB2.out; omega)
              have HM3 := bx m3
              have HM4 := bx m4
              clear m1 m2 m3 m4
              go_wp2_with fail
              go_roundw
              case rel => exact ⟨b, b', X ++ M, T, rfl, rfl, HB'.out, hlt, by rw [List.length_append, HX.out, HML.out]; exact HBB.out, .step HP.out (HM1.out.pos HX.out.symm) HML.out, HT.out, by have := HM3.out; rwa [List.append_assoc], HG4.out.trans HM4.out⟩
              case measure => simp [intOf]; omega
            · have z2 : decide ((b : Int) ≤ (n : Int)) = false := decide_eq_false (by omega)
              by_cases hmn : m < n
              · have z3 : decide ((m : Int) < (n : Int)) = true := decide_eq_true (by omega)
                obtain ⟨L, R, hY, g1, g2, g3⟩ := HR4.out.one (by have := HYL.out; have := HMM.out; omega) (by have := HYL.out; have := HB2.out; have := HBB.out; omega)
                subst hY
                have HGG := bx (And.intro (And.intro g1 g2) g3)
                have hRl : R.length + m = n := by have := HYL.out; have := HMM.out; rw [List.length_append] at *; omega
                have HC := bx (HM.out a m n X L R [] wr (by have := HS4.out; simpa using this) HX.out (by have := HMM.out; omega) (by omega) (by omega) (by omega) g1.srt g3.srt (good_sep g1 (by rw [g2]; exact g3)))
                have HRL := bx hRl
                clear g1 g2 g3 hRl
                go_wp2_with fail
                refine HC.out.mono ?_
                rintro e w2 ⟨rfl, ⟨M, m1, m2, m3⟩, m4⟩
                have HM1 := bx (good_join HGG.out.1.1 (by rw [HGG.out.1.2]; exact HGG.out.2) m1 m2)
                have HML := bx (show M.length < b2 by have := m2.length_eq; rw [List.length_append] at this; have := HGG.out; have := HB2.out; have := HRL.out; have := HMM.out; have := HBB.out; omega)
                have HM3 := bx m3
                have HM4 := bx m4
                clear m1 m2 m3 m4
                go_wp2_with fail
                go_roundw
                case rel => exact ⟨b2, X ++ M, rfl, by omega, by omega, HP.out.runs (by rw [HX.out]; exact .last HM1.out HML.out), by have := HM3.out; rwa [List.append_nil] at this, HG4.out.trans HM4.out⟩
                case measure => simp [intOf]; have := HB2.out; omega
              · have z3 : decide ((m : Int) < (n : Int)) = false := decide_eq_false (by omega)
                have HGS := bx (HR4.out.small (by have := HYL.out; have := HMM.out; omega))
                have HYB := bx (show Y.length < b2 by have := HYL.out; have := HB2.out; have := HBB.out; omega)
                go_wp2_with fail
                go_roundw
                case rel => exact ⟨b2, X ++ Y, rfl, by omega, by omega, HP.out.runs (by rw [HX.out]; exact .last HGS.out HYB.out), HS4.out, HG4.out⟩
                case measure => simp [intOf]; have := HB2.out; omega
        · have z1 : decide ((bs : Int) < (n : Int)) = false := decide_eq_false (by omega)
          go_wp2_with fail
          go_end0
          exact ⟨rfl, ⟨d, HR2.out.small (by rw [HS2.out.len]; omega), HS2.out.len, HS2.out⟩, HG3.out⟩
theorem sortStable_calls (lo g c n pb : Nat) (P : List Int) (w : World) (h : SR lo w g c n pb P (List.range' 0 n)) (hn : n ≤ 72057594037927936) :
    Calls Try.prog 48 #[.slice (some ⟨g, 0, none⟩) n c, .func (.func 49) #[] #[.pointer (some ⟨pb, 0, none⟩)]] w fun e w' =>
      e = .returned (.tuple #[]) ∧ (∃ d, Good P 0 d ∧ d.length = n ∧ SR lo w' g c n pb P d) ∧ w.grownBy w' (some g) := by
  have HI := bx (stable_calls lo g c n pb P w h hn)
  clear h
  go_enter Try.func48, Try.ntmps48
  go_wp2_with fail
  refine HI.out.mono ?_
  rintro e w1 ⟨rfl, h1, h2⟩
  go_wp2
  go_end0
  exact ⟨rfl, h1, h2⟩
end Go.Proofs.Ytpdbdpmlppbnnaa
