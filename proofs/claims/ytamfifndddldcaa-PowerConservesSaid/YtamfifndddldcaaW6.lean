/-
  Walks of layer 10's specification: End, Gain, Reserve; the law's greatest need.
-/
import Derived.Test.YtamfifndddldcaaW5
namespace Go.Proofs.Ytamfifndddldcaa
open Go.RowKit Go.Shelf

theorem refEnd_calls (A : Option Addr) (cap : Nat) (t : List Wn) (w : World) (h : Wins w (.slice A t.length cap) t) (hm : t.length ≤ 1000000) (x : Int) (hx : endT t = x) :
    Calls Try.prog 27 #[.slice A t.length cap] w fun e w' => e = .returned (.int .i64 x) ∧ w' = w := by
  have HX := bx hx
  have H := bx h
  clear h hx
  go_enter Try.func27, Try.ntmps27
  go_wp2
  go_loopw [3, 4] (fun v3 v4 wr => ∃ k : Nat, k ≤ t.length ∧ v4 = .int .i64 k ∧ v3 = .int .i64 (endT (t.take k)) ∧ wr = w) (fun _ v4 _ => t.length - (intOf v4).toNat)
  case atStart => exact ⟨0, by omega, rfl, by simp [endT], rfl⟩
  case round =>
    obtain ⟨k, hk, rfl, rfl, rfl⟩ := hrel
    by_cases hlt : k < t.length
    · obtain ⟨b, off, rfl, hb, c0, c1, c2, c3, c4, c5⟩ := wins_at H.out hlt
      have HE := bx (endT_take t k hlt)
      have d1 : decide ((k : Int) < (t.length : Int)) = true := decide_eq_true (by omega)
      generalize endT (t.take k) = E0 at *
      obtain ⟨Y, hY⟩ : ∃ Y, t[k] = Y := ⟨_, rfl⟩
      rw [hY] at c0 c1 c2 c3 c4 c5 HE
      obtain ⟨y0, y1, y2, y3, y4, y5⟩ := Y
      simp only at c0 c1 c2 c3 c4 c5 HE
      clear hY
      go_wp2
      go_roundw
      case rel => exact ⟨k + 1, by omega, by go_num, by rw [HE.out]; congr 1; split <;> omega, trivial⟩
      case measure => simp [intOf]; omega
    · obtain rfl : k = t.length := by omega
      rw [List.take_length] at *
      rw [HX.out]
      go_wp2
      go_ret
      exact ⟨rfl, rfl⟩
theorem any_take_succ {c k : Int} {t : List Wn} {i : Nat} (hi : i < t.length) : (t.take (i + 1)).any (hits c k) = ((t.take i).any (hits c k) || hits c k t[i]) := by
  rw [List.take_succ_eq_append_getElem hi, List.any_append]
  simp
theorem gainT_hit {t : List Wn} {c s k : Int} {i : Nat} (hi : i < t.length) (h : hits c k t[i] = true) : gainT t c s k = 0 := by
  unfold gainT
  rw [if_pos]
  exact List.any_eq_true.2 ⟨_, List.getElem_mem hi, h⟩
theorem refGain_calls (A : Option Addr) (cap : Nat) (t : List Wn) (c k s : Int) (w : World) (h : Wins w (.slice A t.length cap) t) (hm : t.length ≤ 1000000) (x : Int) (hx : gainT t c s k = x) :
    Calls Try.prog 41 #[.slice A t.length cap, .int .i64 c, .int .i64 k, .int .i64 s] w fun e w' => e = .returned (.int .i64 x) ∧ w' = w := by
  have HX := bx hx
  have H := bx h
  clear h hx
  go_enter Try.func41, Try.ntmps41
  go_wp2
  go_loopw [9] (fun v9 wr => ∃ i : Nat, i ≤ t.length ∧ v9 = .int .i64 i ∧ (t.take i).any (hits c k) = false ∧ wr = w) (fun v9 _ => t.length - (intOf v9).toNat)
  case atStart => exact ⟨0, by omega, rfl, by simp, rfl⟩
  case round =>
    obtain ⟨i, hk, rfl, hn, rfl⟩ := hrel
    by_cases hlt : i < t.length
    · obtain ⟨b, off, rfl, hb, c0, c1, c2, c3, c4, c5⟩ := wins_at H.out hlt
      have d1 : decide ((i : Int) < (t.length : Int)) = true := decide_eq_true (by omega)
      have h1 := any_take_succ (c := c) (k := k) hlt
      have h2 := @gainT_hit t c s k i hlt
      rw [hn, Bool.false_or] at h1
      obtain ⟨Y, hY⟩ : ∃ Y, t[i] = Y := ⟨_, rfl⟩
      rw [hY] at c0 c1 c2 c3 c4 c5 h1 h2
      obtain ⟨y0, y1, y2, y3, y4, y5⟩ := Y
      simp only at c0 c1 c2 c3 c4 c5
      have HN := bx hn
      clear hY hn
      by_cases hh : hits c k ⟨y0, y1, y2, y3, y4, y5⟩ = true
      · have h3 := h2 hh
        rw [HX.out] at h3
        subst h3
        obtain ⟨e0, e1, e2, e3⟩ := hits_iff.1 hh
        simp only at e0 e1 e2 e3
        subst e0 e1
        have d2 : decide (y3 ≤ k) = true := decide_eq_true e2
        have d3 : decide (k < y4) = true := decide_eq_true e3
        clear h1 h2 hh
        go_wp2
        go_ret
        exact ⟨rfl, rfl⟩
      · rw [Bool.not_eq_true] at hh
        rw [hh] at h1
        have H1 := bx h1
        have hx : y0 ≠ 3 ∨ y1 ≠ c ∨ k < y3 ∨ y4 ≤ k := by
          have : ¬ (y0 = 3 ∧ y1 = c ∧ y3 ≤ k ∧ k < y4) := fun h4 => by
            have := hits_iff.2 (show (Wn.mk y0 y1 y2 y3 y4 y5).k = 3 ∧ _ from h4)
            rw [hh] at this
            cases this
          omega
        clear h1 h2 hh
        by_cases k0 : y0 = 3
        case neg =>
          have e0 : (y0 == 3) = false := by simpa using k0
          go_wp2
          go_roundw
          case rel => exact ⟨i + 1, by omega, by go_num, H1.out, trivial⟩
          case measure => simp [intOf]; omega
        subst k0
        by_cases k1 : y1 = c
        case neg =>
          have e1 : (y1 == c) = false := by simpa using k1
          go_wp2
          go_roundw
          case rel => exact ⟨i + 1, by omega, by go_num, H1.out, trivial⟩
          case measure => simp [intOf]; omega
        subst k1
        by_cases k2 : y3 ≤ k
        case neg =>
          have e1 : decide (y3 ≤ k) = false := decide_eq_false k2
          go_wp2
          go_roundw
          case rel => exact ⟨i + 1, by omega, by go_num, H1.out, trivial⟩
          case measure => simp [intOf]; omega
        have e1 : decide (y3 ≤ k) = true := decide_eq_true k2
        have e2 : decide (k < y4) = false := decide_eq_false (by omega)
        go_wp2
        go_roundw
        case rel => exact ⟨i + 1, by omega, by go_num, H1.out, trivial⟩
        case measure => simp [intOf]; omega
    · obtain rfl : i = t.length := by omega
      rw [List.take_length] at hn
      have h3 : gainT t c s k = s := by unfold gainT; rw [hn]; rfl
      rw [HX.out] at h3
      subst h3
      clear hn
      go_wp2
      go_ret
      exact ⟨rfl, rfl⟩
theorem gainT_bd (t : List Wn) (c s k : Int) (hs : 0 ≤ s) : 0 ≤ gainT t c s k ∧ gainT t c s k ≤ s := by unfold gainT; split <;> omega
theorem needN_le (g : Int → Int) (e : Int) (hg : ∀ k, 0 ≤ g k) (he : 0 ≤ e) : ∀ n k, needN g e n k ≤ n * e := by
  intro n
  induction n with
  | zero => intro k; simp [needN]
  | succ n ih =>
    intro k
    have h1 := ih (k + 1)
    have h2 := hg k
    have h3 : 0 ≤ (n : Int) * e := Int.mul_nonneg (by omega) he
    rw [needN_succ, show ((n + 1 : Nat) : Int) * e = n * e + e by rw [Int.natCast_add, Int.add_mul]; simp]
    generalize (n : Int) * e = p at *
    omega
theorem needN_bd (g : Int → Int) (e : Int) (hg : ∀ k, 0 ≤ g k) (he : 0 ≤ e ∧ e ≤ 10000000) (n : Nat) (k : Int) (hn : n ≤ 4000000) : 0 ≤ needN g e n k ∧ needN g e n k ≤ 40000000000000 := by
  have h1 := needN_nonneg g e n k
  have h2 := needN_le g e hg he.1 n k
  have h3 := prod_bd (n := (n : Int)) (a := e) (N := 4000000) (M := 10000000) (by omega) (by omega) (by omega) (by omega) (by omega)
  omega
/-- the need at a tick -/
def needT (t : List Wn) (c k e s : Int) : Int := needN (gainT t c s) e (endT t - k).toNat k
set_option maxHeartbeats 1000000 in
theorem refReserve_calls (A : Option Addr) (cap : Nat) (t : List Wn) (c fr e s : Int) (w : World) (h : Wins w (.slice A t.length cap) t) (hm : t.length ≤ 1000)
    (hfr : 0 ≤ fr ∧ fr ≤ 2000000) (he : 0 ≤ e ∧ e ≤ 10000000) (hs : 0 ≤ s ∧ s ≤ 10000000) (hw : ∀ x ∈ t, 0 ≤ x.f ∧ x.f < x.u ∧ x.u ≤ 2000000) (q : Int) (hq : needT t c fr e s = q) :
    Calls Try.prog 25 #[.slice A t.length cap, .int .i64 c, .int .i64 fr, .int .i64 e, .int .i64 s] w fun r w' => r = .returned (.int .i64 q) ∧ w' = w := by
  have hun := endT_bd t hw
  unfold needT at hq
  obtain ⟨un, hu⟩ : ∃ un, endT t = un := ⟨_, rfl⟩
  rw [hu] at hq hun
  have HE := bx (refEnd_calls A cap t w h (by omega) un hu)
  have HQ := bx hq
  have HG := bx (fun k x hx => refGain_calls A cap t c k s w h (by omega) x hx)
  clear h hq hu
  obtain ⟨g, hg⟩ : ∃ g, gainT t c s = g := ⟨_, rfl⟩
  have hgb := fun k => gainT_bd t c s k hs.1
  rw [hg] at HQ HG
  simp only [hg] at hgb
  have HGB := bx hgb
  clear hg hgb
  go_enter Try.func25, Try.ntmps25
  go_wp2_with fail
  refine HE.out.mono ?_
  rintro e1 w1 ⟨rfl, rfl⟩
  go_wp2
  go_loopw [11, 12] (fun v11 v12 wr => ∃ m : Nat, m ≤ (un - fr).toNat ∧ v12 = .int .i64 (un - 1 - m) ∧ v11 = .int .i64 (needN g e m (un - m)) ∧ wr = w1) (fun _ v12 _ => (intOf v12 + 1 - fr).toNat)
  case atStart => exact ⟨0, by omega, by first | rfl | (congr 1; omega), by simp [needN], rfl⟩
  case round =>
    obtain ⟨m, hk, rfl, rfl, rfl⟩ := hrel
    have hb := needN_bd g e (fun k => (HGB.out k).1) he m (un - m) (by omega)
    by_cases hlt : fr ≤ un - 1 - m
    · have hsu := needN_succ g e m (un - 1 - m)
      rw [show un - 1 - (m : Int) + 1 = un - m by omega] at hsu
      obtain ⟨z, hz⟩ : ∃ z, needN g e m (un - m) = z := ⟨_, rfl⟩
      obtain ⟨y, hy⟩ : ∃ y, g (un - 1 - m) = y := ⟨_, rfl⟩
      have hyb := HGB.out (un - 1 - m)
      have HC := bx (HG.out (un - 1 - m) y hy)
      rw [hz] at hsu hb
      rw [hy] at hsu hyb
      have HSu := bx hsu
      clear hsu hy
      have d1 : decide (fr ≤ un - 1 - (m : Int)) = true := decide_eq_true hlt
      go_wp2_with fail
      refine HC.out.mono ?_
      rintro e2 w2 ⟨rfl, rfl⟩
      by_cases h0 : 0 < z + e - y
      · rw [show max 0 (z + e - y) = z + e - y by omega] at HSu
        go_wp2
        go_roundw
        case rel => exact ⟨m + 1, by omega, by first | rfl | (congr 1; omega), by rw [show un - ((m + 1 : Nat) : Int) = un - 1 - m by omega, HSu.out], trivial⟩
        case measure => simp [intOf]; omega
      · rw [show max 0 (z + e - y) = 0 by omega] at HSu
        go_wp2
        go_roundw
        case rel => exact ⟨m + 1, by omega, by first | rfl | (congr 1; omega), by rw [show un - ((m + 1 : Nat) : Int) = un - 1 - m by omega, HSu.out], trivial⟩
        case measure => simp [intOf]; omega
    · have d1 : decide (fr ≤ un - 1 - (m : Int)) = false := decide_eq_false hlt
      obtain ⟨z, hz⟩ : ∃ z, needN g e m (un - m) = z := ⟨_, rfl⟩
      have hq2 : z = q := by
        rw [← hz, ← HQ.out]
        by_cases h0 : m = 0
        · subst h0
          have : (un - fr).toNat = 0 := by omega
          rw [this]
          rfl
        · have e1 : (un - fr).toNat = m := by omega
          rw [e1]
          congr 1
          omega
      subst hq2
      go_wp2
      go_ret
      exact ⟨rfl, rfl⟩
/-- a valid table -/
structure Tab (t : List Wn) : Prop where
  len : t.length ≤ 1000
  bd : ∀ x ∈ t, 0 ≤ x.f ∧ x.f < x.u ∧ x.u ≤ 2000000
  srt : t.Pairwise (fun x y => x.f ≤ y.f)
theorem Tab.need {t : List Wn} (h : Tab t) (c fr e s : Int) : needS e (strs c (endT t) s t fr) = needT t c fr e s :=
  needS_eq _ e _ _ _ (strs_tiles c (endT t) s t t [] fr rfl h.srt (fun x hx => (h.bd x hx).2.1) (by simp))
/-- does a battery survive? -/
def survT (t : List Wn) (c fr un e s C ch : Int) : Bool := survN (gainT t c s) C e (un - fr).toNat fr ch
theorem Tab.surv {t : List Wn} (h : Tab t) (c fr un e s C ch : Int) : survS C e (strs c un s t fr) ch = survT t c fr un e s C ch :=
  survS_eq _ C e _ _ _ _ (strs_tiles c un s t t [] fr rfl h.srt (fun x hx => (h.bd x hx).2.1) (by simp))
theorem need_calls (A : Option Addr) (cap : Nat) (t : List Wn) (c fr e s : Int) (w : World) (h : Wins w (.slice A t.length cap) t) (ht : Tab t) (hfr : 0 ≤ fr ∧ fr ≤ 2000000) (he : 0 ≤ e ∧ e ≤ 10000000) (hs : 0 ≤ s ∧ s ≤ 10000000) (q : Int) (hq : needT t c fr e s = q) :
    Calls Try.prog 24 #[.slice A t.length cap, .int .i64 c, .int .i64 fr, .int .i64 e, .int .i64 s] w fun r w' => r = .returned (.int .i64 q) ∧ From w w' :=
  reserve_calls A cap t c fr e s w h ht.len hfr he hs ht.bd q ((ht.need c fr e s).trans hq)
theorem surv_calls (C ch re : Int) (A : Option Addr) (cap : Nat) (t : List Wn) (c fr un e s : Int) (w : World) (h : Wins w (.slice A t.length cap) t) (ht : Tab t) (hC : 0 ≤ C ∧ C ≤ 1000000000000) (hch : 0 ≤ ch ∧ ch ≤ C)
    (hfr : 0 ≤ fr ∧ fr ≤ 2000000) (hun : 0 ≤ un ∧ un ≤ 2000000) (he : 0 ≤ e ∧ e ≤ 10000000) (hs : 0 ≤ s ∧ s ≤ 10000000) (b : Bool) (hb : survT t c fr un e s C ch = b) :
    Calls Try.prog 29 #[.agg #[.int .i64 C, .int .i64 ch, .int .i64 re], .slice A t.length cap, .int .i64 c, .int .i64 fr, .int .i64 un, .int .i64 e, .int .i64 s] w fun r w' => r = .returned (.bool b) ∧ From w w' :=
  survives_calls C ch re A cap t c fr un e s w h (by have := ht.len; omega) hC hch hfr hun he hs ht.bd b ((ht.surv c fr un e s C ch).trans hb)
/-- the greatest need of n ticks from k on -/
def mostN (f : Int → Int) (k : Int) : Nat → Int
  | 0 => 0
  | n + 1 => max (mostN f k n) (f (k + n))
def mostT (t : List Wn) (c k e s : Int) : Int := mostN (fun j => needT t c j e s) (k + 1) (endT t - (k + 1)).toNat
theorem mostN_nonneg (f : Int → Int) (k : Int) : ∀ n, 0 ≤ mostN f k n := by
  intro n
  induction n with
  | zero => exact Int.le_refl _
  | succ n ih => unfold mostN; omega
theorem needT_bd (t : List Wn) (ht : Tab t) (c k e s : Int) (hk : 0 ≤ k) (he : 0 ≤ e ∧ e ≤ 10000000) (hs : 0 ≤ s) : 0 ≤ needT t c k e s ∧ needT t c k e s ≤ 40000000000000 := by
  have := endT_bd t ht.bd
  exact needN_bd _ e (fun j => (gainT_bd t c s j hs).1) he _ _ (by omega)
theorem greatest_calls (A : Option Addr) (cap : Nat) (t : List Wn) (c k e s : Int) (w : World) (h : Wins w (.slice A t.length cap) t) (ht : Tab t) (hk : 0 ≤ k ∧ k ≤ 1000000) (he : 0 ≤ e ∧ e ≤ 10000000) (hs : 0 ≤ s ∧ s ≤ 10000000) (q : Int) (hq : mostT t c k e s = q) :
    Calls Try.prog 28 #[.slice A t.length cap, .int .i64 c, .int .i64 k, .int .i64 e, .int .i64 s] w fun r w' => r = .returned (.int .i64 q) ∧ From w w' := by
  have hun := endT_bd t ht.bd
  unfold mostT at hq
  obtain ⟨un, hu⟩ : ∃ un, endT t = un := ⟨_, rfl⟩
  rw [hu] at hq hun
  have HE := bx (fun W (hW : From w W) => refEnd_calls A cap t W (h.from hW) (by have := ht.len; omega) un hu)
  have HQ := bx hq
  have HR := bx (fun W (hW : From w W) j (hj : 0 ≤ j ∧ j ≤ 2000000) x hx => need_calls A cap t c j e s W (h.from hW) ht hj he hs x hx)
  have HB := bx (fun j (hj : 0 ≤ j) => needT_bd t ht c j e s hj he hs.1)
  clear h hq hu ht
  obtain ⟨f, hF⟩ : ∃ f : Int → Int, ∀ j, needT t c j e s = f j := ⟨_, fun _ => rfl⟩
  simp only [hF] at HR HB HQ
  clear hF
  go_enter Try.func28, Try.ntmps28
  go_wp2_with fail
  go_loopw [11, 12] (fun v11 v12 wr => ∃ m : Nat, m ≤ (un - (k + 1)).toNat ∧ v12 = .int .i64 (k + 1 + m) ∧ v11 = .int .i64 (mostN f (k + 1) m) ∧ From w wr) (fun _ v12 _ => (un - intOf v12).toNat)
  case atStart => exact ⟨0, by omega, by first | rfl | (congr 1; omega), by simp [mostN], From.refl _⟩
  case round =>
    obtain ⟨m, hm, rfl, rfl, hf⟩ := hrel
    obtain ⟨z, hz⟩ : ∃ z, mostN f (k + 1) m = z := ⟨_, rfl⟩
    go_wp2_with fail
    refine (HE.out wr hf).mono ?_
    rintro e1 w1 ⟨rfl, rfl⟩
    by_cases hlt : k + 1 + (m : Int) < un
    · obtain ⟨y, hy⟩ : ∃ y, f (k + 1 + m) = y := ⟨_, rfl⟩
      have hyb := HB.out (k + 1 + m) (by omega)
      have hsu : mostN f (k + 1) (m + 1) = max z y := by rw [← hz, ← hy]; rfl
      rw [hy] at hyb
      have HC := bx (HR.out w1 hf (k + 1 + m) (by omega) y hy)
      have HSu := bx hsu
      clear hy hsu
      have d1 : decide (k + 1 + (m : Int) < un) = true := decide_eq_true hlt
      go_wp2_with fail
      refine HC.out.mono ?_
      rintro e2 w2 ⟨rfl, hf2⟩
      by_cases h0 : z < y
      · rw [show max z y = y by omega] at HSu
        go_wp2
        go_roundw
        case rel => exact ⟨m + 1, by omega, by first | rfl | (congr 1; omega), by rw [HSu.out], hf.trans hf2⟩
        case measure => simp [intOf]; omega
      · rw [show max z y = z by omega] at HSu
        go_wp2
        go_roundw
        case rel => exact ⟨m + 1, by omega, by first | rfl | (congr 1; omega), by rw [HSu.out], hf.trans hf2⟩
        case measure => simp [intOf]; omega
    · have d1 : decide (k + 1 + (m : Int) < un) = false := decide_eq_false hlt
      have hq2 : z = q := by
        rw [← hz, ← HQ.out]
        congr 1
        omega
      subst hq2
      go_wp2
      go_ret
      exact ⟨rfl, hf⟩
end Go.Proofs.Ytamfifndddldcaa
