/-
  For all zones made from numbers and up to 60 ticks of at most some heat in surroundings that are never warmer than stated, the law MonitorMargin returns true, and its arguments read as before. No condition.
-/
import Derived.Test.YtlogokjjphlkkaaW31
import Derived.Test.YtlogokjjphlkkaaR7
namespace Go.Proofs.Ytlogokjjphlkkaa
open Go.ChangeShapes Go.WideShapes Go.ChangeAt Go.RowKit Go.Deep Go.Shelf

theorem nextT_mono {k s s' h h' t t' : Int} (hk : 1 ≤ k) (ht : t ≤ t') (hh : h ≤ h') (hs : s ≤ s') : nextT k s h t ≤ nextT k s' h' t' := by
  unfold nextT
  apply lim_mono
  have h1 := Int.mul_ediv_add_emod (t - s) k
  have h2 := Int.emod_nonneg (t - s) (show k ≠ 0 by omega)
  have h3 := Int.emod_lt_of_pos (t - s) (show 0 < k by omega)
  have h4 := Int.mul_ediv_add_emod (t' - s') k
  have h5 := Int.emod_nonneg (t' - s') (show k ≠ 0 by omega)
  have h6 := Int.emod_lt_of_pos (t' - s') (show 0 < k by omega)
  -- (t' - s')/k - (t - s)/k ≤ t' - t
  have key : (t' - s') / k ≤ (t - s) / k + (t' - t) := by
    have e1 : (t' - s') / k ≤ ((t - s) + (t' - t) * k) / k := by
      apply Int.ediv_le_ediv (by omega)
      have : (t' - t) * k ≥ (t' - t) * 1 := Int.mul_le_mul_of_nonneg_left hk (by omega)
      omega
    rw [Int.add_mul_ediv_right _ _ (by omega)] at e1
    exact e1
  omega
/-- the monitor of the law: quiet, its past without an outside -/
structure Quiet (m : Mon) (hi : Int) : Prop where
  low : m.low = -1000000
  high : m.high = hi
  need : 1 ≤ m.need
  raised : m.raised = false
  past : trues m.past = 0
  small : m.past.length ≤ 16
  of : 1 ≤ m.of ∧ m.of ≤ 16
  le : (m.past.length : Int) ≤ m.of
theorem trues_drop (l : List Bool) (n : Nat) (h : trues l = 0) : trues (l.drop n) = 0 := by
  have h2 := trues_append (l.take n) (l.drop n)
  rw [List.take_append_drop] at h2
  omega
theorem Quiet.step {m : Mon} {hi v : Int} (h : Quiet m hi) (h1 : -1000000 ≤ v) (h2 : v ≤ hi) : Quiet (stepM m v) hi ∧ upM m v = false ∧ dnM m v = false := by
  have ho : outB m v = false := by
    unfold outB
    rw [h.low, h.high]
    simp only [Bool.or_eq_false_iff, decide_eq_false_iff_not]
    omega
  have hp : trues (pushP m.past m.of (outB m v)) = 0 := by
    have h3 : trues (m.past ++ [false]) = 0 := by rw [trues_append, h.past]; rfl
    rw [ho]
    unfold pushP
    split
    · exact trues_drop _ _ h3
    · exact h3
  have hu : upM m v = false := by
    unfold upM
    rw [hp, h.raised]
    have := h.need
    simp only [Bool.not_false, Bool.true_and, decide_eq_false_iff_not]
    omega
  have hd : dnM m v = false := by
    unfold dnM
    rw [h.raised]
    rfl
  have hl : ((pushP m.past m.of (outB m v)).length : Int) ≤ m.of := by
    have := h.le
    have := h.of
    unfold pushP
    split
    · simp; omega
    · simp; omega
  have hof := h.of
  refine ⟨⟨h.low, h.high, h.need, ?_, hp, ?_, h.of, hl⟩, hu, hd⟩
  · show (if upM m v || dnM m v then upM m v else m.raised) = false
    rw [hu, hd]
    exact h.raised
  · have : ((stepM m v).past.length : Int) ≤ m.of := hl
    omega
/-- the temperatures under any heat and space stay below those under the greatest -/
theorem below_pkT {k s h t x : Int} (hk : 1 ≤ k) {n : Nat} (hx : x ≤ itT k s h t n) {h' s' : Int} (h1 : h' ≤ h) (h2 : s' ≤ s) : nextT k s' h' x ≤ itT k s h t (n + 1) := nextT_mono hk hx h1 h2
theorem Z1.set8 {w : World} {v : Value} {t l k : Int} (h : Z1 w v t l k) {r : Nat} (hb : ∀ b off c, v = .slice (some ⟨b, off, none⟩) 1 c → b ≠ r) (m : Mon) (u : Value) : Z1 (Go.Proofs.Ytlogokjjphlkkaa.set8 w r m u) v t l k := by
  obtain ⟨b, off, c, e, hc, h1, h2, h3⟩ := h.out
  have hne := hb b off c e
  exact ⟨b, off, c, e, hc, cell_set8_off h1 hne _ _, cell_set8_off h2 hne _ _, cell_set8_off h3 hne _ _⟩
theorem MonC.lowhigh {W : World} {r : Nat} {m : Mon} {v : Value} (h : MonC W r m v) (x : Int) : MonC (W.setCell ⟨r, 1, none⟩ (.int .i64 x)) r { m with low := x } v := ⟨heap_set_at h.out 1 _⟩
theorem MonC.high {W : World} {r : Nat} {m : Mon} {v : Value} (h : MonC W r m v) (x : Int) : MonC (W.setCell ⟨r, 2, none⟩ (.int .i64 x)) r { m with high := x } v := ⟨heap_set_at h.out 2 _⟩
set_option maxRecDepth 100000 in
set_option maxHeartbeats 16000000 in
theorem mrg_walk (A0 : Option Addr) (c0 : Nat) (l : List Int) (AZ : Option Addr) (cZ : Nat) (zl : List Int) (mo sp : Int) (AC : Option Addr) (cC : Nat) (cs : List (Int × Int)) (w : World)
    (h : Ints w (.slice A0 l.length c0) l) (_ : l.length ≤ 9223372036854775807) (hx : ∀ x ∈ l, -9223372036854775808 ≤ x ∧ x ≤ 9223372036854775807)
    (hz : Ints w (.slice AZ zl.length cZ) zl) (_ : zl.length ≤ 9223372036854775807) (hzx : ∀ x ∈ zl, -9223372036854775808 ≤ x ∧ x ≤ 9223372036854775807)
    (u1 : -9223372036854775808 ≤ mo) (u2 : mo ≤ 9223372036854775807) (u3 : -9223372036854775808 ≤ sp) (u4 : sp ≤ 9223372036854775807)
    (hc : Prs w AC cs) (_ : cs.length ≤ 9223372036854775807) :
    Calls Try.prog 19 #[.slice A0 l.length c0, .slice AZ zl.length cZ, .int .i64 mo, .int .i64 sp, .slice AC cs.length cC] w fun e w' => e = .returned (.bool true) ∧ Below w.heap.size w w' := by
  obtain ⟨m0, hm0⟩ : ∃ m, makeM l = m := ⟨_, rfl⟩
  have hg : GoodM m0 := by rw [← hm0]; exact makeM_good l
  have hp : m0.past = [] := by rw [← hm0]; rfl
  have hrs : m0.raised = false := by rw [← hm0]; rfl
  obtain ⟨n, hmin, hn60, hnc⟩ : ∃ n : Nat, min (cs.length : Int) 60 = (n : Int) ∧ n ≤ 60 ∧ n ≤ cs.length := ⟨min cs.length 60, by omega, by omega, by omega⟩
  obtain ⟨heat, hheat⟩ : ∃ z, boundI mo 1000000 = z := ⟨_, rfl⟩
  obtain ⟨space, hspace⟩ : ∃ z, boundI sp 1000000 = z := ⟨_, rfl⟩
  have hb1 : -1000000 ≤ heat ∧ heat ≤ 1000000 := by rw [← hheat]; exact bound_bd mo 1000000 (by omega)
  have hb2 : -1000000 ≤ space ∧ space ≤ 1000000 := by rw [← hspace]; exact bound_bd sp 1000000 (by omega)
  have HMK := bx (fun (W : World) (k : From w W) => makeM_calls A0 c0 l W (h.from k) hx m0 hm0)
  have HZC := bx (zones_calls AZ cZ zl w hz hzx)
  have HBM := bx (fun (W : World) => (show Calls Try.prog 72 #[.int .i64 mo, .int .i64 1000000] W _ from by have := bound_calls mo 1000000 W u1 u2 (by omega) (by omega); rwa [hheat] at this))
  have HBS := bx (fun (W : World) => (show Calls Try.prog 72 #[.int .i64 sp, .int .i64 1000000] W _ from by have := bound_calls sp 1000000 W u3 u4 (by omega) (by omega); rwa [hspace] at this))
  have HC := bx hc
  have HG := bx hg
  have HP := bx hp
  have HRS := bx hrs
  have HB1 := bx hb1
  have HB2 := bx hb2
  clear hg hp hrs hm0 h hx hz hzx hc hheat hspace u1 u2 u3 u4 hb1 hb2
  go_enter Try.func19, Try.ntmps19
  go_wp2_with fail
  refine HZC.out.mono ?_
  rintro e w1 ⟨Az, nz, cz, rfl, k1, hz8, hcase⟩
  clear HZC
  by_cases hz0 : nz = 0
  · subst hz0
    have HK1 := bx k1
    clear hcase
    go_wp2_with fail
    refine (livesM_calls _).mono ?_
    rintro e w9 ⟨rfl, k9⟩
    go_wp2
    go_ret
    exact ⟨rfl, HK1.out.trans k9⟩
  · obtain ⟨t0, lm, k, hgz, hz1, hzc, hZ⟩ := hcase.resolve_left hz0
    have HZ1 := bx hZ
    obtain ⟨zb, zo, zc, e, _, x0, x1, x2⟩ := hZ.out
    cases e
    have HGZ := bx hgz
    have hzb : zb < w1.heap.size := World.block_lt_of_cell? _ _ x0
    have HX := bx (And.intro x0 (And.intro x1 x2))
    have y1 : ((nz : Int) == 0) = false := by simpa using hz0
    have y2 : (0 : Int) < (nz : Int) := by omega
    have y3 : (1 : Int) ≤ (cz : Int) := by omega
    clear hcase hZ hgz x0 x1 x2
    go_wp2_with fail
    refine (HBM.out _).mono ?_
    rintro e w2 ⟨rfl, rfl⟩
    go_wp2_with fail
    refine (HBS.out _).mono ?_
    rintro e w2' ⟨rfl, rfl⟩
    go_wp2_with fail
    refine (HMK.out _ k1).mono ?_
    rintro e w4 ⟨rfl, k4⟩
    obtain ⟨Wm, hWm⟩ : ∃ V, w4.alloc (.cells (mcs m0 (.slice none 0 0)) 71) = V := ⟨_, rfl⟩
    have km : From w4 Wm := by rw [← hWm]; exact From.alloc (From.refl _) _
    have sm : Wm.heap.size = w4.heap.size + 1 := by rw [← hWm]; simp
    have HM := bx (show MonC Wm w4.heap.size m0 (.slice none 0 0) by rw [← hWm]; exact MonC.new w4 m0 _)
    have hle4 := Below.size k4
    have hle1 := Below.size k1
    obtain ⟨a0, a1, a2, a3, a4, a5, a6, a7⟩ := HM.out.facts
    have t1 := HM.out.soft 1
    go_upto_region 9 with fail
    obtain ⟨Wl, hWl⟩ : ∃ V, Wm.setCell ⟨w4.heap.size, 1, none⟩ (.int .i64 (-1000000)) = V := ⟨_, rfl⟩
    rw [hWl]
    have kl : From w4 Wl := by rw [← hWl]; exact km.setCell (Nat.le_refl _) _ _
    have HML := bx (show MonC Wl w4.heap.size { m0 with low := -1000000 } (.slice none 0 0) by rw [← hWl]; exact HM.out.lowhigh _)
    have sl : Wl.heap.size = w4.heap.size + 1 := by rw [← hWl]; simpa using sm
    have kz := k4.trans kl
    have x0 := kz.cell HX.out.1
    have x1 := kz.cell HX.out.2.1
    have x2 := kz.cell HX.out.2.2
    clear hWm hWl km sm HM a0 a1 a2 a3 a4 a5 a6 a7 t1
    have HPK := bx (peak_calls t0 lm k heat space n (by omega) Wl HGZ.out.leak.1 HGZ.out.leak.2 HGZ.out.temp HB1.out HB2.out)
    go_wp2_with fail
    refine HPK.out.mono ?_
    rintro e w5 ⟨rfl, k5⟩
    have hM5 := HML.out.from k5
    obtain ⟨a0, a1, a2, a3, a4, a5, a6, a7⟩ := hM5.facts
    have t2 := hM5.soft 2
    clear x0 x1 x2 HPK
    go_upto_region 10 with fail
    obtain ⟨top, htop⟩ : ∃ z, pkT k space heat t0 n = z := ⟨_, rfl⟩
    rw [htop]
    obtain ⟨Wh, hWh⟩ : ∃ V, w5.setCell ⟨w4.heap.size, 2, none⟩ (.int .i64 top) = V := ⟨_, rfl⟩
    rw [hWh]
    obtain ⟨m1, hm1⟩ : ∃ z : Mon, ({ m0 with low := -1000000, high := top } : Mon) = z := ⟨_, rfl⟩
    have kh : From w4 Wh := by rw [← hWh]; exact (kl.trans k5).setCell (Nat.le_refl _) _ _
    have hMh : MonC Wh w4.heap.size m1 (.slice none 0 0) := by rw [← hWh, ← hm1]; exact hM5.high _
    have hm1p : m1.past = [] := by rw [← hm1]; exact HP.out
    obtain ⟨P, hPd⟩ : ∃ P : Nat → Prop, ∀ b, P b ↔ b ≠ w4.heap.size := ⟨_, fun _ => Iff.rfl⟩
    have HRX := bx (show RunX w P w4.heap.size m1 Wh from ⟨(k1.trans k4).trans kh, ⟨by omega, fun h => (hPd _).1 h rfl, fun b hb => (hPd b).2 (by have := hMh.lt; omega)⟩, none, 0, by rw [hm1p]; exact hMh, by rw [hm1p]; exact ⟨.inl ⟨rfl, rfl, rfl⟩⟩⟩)
    have HQ := bx (show Quiet m1 top by
      rw [← hm1]
      have hof := HG.out.of
      exact ⟨rfl, rfl, HG.out.need.1, HRS.out, by show trues m0.past = 0; rw [HP.out]; rfl, by show m0.past.length ≤ 16; rw [HP.out]; simp, hof, by show (m0.past.length : Int) ≤ m0.of; rw [HP.out]; simp; omega⟩)
    have HZH := bx (show Z1 Wh (.slice (some ⟨zb, zo, none⟩) 1 cz) t0 lm k from ⟨zb, zo, cz, rfl, by omega, (k4.trans kh).cell HX.out.1, (k4.trans kh).cell HX.out.2.1, (k4.trans kh).cell HX.out.2.2⟩)
    have HTP := bx htop
    have HNZ := bx (show ∀ b off c, (Value.slice (some ⟨zb, zo, none⟩) 1 cz) = .slice (some ⟨b, off, none⟩) 1 c → b ≠ w4.heap.size from fun b off c e => by cases e; omega)
    clear hWh hm1 kh hMh hm1p hPd kl kz k4 k5 hM5 HML HX HZ1 HG HP HRS a0 a1 a2 a3 a4 a5 a6 a7 t2 sl htop HMK HBM HBS hle4 hle1
    go_wp2_with fail
    go_loopw [16, 17, 18, 19, 20, 21] (fun x i _ _ _ _ wr => ∃ (j : Nat) (m : Mon) (t : Int), j ≤ n ∧ i = .int .i64 j ∧ Bx (RunX w P w4.heap.size m wr ∧ (Z1 wr x t lm k ∧ ∀ b off c, x = .slice (some ⟨b, off, none⟩) 1 c → b ≠ w4.heap.size) ∧ Quiet m top ∧ -1000000 ≤ t ∧ t ≤ 1000000 ∧ t ≤ itT k space heat t0 j)) (fun _ i _ _ _ _ _ => n - (intOf i).toNat)
    case atStart => exact ⟨0, m1, t0, Nat.zero_le _, rfl, ⟨HRX.out, ⟨HZH.out, HNZ.out⟩, HQ.out, HGZ.out.temp.1, HGZ.out.temp.2, Int.le_refl _⟩⟩
    case round =>
      clear HRX HZH HQ
      obtain ⟨j, m, t, hj, rfl, HB⟩ := hrel
      by_cases hlt : j < n
      · have z3 : decide ((j : Int) < (n : Int)) = true := decide_eq_true (by omega)
        have v1 : (0 : Int) ≤ (j : Int) := by omega
        have v2 : (j : Int) < (cs.length : Int) := by omega
        obtain ⟨cb, co, rfl, hcb, p0, p1, f0, f1⟩ := (HC.out.from HB.out.1.from_).out j (by omega)
        obtain ⟨pc0, epc0⟩ : ∃ z, (cs[j]'(by omega)).1 = z := ⟨_, rfl⟩
        obtain ⟨pc1, epc1⟩ : ∃ z, (cs[j]'(by omega)).2 = z := ⟨_, rfl⟩
        rw [epc0] at p0 f0
        rw [epc1] at p1 f1
        clear epc0 epc1
        obtain ⟨b0, e0⟩ : ∃ z, boundI pc0 1000000 = z := ⟨_, rfl⟩
        obtain ⟨b1, e1⟩ : ∃ z, boundI pc1 1000000 = z := ⟨_, rfl⟩
        have hb0 := bound_bd pc0 1000000 (by omega)
        have hb1 := bound_bd pc1 1000000 (by omega)
        rw [e0] at hb0
        rw [e1] at hb1
        obtain ⟨hh, ehh⟩ : ∃ z, min b0 heat = z := ⟨_, rfl⟩
        obtain ⟨ss, ess⟩ : ∃ z, min b1 space = z := ⟨_, rfl⟩
        have HH := bx (show -1000000 ≤ hh ∧ hh ≤ 1000000 ∧ hh ≤ heat by have := HB1.out; omega)
        have HS := bx (show -1000000 ≤ ss ∧ ss ≤ 1000000 ∧ ss ≤ space by have := HB2.out; omega)
        have HC0 := bx (fun (W : World) => (show Calls Try.prog 72 #[.int .i64 pc0, .int .i64 1000000] W _ from by have := bound_calls pc0 1000000 W f0.1 f0.2 (by omega) (by omega); rwa [e0] at this))
        have HC1 := bx (fun (W : World) => (show Calls Try.prog 72 #[.int .i64 pc1, .int .i64 1000000] W _ from by have := bound_calls pc1 1000000 W f1.1 f1.2 (by omega) (by omega); rwa [e1] at this))
        obtain ⟨Wi, hWi⟩ : ∃ V, wr.alloc (.cells #[.int .i64 hh] 3) = V := ⟨_, rfl⟩
        have ki : From wr Wi := by rw [← hWi]; exact From.alloc (From.refl _) _
        have p1i := ki.cell p1
        have hII : Ints Wi (.slice (some ⟨wr.heap.size, 0, none⟩) 1 1) [hh] := by rw [← hWi]; exact (sl_new wr [.int .i64 hh] 3 1 1).more (by simp)
        have HSZ := bx (stepZ_calls u16 t lm k hh ss (some ⟨wr.heap.size, 0, none⟩) 1 Wi (HB.out.2.1.1.from ki) hII HGZ.out.leak.1 HGZ.out.leak.2 ⟨HB.out.2.2.2.1, HB.out.2.2.2.2.1⟩ ⟨HH.out.1, HH.out.2.1⟩ ⟨HS.out.1, HS.out.2.1⟩)
        have HKI := bx ki
        clear e0 e1 hb0 hb1 f0 f1 ki hII
        go_wp2_with fail
        refine (HC0.out _).mono ?_
        rintro e wX ⟨rfl, hwX⟩
        obtain rfl := hwX
        go_wp2_with fail
        refine (HC1.out _).mono ?_
        rintro e wY ⟨rfl, rfl⟩
        go_wp2_with fail
        refine HSZ.out.mono ?_
        rintro e w6 ⟨x', rfl, hz6, k6, hnw⟩
        have HNW := bx (show ∀ b off c, x' = .slice (some ⟨b, off, none⟩) 1 c → b ≠ w4.heap.size from fun b off c e => by have h1 := hnw b off c e; have h2 := Below.size HKI.out; have h3 := HB.out.1.mon; obtain ⟨_, _, h4, _⟩ := h3; have := h4.lt; omega)
        clear hnw
        have HX6 := bx hz6
        have hat := HB.out.1.call (HKI.out.trans k6)
        have HAT := bx hat
        have HQ := bx HB.out.2.2.1
        have HTB := bx (And.intro HB.out.2.2.2.1 (And.intro HB.out.2.2.2.2.1 HB.out.2.2.2.2.2))
        obtain ⟨tn, htn⟩ : ∃ z, nextT k ss hh t = z := ⟨_, rfl⟩
        rw [htn] at HX6
        have htn1 : -1000000 ≤ tn ∧ tn ≤ 1000000 := by rw [← htn]; exact lim_bd _
        have htn2 : tn ≤ itT k space heat t0 (j + 1) := by rw [← htn]; exact below_pkT HGZ.out.leak.1 HTB.out.2.2 HH.out.2.2 HS.out.2.2
        have htn3 : tn ≤ top := by rw [← HTP.out]; exact Int.le_trans htn2 (Int.le_trans (itT_le_pkT k space heat t0 (j + 1)) (pkT_mono k space heat t0 (j + 1) n (by omega)))
        obtain ⟨hqn, hup, hdn⟩ := HQ.out.step htn1.1 htn3
        obtain ⟨hfr, hlow, A, c, hmc, hpast⟩ := hat
        obtain ⟨q, hq⟩ : ∃ z, stepM m tn = z := ⟨_, rfl⟩
        rw [hq] at hqn
        have hq16 := HQ.out.small
        have HST := bx (fun (W : World) (kk : From w6 W) => step_calls m A c tn W (hpast.sl.from kk) (by omega) q hq false false hup hdn)
        have HOT := bx (fun (W : World) (kk : From w6 W) => hot_calls x' tn lm k W (HX6.out.from kk))
        have HQN := bx (And.intro hqn (And.intro htn1 htn2))
        have HMC := bx hmc
        have hqr : q.raised = false := hqn.raised
        have HQR := bx hqr
        have HLT := bx hlow
        have hml := hmc.lt
        clear htn htn1 htn2 htn3 hqn hup hdn hq hpast hz6 k6 HB HSZ HC0 HC1 p0 p1 p1i hWi HKI HQ HTB hqr ehh ess HH HS hfr hlow
        obtain ⟨mp, ml, mh, mn, mo, me, mps, mr⟩ := m
        obtain ⟨qp, ql, qh, qn, qo, qe, qps, qr⟩ := q
        obtain ⟨a0, a1, a2, a3, a4, a5, a6, a7⟩ := hmc.facts
        simp only at a0 a1 a2 a3 a4 a5 a6 a7
        clear hmc

        have HK := bx (fun (W : World) (kk : From w6 W) => (show From w6 W ∧ W.cell? ⟨w4.heap.size, 0, none⟩ = some (.int .i64 mp) ∧ W.cell? ⟨w4.heap.size, 0, none⟩ = some (.int .i64 mp) ∧ W.cell? ⟨w4.heap.size, 1, none⟩ = some (.int .i64 ml) ∧ W.cell? ⟨w4.heap.size, 2, none⟩ = some (.int .i64 mh) ∧ W.cell? ⟨w4.heap.size, 3, none⟩ = some (.int .i64 mn) ∧ W.cell? ⟨w4.heap.size, 4, none⟩ = some (.int .i64 mo) ∧ W.cell? ⟨w4.heap.size, 5, none⟩ = some (.int .i64 me) ∧ W.cell? ⟨w4.heap.size, 6, none⟩ = some (.slice A mps.length c) ∧ W.cell? ⟨w4.heap.size, 7, none⟩ = some (.bool mr) from ⟨kk, kk.cell a0, kk.cell a0, kk.cell a1, kk.cell a2, kk.cell a3, kk.cell a4, kk.cell a5, kk.cell a6, kk.cell a7⟩))
        have hFF : From w6 w6 := From.refl _
        go_wp2_with fail
        refine region_cut (fun q0 a' w' => ∃ (x74 x75 x76 x77 x73 x78 x79 x80 : Value) (b : Nat) (A3 : Option Addr) (c3 : Nat), a' = puts q0 [(74, x74), (75, x75), (76, x76), (77, x77), (73, x73), (78, x78), (79, x79), (80, x80), (19, .pointer (some ⟨b, 0, none⟩)), (20, .bool false), (21, .bool false)] ∧ From w6 w' ∧ w6.heap.size ≤ b ∧ MonC w' b ⟨qp, ql, qh, qn, qo, qe, qps, qr⟩ (.slice A3 qps.length c3) ∧ SlN w6.heap.size w' (.slice A3 qps.length c3) qps.length (bc qps)) (fun K' HKK => ?_) ?_
        · go_region_held3 (fun W => From w6 W ∧ W.cell? ⟨w4.heap.size, 0, none⟩ = some (.int .i64 mp) ∧ W.cell? ⟨w4.heap.size, 0, none⟩ = some (.int .i64 mp) ∧ W.cell? ⟨w4.heap.size, 1, none⟩ = some (.int .i64 ml) ∧ W.cell? ⟨w4.heap.size, 2, none⟩ = some (.int .i64 mh) ∧ W.cell? ⟨w4.heap.size, 3, none⟩ = some (.int .i64 mn) ∧ W.cell? ⟨w4.heap.size, 4, none⟩ = some (.int .i64 mo) ∧ W.cell? ⟨w4.heap.size, 5, none⟩ = some (.int .i64 me) ∧ W.cell? ⟨w4.heap.size, 6, none⟩ = some (.slice A mps.length c) ∧ W.cell? ⟨w4.heap.size, 7, none⟩ = some (.bool mr))
            (first | (go_split_ands; with_reducible refine HK.out _ ?_; repeat' (first | with_reducible assumption | with_reducible exact Nat.le_refl _ | with_reducible refine From.drew ?_ | with_reducible refine From.alloc ?_ _ | with_reducible refine From.setCell ?_ ?_ _ _)))
            (first | (go_at_call 75; (with_reducible refine (HOT.out _ (by go_split_ands; assumption)).mono ?_); rintro e wH ⟨rfl, kH⟩; have hkH := From.trans (show From w6 _ by go_split_ands; assumption) kH; have hszH := Below.size hkH) | (go_at_call 58; (with_reducible refine (HST.out _ (by go_split_ands; assumption)).mono ?_); rintro e w3 ⟨A3, c3, rfl, q3, k3⟩; have hkeep := From.trans (show From w6 _ by go_split_ands; assumption) k3; first | (have HRD : MonC w3 w6.heap.size ⟨0, 0, 0, 0, 0, 0, [], false⟩ (.slice none 0 0) := (by first | with_reducible exact MonC.from (MonC.from (MonC.new w6.drew ⟨0, 0, 0, 0, 0, 0, [], false⟩ (.slice none 0 0)) kH) k3 | with_reducible exact MonC.from (MonC.from (MonC.from (MonC.new w6 ⟨0, 0, 0, 0, 0, 0, [], false⟩ (.slice none 0 0)) (From.drew (From.refl _))) kH) k3); have t0 := HRD.soft 0; have t1 := HRD.soft 1; have t2 := HRD.soft 2; have t3 := HRD.soft 3; have t4 := HRD.soft 4; have t5 := HRD.soft 5; have t6 := HRD.soft 6; have t7 := HRD.soft 7; obtain ⟨s0, s1, s2, s3, s4, s5, s6, s7⟩ := HRD.facts) | (have HRD : MonC w3 wH.heap.size ⟨0, 0, 0, 0, 0, 0, [], false⟩ (.slice none 0 0) := (by with_reducible exact MonC.from (MonC.new wH ⟨0, 0, 0, 0, 0, 0, [], false⟩ (.slice none 0 0)) k3); have t0 := HRD.soft 0; have t1 := HRD.soft 1; have t2 := HRD.soft 2; have t3 := HRD.soft 3; have t4 := HRD.soft 4; have t5 := HRD.soft 5; have t6 := HRD.soft 6; have t7 := HRD.soft 7; obtain ⟨s0, s1, s2, s3, s4, s5, s6, s7⟩ := HRD.facts) | skip))
          all_goals first
            | (have hR : MonC w3 w6.heap.size ⟨0, 0, 0, 0, 0, 0, [], false⟩ (.slice none 0 0) := by with_reducible exact HRD
               refine HKK.out _ _ ⟨_, _, _, _, _, _, _, _, w6.heap.size, A3, c3, (by simp only [puts, Act.put, List.setIfInBounds_toArray, List.set_cons_zero, List.set_cons_succ]; rfl), ?_, Nat.le_refl _, ?_, ?_⟩
               · with_reducible exact From.set8 hkeep (Nat.le_refl _) ⟨qp, ql, qh, qn, qo, qe, qps, qr⟩ _
               · with_reducible exact hR.set8 (m := ⟨qp, ql, qh, qn, qo, qe, qps, qr⟩)
               · have hq := q3.set8 (show w6.heap.size < _ by have := Below.size kH; simp at this; omega) ⟨qp, ql, qh, qn, qo, qe, qps, qr⟩ (.slice A3 qps.length c3)
                 have hq2 := hq.low hszH
                 with_reducible exact hq2)
            | (have hR : MonC w3 wH.heap.size ⟨0, 0, 0, 0, 0, 0, [], false⟩ (.slice none 0 0) := by with_reducible exact HRD
               refine HKK.out _ _ ⟨_, _, _, _, _, _, _, _, wH.heap.size, A3, c3, (by simp only [puts, Act.put, List.setIfInBounds_toArray, List.set_cons_zero, List.set_cons_succ]; rfl), ?_, hszH, ?_, ?_⟩
               · with_reducible exact From.set8 hkeep hszH ⟨qp, ql, qh, qn, qo, qe, qps, qr⟩ _
               · with_reducible exact hR.set8 (m := ⟨qp, ql, qh, qn, qo, qe, qps, qr⟩)
               · have hq := q3.set8 (show wH.heap.size < _ by simp) ⟨qp, ql, qh, qn, qo, qe, qps, qr⟩ (.slice A3 qps.length c3)
                 have hq2 := hq.low (show w6.heap.size ≤ _ by simp; omega)
                 with_reducible exact hq2)
            | exact HKK.out _ _ ⟨_, _, _, _, _, _, _, _, w3.heap.size, A3, c3, (by simp only [puts, Act.put, List.setIfInBounds_toArray, List.set_cons_zero, List.set_cons_succ]; rfl), From.alloc hkeep _, Below.size hkeep, MonC.new w3 ⟨qp, ql, qh, qn, qo, qe, qps, qr⟩ _, (q3.low hszH).from (From.alloc (From.refl _) _)⟩
        rintro a' wQ ⟨x74, x75, x76, x77, x73, x78, x79, x80, b, A3, c3, rfl, k4, hb4, hM4, hS4⟩
        rename_i K0 hK0
        apply hK0
        simp only [puts, Act.put, List.setIfInBounds_toArray, List.set_cons_zero, List.set_cons_succ]
        clear hK0 HK HST HOT a0 a1 a2 a3 a4 a5 a6 a7 hFF
        have hatQ := HAT.out.call k4
        have HXQ := bx (HX6.out.from k4)
        obtain ⟨p0, p1, p2, p3, p4, p5, p6, p7⟩ := hM4.facts
        simp only at p0 p1 p2 p3 p4 p5 p6 p7
        obtain ⟨A8, c8, hM8, _⟩ := hatQ.mon
        have t0 := hM8.soft 0
        have t1 := hM8.soft 1
        have t2 := hM8.soft 2
        have t3 := hM8.soft 3
        have t4 := hM8.soft 4
        have t5 := hM8.soft 5
        have t6 := hM8.soft 6
        have t7 := hM8.soft 7
        obtain ⟨e0, e1, e2, e3, e4, e5, e6, e7⟩ := hM8.facts
        simp only at e0 e1 e2 e3 e4 e5 e6 e7

        have HY := bx (HAT.out.step k4 (n := ⟨qp, ql, qh, qn, qo, qe, qps, qr⟩) hS4)
        have HX8 := bx (HXQ.out.set8 HNW.out ⟨qp, ql, qh, qn, qo, qe, qps, qr⟩ (.slice A3 qps.length c3))
        clear hM8 hM4 hS4 hatQ
        go_upto_region 18 with fail
        clear p0 p1 p2 p3 p4 p5 p6 p7 e0 e1 e2 e3 e4 e5 e6 e7 t0 t1 t2 t3 t4 t5 t6 t7
        obtain ⟨W8, hW8⟩ : ∃ V, set8 wQ w4.heap.size ⟨qp, ql, qh, qn, qo, qe, qps, qr⟩ (.slice A3 qps.length c3) = V := ⟨_, rfl⟩
        rw [hW8] at HY HX8
        unfold set8 at hW8
        try simp only at hW8
        rw [hW8]
        clear hW8
        obtain ⟨A9, c9, hM9, _⟩ := HY.out.mon
        have g7 := hM9.facts.2.2.2.2.2.2.2
        simp only at g7
        rw [show qr = false from HQR.out] at g7
        clear hM9
        go_wp2_with fail
        go_roundw
        case rel => exact ⟨j + 1, ⟨qp, ql, qh, qn, qo, qe, qps, qr⟩, tn, by omega, by go_num, ⟨HY.out, ⟨HX8.out, HNW.out⟩, HQN.out.1, HQN.out.2.1.1, HQN.out.2.1.2, HQN.out.2.2⟩⟩
        case measure => simp [intOf]; omega
      · have z3 : decide ((j : Int) < (n : Int)) = false := decide_eq_false (by omega)
        go_wp2_with fail
        refine (livesM_calls _).mono ?_
        rintro e w9 ⟨rfl, k9⟩
        go_wp2
        go_ret
        exact ⟨rfl, HB.out.1.from_.trans k9⟩
set_option maxRecDepth 100000 in
theorem mrg_lifted (os : Os) (started : os.Started) (H : Type) (enc : TypeId × Value → H) :
    ReturnsInHanded {} Try.checked os 19 .any (Rows.monitorMarginSpec.pre6 enc Try.prog Try.f19 Rows.monitorMarginRow.domain false) (Rows.monitorMarginSpec.post enc Try.prog Try.f19 false true false false) := by
  refine returnsInHanded_of_change (C := Try.checked) own started (by kernel_rfl) Try.func19
    (ChangeSpec.witness6 (enc := enc) (C := Try.checked) false ⟨#[], #[.slice none 0 0, .slice none 0 0, .int .i64 0, .int .i64 0, .slice none 0 0], []⟩ 8 (by kernel_rfl) (by kernel_rfl) (by kernel_rfl) (by kernel_rfl)) ?_
  intro W base args ds gs before hval0 hW hcnd _
  have hval : ∀ (j : Nat) t v, Try.f19.params[j]? = some t → args[j]? = some v → Value.okWide Try.prog W .any base t v := hval0
  have hW' := hW
  obtain ⟨p, q, hA0, hV, rfl, hfz, hnd⟩ := hW
  have hA : DataW.TrodAll enc Try.prog W 0 (fun _ => true) true Try.f19.params.toList args.toList ds p := hA0
  rw [Try.params19] at hA hval
  obtain ⟨v0, vs0, d0, ds0, p0, q0, hargs, rfl, rfl, h0, r0⟩ := trodAll_cons hA
  obtain ⟨v1, vs1, d1, ds1, p1, q1, rfl, rfl, rfl, h1, r1⟩ := trodAll_cons r0
  obtain ⟨v2, vs2, d2, ds2, p2, q2, rfl, rfl, rfl, h2, r2⟩ := trodAll_cons r1
  obtain ⟨v3, vs3, d3, ds3, p3, q3, rfl, rfl, rfl, h3, r3⟩ := trodAll_cons r2
  obtain ⟨v4, vs4, d4, ds4, p4, q4, rfl, rfl, rfl, h4, r4⟩ := trodAll_cons r3
  obtain ⟨rfl, rfl, rfl⟩ := trodAll_nil r4
  obtain rfl : args = #[v0, v1, v2, v3, v4] := by cases args; simp_all
  obtain ⟨rfl, rfl⟩ := trodVars_none hV
  obtain ⟨A0, c0, l0, rfl, hB0, hm0, hx0⟩ := open_intsr (hval 0 22 v0 rfl rfl) h0
  obtain ⟨A1, c1, l1, rfl, hB1, hm1, hx1⟩ := open_intsr (hval 1 22 v1 rfl rfl) h1
  obtain ⟨a2, rfl, _, _, w2⟩ := open_int Try.underlying3 (hval 2 3 v2 rfl rfl) h2
  simp only [Lit.wf, Bool.and_eq_true, decide_eq_true_eq] at w2
  obtain ⟨a3, rfl, _, _, w3⟩ := open_int Try.underlying3 (hval 3 3 v3 rfl rfl) h3
  simp only [Lit.wf, Bool.and_eq_true, decide_eq_true_eq] at w3
  obtain ⟨A4, c4, l4, rfl, hB4, hm4⟩ := open_arr2s (hval 4 93 v4 rfl rfl) h4
  refine (mrg_walk A0 c0 l0 A1 c1 l1 a2 a3 A4 c4 l4 W hB0 hm0 hx0 hB1 hm1 hx1 w2.1 w2.2 w3.1 w3.2 hB4 hm4).mono fun e W' ⟨he, hb⟩ => ?_
  subst he
  exact ⟨_, rfl, law_post Try.laid (by kernel_rfl) rfl rfl Try.underlying4 rfl hW' hb⟩
theorem mrg_facts : joinedFacts Try.prog 19 Try.f19 Rows.monitorMarginSpec Rows.monitorMarginRow = true := by
  unfold joinedFacts
  rw [fact_enter, fact_lift, fact_make, fact_keys, fact_heard, fact_maps, Try.laid]
  kernel_rfl
theorem mrg_holds : Rows.MonitorMarginSaid :=
  OpenClaim.holds_of_wide 19 Try.f19 rfl rfl rfl rfl rfl rfl rfl ⟨rfl, rfl, rfl, rfl, rfl⟩ rfl rfl rfl rfl rfl (by kernel_rfl) Try.func19 mrg_facts
    (of_decide_eq_true (by kernel_rfl)) (by unfold Func.isWrapper; first | (rw [if_pos (by decide +kernel)]; kernel_rfl) | (rw [if_neg (by decide +kernel)]; exact ⟨rfl, rfl⟩))
    (fun os started H enc _ => mrg_lifted os started H enc)
#print axioms mrg_holds
end Go.Proofs.Ytlogokjjphlkkaa
