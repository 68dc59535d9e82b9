/-
  Walks of layer 28's reference: an entry of a packet read.
-/
import Derived.Test.YtpdbdpmlppbnnaaU22
import Derived.Test.YtpdbdpmlppbnnaaN5
import Derived.Deep.CutRange
namespace Go.Proofs.Ytpdbdpmlppbnnaa
open Go.RowKit Go.Shelf

/-- what entry answers: the reader behind it; where it is good, the parameter and its value -/
def EntPost (w0 w : World) (x : St × Nat × Int) (e : Ending) (w' : World) : Prop :=
  ∃ v p d, e = .returned (.tuple #[v, .int .i64 p, .int .i64 d]) ∧ RfV w0 v x.1 ∧ From w w' ∧ ∀ l, x.1 = .good l → p = (x.2.1 : Nat) ∧ d = x.2.2
/-- a reference's reader in a box -/
def RBox (w0 wr : World) (p : Nat) (s : St) : Prop := ∃ A n c, wr.heap[p]? = some (.cells #[.slice A n c, .int .i64 s.err] 84 (0, 0)) ∧ RfV w0 (.agg #[.slice A n c, .int .i64 s.err]) s
theorem RBox.from {w0 w w' : World} {p : Nat} {s : St} (h : RBox w0 w p s) (k : From w w') : RBox w0 w' p s := by
  obtain ⟨A, n, c, h1, h2⟩ := h
  exact ⟨A, n, c, k.heap h1, h2⟩
theorem RfV.okS {w : World} {v : Value} {s : St} (h : RfV w v s) : OkS s := by
  cases s with
  | bad e => exact h.1
  | good l => trivial
theorem failS_good {s : St} {e : Int} {l : List Int} (h : failS s e = .good l) : False := by cases s <;> cases h
theorem getD_bool (l : List Bool) (k : Nat) (h : k < l.length) : l.getD k false = l[k] := by simp [List.getD_eq_getElem?_getD, List.getElem?_eq_getElem h]
set_option maxHeartbeats 2000000 in
theorem entryR_calls (v : Value) (s : St) (w0 w : World) (h : RfV w0 v s) (k00 : From w0 w) (AP : Option Addr) (cP : Nat) (pl : List Int) (n : Nat) (hpn : pl.length = n) (hp : Ints w (.slice AP n cP) pl)
    (AK : Option Addr) (cK : Nat) (kl : List Bool) (hkn : kl.length = n) (hk : Bools w (.slice AK n cK) kl) (hpf : ∀ x ∈ pl, fitsV x) (hn : n ≤ 1000) (x : St × Nat × Int) (hx : entryS pl kl s = x) :
    Calls Try.prog 57 #[v, .slice AP n cP, .slice AK n cK] w (EntPost w0 w x) := by
  obtain ⟨A, m, c, rfl⟩ := h.form
  obtain ⟨W, hW⟩ : ∃ W, (w.alloc (.cells #[.slice A m c, .int .i64 s.err] 84)).alloc (.cells #[.slice none 0 0, .int .i64 0] 84) = W := ⟨_, rfl⟩
  have k0 : From w W := by rw [← hW]; exact (From.alloc (From.refl _) _).alloc _
  have b0 : W.heap[w.heap.size + 1]? = some (.cells #[.slice none 0 0, .int .i64 0] 84 (0, 0)) := by rw [← hW]; have := heap_alloc_new (w.alloc (.cells #[.slice A m c, .int .i64 s.err] 84)) (.cells #[.slice none 0 0, .int .i64 0] 84); rwa [World.size_alloc] at this
  have r0 : W.heap[w.heap.size]? = some (.cells #[.slice A m c, .int .i64 s.err] 84 (0, 0)) := by rw [← hW]; exact ((From.refl _).alloc _).heap (heap_alloc_new _ _)
  have HRU := bx (fun (V : World) (k : From w V) => fReadUint_calls (.agg #[.slice A m c, .int .i64 s.err]) s w0 V h (k00.trans k))
  have HRI := bx (fun (V : World) (k : From w V) (s : St) (v : Value) (h : RfV w0 v s) => fReadInt_calls v s w0 V h (k00.trans k))
  have HFA := bx (fun (V : World) (s : St) (v : Value) (e : Int) (h : RfV w0 v s) (he : e ≠ 0) => fFail_calls v s e w0 V h he)
  have HVA := bx (fun (x : Int) (V : World) => valueR_calls x V)
  have HU := bx (rdS_lt h.okb)
  have HI := bx hp
  have HL := bx hk
  have HPN := bx hpn
  have HKN := bx hkn
  have HPF := bx hpf
  have HX := bx hx
  have HB := bx b0
  have HR0 := bx r0
  have HK := bx k0
  obtain ⟨q0, q1, _, _, _⟩ := box2 r0
  obtain ⟨u, hu⟩ : ∃ u, (rdS s).1 = u := ⟨_, rfl⟩
  obtain ⟨s1, hs1⟩ : ∃ s1, (rdS s).2 = s1 := ⟨_, rfl⟩
  rw [hu] at HRU HU
  rw [hs1] at HRU
  have HS1 := bx (And.intro hu hs1)
  clear h hp hk hpn hkn hpf hx b0 r0 k0 hu hs1 k00
  go_enter Try.func57, Try.ntmps57
  go_wp2_with fail
  clear hW q0 q1
  refine (HRU.out W HK.out).mono ?_
  rintro r w2 ⟨v2, rfl, hv2, k2⟩
  obtain ⟨A2, n2, c2, rfl⟩ := hv2.form
  have HV2 := bx hv2
  clear hv2
  have r2 := k2.heap HR0.out
  have b2 := k2.heap HB.out
  obtain ⟨q0, q1, q2, q3, _⟩ := box2 r2
  obtain ⟨W3, hW3⟩ : ∃ W3, (w2.setCell ⟨w.heap.size, 0, none⟩ (.slice A2 n2 c2)).setCell ⟨w.heap.size, 1, none⟩ (.int .i64 s1.err) = W3 := ⟨_, rfl⟩
  have r3 : W3.heap[w.heap.size]? = some (.cells #[.slice A2 n2 c2, .int .i64 s1.err] 84 (0, 0)) := by rw [← hW3]; exact box2_set r2 _ _
  have b3 : W3.heap[w.heap.size + 1]? = some (.cells #[.slice none 0 0, .int .i64 0] 84 (0, 0)) := by rw [← hW3, heap_set_off _ (by omega), heap_set_off _ (by omega)]; exact b2
  have k3 : From w W3 := by rw [← hW3]; exact from_set (from_set (HK.out.trans k2) (Nat.le_refl _) _ _) (Nat.le_refl _) _ _
  have HK3 := bx k3
  have HR3 := bx r3
  have HB3 := bx b3
  clear r2 b2 k3 r3 b3 k2
  go_upto_region 2 with fail
  try rw [hW3]
  clear hW3 q0 q1 q2 q3
  obtain ⟨cb, hcb⟩ : ∃ cb : Bool, cb = (match s1 with | .bad _ => false | .good _ => decide (n ≤ u ∨ kl.getD u false = true)) := ⟨_, rfl⟩
  have HCB := bx hcb
  clear hcb
  go_cut [31] from 10 (fun s31 wx => s31 = .bool cb ∧ wx = W3)
  case first =>
    obtain ⟨q0, q1, q2, q3, _⟩ := box2 HR3.out
    have hs1k := HS1.out
    cases s1 with
    | bad e1 =>
      have he1 : e1 ≠ 0 := HV2.out.1
      have d1 : (e1 == 0) = false := by simpa using he1
      clear he1 hs1k
      simp only [St.err] at q1
      go_wp2
      go_meet
      case rel => exact ⟨by rw [HCB.out], rfl⟩
    | good l1 =>
      simp only [St.err] at q1
      by_cases c1 : n ≤ u
      · have d1 : decide ((u : Int) ≥ (n : Int)) = true := decide_eq_true (by omega)
        have ew : IntKind.u64.wrap (n : Int) = (n : Int) := by rw [IntKind.wrap_u64]; omega
        have hcb2 : cb = true := by rw [HCB.out]; exact decide_eq_true (.inl c1)
        clear hs1k
        go_wp2
        go_meet
        case rel => exact ⟨by rw [hcb2], rfl⟩
      · have d1 : decide ((u : Int) ≥ (n : Int)) = false := decide_eq_false (by omega)
        have ew : IntKind.u64.wrap (n : Int) = (n : Int) := by rw [IntKind.wrap_u64]; omega
        have hul : u < kl.length := by have := HKN.out; omega
        obtain ⟨b, f, rfl, _, v4⟩ := bools_at (HL.out.from HK3.out) hul
        have hcb2 : cb = kl[u] := by
          rw [HCB.out]
          simp only [getD_bool kl u hul]
          cases kl[u] <;> simp [c1]
        have HCB2 := bx hcb2
        generalize kl[u] = kb at *
        have z5 : (u : Int) < (n : Int) := by omega
        have z6 : (0 : Int) ≤ (u : Int) := by omega
        clear hs1k hcb2
        go_wp2
        go_meet
        case rel => exact ⟨by rw [HCB2.out], rfl⟩
  case rest =>
    obtain ⟨rfl, rfl⟩ := hcut
    obtain ⟨s2, hs2⟩ : ∃ s2, (if cb then failS s1 7 else s1) = s2 := ⟨_, rfl⟩
    have HS2 := bx hs2
    clear hs2
    go_upto_if 31 with fail
    go_cut [] from 10 (fun wx => RBox w0 wx w.heap.size s2 ∧ wx.heap[w.heap.size + 1]? = some (.cells #[.slice none 0 0, .int .i64 0] 84 (0, 0)) ∧ From w wx)
    case first =>
      cases cb
      · have e9 : s1 = s2 := HS2.out
        have E9 := bx e9
        clear e9
        go_wp2
        go_meet
        case rel =>
          rw [← E9.out]
          exact ⟨⟨_, _, _, HR3.out, HV2.out⟩, HB3.out, HK3.out⟩
      · have e9 : failS s1 7 = s2 := HS2.out
        have E9 := bx e9
        clear e9
        obtain ⟨q0, q1, q2, q3, _⟩ := box2 HR3.out
        go_wp2_with fail
        refine (HFA.out _ s1 _ 7 HV2.out (by decide)).mono ?_
        rintro e wF ⟨vF, rfl, hvF, kF⟩
        rw [E9.out] at hvF
        obtain ⟨AF, nF, cF, rfl⟩ := hvF.form
        have HVF := bx hvF
        have rF := bx (kF.heap HR3.out)
        have bF := bx (kF.heap HB3.out)
        obtain ⟨t0, t1, t2, t3, _⟩ := box2 rF.out
        clear hvF q0 q1 q2 q3
        go_wp2
        go_meet
        case rel =>
          refine ⟨⟨_, _, _, box2_set rF.out _ _, HVF.out⟩, ?_, from_set (from_set (HK3.out.trans kF) (Nat.le_refl _) _ _) (Nat.le_refl _) _ _⟩
          rw [heap_set_off _ (by omega), heap_set_off _ (by omega)]
          exact bF.out
    case rest =>
      obtain ⟨⟨A4, n4, c4, hb4, hv4⟩, hr4, hk4⟩ := hcut
      have HV4 := bx hv4
      have HB4 := bx hb4
      have HR4 := bx hr4
      have HK4 := bx hk4
      obtain ⟨q0, q1, q2, q3, _⟩ := box2 hb4
      clear hv4 hb4 hr4 hk4
      have hu2 := bx (rdS_lt HV4.out.okb)
      go_wp2_with fail
      refine (HRI.out wc HK4.out s2 _ HV4.out).mono ?_
      rintro e w5 ⟨v5, rfl, hv5, k5⟩
      obtain ⟨A5, n5, c5, rfl⟩ := hv5.form
      obtain ⟨d, hd⟩ : ∃ d, zag (rdS s2).1 = d := ⟨_, rfl⟩
      obtain ⟨s3, hs3⟩ : ∃ s3, (rdS s2).2 = s3 := ⟨_, rfl⟩
      have hdb := zag_bd hu2.out
      rw [hs3] at hv5 ⊢
      rw [hd] at hdb ⊢
      have HD := bx hd
      have HS3 := bx hs3
      have HV5 := bx hv5
      have rF := bx (k5.heap HB4.out)
      have bF := bx (k5.heap HR4.out)
      have K5 := bx (HK4.out.trans k5)
      obtain ⟨t0, t1, t2, t3, _⟩ := box2 rF.out
      clear hv5 q0 q1 q2 q3 k5 hd hs3
      obtain ⟨W6, hW6⟩ : ∃ W, (w5.setCell ⟨w.heap.size, 0, none⟩ (.slice A5 n5 c5)).setCell ⟨w.heap.size, 1, none⟩ (.int .i64 s3.err) = W := ⟨_, rfl⟩
      have r6 : W6.heap[w.heap.size]? = some (.cells #[.slice A5 n5 c5, .int .i64 s3.err] 84 (0, 0)) := by rw [← hW6]; exact box2_set rF.out _ _
      have b6 : W6.heap[w.heap.size + 1]? = some (.cells #[.slice none 0 0, .int .i64 0] 84 (0, 0)) := by rw [← hW6, heap_set_off _ (by omega), heap_set_off _ (by omega)]; exact bF.out
      have k6 : From w W6 := by rw [← hW6]; exact from_set (from_set K5.out (Nat.le_refl _) _ _) (Nat.le_refl _) _ _
      go_upto_region 5 with fail
      try rw [hW6]
      have R6 := bx r6
      have B6 := bx b6
      have K6 := bx k6
      clear hW6 t0 t1 t2 t3 r6 b6 k6
      obtain ⟨q0, q1, _, _, _⟩ := box2 R6.out
      obtain ⟨t0, t1, t2, t3, _⟩ := box2 B6.out
      -- what the entry answers, in parts
      have HP := bx (show ∀ s4 s5, (if d = 0 then failS s3 7 else s3) = s4 → (if ¬ fitsV (d.tdiv 2) ∨ ¬ fitsV (pl.getD (min u (n - 1)) 0 + d) then failS s4 5 else s4) = s5 → x = (s5, u, pl.getD u 0 + d) from fun s4 s5 h4 h5 => by
        rw [← HX.out]
        have h2 : (if n ≤ u ∨ kl.getD u false = true then failS (rdS s).2 7 else (rdS s).2) = s2 := by
          rw [← HS2.out, HS1.out.2]
          cases s1 with
          | bad e => simp [failS]
          | good l => rw [HCB.out]; simp
        unfold entryS
        simp only [HPN.out, HS1.out.1, h2, HS3.out, HD.out, h4, h5])
      cases s3 with
      | bad e3 =>
        have he3 : e3 ≠ 0 := HV5.out.1
        have d1 : (e3 != 0) = true := by simpa using he3
        have hx1 := HP.out (.bad e3) (.bad e3) (by simp [failS]) (by simp [failS])
        have HX1 := bx hx1
        clear he3 hx1
        simp only [St.err] at q1
        go_wp2
        have b9 := box2_set B6.out (.slice A5 n5 c5) (.int .i64 e3)
        refine bodyPost_ret (v := .tuple #[.agg #[.slice A5 n5 c5, .int .i64 e3], .int .i64 0, .int .i64 0]) (by simp [results, Try.results57, go_sem, cell_of_row _ _ _ _ _ _ b9]) rfl ?_
        rw [HX1.out]
        exact ⟨_, _, _, rfl, HV5.out, from_set (from_set K6.out (by omega) _ _) (by omega) _ _, fun l h => by cases h⟩
      | good l3 =>
        obtain ⟨l2, hl2⟩ := rdS_good HS3.out
        have hcbf : cb = false ∧ ∃ l1, s1 = .good l1 := by
          have h := HS2.out
          rw [hl2] at h
          cases cb
          · exact ⟨rfl, l2, h⟩
          · exact absurd h (fun h => failS_good h)
        obtain ⟨rfl, l1, rfl⟩ := hcbf
        have hnu : ¬ (n ≤ u ∨ kl.getD u false = true) := by have := HCB.out; simpa using this.symm
        have hun : u < n := by omega
        have hupl : u < pl.length := by rw [HPN.out]; exact hun
        obtain ⟨b, f, rfl, hbl, v40⟩ := ints_at HI.out hupl
        have v4 := K6.out.cell v40
        clear v40
        have hgd : pl.getD u 0 = pl[u] := getD_nat pl u hupl
        have hfx := HPF.out pl[u] (List.getElem_mem hupl)
        have em : min u (n - 1) = u := by omega
        rw [em, hgd] at HP
        obtain ⟨xx, hxx⟩ : ∃ y, pl[u] = y := ⟨_, rfl⟩
        rw [hxx] at HP v4 hfx
        have HR := bx (range_same xx d hfx)
        unfold fitsV at hfx
        clear hl2 hnu hupl hgd hxx em
        simp only [St.err] at q1
        by_cases hd0 : d = 0
        · subst hd0
          have hx1 := HP.out (.bad 7) (.bad 7) (by simp [failS]) (by simp [failS])
          have HX1 := bx hx1
          clear hx1
          go_wp2_with fail
          refine (HFA.out _ (.good l3) _ 7 HV5.out (by decide)).mono ?_
          rintro e wF ⟨vF, rfl, hvF, kF⟩
          obtain ⟨AF, nF, cF, rfl⟩ := hvF.form
          have HVF := bx hvF
          have bF := bx (kF.heap B6.out)
          obtain ⟨t0, t1, t2, t3, _⟩ := box2 bF.out
          clear hvF q0 q1
          rw [show (failS (.good l3) 7).err = 7 from rfl] at HVF ⊢
          go_wp2
          have b9 := box2_set bF.out (.slice AF nF cF) (.int .i64 7)
          refine bodyPost_ret (v := .tuple #[.agg #[.slice AF nF cF, .int .i64 7], .int .i64 0, .int .i64 0]) (by simp [results, Try.results57, go_sem, cell_of_row _ _ _ _ _ _ b9]) rfl ?_
          rw [HX1.out]
          exact ⟨_, _, _, rfl, HVF.out, from_set (from_set (K6.out.trans kF) (by omega) _ _) (by omega) _ _, fun l h => by cases h⟩
        · have d0 : (d == 0) = false := by simpa using hd0
          have HD0 := bx hd0
          clear hd0
          go_upto_region 9 with fail
          go_cut [62] from 11 (fun s62 wx => s62 = .bool (decide (¬ fitsV (d.tdiv 2) ∨ ¬ fitsV (xx + d))) ∧ wx = W6)
          case first =>
            by_cases c1 : d > 4294967294
            · have d1 : decide (d > 4294967294) = true := decide_eq_true c1
              have D2 := bx (show decide (¬ fitsV (d.tdiv 2) ∨ ¬ fitsV (xx + d)) = true from decide_eq_true (HR.out.2 (.inl (.inl c1))))
              clear c1
              go_wp2
              go_meet
              case rel => exact ⟨by rw [D2.out], rfl⟩
            · have d1 : decide (d > 4294967294) = false := decide_eq_false c1
              by_cases c2 : d < -4294967294
              · have d2 : decide (d < -4294967294) = true := decide_eq_true c2
                have D2 := bx (show decide (¬ fitsV (d.tdiv 2) ∨ ¬ fitsV (xx + d)) = true from decide_eq_true (HR.out.2 (.inl (.inr c2))))
                clear c1 c2
                go_wp2
                go_meet
                case rel => exact ⟨by rw [D2.out], rfl⟩
              · have d2 : decide (d < -4294967294) = false := decide_eq_false c2
                have D2 := bx (show decide (¬ fitsV (d.tdiv 2) ∨ ¬ fitsV (xx + d)) = !decide (fitsV (xx + d)) by
                  rw [Bool.eq_iff_iff]
                  simp only [decide_eq_true_eq, Bool.not_eq_true', decide_eq_false_iff_not]
                  exact HR.out.trans ⟨fun h => h.resolve_left (by omega), fun h => .inr h⟩)
                have ew : IntKind.i64.wrap (xx + d) = xx + d := IntWalk.i64_in _ (by omega)
                have z5 : (u : Int) < (n : Int) := by omega
                have z6 : (0 : Int) ≤ (u : Int) := by omega
                clear c1 c2
                go_wp2_with fail
                refine (HVA.out _ _).mono ?_
                rintro e w7 ⟨rfl, hw7⟩
                rw [hw7]
                clear hw7 w7
                go_wp2
                go_meet
                case rel => exact ⟨by rw [D2.out], rfl⟩
          case rest =>
            obtain ⟨rfl, hw⟩ := hcut
            rw [hw]
            clear hw wc
            by_cases cc : ¬ fitsV (d.tdiv 2) ∨ ¬ fitsV (xx + d)
            · rw [decide_eq_true cc]
              have hx1 := HP.out (.good l3) (.bad 5) (by rw [if_neg HD0.out]) (by rw [if_pos cc]; rfl)
              have HX1 := bx hx1
              clear hx1 cc
              go_wp2_with fail
              refine (HFA.out _ (.good l3) _ 5 HV5.out (by decide)).mono ?_
              rintro e wF ⟨vF, rfl, hvF, kF⟩
              obtain ⟨AF, nF, cF, rfl⟩ := hvF.form
              have HVF := bx hvF
              have bF := bx (kF.heap B6.out)
              obtain ⟨t0, t1, t2, t3, _⟩ := box2 bF.out
              clear hvF q0 q1
              rw [show (failS (.good l3) 5).err = 5 from rfl] at HVF ⊢
              go_wp2
              have b9 := box2_set bF.out (.slice AF nF cF) (.int .i64 5)
              refine bodyPost_ret (v := .tuple #[.agg #[.slice AF nF cF, .int .i64 5], .int .i64 0, .int .i64 0]) (by simp [results, Try.results57, go_sem, cell_of_row _ _ _ _ _ _ b9]) rfl ?_
              rw [HX1.out]
              exact ⟨_, _, _, rfl, HVF.out, from_set (from_set (K6.out.trans kF) (by omega) _ _) (by omega) _ _, fun l h => by cases h⟩
            · rw [decide_eq_false cc]
              have hx1 := HP.out (.good l3) (.good l3) (by rw [if_neg HD0.out]) (by rw [if_neg cc])
              have hfit : fitsV (xx + d) := Classical.byContradiction fun h => cc (.inr h)
              unfold fitsV at hfit
              have HX1 := bx hx1
              clear hx1 cc
              have ew : IntKind.i64.wrap (xx + d) = xx + d := IntWalk.i64_in _ (by omega)
              have ew2 : IntKind.i64.wrap (u : Int) = (u : Int) := IntWalk.i64_in _ (by omega)
              have z5 : (u : Int) < (n : Int) := by omega
              have z6 : (0 : Int) ≤ (u : Int) := by omega
              go_upto_region 11 with fail
              go_region
              all_goals
                go_wp2
                have b9 := box2_set B6.out (.slice A5 n5 c5) (.int .i64 0)
                refine bodyPost_ret (v := .tuple #[.agg #[.slice A5 n5 c5, .int .i64 0], .int .i64 u, .int .i64 (xx + d)]) (by simp [results, Try.results57, go_sem, cell_of_row _ _ _ _ _ _ b9]) rfl ?_
                rw [HX1.out]
                exact ⟨_, _, _, rfl, HV5.out, (from_set (from_set K6.out (by omega) _ _) (by omega) _ _).drew, fun l h => ⟨rfl, rfl⟩⟩
end Go.Proofs.Ytpdbdpmlppbnnaa
