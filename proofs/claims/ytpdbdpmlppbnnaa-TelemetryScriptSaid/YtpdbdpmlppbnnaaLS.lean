/-
  TelemetryScript: for all numbers of parameters and all scripts of up to 40 steps with packets and acknowledgements that are lost, doubled, late or spoilt, every result of the source and of the sink agrees with the specification.
-/
import Derived.Test.YtpdbdpmlppbnnaaV18
import Derived.Test.YtpdbdpmlppbnnaaU18
import Derived.Test.YtpdbdpmlppbnnaaR9
import Derived.Deep.CutRange
import Derived.Deep.CutBlock
namespace Go.Proofs.Ytpdbdpmlppbnnaa
open Go.ChangeShapes Go.WideShapes Go.ChangeAt Go.RowKit Go.Shelf

theorem Try.elBytsT : ElT Try.prog 61 31 (.slice none 0 0) 1 24 := ⟨Try.underlying61, info_parts (by kernel_rfl), rfl, by decide⟩
theorem own_off {S : Nat → Prop} {w w' : World} {base size n : Nat} {e : TypeId} {v : Value} {xs : List Value} (h : w.ownsRow base e size v n xs) (o : Off S w w') (hS : ∀ g, base ≤ g → ¬ S g) : w'.ownsRow base e size v n xs := by
  obtain ⟨h1, h2⟩ := h
  refine ⟨h1, ?_⟩
  rcases h2 with h2 | ⟨g, cap, cur, hv, hg, hh, r⟩
  · exact .inl h2
  · exact .inr ⟨g, cap, cur, hv, hg, (o.block g (Array.getElem?_eq_some_iff.1 hh).1 (hS g hg)).trans hh, r⟩
/-- what holds behind a step -/
def ScM (w0 wr : World) (p1 p2 p3 p4 n k : Nat) (s : Value) : Prop :=
  ∃ (all : List (List Int)) (bs : Nat) (l : List (Nat × List Int)) (sent : List (List Int)) (S : Nat → Nat → Prop), Sc w0 wr p1 p2 p3 p4 n (k + 2) s all bs all bs (hOf l) l sent S ∧ all.length ≤ k + 2 ∧ l.length ≤ k + 2 ∧ sent.length ≤ k + 1
/-- what holds at the loop's head -/
def ScL (w0 wr : World) (p1 p2 p3 p4 n N k : Nat) (i s : Value) : Prop :=
  ∃ (all : List (List Int)) (bs : Nat) (l : List (Nat × List Int)) (sent : List (List Int)) (S : Nat → Nat → Prop), k ≤ N ∧ k ≤ 40 ∧ i = .int .i64 k ∧ Sc w0 wr p1 p2 p3 p4 n (k + 1) s all bs all bs (hOf l) l sent S ∧ all.length ≤ k + 1 ∧ l.length ≤ k + 1 ∧ sent.length ≤ k
theorem box4 {w : World} {b : Nat} {x0 x1 x2 x3 : Value} {t : TypeId} (h : w.heap[b]? = some (.cells #[x0, x1, x2, x3] t (0, 0))) :
    w.cell? ⟨b, 0, none⟩ = some x0 ∧ w.cell? ⟨b, 1, none⟩ = some x1 ∧ w.cell? ⟨b, 2, none⟩ = some x2 ∧ w.cell? ⟨b, 3, none⟩ = some x3 ∧ b < w.heap.size :=
  ⟨by rw [cell_of_row _ _ _ _ _ _ h]; rfl, by rw [cell_of_row _ _ _ _ _ _ h]; rfl, by rw [cell_of_row _ _ _ _ _ _ h]; rfl, by rw [cell_of_row _ _ _ _ _ _ h]; rfl, (Array.getElem?_eq_some_iff.1 h).1⟩
/-- a packet that arrives: it stays where only the sink turns -/
def ScY (w : World) (T : Nat → Prop) (x : Value) : Prop := ∃ (b : List Int) (A : Option Addr) (c : Nat), x = .slice A b.length c ∧ bytes b ∧ b.length ≤ 140737488355328 ∧ b.length ≤ c ∧ ∀ w', Off T w w' → Byts w' x b ∧ RfV w' (.agg #[x, .int .i64 0]) (.good b)
set_option maxHeartbeats 8000000 in
set_option maxRecDepth 10000 in
theorem scr_walk (a0 : Int) (A1 : Option Addr) (c1 : Nat) (l1 : List StV) (w : World) (w00 : -9223372036854775808 ≤ a0) (w01 : a0 ≤ 9223372036854775807) (hB1 : Steps w (.slice A1 l1.length c1) l1) (_ : l1.length ≤ 9223372036854775807) :
    Calls Try.prog 8 #[.int .i64 a0, .slice A1 l1.length c1] w fun e w' => e = .returned (.bool true) ∧ Below w.heap.size w w' := by
  have q0 := around_bd a0 32 (by decide)
  obtain ⟨m, hm⟩ : ∃ m : Nat, around a0 32 = m := ⟨(around a0 32).toNat, by omega⟩
  have HA := bx (fun (V : World) => around_calls a0 32 V w00 w01 (by decide) (by decide))
  rw [hm] at q0 HA
  obtain ⟨n, hn⟩ : ∃ n, m + 1 = n := ⟨_, rfl⟩
  have hn2 : 1 ≤ n ∧ n ≤ 32 := by omega
  have ew : IntKind.i64.wrap (1 + (m : Int)) = (n : Int) := by rw [show (1 : Int) + (m : Int) = (n : Int) by omega]; exact IntWalk.i64_in _ (by omega)
  have HLV := bx (fun (V : World) => lives_calls V)
  have H1 := bx (fun (V : World) => newSource_calls n V hn2)
  have H2 := bx (fun (V : World) => newSink_calls n V hn2)
  have H3 := bx (fun (V : World) => rNewSource_calls n V hn2)
  have H4 := bx (fun (V : World) => rNewSink_calls n V hn2)
  have HN := bx hn2
  have HST := bx hB1
  obtain ⟨N, hN⟩ : ∃ N, l1.length = N := ⟨_, rfl⟩
  have HNN := bx hN
  rw [hN] at HST ⊢
  clear hm hB1 hN w00 w01
  go_enter Try.func8, Try.ntmps8
  go_wp2_with fail
  refine (HA.out w).mono ?_
  rintro e w' ⟨rfl, hw⟩
  rw [hw]
  clear hw w'
  go_wp2_with fail
  refine (H1.out w).mono ?_
  rintro e w1 ⟨p1, rfl, k1, hs1⟩
  go_wp2_with fail
  refine (H2.out w1).mono ?_
  rintro e w2 ⟨p2, rfl, k2, hk2⟩
  go_wp2_with fail
  refine (H3.out w2).mono ?_
  rintro e w3 ⟨p3, rfl, k3, hs3⟩
  go_wp2_with fail
  refine (H4.out w3).mono ?_
  rintro e w4 ⟨p4, rfl, k4, hs4⟩
  obtain ⟨S0, hS0⟩ := sc_start k1 hs1 k2 hk2 k3 hs3 k4 hs4
  have hH0 : (fun q => if q = 0 then some (List.replicate n 0) else none) = hOf [(0, List.replicate n 0)] := by
    funext q
    simp only [hOf, hasL, List.find?]
    by_cases e : q = 0
    · subst e; rfl
    · have : (((0 : Nat) : Int) == (q : Int)) = false := by simp; omega
      rw [if_neg e]
      simp only [this]
      rfl
  rw [hH0] at hS0
  have HS0 := bx hS0
  clear k1 hs1 k2 hk2 k3 hs3 k4 hs4 hS0 hH0
  go_wp2_with fail
  go_loopw [11, 10] (fun i s wr => ∃ k, ScL w wr p1 p2 p3 p4 n N k i s) (fun i _ _ => 40 - (intOf i).toNat)
  case atStart => exact ⟨0, _, 0, _, [], _, Nat.zero_le _, by omega, rfl, HS0.out, by simp, by simp, by simp⟩
  case round =>
    obtain ⟨k, all, bs, l, sent, S, hk, hk40, rfl, hsy, hal, hll, hsl⟩ := hrel
    have HSY := bx hsy
    have HAL := bx hal
    have HLL := bx hll
    have HSL := bx hsl
    clear hsy hal hsl hll
    by_cases hlt : k < N
    · have z1 : decide ((k : Int) < (N : Int)) = true := decide_eq_true (by omega)
      by_cases h40 : k < 40
      · have z2 : decide ((k : Int) < 40) = true := decide_eq_true (by omega)
        obtain ⟨b, off, rfl, hbl, hok, y0, y1, y2, y3⟩ := (HST.out.from HSY.out.f).at_ (k := k) (by rw [HNN.out]; exact hlt)
        have hok0 : StOk w (l1[k]'(by rw [HNN.out]; exact hlt)) := by obtain ⟨_, _, _, _, h, _⟩ := HST.out.at_ (k := k) (by rw [HNN.out]; exact hlt); exact h
        have HOK := bx hok
        have HOK0 := bx hok0
        obtain ⟨⟨kind, nn, AL, cL, L, AB, cB, B⟩, hx⟩ : ∃ x, l1[k]'(by rw [HNN.out]; exact hlt) = x := ⟨_, rfl⟩
        rw [hx] at HOK HOK0 y0 y1 y2 y3
        simp only at y0 y1 y2 y3
        have z3 : (k : Int) < (N : Int) := by omega
        have z4 : (0 : Int) ≤ (k : Int) := by omega
        clear hx hok hok0
        obtain ⟨As, cs, hes⟩ := HSY.out.t.low
        subst hes
        obtain ⟨W1, hW1⟩ : ∃ W, wr.alloc (.cells #[.int .i64 kind, .int .i64 nn, .slice AL L.length cL, .slice AB B.length cB] 63) = W := ⟨_, rfl⟩
        have kW : From wr W1 := by rw [← hW1]; exact (From.refl _).alloc _
        obtain ⟨pB, hpB⟩ : ∃ p, wr.heap.size = p := ⟨_, rfl⟩
        have bW : W1.heap[pB]? = some (.cells #[.int .i64 kind, .int .i64 nn, .slice AL L.length cL, .slice AB B.length cB] 63 (0, 0)) := by rw [← hW1, ← hpB]; exact heap_alloc_new _ _
        have HS1 := bx (HSY.out.go kW)
        have HB1 := bx bW
        have HOK1 := bx (HOK.out.from kW)
        have HPB := bx (show ∀ j, ¬ S j pB from fun j hj => by have := HSY.out.m.lt j pB hj; omega)
        go_upto_region 13 with fail
        try rw [hpB]
        try rw [hW1]
        clear hW1 hpB kW bW y0 y1 y2 y3
        obtain ⟨g0, g1, g2, g3, _⟩ := box4 HB1.out
        go_upto_block 2 with fail
        have hnn := HN.out
        have hal := HAL.out
        have hll := HLL.out
        have hsl := HSL.out
        have hnb := HOK1.out.n
        simp only at hnb
        go_cut [10] from 66 to 191 (fun s wx => ScM w wx p1 p2 p3 p4 n k s)
        case first =>
          by_cases h0 : kind = 0
          · subst h0
            obtain ⟨t8, ht8⟩ : ∃ t, (Int.tmod nn 8 != 0) = t := ⟨_, rfl⟩
            have HL0 := bx (show ∃ v A c, (Value.slice AL L.length cL) = .slice A (v : List Int).length c ∧ Off (S 0) W1 W1 ∧ From W1 W1 ∧ Apart W1 p1 (.slice AL L.length cL) v ∧ (∀ w', Off (S 0) W1 w' → Ints w' (.slice AL L.length cL) v) ∧ v.length ≤ c ∧ v.length ≤ 9223372036854775807 from by
              have hp1 : S 0 p1 := by obtain ⟨_, _, _, _, _, hc⟩ := HS1.out.s; exact hc.pS
              have hL := HOK0.out.L
              simp only at hL
              exact ⟨L, AL, cL, rfl, Off.refl _ _, From.refl _, apart_low (hL.below HS1.out.f) (HS1.out.m.lo 0 p1 hp1) (HS1.out.m.lt 0 p1 hp1), fun w' o => hL.from (HS1.out.f.off o (HS1.out.m.lo 0)), HOK0.out.Lc, HOK0.out.Lm⟩)
            go_upto_if 84 with fail
            go_outline
            go_cut [13] from 85 to 88 (fun x wx => ∃ v A c, x = .slice A (v : List Int).length c ∧ Off (S 0) W1 wx ∧ From W1 wx ∧ Apart wx p1 x v ∧ (∀ w', Off (S 0) wx w' → Ints w' x v) ∧ v.length ≤ c ∧ v.length ≤ 9223372036854775807)
            case first =>
              cases t8 with
              | false =>
                go_wp2_with fail
                go_meet
                case rel => exact HL0.out
              | true =>
                have HTK0 := bx (taken_calls n AL cL L W1 HOK1.out.L HOK1.out.Lx (by omega))
                have hvl := mkV_len L n
                obtain ⟨v, hv⟩ : ∃ v, mkV L n = v := ⟨_, rfl⟩
                rw [hv] at hvl HTK0
                have HVL := bx hvl
                clear hv hvl
                go_wp2_with fail
                refine HTK0.out.mono ?_
                rintro e w2 ⟨AV, cV, rfl, oV, kV⟩
                have HOV := bx oV
                have HKV := bx kV
                clear oV kV
                go_wp2_with fail
                go_meet
                case rel =>
                  have hap : Apart w2 p1 (.slice AV v.length cV) v := by
                    obtain ⟨_, _, _, _, _, hc⟩ := (HS1.out.go HKV.out).s
                    exact apart_own rfl HOV.out hc.box (by decide)
                  refine ⟨v, AV, cV, rfl, Off.of HKV.out, HKV.out, hap, fun w' o => ?_, own_cap HOV.out, by rw [HVL.out]; omega⟩
                  exact sl_of_own (own_off HOV.out o (fun g hg hs => by have := HS1.out.m.lt 0 g hs; omega))
            case rest =>
              obtain ⟨v, A, c, rfl, ho, hf, hap, hst, hvc, hvm⟩ := hcut
              obtain ⟨⟨ra, rc, all'⟩, ht⟩ : ∃ x, takeP n all v = x := ⟨_, rfl⟩
              have HS2 := bx (HS1.out.go hf)
              have HTL := bx (takeP_len ht)
              have HTK := bx (take_calls (S 0) p1 n all bs (.slice A v.length c) v wc HS2.out.s hap hvm ra rc all' ht)
              have HRT := bx (fun (V : World) (hx : RSrc (S 2) V p3 n all bs) (hi : Ints V (.slice A v.length c) v) => rTake_calls (S 2) p3 n all bs A c v V hx hi hvc hvm ra rc all' ht)
              have HST2 := bx hst
              clear ho hf hap hst ht g0 g1 g2 g3
              go_wp2_with fail
              refine HTK.out.mono ?_
              rintro e w3 ⟨rfl, off3, s3⟩
              have HS3 := bx (HS2.out.src off3 s3)
              have hx3 := HS3.out.x
              rw [updF_ne S _ (by decide : 2 ≠ 0)] at hx3
              have HR3 := bx (HRT.out w3 hx3 (HST2.out w3 off3))
              clear off3 s3 hx3
              go_wp2_with fail
              refine HR3.out.mono ?_
              rintro e w4 ⟨rfl, off4, s4⟩
              have e3 : updF S 0 (GrowS (S 0) wc w3) 2 = S 2 := updF_ne S _ (by decide : 2 ≠ 0)
              rw [← e3] at off4 s4
              have HS4 := bx (HS3.out.rsrc off4 s4)
              have q1 : (ra != ra) = false := by simp
              have q2 : (rc != rc) = false := by simp
              clear off4 s4 e3
              go_wp2_with fail
              go_meet
              case rel =>
                have := HTL.out
                exact ⟨all', bs, l, sent, _, HS4.out.more (by omega), by omega, by omega, by omega⟩
          · by_cases h1 : kind = 1
            · subst h1
              have hpl := permN_perm L n
              have HPM0 := bx (permR_calls n AL cL L W1 HOK1.out.L HOK1.out.Lx (by omega))
              obtain ⟨o, ho⟩ : ∃ o, permN L n = o := ⟨_, rfl⟩
              rw [ho] at hpl HPM0
              have HPE := bx hpl
              obtain ⟨⟨x1, x2⟩, hx⟩ : ∃ x, packP all bs o nn = x := ⟨_, rfl⟩
              have hxb : bytes x1 ∧ x1.length ≤ 100000 := by
                obtain ⟨_, last, _, _, _, hc⟩ := HS1.out.s
                have h1 := hc.len
                have h2 := hc.bs_le
                exact packB_of (by omega) (by omega) (by omega) hc.ok (by omega) o HPE.out nn hx
              have HXB := bx hxb
              have HPK := bx (fun (V : World) (k : From W1 V) (v : Value) (io : Ints V v (nl o)) => srcPacket_calls (S 0) p1 n all bs v o nn V (HS1.out.go k).s (fun _ => ⟨io, HPE.out⟩) (x1, x2) hx)
              have HRK := bx (fun (V : World) (k : From W1 V) (v : Value) (io : Ints V v (nl o)) => rPacket_calls (S 2) p3 n all bs v o nn V (HS1.out.go k).x (fun _ => ⟨io, HPE.out⟩) (x1, x2) hx)
              clear ho hx hpl hxb
              go_wp2_with fail
              refine HPM0.out.mono ?_
              rintro e w2 ⟨AO, cO, rfl, oO, kO⟩
              obtain ⟨g0, g1, g2, g3, _⟩ := box4 (kO.heap HB1.out)
              have HP2 := bx (HPK.out w2 kO _ (sl_of_own oO))
              have HOO := bx oO
              have HKO := bx kO
              clear oO kO
              go_wp2_with fail
              refine HP2.out.mono ?_
              rintro e w3 ⟨AP, cP, rfl, oP, kP⟩
              have HKP := bx (HKO.out.trans kP)
              obtain ⟨g0, g1, g2, g3, _⟩ := box4 (HKP.out.heap HB1.out)
              have HR3 := bx (HRK.out w3 HKP.out _ ((show Ints w2 _ _ from sl_of_own HOO.out).from kP))
              have HOP := bx oP
              clear oP kP
              go_wp2_with fail
              refine HR3.out.mono ?_
              rintro e w4 ⟨AR, cR, rfl, oR, kR⟩
              have HKR := bx (HKP.out.trans kR)
              have HK3 := bx kR
              have HOR := bx oR
              have HSB := bx (show Calls Try.prog 27 #[.slice AP x1.length cP, .slice AR x1.length cR] w4 fun e w' => e = .returned (.bool true) ∧ w' = w4 by
                have := sameB_calls (.slice AP x1.length cP) (.slice AR x1.length cR) x1 x1 w4 (sl_of_own (own_call HOP.out kR)) (sl_of_own oR) HXB.out.1 HXB.out.1
                simpa only [decide_true] using this)
              have q2 : (x2 != x2) = false := by simp
              clear oR kR
              go_wp2_with fail
              refine HSB.out.mono ?_
              rintro e w' ⟨rfl, hw⟩
              rw [hw]
              clear hw w'
              by_cases hx2 : x2 = 0
              · subst hx2
                have d1 : ((0 : Int) == 0) = true := rfl
                have HS3 := bx ((HS1.out.go HKR.out).go ((From.refl _).alloc (.cells #[.slice AR x1.length cR] 31)))
                obtain ⟨A3, c3, vs3, e3, ho3, hS3, hE3⟩ := HS3.out.t
                injection e3 with e31 e32 e33
                subst e31 e33
                have HO3 := bx ho3
                clear ho3 g0 g1 g2 g3
                go_wp2_with (at_builtin; refine app_sl rfl _ _ 61 rfl Try.elBytsT rfl HO3.out 1 [.slice AR x1.length cR] rfl (sl_new _ [.slice AR x1.length cR] 31 1 1) rfl (by simp [Value.oneCell']) (by omega) (by unfold maxLen; omega) (Nat.zero_le _) ?_; intro A9 c9 w9 o9 g9 r9)
                go_meet
                case rel =>
                  have kA : From w4 (w4.alloc (.cells #[.slice AR x1.length cR] 31)) := (From.refl _).alloc _
                  have hsz3 := HKP.out.size
                  have hsz4 := HK3.out.size
                  have hszA := kA.size
                  have hrow : YRw (fun g => w3.heap.size ≤ g ∧ g < w4.heap.size) (w4.alloc (.cells #[.slice AR x1.length cR] 31)) (.slice AR x1.length cR) x1 := by
                    obtain ⟨A', c', e', h1, h2, h3⟩ := yrw_of (S := fun g => w3.heap.size ≤ g ∧ g < w4.heap.size) rfl HOR.out (fun k a b => ⟨a, b⟩) HXB.out.1 (by have := HXB.out.2; omega)
                    injection e' with e1 e2 e3
                    subst e1 e3
                    exact ⟨AR, cR, rfl, own_base (own_call HOR.out kA) (Nat.zero_le _), h2, h3⟩
                  obtain ⟨hR, hO⟩ := RowsOf.app yElK (l := x1) rfl HO3.out hS3 hE3 hrow (by decide) (fun g hg => by
                    rcases hg with hg | hg
                    · exact HS3.out.m.lt 4 g hg
                    · have := hg.2; omega) o9 g9 r9
                  have hf0 := HS1.out.f.size
                  exact ⟨all, bs, l, sent ++ [x1], _, (HS3.out.app hO hR (fun i hi => ⟨by have := hi.1; omega, by have := hi.2; omega, fun j hj => by have := HS1.out.m.lt j i hj; have := hi.1; omega⟩)).more (by omega), by omega, by omega, by simp; omega⟩
              · have d1 : (x2 == 0) = false := by simpa using hx2
                clear hx2 g0 g1 g2 g3
                go_wp2_with fail
                go_meet
                case rel => exact ⟨all, bs, l, sent, S, (HS1.out.go HKR.out).more (by omega), by omega, by omega, by omega⟩
            · by_cases h24 : kind = 2 ∨ kind = 4
              · have e0 : (kind == 0) = false := by simpa using h0
                have e1 : (kind == 1) = false := by simpa using h1
                have HY := bx (show ∀ (A : Option Addr) (c : Nat) (b : List Int), (∀ w', Off (S 1) W1 w' → Byts w' (.slice A b.length c) b) → bytes b → b.length ≤ 140737488355328 → b.length ≤ c → ScY W1 (S 1) (.slice A b.length c) from fun A c b h1 h2 h3 h4 => ⟨b, A, c, rfl, h2, h3, h4, fun w' o => ⟨h1 w' o, A, c, rfl, h1 w' o, h2, h3, h4⟩⟩)
                have HYB := bx (HY.out AB cB B (fun w' o => by have := HOK0.out.B; simp only at this; exact this.from (HS1.out.f.off o (HS1.out.m.lo 1))) HOK0.out.Bx_ HOK0.out.Bm HOK0.out.Bc)
                by_cases h2 : kind = 2
                · subst h2
                  go_upto_if 153 with fail
                  go_cut [23] from 154 to 164 (fun x wx => wx = W1 ∧ ScY W1 (S 1) x)
                  case first =>
                    by_cases hs0 : sent.length = 0
                    · have d1 : ((sent.length : Int) == 0) = true := by simp [hs0]
                      have ewk : IntKind.i64.wrap ((k : Int) + 1) = (k : Int) + 1 := IntWalk.i64_in _ (by omega)
                      go_wp2_with fail
                      exact ⟨⟨k + 1, all, bs, l, sent, S, by omega, by omega, by go_num, HS1.out.more (by omega), by omega, by omega, by omega⟩, by simp [intOf]; omega⟩
                    · have d1 : ((sent.length : Int) == 0) = false := beq_eq_false_iff_ne.2 (by omega)
                      have hab := around_bd nn (sent.length : Int) (by omega)
                      have HAR := bx (fun (V : World) => around_calls nn (sent.length : Int) V hnb.1 hnb.2 (by omega) (by omega))
                      obtain ⟨q, hq⟩ : ∃ q : Nat, around nn (sent.length : Int) = q := ⟨(around nn (sent.length : Int)).toNat, by omega⟩
                      rw [hq] at hab HAR
                      have hqs : q < sent.length := by omega
                      obtain ⟨gq, cq, u, e1', e2', e3'⟩ := HS1.out.t.at_ hqs
                      injection e1' with e11 _ e13
                      subst e11 e13
                      obtain ⟨Au, cu, hue⟩ := e3'.form
                      have HYS := bx (show ScY W1 (S 1) (.slice Au sent[q].length cu) from HY.out Au cu sent[q] (fun w' o => by
                        have := (e3'.same (HS1.out.m.sameOn o (by decide : 4 ≠ 1))).byts
                        rw [hue] at this
                        exact this) (by obtain ⟨_, _, _, _, _, h, _⟩ := e3'; exact h) (by obtain ⟨_, _, _, _, _, _, h⟩ := e3'; exact h) (by rw [hue] at e3'; exact e3'.rf.2.2))
                      subst hue
                      generalize sent[q].length = NB at *
                      have z5 : (q : Int) < (sent.length : Int) := by omega
                      have z6 : (0 : Int) ≤ (q : Int) := by omega
                      clear hq e3' hqs hs0
                      go_wp2_with fail
                      refine (HAR.out _).mono ?_
                      rintro e w' ⟨rfl, hw⟩
                      rw [hw]
                      clear hw w'
                      go_wp2_with fail
                      go_meet
                      case rel => exact ⟨rfl, HYS.out⟩
                  case rest =>
                    obtain ⟨hwc, b, A, c, rfl, hyb, hyl, hyc, hst⟩ := hcut
                    rw [hwc]
                    clear hwc wc
                    obtain ⟨⟨q, t, ec, l'⟩, hr⟩ : ∃ x, rputP l b = x := ⟨_, rfl⟩
                    have HLN := bx (rputP_len hr)
                    have HPT := bx (putS_calls (S 1) p2 n (k + 1) (hOf l) (.slice A b.length c) b W1 HS1.out.k (hst W1 (Off.refl _ _)).1 hyl hyb (by omega) q ec t (hOf l') (put_same hr))
                    have HRP := bx (fun (V : World) (hx : RSnk (S 3) V p4 n l) (hi : Byts V (.slice A b.length c) b ∧ RfV V (.agg #[.slice A b.length c, .int .i64 0]) (.good b)) => rPut_calls (S 3) p4 n l A c b V hx hi.2 hi.1 hyb hyl hyc (by omega) q t ec l' hr)
                    have HST2 := bx hst
                    obtain ⟨NB, hNB⟩ : ∃ NB, b.length = NB := ⟨_, rfl⟩
                    rw [hNB] at HPT HRP HST2 hyl hyc ⊢
                    clear hst hr hyb hNB g0 g1 g2 g3
                    go_wp2_with fail
                    refine HPT.out.mono ?_
                    rintro e w3 ⟨rfl, off3, s3⟩
                    have HS3 := bx (HS1.out.snk off3 s3)
                    have hx3 := HS3.out.y
                    rw [updF_ne S _ (by decide : 3 ≠ 1)] at hx3
                    have HR3 := bx (HRP.out w3 hx3 (HST2.out w3 off3))
                    clear off3 s3 hx3
                    go_wp2_with fail
                    refine HR3.out.mono ?_
                    rintro e w4 ⟨rfl, off4, s4⟩
                    have e3 : updF S 1 (GrowS (S 1) W1 w3) 3 = S 3 := updF_ne S _ (by decide : 3 ≠ 1)
                    rw [← e3] at off4 s4
                    have HS4 := bx (HS3.out.rsnk off4 s4)
                    have q1 : (q != q) = false := by simp
                    have q2 : (t != t) = false := by simp
                    have q3 : (ec != ec) = false := by simp
                    clear off4 s4 e3
                    go_wp2_with fail
                    go_meet
                    case rel =>
                      have := HLN.out
                      exact ⟨all, bs, l', sent, _, HS4.out, by omega, by omega, by omega⟩
                · have h4 : kind = 4 := by omega
                  subst h4
                  have e2 : ((4 : Int) == 2) = false := rfl
                  go_upto_if 153 with fail
                  go_cut [23] from 154 to 164 (fun x wx => wx = W1 ∧ ScY W1 (S 1) x)
                  case first =>
                    go_wp2_with fail
                    go_meet
                    case rel => exact ⟨rfl, HYB.out⟩
                  case rest =>
                    obtain ⟨hwc, b, A, c, rfl, hyb, hyl, hyc, hst⟩ := hcut
                    rw [hwc]
                    clear hwc wc
                    obtain ⟨⟨q, t, ec, l'⟩, hr⟩ : ∃ x, rputP l b = x := ⟨_, rfl⟩
                    have HLN := bx (rputP_len hr)
                    have HPT := bx (putS_calls (S 1) p2 n (k + 1) (hOf l) (.slice A b.length c) b W1 HS1.out.k (hst W1 (Off.refl _ _)).1 hyl hyb (by omega) q ec t (hOf l') (put_same hr))
                    have HRP := bx (fun (V : World) (hx : RSnk (S 3) V p4 n l) (hi : Byts V (.slice A b.length c) b ∧ RfV V (.agg #[.slice A b.length c, .int .i64 0]) (.good b)) => rPut_calls (S 3) p4 n l A c b V hx hi.2 hi.1 hyb hyl hyc (by omega) q t ec l' hr)
                    have HST2 := bx hst
                    obtain ⟨NB, hNB⟩ : ∃ NB, b.length = NB := ⟨_, rfl⟩
                    rw [hNB] at HPT HRP HST2 hyl hyc ⊢
                    clear hst hr hyb hNB g0 g1 g2 g3
                    go_wp2_with fail
                    refine HPT.out.mono ?_
                    rintro e w3 ⟨rfl, off3, s3⟩
                    have HS3 := bx (HS1.out.snk off3 s3)
                    have hx3 := HS3.out.y
                    rw [updF_ne S _ (by decide : 3 ≠ 1)] at hx3
                    have HR3 := bx (HRP.out w3 hx3 (HST2.out w3 off3))
                    clear off3 s3 hx3
                    go_wp2_with fail
                    refine HR3.out.mono ?_
                    rintro e w4 ⟨rfl, off4, s4⟩
                    have e3 : updF S 1 (GrowS (S 1) W1 w3) 3 = S 3 := updF_ne S _ (by decide : 3 ≠ 1)
                    rw [← e3] at off4 s4
                    have HS4 := bx (HS3.out.rsnk off4 s4)
                    have q1 : (q != q) = false := by simp
                    have q2 : (t != t) = false := by simp
                    have q3 : (ec != ec) = false := by simp
                    clear off4 s4 e3
                    go_wp2_with fail
                    go_meet
                    case rel =>
                      have := HLN.out
                      exact ⟨all, bs, l', sent, _, HS4.out, by omega, by omega, by omega⟩
              · have e0 : (kind == 0) = false := by simpa using h0
                have e1 : (kind == 1) = false := by simpa using h1
                have e2 : (kind == 2) = false := by simp; omega
                have e4 : (kind == 4) = false := by simp; omega
                obtain ⟨⟨c9, bs'⟩, hak⟩ : ∃ x, ackP (all.length - 1) bs nn = x := ⟨_, rfl⟩
                have HAP := bx (fun (V : World) (h : Src (S 0) V p1 n all bs) => ack_calls (S 0) p1 n all bs nn V h hnb c9 bs' hak)
                have HAR := bx (fun (V : World) (h : RSrc (S 2) V p3 n all bs) => rAck_calls (S 2) p3 n all bs nn V h hnb c9 bs' hak)
                have q1 : (c9 != c9) = false := by simp
                clear hak h0 h1 h24
                go_upto_region 14 with fail
                go_region_with (first
                  | (go_at_call 32; refine (HAP.out _ (HS1.out.go (From.refl _).drew).s).mono ?_; rintro e w2 ⟨rfl, o2, s2⟩; have HSa := bx ((HS1.out.go (From.refl _).drew).src o2 s2); have hx2 : RSrc (S 2) w2 p3 n all bs := (by have h := HSa.out.x; rw [updF_ne S _ (by decide : 2 ≠ 0)] at h; exact h); obtain ⟨g0, g1, g2, g3, _⟩ := box4 ((o2.block pB (Array.getElem?_eq_some_iff.1 HB1.out).1 (HPB.out 0)).trans HB1.out))
                  | (go_at_call 41; refine (HAR.out w2 hx2).mono ?_; rintro e w4 ⟨rfl, o4, s4⟩; have HSF := bx (HSa.out.rsrc (by rw [updF_ne S _ (by decide : 2 ≠ 0)]; exact o4) (by rw [updF_ne S _ (by decide : 2 ≠ 0)]; exact s4)); obtain ⟨g0, g1, g2, g3, _⟩ := box4 ((o4.block pB (Array.getElem?_eq_some_iff.1 ((o2.block pB (Array.getElem?_eq_some_iff.1 HB1.out).1 (HPB.out 0)).trans HB1.out)).1 (HPB.out 2)).trans ((o2.block pB (Array.getElem?_eq_some_iff.1 HB1.out).1 (HPB.out 0)).trans HB1.out)))
                  | (go_at_call 41; refine (HAR.out _ (HS1.out.go (From.refl _).drew).x).mono ?_; rintro e w2 ⟨rfl, o2, s2⟩; have HSa := bx ((HS1.out.go (From.refl _).drew).rsrc o2 s2); have hx2 : Src (S 0) w2 p1 n all bs := (by have h := HSa.out.s; rw [updF_ne S _ (by decide : 0 ≠ 2)] at h; exact h); obtain ⟨g0, g1, g2, g3, _⟩ := box4 ((o2.block pB (Array.getElem?_eq_some_iff.1 HB1.out).1 (HPB.out 2)).trans HB1.out))
                  | (go_at_call 32; refine (HAP.out w2 hx2).mono ?_; rintro e w4 ⟨rfl, o4, s4⟩; have HSF := bx (HSa.out.src (by rw [updF_ne S _ (by decide : 0 ≠ 2)]; exact o4) (by rw [updF_ne S _ (by decide : 0 ≠ 2)]; exact s4)); obtain ⟨g0, g1, g2, g3, _⟩ := box4 ((o4.block pB (Array.getElem?_eq_some_iff.1 ((o2.block pB (Array.getElem?_eq_some_iff.1 HB1.out).1 (HPB.out 2)).trans HB1.out)).1 (HPB.out 0)).trans ((o2.block pB (Array.getElem?_eq_some_iff.1 HB1.out).1 (HPB.out 2)).trans HB1.out))))
                all_goals
                  clear o2 s2 o4 s4 hx2
                  go_wp2_with fail
                  go_meet
                  case rel => exact ⟨all, bs', l, sent, _, HSF.out.more (by omega), by omega, by omega, by omega⟩
        case rest =>
          clear g0 g1 g2 g3 hal hsl hll
          obtain ⟨all, bs, l, sent, S, hsy, hal, hll, hsl⟩ := hcut
          obtain ⟨As, cs, hes⟩ := hsy.t.low
          subst hes
          have HOKL := bx (show ∀ x ∈ l, x.1 ≤ 1000000 ∧ x.2.length = n ∧ ∀ y ∈ x.2, fitsV y by obtain ⟨_, h⟩ := hsy.y; exact h.ok)
          have HSY2 := bx hsy
          have HAL2 := bx hal
          have HSL2 := bx hsl
          have HLL2 := bx hll
          clear hsy hsl hal hll
          go_wp2_with fail
          go_loopw [30] (fun i wx => ∃ q : Nat, q ≤ 10 ∧ i = .int .i64 q ∧ From wc wx) (fun i _ => 10 - (intOf i).toNat)
          case atStart => exact ⟨0, Nat.zero_le _, rfl, From.refl _⟩
          case round =>
            obtain ⟨q, hq, rfl, hf⟩ := hrel
            have HF := bx hf
            by_cases hlq : q < 10
            · have z5 : decide ((q : Int) < 10) = true := decide_eq_true (by omega)
              have HG := bx (get_calls (S 1) p2 n (k + 2) (hOf l) (q : Int) wr (HSY2.out.go hf).k (by omega))
              rw [getP, if_neg (by omega), show ((q : Int)).toNat = q by omega] at HG
              obtain ⟨r, hr⟩ : ∃ r, hasL l q = r := ⟨_, rfl⟩
              have HRG := bx (fun (V : World) (k : From wr V) => rGet_calls (S 3) p4 n l (q : Int) V ((HSY2.out.go hf).go k).y r hr)
              have hv : ((hOf l q).getD [], (hOf l q).isSome) = (r.elim [] (·.2), r.isSome) := by
                rw [hOf, hr]
                cases r <;> rfl
              rw [hv] at HG
              have hvn : (r.elim [] (·.2) : List Int).length ≤ 32 := by
                cases r with
                | none => simp
                | some x => have := (HOKL.out x (hasL_some hr).2).2.1; have := HN.out; simp only [Option.elim_some]; omega
              obtain ⟨v, hvv⟩ : ∃ v : List Int, r.elim [] (·.2) = v := ⟨_, rfl⟩
              obtain ⟨t, htt⟩ : ∃ t, r.isSome = t := ⟨_, rfl⟩
              rw [hvv] at HG HRG hvn
              rw [htt] at HG HRG
              have HVN := bx hvn
              have d1 : (t != t) = false := by simp
              clear hf hv hvv htt hr hvn
              go_wp2_with fail
              refine HG.out.mono ?_
              rintro e w3 ⟨A3, c3, rfl, o3, k3⟩
              have HR3 := bx (HRG.out w3 k3)
              have HO3 := bx o3
              have HK3 := bx k3
              clear o3 k3
              go_wp2_with fail
              refine HR3.out.mono ?_
              rintro e w4 ⟨A4, c4, rfl, i4, k4⟩
              have HSI := bx (sameI_val (.slice A3 v.length c3) (.slice A4 v.length c4) v v w4 ((show Ints w3 _ _ from sl_of_own HO3.out).from k4) i4 (by have := HVN.out; omega))
              simp only [decide_true] at HSI
              have HK4 := bx k4
              clear i4 k4
              go_wp2_with fail
              refine HSI.out.mono ?_
              rintro e w5 ⟨rfl, k5⟩
              go_wp2_with fail
              go_roundw
              case rel => exact ⟨q + 1, by omega, by go_num, ((HF.out.trans HK3.out).trans HK4.out).trans k5⟩
              case measure => simp [intOf]; omega
            · obtain rfl : q = 10 := by omega
              have ewk : IntKind.i64.wrap ((k : Int) + 1) = (k : Int) + 1 := IntWalk.i64_in _ (by omega)
              clear hf
              go_wp2_with fail
              go_roundw
              case rel => exact ⟨k + 1, all, bs, l, sent, S, by omega, by omega, by go_num, HSY2.out.go HF.out, HAL2.out, HLL2.out, HSL2.out⟩
              case measure => simp [intOf]; omega
      · have z2 : decide ((k : Int) < 40) = false := decide_eq_false (by omega)
        go_wp2_with fail
        refine (HLV.out _).mono ?_
        rintro e w9 ⟨rfl, k9⟩
        go_wp2
        go_ret
        exact ⟨rfl, HSY.out.f.trans k9⟩
    · have z1 : decide ((k : Int) < (N : Int)) = false := decide_eq_false (by omega)
      go_wp2_with fail
      refine (HLV.out _).mono ?_
      rintro e w9 ⟨rfl, k9⟩
      go_wp2
      go_ret
      exact ⟨rfl, HSY.out.f.trans k9⟩
set_option maxRecDepth 100000 in
theorem scr_lifted (os : Os) (started : os.Started) (H : Type) (enc : TypeId × Value → H) :
    ReturnsInHanded {} Try.checked os 8 .any (Rows.telemetryScriptSpec.pre6 enc Try.prog Try.f8 Rows.telemetryScriptRow.domain false) (Rows.telemetryScriptSpec.post enc Try.prog Try.f8 false true false false) := by
  refine returnsInHanded_of_change_shaped (C := Try.checked) own started (by kernel_rfl) Try.func8
    (ChangeSpec.witness6 (enc := enc) (C := Try.checked) false ⟨#[], #[.int .i64 0, .slice none 0 0], []⟩ 8 (by kernel_rfl) (by kernel_rfl) (by kernel_rfl) (by kernel_rfl)) ?_
  intro W base args ds gs before hval0 hW hcnd hsz0 _ _
  have hval : ∀ (j : Nat) t v, Try.f8.params[j]? = some t → args[j]? = some v → Value.okWide Try.prog W .any base t v := hval0
  have hW' := hW
  obtain ⟨p, q, hA0, hV, rfl, hfz, hnd⟩ := hW
  have hA : DataW.TrodAll enc Try.prog W 0 (fun _ => true) true Try.f8.params.toList args.toList ds p := hA0
  have hsz : (DataW.weightsEach Try.prog (Try.f8.params.toList ++ Rows.telemetryScriptSpec.plain.varTypes Try.prog) (ds ++ gs)).all (· ≤ reachBytes) = true := hsz0
  rw [Try.params8] at hA hval hsz
  obtain ⟨v0, vs0, d0, ds0, p0, q0, hargs, rfl, rfl, h0, r0⟩ := trodAll_cons hA
  obtain ⟨v1, vs1, d1, ds1, p1, q1, rfl, rfl, rfl, h1, r1⟩ := trodAll_cons r0
  obtain ⟨rfl, rfl, rfl⟩ := trodAll_nil r1
  obtain rfl : args = #[v0, v1] := by cases args; simp_all
  obtain ⟨rfl, rfl⟩ := trodVars_none hV
  obtain ⟨a0, rfl, _, _, w0⟩ := open_int Try.underlying3 (hval 0 3 v0 rfl rfl) h0
  simp only [Lit.wf, Bool.and_eq_true, decide_eq_true_eq] at w0
  obtain ⟨A1, c1, l1, rfl, hB1, hm1⟩ := open_steps (hval 1 56 v1 rfl rfl) h1 (sized_mem hsz (j := 1) rfl rfl)
  refine (scr_walk a0 A1 c1 l1 W w0.1 w0.2 hB1 hm1).mono fun e W' ⟨he, hb⟩ => ?_
  subst he
  exact ⟨_, rfl, law_post Try.laid (by kernel_rfl) rfl rfl Try.underlying4 rfl hW' hb⟩
theorem scr_facts : joinedFacts Try.prog 8 Try.f8 Rows.telemetryScriptSpec Rows.telemetryScriptRow = true := by
  unfold joinedFacts
  rw [fact_enter, fact_lift, fact_make, fact_keys, fact_heard, fact_maps, Try.laid]
  kernel_rfl
theorem scr_holds : Rows.TelemetryScriptSaid :=
  OpenClaim.holds_of_wide 8 Try.f8 rfl rfl rfl rfl rfl rfl rfl ⟨rfl, rfl, rfl, rfl, rfl⟩ rfl rfl rfl rfl rfl (by kernel_rfl) Try.func8 scr_facts
    (of_decide_eq_true (by kernel_rfl)) (by unfold Func.isWrapper; first | (rw [if_pos (by decide +kernel)]; kernel_rfl) | (rw [if_neg (by decide +kernel)]; exact ⟨rfl, rfl⟩))
    (fun os started H enc _ => scr_lifted os started H enc)
#print axioms scr_holds
end Go.Proofs.Ytpdbdpmlppbnnaa
