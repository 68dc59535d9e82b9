/-
  TelemetrySync: for all numbers of parameters and all scripts of up to 40 steps in which packets are lost, doubled or late, and only snapshots that the sink has are acknowledged, the sink accepts every packet of the source, and has only snapshots whose values were taken.
-/
import Derived.Test.YtpdbdpmlppbnnaaV8
import Derived.Test.YtpdbdpmlppbnnaaU18
import Derived.Test.YtpdbdpmlppbnnaaR9
import Derived.Deep.CutRange
import Derived.Deep.CutBlock
namespace Go.Proofs.Ytpdbdpmlppbnnaa
open Go.ChangeShapes Go.WideShapes Go.ChangeAt Go.RowKit Go.Shelf

theorem Try.elIntsT : ElT Try.prog 69 22 (.slice none 0 0) 1 24 := ⟨Try.underlying69, info_parts (by kernel_rfl), rfl, by decide⟩
theorem Try.elBytsT : ElT Try.prog 61 31 (.slice none 0 0) 1 24 := ⟨Try.underlying61, info_parts (by kernel_rfl), rfl, by decide⟩
theorem own_off {S : Nat → Prop} {w w' : World} {base size n : Nat} {e : TypeId} {v : Value} {xs : List Value} (h : w.ownsRow base e size v n xs) (o : Off S w w') (hS : ∀ g, base ≤ g → ¬ S g) : w'.ownsRow base e size v n xs := by
  obtain ⟨h1, h2⟩ := h
  refine ⟨h1, ?_⟩
  rcases h2 with h2 | ⟨g, cap, cur, hv, hg, hh, r⟩
  · exact .inl h2
  · exact .inr ⟨g, cap, cur, hv, hg, (o.block g (Array.getElem?_eq_some_iff.1 hh).1 (hS g hg)).trans hh, r⟩
/-- what holds behind a step -/
def SyM (w0 wr : World) (p1 p2 n k : Nat) (a s : Value) : Prop :=
  ∃ (all : List (List Int)) (bs : Nat) (H : Nat → Option (List Int)) (sent : List (List Int)) (S1 S2 S3 S4 : Nat → Prop), Sy w0 wr p1 p2 n (k + 2) bs a s all all sent H S1 S2 S3 S4 ∧ SyncP n all bs H sent ∧ all.length ≤ k + 2 ∧ sent.length ≤ k + 1
/-- what holds at the loop's head -/
def SyL (w0 wr : World) (p1 p2 n N k : Nat) (i a s : Value) : Prop :=
  ∃ (all : List (List Int)) (bs : Nat) (H : Nat → Option (List Int)) (sent : List (List Int)) (S1 S2 S3 S4 : Nat → Prop), k ≤ N ∧ k ≤ 40 ∧ i = .int .i64 k ∧ Sy w0 wr p1 p2 n (k + 1) bs a s all all sent H S1 S2 S3 S4 ∧ SyncP n all bs H sent ∧ all.length ≤ k + 1 ∧ sent.length ≤ k
theorem Sy.more {w0 w : World} {p1 p2 n m m' bs : Nat} {va vs : Value} {allS all sent : List (List Int)} {H : Nat → Option (List Int)} {S1 S2 S3 S4 : Nat → Prop} (h : Sy w0 w p1 p2 n m bs va vs allS all sent H S1 S2 S3 S4) (hm : m ≤ m') : Sy w0 w p1 p2 n m' bs va vs allS all sent H S1 S2 S3 S4 :=
  { h with k := by obtain ⟨b, M, k⟩ := h.k; exact ⟨b, M, { k with map := k.map.mono hm }⟩ }
theorem sy_start {w0 w1 w2 w3 w4 : World} {p1 p2 n c : Nat} {H : Nat → Option (List Int)} (k1 : From w0 w1) (s1 : Src (NewS w0 w1) w1 p1 n [List.replicate n 0] 0) (k2 : From w1 w2) (s2 : Snk (NewS w1 w2) w2 p2 n 1 H)
    (k3 : From w2 w3) (o3 : w3.ownsRow w2.heap.size 3 1 (.slice (some ⟨w2.heap.size, 0, none⟩) n c) n (ic (List.replicate n 0))) (h4 : w4 = w3.alloc (.cells #[.slice (some ⟨w2.heap.size, 0, none⟩) n c] 22)) :
    Sy w0 w4 p1 p2 n 1 0 (.slice (some ⟨w3.heap.size, 0, none⟩) 1 1) (.slice none 0 0) [List.replicate n 0] [List.replicate n 0] [] H (NewS w0 w1) (NewS w1 w2) (NewS w2 w4) (fun _ => False) := by
  have k4 : From w3 w4 := by rw [h4]; exact (From.refl _).alloc _
  have hb := own_lt o3 (r := w2.heap.size) rfl
  have hs3 := k3.size
  have hs4 : w4.heap.size = w3.heap.size + 1 := by rw [h4]; simp
  exact {
    f := k1.trans (k2.trans (k3.trans k4))
    s := s1.from (k2.trans (k3.trans k4))
    k := s2.from (k3.trans k4)
    a := ⟨_, 1, [.slice (some ⟨w2.heap.size, 0, none⟩) n c], rfl, by
        have := own_new w3 0 (Nat.zero_le _) 22 1 1 [.slice (some ⟨w2.heap.size, 0, none⟩) n c] rfl (by decide)
        rw [h4]
        exact this, fun g hg => by
        simp [Value.ownBlock] at hg
        subst hg
        exact ⟨by omega, by omega⟩, fun k hk => by
        have hk0 : k = 0 := by simp at hk; exact hk
        subst hk0
        exact ⟨_, rfl, irow_of (by simp) (own_call o3 k4) (fun j a b => ⟨a, b⟩)⟩⟩
    t := rowsOf_nil _ _ _ _
    l3 := fun i hi => hi.2
    l4 := fun i hi => hi.elim
    b1 := fun i hi => hi.1
    b2 := fun i hi => by have := k1.size; have := hi.1; omega
    b3 := fun i hi => by have := k1.size; have := k2.size; have := hi.1; omega
    b4 := fun i hi => hi.elim
    d12 := fun i a b => by have := a.2; have := b.1; omega
    d13 := fun i a b => by have := a.2; have := b.1; have := k2.size; omega
    d14 := fun i _ b => b.elim
    d23 := fun i a b => by have := a.2; have := b.1; omega
    d24 := fun i _ b => b.elim
    d34 := fun i _ b => b.elim }
/-- a block of four cells -/
theorem box4 {w : World} {b : Nat} {x0 x1 x2 x3 : Value} {t : TypeId} (h : w.heap[b]? = some (.cells #[x0, x1, x2, x3] t (0, 0))) :
    w.cell? ⟨b, 0, none⟩ = some x0 ∧ w.cell? ⟨b, 1, none⟩ = some x1 ∧ w.cell? ⟨b, 2, none⟩ = some x2 ∧ w.cell? ⟨b, 3, none⟩ = some x3 ∧ b < w.heap.size :=
  ⟨by rw [cell_of_row _ _ _ _ _ _ h]; rfl, by rw [cell_of_row _ _ _ _ _ _ h]; rfl, by rw [cell_of_row _ _ _ _ _ _ h]; rfl, by rw [cell_of_row _ _ _ _ _ _ h]; rfl, (Array.getElem?_eq_some_iff.1 h).1⟩
set_option maxHeartbeats 8000000 in
set_option maxRecDepth 10000 in
theorem syn_walk (a0 : Int) (A1 : Option Addr) (c1 : Nat) (l1 : List StV) (w : World) (w00 : -9223372036854775808 ≤ a0) (w01 : a0 ≤ 9223372036854775807) (hB1 : Steps w (.slice A1 l1.length c1) l1) (_ : l1.length ≤ 9223372036854775807) :
    Calls Try.prog 9 #[.int .i64 a0, .slice A1 l1.length c1] w fun e w' => e = .returned (.bool true) ∧ Below w.heap.size w w' := by
  have q0 := around_bd a0 32 (by decide)
  obtain ⟨m, hm⟩ : ∃ m : Nat, around a0 32 = m := ⟨(around a0 32).toNat, by omega⟩
  have HA := bx (fun (V : World) => around_calls a0 32 V w00 w01 (by decide) (by decide))
  rw [hm] at q0 HA
  obtain ⟨n, hn⟩ : ∃ n, m + 1 = n := ⟨_, rfl⟩
  have hn2 : 1 ≤ n ∧ n ≤ 32 := by omega
  have ew : IntKind.i64.wrap (1 + (m : Int)) = (n : Int) := by rw [show (1 : Int) + (m : Int) = (n : Int) by omega]; exact IntWalk.i64_in _ (by omega)
  have HLV := bx (fun (V : World) => lives_calls V)
  have H1 := bx (fun (V : World) => newSource_calls n V hn2)
  have H2 := bx (fun (V : World) => newSink_calls n V hn2)
  have HN := bx hn2
  have HST := bx hB1
  obtain ⟨N, hN⟩ : ∃ N, l1.length = N := ⟨_, rfl⟩
  have HNN := bx hN
  rw [hN] at HST ⊢
  clear hm hB1 hN w00 w01
  go_enter Try.func9, Try.ntmps9
  go_wp2_with fail
  refine (HA.out w).mono ?_
  rintro e w' ⟨rfl, hw⟩
  rw [hw]
  clear hw w'
  go_wp2_with fail
  refine (H1.out w).mono ?_
  rintro e w1 ⟨p1, rfl, k1, hs1⟩
  go_wp2_with fail
  refine (H2.out w1).mono ?_
  rintro e w2 ⟨p2, rfl, k2, hk2⟩
  obtain ⟨w3, hmk, o3, k3⟩ := make_ints w2 n (by omega)
  obtain ⟨w4, hw4⟩ : ∃ W, w3.alloc (.cells #[.slice (some ⟨w2.heap.size, 0, none⟩) n n] 22) = W := ⟨_, rfl⟩
  have HS0 := bx (sy_start k1 hs1 k2 hk2 k3 o3 hw4.symm)
  clear k1 hs1 k2 hk2 k3 o3
  go_wp2_with fail
  try rw [hw4]
  clear hw4 hmk
  go_loopw [10, 8, 9] (fun i a s wr => ∃ k, SyL w wr p1 p2 n N k i a s) (fun i _ _ _ => 40 - (intOf i).toNat)
  case atStart => exact ⟨0, _, 0, _, [], _, _, _, _, Nat.zero_le _, by omega, rfl, HS0.out, sync_start n HN.out _ rfl, by simp, by simp⟩
  case round =>
    obtain ⟨k, all, bs, H, sent, S1, S2, S3, S4, hk, hk40, rfl, hsy, hsp, hal, hsl⟩ := hrel
    have HSY := bx hsy
    have HSP := bx hsp
    have HAL := bx hal
    have HSL := bx hsl
    clear hsy hsp hal hsl
    by_cases hlt : k < N
    · have z1 : decide ((k : Int) < (N : Int)) = true := decide_eq_true (by omega)
      by_cases h40 : k < 40
      · have z2 : decide ((k : Int) < 40) = true := decide_eq_true (by omega)
        obtain ⟨b, off, rfl, hbl, hok, y0, y1, y2, y3⟩ := (HST.out.from HSY.out.f).at_ (k := k) (by rw [HNN.out]; exact hlt)
        have HOK := bx hok
        obtain ⟨⟨kind, nn, AL, cL, L, AB, cB, B⟩, hx⟩ : ∃ x, l1[k]'(by rw [HNN.out]; exact hlt) = x := ⟨_, rfl⟩
        rw [hx] at HOK y0 y1 y2 y3
        simp only at y0 y1 y2 y3
        have z3 : (k : Int) < (N : Int) := by omega
        have z4 : (0 : Int) ≤ (k : Int) := by omega
        clear hx hok
        obtain ⟨Aa, ca, hea⟩ := HSY.out.a.low
        obtain ⟨As, cs, hes⟩ := HSY.out.t.low
        subst hea hes
        obtain ⟨W1, hW1⟩ : ∃ W, wr.alloc (.cells #[.int .i64 kind, .int .i64 nn, .slice AL L.length cL, .slice AB B.length cB] 63) = W := ⟨_, rfl⟩
        have kW : From wr W1 := by rw [← hW1]; exact (From.refl _).alloc _
        obtain ⟨pB, hpB⟩ : ∃ p, wr.heap.size = p := ⟨_, rfl⟩
        have bW : W1.heap[pB]? = some (.cells #[.int .i64 kind, .int .i64 nn, .slice AL L.length cL, .slice AB B.length cB] 63 (0, 0)) := by rw [← hW1, ← hpB]; exact heap_alloc_new _ _
        have HS1 := bx (HSY.out.go kW)
        have HB1 := bx bW
        have HOK1 := bx (HOK.out.from kW)
        go_upto_region 12 with fail
        try rw [hpB]
        try rw [hW1]
        clear hW1 hpB kW bW y0 y1 y2 y3
        obtain ⟨g0, g1, g2, g3, _⟩ := box4 HB1.out
        go_upto_block 2 with fail
        have hnn := HN.out
        have hal := HAL.out
        have hsl := HSL.out
        have hnb := HOK1.out.n
        simp only at hnb
        go_cut [8, 9] from 42 to 175 (fun a s wx => SyM w wx p1 p2 n k a s)
        case first =>
          by_cases h0 : kind = 0
          · subst h0
            have hvl := mkV_len L n
            have hvf := mkV_fits L n
            have HTK0 := bx (taken_calls n AL cL L W1 HOK1.out.L HOK1.out.Lx (by omega))
            obtain ⟨v, hv⟩ : ∃ v, mkV L n = v := ⟨_, rfl⟩
            rw [hv] at hvl hvf HTK0
            have HVL := bx hvl
            have HVF := bx hvf
            clear hv hvl hvf
            go_wp2_with fail
            refine HTK0.out.mono ?_
            rintro e w2 ⟨AV, cV, rfl, oV, kV⟩
            rw [HVL.out] at oV ⊢
            have HS2 := bx (HS1.out.go kV)
            have HOV := bx oV
            have hap : Apart w2 p1 (.slice AV n cV) v := by
              obtain ⟨_, _, _, _, _, hc⟩ := HS2.out.s
              exact apart_own HVL.out oV hc.box (by decide)
            have HTK := bx (take_calls S1 p1 n all bs (.slice AV n cV) v w2 HS2.out.s hap (by rw [HVL.out]; omega) (all.length : Nat) 0 (all ++ [v]) (by
              rw [takeP, if_neg (fun h => h HVL.out), if_neg (fun h => h HVF.out), if_neg (by omega)]))
            have HV := bx kV
            clear oV hap g0 g1 g2 g3 kV
            go_wp2_with fail
            refine HTK.out.mono ?_
            rintro e w3 ⟨rfl, off3, s3⟩
            have HS3 := bx ((HS2.out.src off3 s3).go ((From.refl _).alloc (.cells #[.slice AV n cV] 22)))
            have hof := off3.size
            have HI3 := bx (own_off HOV.out off3 (fun g hg hs => by have := HS1.out.s.lt g hs; omega))
            obtain ⟨A3, c3, vs3, e3, ho3, hS3, hE3⟩ := HS3.out.a
            injection e3 with e31 e32 e33
            subst e31 e33
            have HO3 := bx ho3
            have e1 : ((all.length : Int) != (all.length : Int)) = false := by simp
            clear off3 s3 ho3
            go_wp2_with (at_builtin; refine app_sl rfl _ _ 69 rfl Try.elIntsT rfl HO3.out 1 [.slice AV n cV] rfl (sl_new _ [.slice AV n cV] 22 1 1) rfl (by simp [Value.oneCell']) (by omega) (by unfold maxLen; omega) (Nat.zero_le _) ?_; intro A9 c9 w9 o9 g9 r9)
            go_meet
            case rel =>
              have kA : From w3 (w3.alloc (.cells #[.slice AV n cV] 22)) := (From.refl _).alloc _
              have hrow : IRow (fun g => W1.heap.size ≤ g ∧ g < w2.heap.size) (w3.alloc (.cells #[.slice AV n cV] 22)) (.slice AV n cV) v := by
                obtain ⟨A', c', e', h1, h2⟩ := irow_of (S := fun g => W1.heap.size ≤ g ∧ g < w2.heap.size) HVL.out HOV.out (fun k a b => ⟨a, b⟩)
                injection e' with e1 e2 e3
                subst e1 e3
                refine ⟨AV, cV, by rw [HVL.out], ?_, h2⟩
                have := own_base (own_call HI3.out kA) (Nat.zero_le _)
                rw [HVL.out]
                exact this
              have hsz1 := HV.out.size
              have hszA := kA.size
              obtain ⟨hR, hO⟩ := RowsOf.app iElK (l := v) rfl HO3.out hS3 hE3 hrow (by decide) (fun g hg => by
                rcases hg with hg | hg
                · exact HS3.out.l3 g hg
                · have := hg.2; omega) o9 g9 r9
              have hf0 := HS1.out.f.size
              exact ⟨all ++ [v], bs, H, sent, _, _, _, _, (HS3.out.app3 hO hR (fun i hi => ⟨by have := hi.1; omega, by have := hi.2; omega⟩)
                (fun i hi hs => by
                  rcases hs with hs | hs
                  · have := HS1.out.s.lt i hs; have := hi.1; omega
                  · have := hi.2; have := hs.1; omega)
                (fun i hi hs => by have := HS1.out.k.lt i hs; have := hi.1; omega) (fun i hi hs => by have := HS1.out.l4 i hs; have := hi.1; omega)).more (by omega), HSP.out.take v ⟨HVL.out, HVF.out⟩ (by omega), by simp; omega, by omega⟩
          · by_cases h1 : kind = 1
            · subst h1
              have hpl := permN_perm L n
              have HPM0 := bx (fun (V : World) (k : From W1 V) => permR_calls n AL cL L V (HOK1.out.L.from k) HOK1.out.Lx (by omega))
              obtain ⟨o, ho⟩ : ∃ o, permN L n = o := ⟨_, rfl⟩
              rw [ho] at hpl HPM0
              have HPE := bx hpl
              obtain ⟨⟨x1, x2⟩, hx⟩ : ∃ x, packP all bs o nn = x := ⟨_, rfl⟩
              have HX := bx hx
              have hnl : (nl o).length = n := by rw [nl_len, hpl.len]
              have HNL := bx hnl
              have HPK := bx (fun (V : World) (k : From W1 V) (A : Option Addr) (c : Nat) (io : Ints V (.slice A (nl o).length c) (nl o)) => srcPacket_calls S1 p1 n all bs (.slice A (nl o).length c) o nn V (HS1.out.go k).s (fun _ => ⟨io, HPE.out⟩) (x1, x2) hx)
              clear ho hx hpl hnl
              go_upto_region 24 with fail
              go_cut [15, 16] from 106 to 116 (fun b e wx => ∃ A c, b = .slice A x1.length c ∧ e = .int .i64 x2 ∧ wx.ownsRow W1.heap.size 5 1 (.slice A x1.length c) x1.length (yc x1) ∧ From W1 wx)
              case first =>
                go_region_with (first
                  | (go_at_call 24; refine (HPM0.out _ (by first | exact From.refl _ | exact (From.refl _).drew)).mono ?_; rintro e w2 ⟨AO, cO, rfl, oO, kO⟩; obtain ⟨g0, g1, g2, g3, _⟩ := box4 (kO.heap HB1.out))
                  | (go_at_call 31; refine (HPK.out w2 ⟨kO.os, kO.tape, kO.output, kO.size, kO.block⟩ AO cO (sl_of_own oO)).mono ?_; rintro e w3 ⟨AB', cB', rfl, oB, kB⟩))
                all_goals
                  go_wp2
                  go_meet
                  case rel => exact ⟨AB', cB', rfl, rfl, own_base oB kO.size, (show From W1 w2 from ⟨kO.os, kO.tape, kO.output, kO.size, kO.block⟩).trans kB⟩
              case rest =>
                obtain ⟨AB', cB', rfl, rfl, oB, kB⟩ := hcut
                have HS2 := bx (HS1.out.go kB)
                have HOB := bx oB
                have HKB := bx kB
                have hxb := HSP.out.packB o HPE.out nn HX.out
                by_cases hx2 : x2 = 0
                · subst hx2
                  have d1 : ((0 : Int) == 0) = true := rfl
                  have HS3 := bx (HS2.out.go ((From.refl _).alloc (.cells #[.slice AB' x1.length cB'] 31)))
                  obtain ⟨A3, c3, vs3, e3, ho3, hS3, hE3⟩ := HS3.out.t
                  injection e3 with e31 e32 e33
                  subst e31 e33
                  have HO3 := bx ho3
                  have HXB := bx hxb
                  clear ho3 oB kB hxb g0 g1 g2 g3
                  go_wp2_with (at_builtin; refine app_sl rfl _ _ 61 rfl Try.elBytsT rfl HO3.out 1 [.slice AB' x1.length cB'] rfl (sl_new _ [.slice AB' x1.length cB'] 31 1 1) rfl (by simp [Value.oneCell']) (by omega) (by unfold maxLen; omega) (Nat.zero_le _) ?_; intro A9 c9 w9 o9 g9 r9)
                  go_meet
                  case rel =>
                    have kA : From wc (wc.alloc (.cells #[.slice AB' x1.length cB'] 31)) := (From.refl _).alloc _
                    have hrow : YRw (fun g => W1.heap.size ≤ g ∧ g < wc.heap.size) (wc.alloc (.cells #[.slice AB' x1.length cB'] 31)) (.slice AB' x1.length cB') x1 := by
                      obtain ⟨A', c', e', h1, h2, h3⟩ := yrw_of (S := fun g => W1.heap.size ≤ g ∧ g < wc.heap.size) rfl HOB.out (fun k a b => ⟨a, b⟩) HXB.out.1 (by have := HXB.out.2; omega)
                      injection e' with e1 e2 e3
                      subst e1 e3
                      exact ⟨AB', cB', rfl, own_base (own_call HOB.out kA) (Nat.zero_le _), h2, h3⟩
                    have hszA := kA.size
                    have hszB := HKB.out.size
                    obtain ⟨hR, hO⟩ := RowsOf.app yElK (l := x1) rfl HO3.out hS3 hE3 hrow (by decide) (fun g hg => by
                      rcases hg with hg | hg
                      · exact HS3.out.l4 g hg
                      · have := hg.2; omega) o9 g9 r9
                    have hf0 := HS1.out.f.size
                    exact ⟨all, bs, H, sent ++ [x1], _, _, _, _, (HS3.out.app4 hO hR (fun i hi => ⟨by have := hi.1; omega, by have := hi.2; omega⟩)
                      (fun i hi hs => by have := HS1.out.s.lt i hs; have := hi.1; omega) (fun i hi hs => by have := HS1.out.k.lt i hs; have := hi.1; omega) (fun i hi hs => by have := HS1.out.l3 i hs; have := hi.1; omega)).more (by omega),
                      HSP.out.pack o HPE.out nn x1 HX.out, by omega, by simp; omega⟩
                · have d1 : (x2 == 0) = false := by simpa using hx2
                  clear hx2 oB kB hxb
                  go_wp2
                  go_meet
                  case rel => exact ⟨all, bs, H, sent, S1, S2, S3, S4, HS2.out.more (by omega), HSP.out, by omega, by omega⟩
            · by_cases h2 : kind = 2
              · subst h2
                by_cases hs0 : sent.length = 0
                · have d1 : decide ((sent.length : Int) > 0) = false := decide_eq_false (by omega)
                  go_wp2
                  go_meet
                  case rel => exact ⟨all, bs, H, sent, S1, S2, S3, S4, HS1.out.more (by omega), HSP.out, by omega, by omega⟩
                · have d1 : decide ((sent.length : Int) > 0) = true := decide_eq_true (by omega)
                  have hab := around_bd nn (sent.length : Int) (by omega)
                  have HAR := bx (fun (V : World) => around_calls nn (sent.length : Int) V hnb.1 hnb.2 (by omega) (by omega))
                  obtain ⟨q, hq⟩ : ∃ q : Nat, around nn (sent.length : Int) = q := ⟨(around nn (sent.length : Int)).toNat, by omega⟩
                  rw [hq] at hab HAR
                  have hqs : q < sent.length := by omega
                  obtain ⟨gq, cq, u, e1, e2, e3⟩ := HS1.out.t.at_ hqs
                  injection e1 with e11 _ e13
                  subst e11 e13
                  obtain ⟨j, t, H', hpt, hj1, hj2, hsp'⟩ := HSP.out.put sent[q] (List.getElem_mem hqs)
                  have HPT := bx (putS_calls S2 p2 n (k + 1) H u sent[q] W1 HS1.out.k e3.byts (by obtain ⟨_, _, _, _, _, _, h⟩ := e3; exact h) (by obtain ⟨_, _, _, _, _, h, _⟩ := e3; exact h) (by omega) j 0 t H' hpt)
                  obtain ⟨Au, cu, rfl⟩ := e3.form
                  have HSP2 := bx hsp'
                  generalize sent[q].length = NB at *
                  have z5 : (q : Int) < (sent.length : Int) := by omega
                  have z6 : (0 : Int) ≤ (q : Int) := by omega
                  have d2 : decide ((j : Int) < 1) = false := decide_eq_false (by omega)
                  have d3 : decide ((j : Int) ≥ (all.length : Int)) = false := decide_eq_false (by omega)
                  clear hq e3 hpt hsp' hqs hs0
                  go_wp2_with fail
                  refine (HAR.out _).mono ?_
                  rintro e w' ⟨rfl, hw⟩
                  rw [hw]
                  clear hw w'
                  go_wp2_with fail
                  refine HPT.out.mono ?_
                  rintro e w3 ⟨rfl, off3, s3⟩
                  have HS3 := bx (HS1.out.snk off3 s3)
                  clear off3 s3 e2 g0 g1 g2 g3
                  go_wp2
                  go_meet
                  case rel => exact ⟨all, bs, H', sent, _, _, _, _, HS3.out, HSP2.out, by omega, by omega⟩
              · have e0 : (kind == 0) = false := by simpa using h0
                have e1 : (kind == 1) = false := by simpa using h1
                have e2 : (kind == 2) = false := by simpa using h2
                have hpos := HSP.out.pos
                have hab := around_bd nn (all.length : Int) (by omega)
                have HAR := bx (fun (V : World) => around_calls nn (all.length : Int) V hnb.1 hnb.2 (by omega) (by omega))
                obtain ⟨q, hq⟩ : ∃ q : Nat, around nn (all.length : Int) = q := ⟨(around nn (all.length : Int)).toNat, by omega⟩
                rw [hq] at hab HAR
                have HG := bx (get_calls S2 p2 n (k + 1) H (q : Int) W1 HS1.out.k (by omega))
                rw [getP, if_neg (by omega), show ((q : Int)).toNat = q by omega] at HG
                clear h0 h1 h2 hq
                go_wp2_with fail
                refine (HAR.out _).mono ?_
                rintro e w' ⟨rfl, hw⟩
                rw [hw]
                clear hw w'
                cases hH : H q with
                | none =>
                  rw [hH] at HG
                  simp only [Option.getD_none, Option.isSome_none] at HG
                  go_wp2_with fail
                  refine HG.out.mono ?_
                  rintro e w3 ⟨A3, c3, rfl, _, k3⟩
                  go_wp2
                  go_meet
                  case rel => exact ⟨all, bs, H, sent, S1, S2, S3, S4, (HS1.out.go k3).more (by omega), HSP.out, by omega, by omega⟩
                | some l =>
                  rw [hH] at HG
                  simp only [Option.getD_some, Option.isSome_some] at HG
                  by_cases hq0 : q = 0
                  · subst hq0
                    go_wp2_with fail
                    refine HG.out.mono ?_
                    rintro e w3 ⟨A3, c3, rfl, _, k3⟩
                    go_wp2
                    go_meet
                    case rel => exact ⟨all, bs, H, sent, S1, S2, S3, S4, (HS1.out.go k3).more (by omega), HSP.out, by omega, by omega⟩
                  · have d5 : decide ((q : Int) > 0) = true := decide_eq_true (by omega)
                    have d6 : decide (0 < q) = true := decide_eq_true (by omega)
                    have d7 : 0 < q := by omega
                    obtain ⟨bs', hak, hsp'⟩ := HSP.out.ack q (by omega) (by omega) (by rw [hH]; rfl)
                    have HSP2 := bx hsp'
                    have HAK := bx (fun (V : World) (k : From W1 V) => ack_calls S1 p1 n all bs (q : Int) V (HS1.out.go k).s (by omega) 0 bs' hak)
                    clear hak hsp' hq0
                    go_wp2_with fail
                    refine HG.out.mono ?_
                    rintro e w3 ⟨A3, c3, rfl, _, k3⟩
                    go_wp2_with fail
                    refine (HAK.out w3 k3).mono ?_
                    rintro e w4 ⟨rfl, off4, s4⟩
                    have HS4 := bx ((HS1.out.go k3).src off4 s4)
                    clear off4 s4
                    go_wp2
                    go_meet
                    case rel => exact ⟨all, bs', H, sent, _, _, _, _, HS4.out.more (by omega), HSP2.out, by omega, by omega⟩
        case rest =>
          clear g0 g1 g2 g3 hal hsl
          obtain ⟨all, bs, H, sent, S1, S2, S3, S4, hsy, hsp, hal, hsl⟩ := hcut
          obtain ⟨Aa, ca, hea⟩ := hsy.a.low
          obtain ⟨As, cs, hes⟩ := hsy.t.low
          subst hea hes
          have HSY2 := bx hsy
          have HSP2 := bx hsp
          have HAL2 := bx hal
          have HSL2 := bx hsl
          clear hsy hsp hsl
          go_wp2_with fail
          go_loopw [23] (fun i wx => ∃ q : Nat, q ≤ all.length ∧ i = .int .i64 q ∧ From wc wx) (fun i _ => all.length - (intOf i).toNat)
          case atStart => exact ⟨0, Nat.zero_le _, rfl, From.refl _⟩
          case round =>
            obtain ⟨q, hq, rfl, hf⟩ := hrel
            have HF := bx hf
            by_cases hlq : q < all.length
            · have z5 : decide ((q : Int) < (all.length : Int)) = true := decide_eq_true (by omega)
              have z6 : (q : Int) < (all.length : Int) := by omega
              have z7 : (0 : Int) ≤ (q : Int) := by omega
              have HG := bx (get_calls S2 p2 n (k + 2) H (q : Int) wr (HSY2.out.go hf).k (by omega))
              rw [getP, if_neg (by omega), show ((q : Int)).toNat = q by omega] at HG
              cases hH : H q with
              | none =>
                rw [hH] at HG
                simp only [Option.getD_none, Option.isSome_none] at HG
                clear hf
                go_wp2_with fail
                refine HG.out.mono ?_
                rintro e w3 ⟨A3, c3, rfl, _, k3⟩
                go_wp2
                go_roundw
                case rel => exact ⟨q + 1, by omega, by go_num, HF.out.trans k3⟩
                case measure => simp [intOf]; omega
              | some l =>
                rw [hH] at HG
                simp only [Option.getD_some, Option.isSome_some] at HG
                have hhas := HSP2.out.has q l hH
                have hl : l = all[q] := by rw [hhas.2, List.getD_eq_getElem?_getD, List.getElem?_eq_getElem hlq]; rfl
                have HLL := bx (HSP2.out.ok l (by rw [hl]; exact List.getElem_mem _)).1
                have HLQ := bx hl
                clear hf hhas hH hl
                go_wp2_with fail
                refine HG.out.mono ?_
                rintro e w3 ⟨A3, c3, rfl, o3, k3⟩
                obtain ⟨gq, cq, u, e1, e2, e3⟩ := ((HSY2.out.go (HF.out.trans k3)).a).at_ hlq
                injection e1 with e11 _ e13
                subst e11 e13
                rw [← HLQ.out] at e3
                obtain ⟨Au, cu, rfl⟩ := e3.form
                have HSI := bx (sameI_val (.slice A3 l.length c3) (.slice Au l.length cu) l l w3 (sl_of_own o3) e3.ints (by rw [HLL.out]; omega))
                simp only [decide_true] at HSI
                clear e3 o3
                go_wp2_with fail
                refine HSI.out.mono ?_
                rintro e w4 ⟨rfl, k4⟩
                go_wp2
                go_roundw
                case rel => exact ⟨q + 1, by omega, by go_num, (HF.out.trans k3).trans k4⟩
                case measure => simp [intOf]; omega
            · obtain rfl : q = all.length := by omega
              have z5 : decide ((all.length : Int) < (all.length : Int)) = false := decide_eq_false (by omega)
              have ewk : IntKind.i64.wrap ((k : Int) + 1) = (k : Int) + 1 := IntWalk.i64_in _ (by omega)
              clear hf
              go_wp2
              go_roundw
              case rel => exact ⟨k + 1, all, bs, H, sent, S1, S2, S3, S4, by omega, by omega, by go_num, HSY2.out.go HF.out, HSP2.out, hal, HSL2.out⟩
              case measure => simp [intOf]; omega
      · have z2 : decide ((k : Int) < 40) = false := decide_eq_false (by omega)
        go_wp2_with fail
        refine (HLV.out _).mono ?_
        rintro e w9 ⟨rfl, k9⟩
        go_wp2
        go_ret
        exact ⟨rfl, HSY.out.f.trans k9⟩
    · have z1 : decide ((k : Int) < (N : Int)) = false := decide_eq_false (by omega)
      go_wp2_with fail
      refine (HLV.out _).mono ?_
      rintro e w9 ⟨rfl, k9⟩
      go_wp2
      go_ret
      exact ⟨rfl, HSY.out.f.trans k9⟩
set_option maxRecDepth 100000 in
theorem syn_lifted (os : Os) (started : os.Started) (H : Type) (enc : TypeId × Value → H) :
    ReturnsInHanded {} Try.checked os 9 .any (Rows.telemetrySyncSpec.pre6 enc Try.prog Try.f9 Rows.telemetrySyncRow.domain false) (Rows.telemetrySyncSpec.post enc Try.prog Try.f9 false true false false) := by
  refine returnsInHanded_of_change_shaped (C := Try.checked) own started (by kernel_rfl) Try.func9
    (ChangeSpec.witness6 (enc := enc) (C := Try.checked) false ⟨#[], #[.int .i64 0, .slice none 0 0], []⟩ 8 (by kernel_rfl) (by kernel_rfl) (by kernel_rfl) (by kernel_rfl)) ?_
  intro W base args ds gs before hval0 hW hcnd hsz0 _ _
  have hval : ∀ (j : Nat) t v, Try.f9.params[j]? = some t → args[j]? = some v → Value.okWide Try.prog W .any base t v := hval0
  have hW' := hW
  obtain ⟨p, q, hA0, hV, rfl, hfz, hnd⟩ := hW
  have hA : DataW.TrodAll enc Try.prog W 0 (fun _ => true) true Try.f9.params.toList args.toList ds p := hA0
  have hsz : (DataW.weightsEach Try.prog (Try.f9.params.toList ++ Rows.telemetrySyncSpec.plain.varTypes Try.prog) (ds ++ gs)).all (· ≤ reachBytes) = true := hsz0
  rw [Try.params9] at hA hval hsz
  obtain ⟨v0, vs0, d0, ds0, p0, q0, hargs, rfl, rfl, h0, r0⟩ := trodAll_cons hA
  obtain ⟨v1, vs1, d1, ds1, p1, q1, rfl, rfl, rfl, h1, r1⟩ := trodAll_cons r0
  obtain ⟨rfl, rfl, rfl⟩ := trodAll_nil r1
  obtain rfl : args = #[v0, v1] := by cases args; simp_all
  obtain ⟨rfl, rfl⟩ := trodVars_none hV
  obtain ⟨a0, rfl, _, _, w0⟩ := open_int Try.underlying3 (hval 0 3 v0 rfl rfl) h0
  simp only [Lit.wf, Bool.and_eq_true, decide_eq_true_eq] at w0
  obtain ⟨A1, c1, l1, rfl, hB1, hm1⟩ := open_steps (hval 1 56 v1 rfl rfl) h1 (sized_mem hsz (j := 1) rfl rfl)
  refine (syn_walk a0 A1 c1 l1 W w0.1 w0.2 hB1 hm1).mono fun e W' ⟨he, hb⟩ => ?_
  subst he
  exact ⟨_, rfl, law_post Try.laid (by kernel_rfl) rfl rfl Try.underlying4 rfl hW' hb⟩
theorem syn_facts : joinedFacts Try.prog 9 Try.f9 Rows.telemetrySyncSpec Rows.telemetrySyncRow = true := by
  unfold joinedFacts
  rw [fact_enter, fact_lift, fact_make, fact_keys, fact_heard, fact_maps, Try.laid]
  kernel_rfl
theorem syn_holds : Rows.TelemetrySyncSaid :=
  OpenClaim.holds_of_wide 9 Try.f9 rfl rfl rfl rfl rfl rfl rfl ⟨rfl, rfl, rfl, rfl, rfl⟩ rfl rfl rfl rfl rfl (by kernel_rfl) Try.func9 syn_facts
    (of_decide_eq_true (by kernel_rfl)) (by unfold Func.isWrapper; first | (rw [if_pos (by decide +kernel)]; kernel_rfl) | (rw [if_neg (by decide +kernel)]; exact ⟨rfl, rfl⟩))
    (fun os started H enc _ => syn_lifted os started H enc)
#print axioms syn_holds
end Go.Proofs.Ytpdbdpmlppbnnaa
