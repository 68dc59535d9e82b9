/-
  Walks of slices' stable sort: symMerge.
-/
import Derived.Test.YtpdbdpmlppbnnaaS8
namespace Go.Proofs.Ytpdbdpmlppbnnaa
open Go.RowKit Go.Shelf

/-- where a symmetric merge of L and R parts them: e = t - s -/
structure SymR (P : List Int) (L R : List Nat) (a m b t s r : Nat) : Prop where
  sr : s ≤ r
  sa : a ≤ s
  rm : r ≤ m
  tr : r + m ≤ t
  tb : t ≤ b + s
  lo : ∀ x ∈ (L.take (s - a)).getLast?, ∀ y ∈ (R.drop (t - s - m)).head?, lx P x y
  hi : ∀ x ∈ (R.take (t - r - m)).getLast?, ∀ y ∈ (L.drop (r - a)).head?, lx P x y
theorem last_take {L : List Nat} {k : Nat} (h : k < L.length) : (L.take (k + 1)).getLast? = some (L.getD k 0) := by
  rw [List.take_succ_eq_append_getElem h, List.getLast?_append, List.getD_eq_getElem?_getD, List.getElem?_eq_getElem h]
  simp
theorem head_drop {L : List Nat} {k : Nat} (h : k < L.length) : (L.drop k).head? = some (L.getD k 0) := by
  rw [List.drop_eq_getElem_cons h, List.getD_eq_getElem?_getD, List.getElem?_eq_getElem h]
  simp
theorem SymR.up {P : List Int} {L R : List Nat} {a m b t s r c : Nat} (h : SymR P L R a m b t s r) (hc : s ≤ c ∧ c < r) (hL : a + L.length = m) (hR : m + R.length = b) (hl : lx P (L.getD (c - a) 0) (R.getD (t - 1 - c - m) 0)) : SymR P L R a m b t (c + 1) r := by
  have h1 := h.sa
  have h2 := h.rm
  have h3 := h.tr
  have h4 := h.tb
  refine ⟨by omega, by omega, h.rm, h.tr, by omega, fun x hx y hy => ?_, h.hi⟩
  rw [show c + 1 - a = c - a + 1 by omega, last_take (by omega)] at hx
  rw [show t - (c + 1) - m = t - 1 - c - m by omega, head_drop (by omega)] at hy
  injection hx with hx
  injection hy with hy
  rw [← hx, ← hy]
  exact hl
theorem SymR.down {P : List Int} {L R : List Nat} {a m b t s r c : Nat} (h : SymR P L R a m b t s r) (hc : s ≤ c ∧ c < r) (hL : a + L.length = m) (hR : m + R.length = b) (hl : lx P (R.getD (t - 1 - c - m) 0) (L.getD (c - a) 0)) : SymR P L R a m b t s c := by
  have h1 := h.sa
  have h2 := h.rm
  have h3 := h.tr
  have h4 := h.tb
  refine ⟨by omega, h.sa, by omega, by omega, h.tb, h.lo, fun x hx y hy => ?_⟩
  rw [show t - c - m = t - 1 - c - m + 1 by omega, last_take (by omega)] at hx
  rw [head_drop (by omega)] at hy
  injection hx with hx
  injection hy with hy
  rw [← hx, ← hy]
  exact hl
theorem sym_merge {P : List Int} {L1 L2 R1 R2 M1 M2 : List Nat} (h1 : Srt P M1) (h2 : Srt P M2) (p1 : M1.Perm (L1 ++ R1)) (p2 : M2.Perm (L2 ++ R2)) (hsp : ∀ x ∈ L1 ++ R1, ∀ y ∈ L2 ++ R2, lx P x y) : Srt P (M1 ++ M2) ∧ (M1 ++ M2).Perm ((L1 ++ L2) ++ (R1 ++ R2)) := by
  refine ⟨List.pairwise_append.2 ⟨h1, h2, fun x hx y hy => hsp x (p1.mem_iff.1 hx) y (p2.mem_iff.1 hy)⟩, (p1.append p2).trans ?_⟩
  rw [List.append_assoc, List.append_assoc]
  refine List.Perm.append_left L1 ?_
  rw [← List.append_assoc, ← List.append_assoc]
  exact List.Perm.append_right R2 List.perm_append_comm
theorem srt_small {P : List Int} {L R : List Nat} (hL : Srt P L) (hR : Srt P R) (h : L = [] ∨ R = []) : Srt P (L ++ R) := by
  rcases h with rfl | rfl
  · simpa using hR
  · simpa using hL
theorem nil_of {L : List Nat} (h : ¬ 0 < L.length) : L = [] := List.length_eq_zero_iff.1 (by omega)
def SymPost (lo g c n pb : Nat) (P : List Int) (X L R Y : List Nat) (w : World) (e : Ending) (w' : World) : Prop :=
  e = .returned (.tuple #[]) ∧ (∃ M, Srt P M ∧ M.Perm (L ++ R) ∧ SR lo w' g c n pb P (X ++ (M ++ Y))) ∧ w.grownBy w' (some g)
set_option maxHeartbeats 8000000 in
set_option maxRecDepth 10000 in
theorem symM_calls (lo g c n pb : Nat) (P : List Int) (hn : n ≤ 1152921504606846976) : ∀ (N a m b : Nat) (X L R Y : List Nat) (w : World), b - a ≤ N → SR lo w g c n pb P (X ++ (L ++ (R ++ Y))) → X.length = a → a + L.length = m → m + R.length = b → 0 < L.length → 0 < R.length → Srt P L → Srt P R → (∀ x ∈ L, ∀ y ∈ R, x < y) →
    Calls Try.prog 102 #[.slice (some ⟨g, 0, none⟩) n c, .int .i64 a, .int .i64 m, .int .i64 b, .func (.func 49) #[] #[.pointer (some ⟨pb, 0, none⟩)]] w (SymPost lo g c n pb P X L R Y w) := by
  intro N
  induction N with
  | zero => intro a m b X L R Y w hN _ _ hm hb hl hr _ _ _; omega
  | succ N ih =>
    intro a m b X L R Y w hN h hX hm hb hL0 hR0 hsL hsR hx
    by_cases hL1 : L.length = 1
    · obtain ⟨x, rfl⟩ := List.length_eq_one_iff.1 hL1
      exact symM_left lo g c n pb a m b P X R Y x w h hX (by simpa using hm) hb hsR (fun y hy => hx x (by simp) y hy) hn
    by_cases hR1 : R.length = 1
    · obtain ⟨y, rfl⟩ := List.length_eq_one_iff.1 hR1
      exact symM_right lo g c n pb a m b P X L Y y w h hX hm (by simpa using hb) hL1 hsL (fun x hxx => hx x hxx y (by simp)) hn
    have HIH := bx ih
    clear ih
    have hnl := h.len
    simp only [List.length_append] at hnl
    have HH := bx h
    have HX := bx hX
    have HML := bx hm
    have HMR := bx hb
    have HSL := bx hsL
    have HSR := bx hsR
    have HXY := bx hx
    obtain ⟨mid, hmid⟩ : ∃ mid, (a + b) / 2 = mid := ⟨_, rfl⟩
    obtain ⟨t, ht⟩ : ∃ t, mid + m = t := ⟨_, rfl⟩
    have HMID := bx (show a < mid ∧ mid < b ∧ (a + b = 2 * mid ∨ a + b = 2 * mid + 1) by omega)
    have HT := bx ht
    have am : a + 2 ≤ m := by omega
    have mb : m + 2 ≤ b := by omega
    have hbn : b ≤ n := by omega
    have e1 : ((m : Int) - (a : Int) == 1) = false := beq_eq_false_iff_ne.2 (by omega)
    have e2 : ((b : Int) - (m : Int) == 1) = false := beq_eq_false_iff_ne.2 (by omega)
    have e3 : IntKind.i64.wrap ((m : Int) - (a : Int)) = (m : Int) - (a : Int) := IntWalk.i64_in _ (by omega)
    have e4 : IntKind.i64.wrap ((b : Int) - (m : Int)) = (b : Int) - (m : Int) := IntWalk.i64_in _ (by omega)
    have e5 : ((a : Int) + (b : Int)) / 2 = (mid : Int) := by omega
    have e6 : (mid : Int) + (m : Int) = (t : Int) := by omega
    have htn : t ≤ 2 * n := by omega
    have HN := bx hN
    clear hN h hX hm hb hL0 hR0 hsL hsR hx hL1 hR1 hnl hmid ht
    go_enter Try.func102, Try.ntmps102
    go_upto_if 140 with fail
    clear e1 e2 e3 e4 e5 e6
    go_cut [20, 21] from 141 to 146 (fun vs vr wx => wx = w ∧ ∃ s r : Nat, vs = .int .i64 s ∧ vr = .int .i64 r ∧ SymR P L R a m b t s r)
    case first =>
      have h1 := HMID.out
      have h2 := HT.out
      have h3 := HML.out
      have h4 := HMR.out
      by_cases hmm : mid < m
      · have z1 : decide ((m : Int) > (mid : Int)) = true := decide_eq_true (by omega)
        have HS := bx (show SymR P L R a m b t (t - b) mid from ⟨by omega, by omega, by omega, by omega, by omega, by rw [List.drop_eq_nil_of_le (by omega)]; simp, by rw [show t - mid - m = 0 by omega]; simp⟩)
        have ew : IntKind.i64.wrap ((t : Int) - (b : Int)) = ((t - b : Nat) : Int) := by rw [IntWalk.i64_in _ (by omega)]; omega
        have ew2 : (t : Int) - (b : Int) = ((t - b : Nat) : Int) := by omega
        clear h1 h2 h3 h4
        go_wp2_with fail
        go_meet
        case rel => exact ⟨rfl, t - b, mid, rfl, rfl, HS.out⟩
      · have z1 : decide ((m : Int) > (mid : Int)) = false := decide_eq_false (by omega)
        have HS := bx (show SymR P L R a m b t a m from ⟨by omega, by omega, by omega, by omega, by omega, by simp, by rw [List.drop_eq_nil_of_le (by omega)]; simp⟩)
        clear h1 h2 h3 h4
        go_wp2_with fail
        go_meet
        case rel => exact ⟨rfl, a, m, rfl, rfl, HS.out⟩
    case rest =>
      obtain ⟨hwc, s0, r0, rfl, rfl, hS0⟩ := hcut
      rw [hwc]
      clear hwc wc
      have HS0 := bx hS0
      clear hS0
      go_wp2_with fail
      go_loopw [20, 21] (fun vi vj wr => ∃ i j q : Nat, vi = .int .i64 i ∧ vj = .int .i64 j ∧ SymR P L R a m b t i j ∧ wr = w.drewN q) (fun vi vj _ => (intOf vj).toNat - (intOf vi).toNat)
      case atStart => exact ⟨s0, r0, 0, rfl, rfl, HS0.out, rfl⟩
      case round =>
        obtain ⟨i, j, q, rfl, rfl, hB, hw⟩ := hrel
        have HB := bx hB
        have HW := bx hw
        have HSW := bx (show SR lo wr g c n pb P (X ++ (L ++ (R ++ Y))) by rw [hw]; exact HH.out.drewN q)
        have hij := hB.sr
        have hai := hB.sa
        have hjm := hB.rm
        have hjt := hB.tr
        have htb := hB.tb
        clear hB hw
        by_cases hlt : i < j
        · have z1 : decide ((i : Int) < (j : Int)) = true := decide_eq_true (by omega)
          obtain ⟨h, hh⟩ : ∃ h, (i + j) / 2 = h := ⟨_, rfl⟩
          have eh : ((i : Int) + (j : Int)) / 2 = (h : Int) := by omega
          have hih : i ≤ h := by omega
          have hhj : h < j := by omega
          obtain ⟨u, hu⟩ : ∃ u, t - 1 - h = u := ⟨_, rfl⟩
          have eu : IntKind.i64.wrap ((t : Int) - 1 - (h : Int)) = (u : Int) := by rw [IntWalk.i64_in _ (by omega)]; omega
          have eu2 : (t : Int) - 1 - (h : Int) = (u : Int) := by omega
          have et : IntKind.i64.wrap ((t : Int) - 1) = (t : Int) - 1 := IntWalk.i64_in _ (by omega)
          have hun : u < n := by omega
          have hhn : h < n := by omega
          obtain ⟨c1, f1⟩ := HSW.out.cell (j := u) hun
          obtain ⟨c2, f2⟩ := HSW.out.cell (j := h) hhn
          have hxl := HX.out
          have hml := HML.out
          have hmr := HMR.out
          rw [show X ++ (L ++ (R ++ Y)) = (X ++ L) ++ (R ++ Y) by simp, getD_at (X ++ L) R Y (by rw [List.length_append]; omega), List.length_append, show X.length + L.length = m by omega] at c1
          rw [getD_at X L (R ++ Y) (by omega), hxl] at c2
          have hyR : R.getD (u - m) 0 ∈ R := getD_memL (by omega)
          have hxL : L.getD (h - a) 0 ∈ L := getD_memL (by omega)
          have HUP := bx (fun hl => HB.out.up (c := h) ⟨hih, hhj⟩ hml hmr hl)
          have HDN := bx (fun hl => HB.out.down (c := h) ⟨hih, hhj⟩ hml hmr hl)
          rw [hu] at HUP HDN
          obtain ⟨y, hy⟩ : ∃ y, R.getD (u - m) 0 = y := ⟨_, rfl⟩
          obtain ⟨x, hx⟩ : ∃ x, L.getD (h - a) 0 = x := ⟨_, rfl⟩
          rw [hy] at c1 hyR HUP HDN
          rw [hx] at c2 hxL HUP HDN
          have hxy := HXY.out x hxL y hyR
          obtain ⟨z, hz1, hz2⟩ := cmp_at HSW.out y x (by simp [hyR]) (by simp [hxL])
          have HZ1 := bx hz1
          have HZ2 := bx hz2
          have z2 : (h : Int) < (n : Int) := by omega
          have z3 : (0 : Int) ≤ (h : Int) := by omega
          have z4 : (u : Int) < (n : Int) := by omega
          have z5 : (0 : Int) ≤ (u : Int) := by omega
          clear hh hu hyR hxL hy hx hz1 hz2 hxl hml hmr
          go_wp2_with fail
          go_quiet (first | (go_at_call 49; exact Calls.quiet_of (HZ2.out _ (HSW.out.drewN _).prio)))
          go_wp2_with fail
          · have hzz : ¬ z < 0 := by
              have h : (!decide (z < 0)) = true := by assumption
              simpa using h
            have hl : ltN P y x = false := by
              cases h : ltN P y x
              · rfl
              · exact absurd (HZ1.out.2 h) hzz
            have HB2 := bx (HUP.out ((lx_low hxy).2 hl))
            clear hl hxy
            go_roundw
            case rel => exact ⟨h + 1, j, _, by go_num, rfl, HB2.out, by rw [HW.out]; exact World.drewN_drewN _ _ _⟩
            case measure => simp [intOf]; omega
          · have hzz : z < 0 := by
              have h : (!decide (z < 0)) = false := by assumption
              simpa using h
            have HB2 := bx (HDN.out ((lx_high hxy).2 (HZ1.out.1 hzz)))
            clear hxy
            go_roundw
            case rel => exact ⟨i, h, _, rfl, rfl, HB2.out, by rw [HW.out]; exact World.drewN_drewN _ _ _⟩
            case measure => simp [intOf]; omega
        · obtain rfl : i = j := by omega
          have z1 : decide ((i : Int) < (i : Int)) = false := decide_eq_false (by omega)
          have HGW := bx (show w.grownBy wr (some g) by rw [HW.out]; exact grown_drewN (grown_refl _ _) _)
          obtain ⟨e, he⟩ : ∃ e, t - i = e := ⟨_, rfl⟩
          have ee : IntKind.i64.wrap ((t : Int) - (i : Int)) = (e : Int) := by rw [IntWalk.i64_in _ (by omega)]; omega
          have ee2 : (t : Int) - (i : Int) = (e : Int) := by omega
          obtain ⟨L1, L2, hL12, hl1⟩ : ∃ L1 L2, L = L1 ++ L2 ∧ L1.length = i - a := ⟨L.take (i - a), L.drop (i - a), (List.take_append_drop _ _).symm, by rw [List.length_take]; have := HML.out; omega⟩
          obtain ⟨R1, R2, hR12, hr1⟩ : ∃ R1 R2, R = R1 ++ R2 ∧ R1.length = e - m := ⟨R.take (e - m), R.drop (e - m), (List.take_append_drop _ _).symm, by rw [List.length_take]; have := HMR.out; omega⟩
          have hsp : ∀ x ∈ L1 ++ R1, ∀ y ∈ L2 ++ R2, lx P x y := by
            refine sym_split (by rw [← hL12]; exact HSL.out) (by rw [← hR12]; exact HSR.out) ?_ ?_
            · have := HB.out.lo
              rw [he, hL12, hR12, List.take_left' hl1, List.drop_left' hr1] at this
              exact this
            · have := HB.out.hi
              rw [he, hL12, hR12, List.take_left' hr1, List.drop_left' hl1] at this
              exact this
          have HSP := bx hsp
          have q1 : i + L2.length = m := by have := HML.out; rw [hL12, List.length_append] at this; omega
          have q2 : e + R2.length = b := by have := HMR.out; rw [hR12, List.length_append] at this; omega
          have q3 : i + R1.length = mid := by have := HT.out; omega
          have q4 : a + L1.length = i := by omega
          have q5 : m + R1.length = e := by omega
          have hSL := HSL.out
          have hSR := HSR.out
          rw [hL12] at hSL
          rw [hR12] at hSR
          have HSL2 := bx (List.pairwise_append.1 hSL)
          have HSR2 := bx (List.pairwise_append.1 hSR)
          have HXY2 := bx (show ∀ x ∈ L1 ++ L2, ∀ y ∈ R1 ++ R2, x < y by rw [← hL12, ← hR12]; exact HXY.out)
          have HS1 := bx (show SR lo wr g c n pb P (X ++ (L1 ++ (L2 ++ (R1 ++ (R2 ++ Y))))) by have := HSW.out; rw [hL12, hR12] at this; simpa using this)
          have HLR := bx (And.intro hL12 hR12)
          have q6 : i ≤ mid := by omega
          have q7 : mid ≤ e := by omega
          have HQ := bx (And.intro (And.intro (And.intro (And.intro q1 q2) q3) q4) q5)
          clear hL12 hR12 hl1 hr1 hsp hSL hSR he hij q1 q2 q3 q4 q5 q6 q7 hlt hai htb hjm hjt
          clear am mb hbn
          have HRO := bx (fun (h0 : 0 < L2.length) (h1 : 0 < R1.length) => rotate_calls lo g c n pb i m e P (X ++ L1) L2 R1 (R2 ++ Y) (.func (.func 49) #[] #[.pointer (some ⟨pb, 0, none⟩)]) wr (by have := HS1.out; rwa [List.append_assoc]) (by rw [List.length_append, HX.out]; exact HQ.out.1.2) HQ.out.1.1.1.1 HQ.out.2 h0 h1 hn)
          obtain ⟨t39, ht39⟩ : ∃ t, t = (decide (0 < L2.length) && decide (0 < R1.length)) := ⟨_, rfl⟩
          have HT39 := bx ht39
          clear ht39
          go_upto_region 39 with fail
          go_cut [185] from 178 to 184 (fun c wx => c = .bool t39 ∧ wx = wr)
          case first =>
            have hq := HQ.out
            by_cases h2 : 0 < L2.length
            · have z1 : decide ((i : Int) < (m : Int)) = true := decide_eq_true (by omega)
              have n1 : i < m := by omega
              have d1 : decide (i < m) = true := decide_eq_true n1
              by_cases h1 : 0 < R1.length
              · have z2 : decide ((m : Int) < (e : Int)) = true := decide_eq_true (by omega)
                have n2 : m < e := by omega
                have d2 : decide (m < e) = true := decide_eq_true n2
                clear hq
                go_wp2_with fail
                go_meet
                case rel => exact ⟨by have := HQ.out; rw [HT39.out, decide_eq_true h2, decide_eq_true h1]; first | rfl | exact congrArg Value.bool (decide_eq_true (by omega)), rfl⟩
              · have z2 : decide ((m : Int) < (e : Int)) = false := decide_eq_false (by omega)
                have n2 : ¬ m < e := by omega
                have d2 : decide (m < e) = false := decide_eq_false n2
                clear hq
                go_wp2_with fail
                go_meet
                case rel => exact ⟨by have := HQ.out; rw [HT39.out, decide_eq_true h2, decide_eq_false h1]; first | rfl | exact congrArg Value.bool (decide_eq_false (by omega)), rfl⟩
            · have z1 : decide ((i : Int) < (m : Int)) = false := decide_eq_false (by omega)
              have n1 : ¬ i < m := by omega
              have d1 : decide (i < m) = false := decide_eq_false n1
              clear hq
              go_wp2_with fail
              go_meet
              case rel => exact ⟨by rw [HT39.out, decide_eq_false h2, Bool.false_and], rfl⟩
          case rest =>
            obtain ⟨rfl, hw⟩ := hcut
            rw [hw]
            clear hw wc
            go_upto_if 185 with fail
            go_cut [] from 186 to 191 (fun wx => SR lo wx g c n pb P (X ++ (L1 ++ (R1 ++ (L2 ++ (R2 ++ Y))))) ∧ w.grownBy wx (some g))
            case first =>
              cases t39 with
              | true =>
                have h12 : 0 < L2.length ∧ 0 < R1.length := by have := HT39.out; simpa using this.symm
                have HC := bx (HRO.out h12.1 h12.2)
                clear h12
                go_wp2_with fail
                refine HC.out.mono ?_
                rintro e w1 ⟨rfl, a1, a2⟩
                have A1 := bx a1
                have A2 := bx a2
                clear a1 a2
                go_wp2_with fail
                go_meet
                case rel => exact ⟨by have := A1.out; rwa [List.append_assoc] at this, HGW.out.trans A2.out⟩
              | false =>
                have h12 : L2 = [] ∨ R1 = [] := by
                  have := HT39.out
                  by_cases h : 0 < L2.length
                  · exact .inr (nil_of (fun h' => by rw [decide_eq_true h, decide_eq_true h'] at this; cases this))
                  · exact .inl (nil_of h)
                have HC := bx (show SR lo wr g c n pb P (X ++ (L1 ++ (R1 ++ (L2 ++ (R2 ++ Y))))) by
                  have := HS1.out
                  rcases h12 with h | h
                  · rw [h] at this ⊢; exact this
                  · rw [h] at this ⊢; exact this)
                clear h12
                go_wp2_with fail
                go_meet
                case rel => exact ⟨HC.out, HGW.out⟩
            case rest =>
              clear ee ee2 z1 htn
              obtain ⟨a1, a2⟩ := hcut
              have A1 := bx a1
              have A2 := bx a2
              clear a1 a2
              revert A1 A2
              generalize wc = wd
              intro A1 A2
              obtain ⟨t41, ht41⟩ : ∃ t, t = (decide (0 < L1.length) && decide (0 < R1.length)) := ⟨_, rfl⟩
              have HT41 := bx ht41
              clear ht41
              go_upto_region 41 with fail
              go_cut [199] from 192 to 198 (fun c wx => c = .bool t41 ∧ wx = wd)
              case first =>
                have hq := HQ.out
                by_cases h2 : 0 < L1.length
                · have z1 : decide ((a : Int) < (i : Int)) = true := decide_eq_true (by omega)
                  have n1 : a < i := by omega
                  have d1 : decide (a < i) = true := decide_eq_true n1
                  by_cases h1 : 0 < R1.length
                  · have z2 : decide ((i : Int) < (mid : Int)) = true := decide_eq_true (by omega)
                    have n2 : i < mid := by omega
                    have d2 : decide (i < mid) = true := decide_eq_true n2
                    clear hq
                    go_wp2_with fail
                    go_meet
                    case rel => exact ⟨by have := HQ.out; rw [HT41.out, decide_eq_true h2, decide_eq_true h1]; first | rfl | exact congrArg Value.bool (decide_eq_true (by omega)), rfl⟩
                  · have z2 : decide ((i : Int) < (mid : Int)) = false := decide_eq_false (by omega)
                    have n2 : ¬ i < mid := by omega
                    have d2 : decide (i < mid) = false := decide_eq_false n2
                    clear hq
                    go_wp2_with fail
                    go_meet
                    case rel => exact ⟨by have := HQ.out; rw [HT41.out, decide_eq_true h2, decide_eq_false h1]; first | rfl | exact congrArg Value.bool (decide_eq_false (by omega)), rfl⟩
                · have z1 : decide ((a : Int) < (i : Int)) = false := decide_eq_false (by omega)
                  have n1 : ¬ a < i := by omega
                  have d1 : decide (a < i) = false := decide_eq_false n1
                  clear hq
                  go_wp2_with fail
                  go_meet
                  case rel => exact ⟨by rw [HT41.out, decide_eq_false h2, Bool.false_and], rfl⟩
              case rest =>
                obtain ⟨rfl, hw⟩ := hcut
                rw [hw]
                clear hw
                have HI1 := bx (fun (h1 : 0 < L1.length) (h2 : 0 < R1.length) => HIH.out a i mid X L1 R1 (L2 ++ (R2 ++ Y)) wd (by have := HMID.out; have := HN.out; omega) A1.out HX.out HQ.out.1.2 HQ.out.1.1.2 h1 h2 HSL2.out.1 HSR2.out.1 (fun x hx y hy => HXY2.out x (by simp [hx]) y (by simp [hy])))
                go_upto_if 199 with fail
                go_cut [] from 200 to 205 (fun wx => (∃ M1, Srt P M1 ∧ M1.Perm (L1 ++ R1) ∧ SR lo wx g c n pb P (X ++ (M1 ++ (L2 ++ (R2 ++ Y))))) ∧ w.grownBy wx (some g))
                case first =>
                  cases t41 with
                  | true =>
                    have h12 : 0 < L1.length ∧ 0 < R1.length := by have := HT41.out; simpa using this.symm
                    have HC := bx (HI1.out h12.1 h12.2)
                    clear h12
                    go_wp2_with fail
                    refine HC.out.mono ?_
                    rintro e w1 ⟨rfl, b1, b2⟩
                    have B1 := bx b1
                    have B2 := bx b2
                    clear b1 b2
                    go_wp2_with fail
                    go_meet
                    case rel => exact ⟨B1.out, A2.out.trans B2.out⟩
                  | false =>
                    have h12 : L1 = [] ∨ R1 = [] := by
                      have := HT41.out
                      by_cases h : 0 < L1.length
                      · exact .inr (nil_of (fun h' => by rw [decide_eq_true h, decide_eq_true h'] at this; cases this))
                      · exact .inl (nil_of h)
                    have HC := bx (srt_small HSL2.out.1 HSR2.out.1 h12)
                    clear h12
                    go_wp2_with fail
                    go_meet
                    case rel => exact ⟨⟨L1 ++ R1, HC.out, List.Perm.refl _, by have := A1.out; rwa [List.append_assoc]⟩, A2.out⟩
                case rest =>
                  obtain ⟨⟨M1, m1, m2, m3⟩, b2⟩ := hcut
                  have HM1 := bx (And.intro m1 m2)
                  have B1 := bx m3
                  have B2 := bx b2
                  have HML1 := bx (show (X ++ M1).length = mid by have := HQ.out; have := HX.out; have := m2.length_eq; rw [List.length_append] at this ⊢; omega)
                  clear m1 m2 m3 b2
                  revert B1 B2
                  generalize wc = wd2
                  intro B1 B2
                  have HI2 := bx (fun (h1 : 0 < L2.length) (h2 : 0 < R2.length) => HIH.out mid e b (X ++ M1) L2 R2 Y wd2 (by have := HMID.out; have := HN.out; omega) (by have := B1.out; rwa [List.append_assoc]) HML1.out (by have := HQ.out; omega) HQ.out.1.1.1.2 h1 h2 HSL2.out.2.1 HSR2.out.2.1 (fun x hx y hy => HXY2.out x (by simp [hx]) y (by simp [hy])))
                  obtain ⟨t43, ht43⟩ : ∃ t, t = (decide (0 < L2.length) && decide (0 < R2.length)) := ⟨_, rfl⟩
                  have HT43 := bx ht43
                  clear ht43
                  go_upto_region 43 with fail
                  go_cut [213] from 206 to 212 (fun c wx => c = .bool t43 ∧ wx = wd2)
                  case first =>
                    have hq := HQ.out
                    by_cases h2 : 0 < L2.length
                    · have z1 : decide ((mid : Int) < (e : Int)) = true := decide_eq_true (by omega)
                      have n1 : mid < e := by omega
                      have d1 : decide (mid < e) = true := decide_eq_true n1
                      by_cases h1 : 0 < R2.length
                      · have z2 : decide ((e : Int) < (b : Int)) = true := decide_eq_true (by omega)
                        have n2 : e < b := by omega
                        have d2 : decide (e < b) = true := decide_eq_true n2
                        clear hq
                        go_wp2_with fail
                        go_meet
                        case rel => exact ⟨by have := HQ.out; rw [HT43.out, decide_eq_true h2, decide_eq_true h1]; first | rfl | exact congrArg Value.bool (decide_eq_true (by omega)), rfl⟩
                      · have z2 : decide ((e : Int) < (b : Int)) = false := decide_eq_false (by omega)
                        have n2 : ¬ e < b := by omega
                        have d2 : decide (e < b) = false := decide_eq_false n2
                        clear hq
                        go_wp2_with fail
                        go_meet
                        case rel => exact ⟨by have := HQ.out; rw [HT43.out, decide_eq_true h2, decide_eq_false h1]; first | rfl | exact congrArg Value.bool (decide_eq_false (by omega)), rfl⟩
                    · have z1 : decide ((mid : Int) < (e : Int)) = false := decide_eq_false (by omega)
                      have n1 : ¬ mid < e := by omega
                      have d1 : decide (mid < e) = false := decide_eq_false n1
                      clear hq
                      go_wp2_with fail
                      go_meet
                      case rel => exact ⟨by rw [HT43.out, decide_eq_false h2, Bool.false_and], rfl⟩
                  case rest =>
                    obtain ⟨rfl, hw⟩ := hcut
                    rw [hw]
                    clear hw
                    cases t43 with
                    | true =>
                      have h12 : 0 < L2.length ∧ 0 < R2.length := by have := HT43.out; simpa using this.symm
                      have HC := bx (HI2.out h12.1 h12.2)
                      clear h12
                      go_wp2_with fail
                      refine HC.out.mono ?_
                      rintro e w1 ⟨rfl, ⟨M2, c1, c2, c3⟩, c4⟩
                      have C1 := bx c1
                      have C2 := bx c2
                      have C3 := bx c3
                      have C4 := bx c4
                      clear c1 c2 c3 c4
                      go_wp2_with fail
                      go_end0
                      obtain ⟨d1, d2⟩ := sym_merge HM1.out.1 C1.out HM1.out.2 C2.out HSP.out
                      exact ⟨rfl, ⟨M1 ++ M2, d1, by rw [HLR.out.1, HLR.out.2]; exact d2, by have := C3.out; rw [List.append_assoc] at this; rwa [List.append_assoc]⟩, B2.out.trans C4.out⟩
                    | false =>
                      have h12 : L2 = [] ∨ R2 = [] := by
                        have := HT43.out
                        by_cases h : 0 < L2.length
                        · exact .inr (nil_of (fun h' => by rw [decide_eq_true h, decide_eq_true h'] at this; cases this))
                        · exact .inl (nil_of h)
                      have HC := bx (srt_small HSL2.out.2.1 HSR2.out.2.1 h12)
                      clear h12
                      go_wp2_with fail
                      go_end0
                      obtain ⟨d1, d2⟩ := sym_merge HM1.out.1 HC.out HM1.out.2 (List.Perm.refl _) HSP.out
                      exact ⟨rfl, ⟨M1 ++ (L2 ++ R2), d1, by rw [HLR.out.1, HLR.out.2]; exact d2, by have := B1.out; simpa using this⟩, B2.out⟩
end Go.Proofs.Ytpdbdpmlppbnnaa
