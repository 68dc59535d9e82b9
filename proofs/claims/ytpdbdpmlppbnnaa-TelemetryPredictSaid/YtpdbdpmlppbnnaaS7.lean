/-
  Walks of slices' stable sort: symMerge.
-/
import Derived.Test.YtpdbdpmlppbnnaaS6
import Derived.Deep.CutRange
namespace Go.Proofs.Ytpdbdpmlppbnnaa
open Go.RowKit Go.Shelf

/-- where one element x goes in a sorted row R: everything before i is before it -/
structure BsR (P : List Int) (x : Nat) (R : List Nat) (i j : Nat) : Prop where
  ij : i ≤ j
  jl : j ≤ R.length
  lo : ∀ y ∈ (R.take i).getLast?, lx P y x
  hi : ∀ y ∈ (R.drop j).head?, lx P x y
theorem BsR.up {P : List Int} {x : Nat} {R : List Nat} {i j h : Nat} (b : BsR P x R i j) (hh : i ≤ h ∧ h < j) (hl : lx P (R.getD h 0) x) : BsR P x R (h + 1) j := by
  refine ⟨by omega, b.jl, fun y hy => ?_, b.hi⟩
  have hR : h < R.length := by have := b.jl; omega
  rw [List.take_succ_eq_append_getElem hR, List.getLast?_append] at hy
  have hE : R[h] = y := by simpa using hy
  rw [List.getD_eq_getElem?_getD, List.getElem?_eq_getElem hR] at hl
  simp only [Option.getD_some] at hl
  rw [← hE]
  exact hl
theorem BsR.down {P : List Int} {x : Nat} {R : List Nat} {i j h : Nat} (b : BsR P x R i j) (hh : i ≤ h ∧ h < j) (hl : lx P x (R.getD h 0)) : BsR P x R i h := by
  have hR : h < R.length := by have := b.jl; omega
  refine ⟨hh.1, by omega, b.lo, fun y hy => ?_⟩
  rw [List.drop_eq_getElem_cons hR] at hy
  have hE : R[h]? = some R[h] := List.getElem?_eq_getElem hR
  simp at hy
  rw [List.getD_eq_getElem?_getD, List.getElem?_eq_getElem hR] at hl
  simp only [Option.getD_some] at hl
  rw [hE] at hy
  rw [Option.some.injEq] at hy
  rw [← hy]
  exact hl
theorem lo_all {P : List Int} {x : Nat} {A : List Nat} (h : Srt P A) (hl : ∀ y ∈ A.getLast?, lx P y x) : ∀ y ∈ A, lx P y x := fun y hy => by
  have := sym_split (P := P) (L1 := A) (L2 := []) (R1 := []) (R2 := [x]) (by simpa using h) (by simp) (by simpa using hl) (by simp) y (by simp [hy]) x (by simp)
  exact this
theorem hi_all {P : List Int} {x : Nat} {A : List Nat} (h : Srt P A) (hl : ∀ y ∈ A.head?, lx P x y) : ∀ y ∈ A, lx P x y := fun y hy => by
  have := sym_split (P := P) (L1 := [x]) (L2 := []) (R1 := []) (R2 := A) (by simp) (by simpa using h) (by simpa using hl) (by simp) x (by simp) y (by simp [hy])
  exact this
theorem BsR.srt {P : List Int} {x : Nat} {R : List Nat} {i : Nat} (b : BsR P x R i i) (h : Srt P R) : Srt P (R.take i ++ x :: R.drop i) := by
  have hs : Srt P (R.take i ++ R.drop i) := by rw [List.take_append_drop]; exact h
  have hp := List.pairwise_append.1 hs
  exact srt_put hs (lo_all hp.1 b.lo) (hi_all hp.2.1 b.hi)
theorem drewN_drew (w : World) (q : Nat) : (w.drewN q).drew = w.drewN (q + 1) := rfl
theorem getD_in (X R Y : List Nat) (x : Nat) {h : Nat} (hh : X.length + 1 ≤ h ∧ h < X.length + 1 + R.length) : (X ++ x :: (R ++ Y)).getD h 0 = R.getD (h - (X.length + 1)) 0 := by
  rw [List.getD_eq_getElem?_getD, List.getD_eq_getElem?_getD, show X ++ x :: (R ++ Y) = (X ++ [x]) ++ (R ++ Y) by simp, List.getElem?_append_right (by simp; omega), List.getElem?_append_left (by simp; omega)]
  simp
theorem getD_at (X L Y : List Nat) {h : Nat} (hh : X.length ≤ h ∧ h < X.length + L.length) : (X ++ (L ++ Y)).getD h 0 = L.getD (h - X.length) 0 := by
  rw [List.getD_eq_getElem?_getD, List.getD_eq_getElem?_getD, List.getElem?_append_right hh.1, List.getElem?_append_left (by omega)]
theorem getD_memL {R : List Nat} {k : Nat} (h : k < R.length) : R.getD k 0 ∈ R := by
  rw [List.getD_eq_getElem?_getD, List.getElem?_eq_getElem h]
  exact List.getElem_mem h
/-- the comparison of two elements of a row -/
theorem cmp_at {lo g c n pb : Nat} {w : World} {P : List Int} {d : List Nat} (h : SR lo w g c n pb P d) (x y : Nat) (hx : x ∈ d) (hy : y ∈ d) :
    ∃ z : Int, (z < 0 ↔ ltN P x y = true) ∧ ∀ W, PrioIn W lo pb P → Calls Try.prog 49 #[.int .i64 x, .int .i64 y, .pointer (some ⟨pb, 0, none⟩)] W fun e w' => e = .returned (.int .i64 z) ∧ ∃ q, w' = W.drewN q :=
  ⟨_, ltN_cmp P x y, fun W hW => ord1_calls pb lo P x y W hW (h.lt x hx) (h.lt y hy)⟩
set_option maxHeartbeats 4000000 in
set_option maxRecDepth 10000 in
theorem symM_left (lo g c n pb a m b : Nat) (P : List Int) (X R Y : List Nat) (x : Nat) (w : World) (h : SR lo w g c n pb P (X ++ x :: (R ++ Y))) (hX : X.length = a) (hm : a + 1 = m) (hb : m + R.length = b) (hs : Srt P R) (hx : ∀ y ∈ R, x < y) (hn : n ≤ 1152921504606846976) :
    Calls Try.prog 102 #[.slice (some ⟨g, 0, none⟩) n c, .int .i64 a, .int .i64 m, .int .i64 b, .func (.func 49) #[] #[.pointer (some ⟨pb, 0, none⟩)]] w fun e w' =>
      e = .returned (.tuple #[]) ∧ (∃ M, Srt P M ∧ M.Perm (x :: R) ∧ SR lo w' g c n pb P (X ++ (M ++ Y))) ∧ w.grownBy w' (some g) := by
  have hnl := h.len
  simp only [List.length_append, List.length_cons] at hnl
  have HH := bx h
  have HX := bx hX
  have HS := bx hs
  have HXR := bx hx
  have HM := bx hm
  have HR := bx (show R.length + m = b by omega)
  have d0 : IntKind.i64.wrap ((m : Int) - (a : Int)) = 1 := by rw [IntWalk.i64_in _ (by omega)]; omega
  have d1 : (m : Int) - (a : Int) = 1 := by omega
  have hbn : b ≤ n := by omega
  have hmb : m ≤ b := by omega
  clear h hX hs hx hb hnl
  go_enter Try.func102, Try.ntmps102
  go_wp2_with fail
  go_loopw [10, 11] (fun vi vj wr => ∃ i j q : Nat, vi = .int .i64 i ∧ vj = .int .i64 j ∧ m ≤ i ∧ i ≤ j ∧ j ≤ b ∧ BsR P x R (i - m) (j - m) ∧ wr = w.drewN q) (fun vi vj _ => (intOf vj).toNat - (intOf vi).toNat)
  case atStart => exact ⟨m, b, 0, rfl, rfl, Nat.le_refl _, hmb, Nat.le_refl _, ⟨by omega, by have := HR.out; omega, by simp, by rw [List.drop_eq_nil_of_le (by have := HR.out; omega)]; simp⟩, rfl⟩
  case round =>
    obtain ⟨i, j, q, rfl, rfl, hmi, hij, hjb, hB, hw⟩ := hrel
    have HB := bx hB
    have HW := bx hw
    have HSR := bx (show SR lo wr g c n pb P (X ++ x :: (R ++ Y)) by rw [hw]; exact HH.out.drewN q)
    clear hB d0 d1 hm hw
    by_cases hlt : i < j
    · have z1 : decide ((i : Int) < (j : Int)) = true := decide_eq_true (by omega)
      obtain ⟨h, hh⟩ : ∃ h, (i + j) / 2 = h := ⟨_, rfl⟩
      have eh : ((i : Int) + (j : Int)) / 2 = (h : Int) := by omega
      have hih : i ≤ h := by omega
      have hhj : h < j := by omega
      obtain ⟨c1, f1⟩ := HSR.out.cell (j := h) (by omega)
      obtain ⟨c2, f2⟩ := HSR.out.cell (j := a) (by have := HM.out; omega)
      rw [getD_in X R Y x (by have := HX.out; have := HM.out; have := HR.out; omega)] at c1
      rw [getD_mid X _ x HX.out.symm] at c2
      have hym : R.getD (h - (X.length + 1)) 0 ∈ R := getD_memL (by have := HX.out; have := HM.out; have := HR.out; omega)
      have HUP := bx (fun hl => HB.out.up (h := h - m) (by omega) hl)
      have HDN := bx (fun hl => HB.out.down (h := h - m) (by omega) hl)
      rw [show X.length + 1 = m by have := HX.out; have := HM.out; omega] at c1 hym
      obtain ⟨y, hy⟩ : ∃ y, R.getD (h - m) 0 = y := ⟨_, rfl⟩
      rw [hy] at c1 hym HUP HDN
      have HYM := bx hym
      have hxy := HXR.out y hym
      obtain ⟨z, hz1, hz2⟩ := cmp_at HSR.out y x (by simp [hym]) (by simp)
      have HZ1 := bx hz1
      have HZ2 := bx hz2
      have z2 : (h : Int) < (n : Int) := by omega
      have z3 : (0 : Int) ≤ (h : Int) := by omega
      have z4 : (a : Int) < (n : Int) := by have := HM.out; omega
      have z5 : (0 : Int) ≤ (a : Int) := by omega
      clear hh hym hy hz1 hz2
      go_wp2_with fail
      go_quiet (first | (go_at_call 49; exact Calls.quiet_of (HZ2.out _ (HSR.out.drewN _).prio)))
      go_wp2_with fail
      · have hb := HUP.out ((lx_high hxy).2 (HZ1.out.1 (by assumption)))
        rw [show h - m + 1 = h + 1 - m by omega] at hb
        have HB2 := bx hb
        clear hb hxy
        go_roundw
        case rel => exact ⟨h + 1, j, _, by go_num, rfl, by omega, by omega, hjb, HB2.out, by rw [HW.out]; exact World.drewN_drewN _ _ _⟩
        case measure => simp [intOf]; omega
      · have hl : ltN P y x = false := by
          cases h : ltN P y x
          · rfl
          · exact absurd (HZ1.out.2 h) (by omega)
        have HB2 := bx (HDN.out ((lx_low hxy).2 hl))
        clear hl hxy
        go_roundw
        case rel => exact ⟨i, h, _, rfl, rfl, hmi, hih, by omega, HB2.out, by rw [HW.out]; exact World.drewN_drewN _ _ _⟩
        case measure => simp [intOf]; omega
    · obtain rfl : i = j := by omega
      have z1 : decide ((i : Int) < (i : Int)) = false := decide_eq_false (by omega)
      have z6 : IntKind.i64.wrap ((i : Int) - 1) = (i : Int) - 1 := IntWalk.i64_in _ (by omega)
      have HGW := bx (show w.grownBy wr (some g) by rw [HW.out]; exact grown_drewN (grown_refl _ _) _)
      go_wp2_with fail
      go_loopw [13] (fun vk wx => ∃ (k : Nat) (A B : List Nat), vk = .int .i64 k ∧ k + 1 ≤ i ∧ A.length = k ∧ A ++ B = X ++ (R ++ Y) ∧ SR lo wx g c n pb P (A ++ x :: B) ∧ w.grownBy wx (some g)) (fun vk _ => i - (intOf vk).toNat)
      case atStart => exact ⟨a, X, R ++ Y, rfl, by have := HM.out; omega, HX.out, rfl, HSR.out, HGW.out⟩
      case round =>
        obtain ⟨k, A, B, rfl, hki, hA, hAB, hS, hG⟩ := hrel
        have HA := bx hA
        have HAB := bx hAB
        have HS2 := bx hS
        have HG2 := bx hG
        clear hA hAB hS hG
        by_cases hlk : k + 1 < i
        · have z7 : decide ((k : Int) < (i : Int) - 1) = true := decide_eq_true (by omega)
          obtain ⟨y, B2, hB2⟩ : ∃ y B2, B = y :: B2 := by
            cases hq : B with
            | nil =>
              have h1 := HS2.out.len
              have h2 := HA.out
              rw [hq] at h1
              simp only [List.length_append, List.length_cons, List.length_nil] at h1
              omega
            | cons y t => exact ⟨y, t, rfl⟩
          subst hB2
          have hsr : SR lo wr g c n pb P (A ++ x :: ([] ++ y :: B2)) := HS2.out
          have ewk : IntKind.i64.wrap ((k : Int) + 1) = (k : Int) + 1 := IntWalk.i64_in _ (by omega)
          obtain ⟨c1, f1⟩ := hsr.cell (j := k) (by omega)
          obtain ⟨c2, f2⟩ := hsr.cell (j := k + 1) (by omega)
          rw [getD_mid _ _ _ HA.out.symm] at c1
          rw [getD_two _ _ _ _ _ (by have := HA.out; simp; omega)] at c2
          have HSW := bx (hsr.drew.swap2 A [] B2 x y k (k + 1) rfl HA.out.symm (by have := HA.out; simp; omega))
          have z8 : (0 : Int) ≤ (k : Int) := by omega
          have z9 : (k : Int) < (n : Int) := by omega
          have z10 : (k : Int) + 1 < (n : Int) := by omega
          have z11 : (0 : Int) ≤ (k : Int) + 1 := by omega
          clear hsr
          go_wp2_with fail
          go_region
          go_wp2_with fail
          go_roundw
          case rel => exact ⟨k + 1, A ++ [y], B2, by go_num, by omega, by have := HA.out; simp; omega, by have := HAB.out; simpa using this, by have := HSW.out; rwa [show A ++ y :: ([] ++ x :: B2) = (A ++ [y]) ++ x :: B2 by simp] at this, grown_set (grown_set (grown_drewN HG2.out 1) _ _) _ _⟩
          case measure => simp [intOf]; omega
        · have z7 : decide ((k : Int) < (i : Int) - 1) = false := decide_eq_false (by omega)
          go_wp2_with fail
          refine bodyPost_ret (v := .tuple #[]) (by simp [results, Try.results102, go_sem]) rfl ?_
          have h1 := HAB.out
          have h2 := HA.out
          have h3 := HX.out
          have h4 := HM.out
          have h5 := HR.out
          rw [show X ++ (R ++ Y) = (X ++ R.take (i - m)) ++ (R.drop (i - m) ++ Y) by rw [List.append_assoc, ← List.append_assoc (R.take _), List.take_append_drop]] at h1
          obtain ⟨e1, e2⟩ := List.append_inj h1 (by rw [List.length_append, List.length_take]; omega)
          subst e1 e2
          refine ⟨rfl, ⟨R.take (i - m) ++ x :: R.drop (i - m), HB.out.srt HS.out, ?_, ?_⟩, HG2.out⟩
          · have := List.perm_middle (a := x) (l₁ := R.take (i - m)) (l₂ := R.drop (i - m))
            rw [List.take_append_drop] at this
            exact this
          · have := HS2.out
            simpa using this
end Go.Proofs.Ytpdbdpmlppbnnaa
