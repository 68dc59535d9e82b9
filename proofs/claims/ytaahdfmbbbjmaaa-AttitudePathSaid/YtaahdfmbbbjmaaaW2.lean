/-
  Walks of layer 12: the specification's functions.
-/
import Derived.Test.YtaahdfmbbbjmaaaW1
import Derived.Maps.AppendAt
import Derived.OwnWalk
namespace Go.Proofs.Ytaahdfmbbbjmaaa
open Go.RowKit

theorem ret_tup2 {k k' : IntKind} {a b c d : Int} (h : a = b) (h' : c = d) : Ending.returned (.tuple #[.int k a, .int k' c]) = Ending.returned (.tuple #[.int k b, .int k' d]) := by rw [h, h']
theorem av_true_of {l : ArcL} {k : Nat} {d : Int} (hk : k < l.length) (hi : inArc (l[k].1, l[k].2) (d % 360) = true) : av l d = true :=
  List.any_eq_true.2 ⟨l[k], List.getElem_mem hk, hi⟩
theorem av_take_succ {l : ArcL} {k : Nat} {d : Int} (hk : k < l.length) : av (l.take (k + 1)) d = (av (l.take k) d || inArc (l[k].1, l[k].2) (d % 360)) := by
  unfold av
  rw [List.take_succ_eq_append_getElem hk, List.any_append]; simp
theorem ref_avoided (A : Option Addr) (c : Nat) (l : ArcL) (d : Int) (w : World) (h : Arcs w w.heap.size A l) (hm : l.length ≤ 100) (ho : OkArcs l) :
    Calls Try.prog 18 #[.slice A l.length c, .int .i64 d] w fun e w' => e = .returned (.bool (av l d)) ∧ Below w.heap.size w w' := by
  have d1 : 0 ≤ d % 360 := by omega
  have d2 : d % 360 ≤ 359 := by omega
  go_enter Try.func18, Try.ntmps18
  go_wp2_with (go_at_call 16; refine (refNormal _ _).mono ?_; rintro e w' ⟨rfl, rfl⟩)
  go_loopw [6] (fun i wr => ∃ k : Nat, k ≤ l.length ∧ i = .int .i64 k ∧ av (l.take k) d = false ∧ Below w.heap.size w wr) (fun i _ => l.length - (intOf i).toNat)
  case atStart => exact ⟨0, Nat.zero_le _, rfl, rfl, Below.refl _ _⟩
  case round =>
    obtain ⟨k, hk, rfl, hno, hbw⟩ := hrel
    have Hno := bx hno
    clear hno
    have hw := h.below hbw
    by_cases hlt : k < l.length
    · obtain ⟨b, off, rfl, hb, c1, c2⟩ := hw.at_ k hlt
      obtain ⟨f1, f2, t1, t2⟩ := ho _ (List.getElem_mem hlt)
      have Hs := bx (@av_take_succ l k d hlt)
      have Ht := bx (@av_true_of l k d hlt)
      generalize l[k].1 = f at *
      generalize l[k].2 = t at *
      cases hi : inArc (f, t) (d % 360)
      · have Hi := bx hi
        clear hi
        go_wp2_with (go_at_call 34; refine (contains_any _ _ _ _ f1 f2 t1 t2 d1 d2).mono ?_; rintro e w' ⟨rfl, hb'⟩; rw [Hi.out])
        go_roundw
        case rel => exact ⟨k + 1, by omega, by go_num, by rw [Hs.out, Hno.out, Hi.out]; rfl, hbw.trans (hb'.mono hbw.size)⟩
        case measure => simp [intOf]; omega
      · have Hi := bx hi
        clear hi
        go_wp2_with (go_at_call 34; refine (contains_any _ _ _ _ f1 f2 t1 t2 d1 d2).mono ?_; rintro e w' ⟨rfl, hb'⟩; rw [Hi.out])
        go_ret
        exact ⟨ret_bool (Ht.out Hi.out).symm, hbw.trans (hb'.mono hbw.size)⟩
    · have Hc := bx (show av l d = false by
        have := Hno.out
        rwa [List.take_of_length_le (by omega)] at this)
      go_wp2
      go_ret
      exact ⟨ret_bool Hc.out.symm, hbw⟩

theorem fr_of_upto {l : ArcL} {s deg : Int} {k : Nat} (hk : k = deg.natAbs + 1) (h : frUpto l (s % 360) deg k = true) : fr l s deg = true := by
  subst hk; exact h
theorem fr_not {l : ArcL} {s deg : Int} {k : Nat} (hk : k ≤ deg.natAbs) (h : av l (stepTo (s % 360) deg k) = true) : fr l s deg = false :=
  frUpto_false (by omega) h
theorem ref_avoided' (A : Option Addr) (c : Nat) (l : ArcL) (d : Int) (w : World) (x : Bool) (hx : av l d = x) (h : Arcs w w.heap.size A l) (hm : l.length ≤ 100) (ho : OkArcs l) :
    Calls Try.prog 18 #[.slice A l.length c, .int .i64 d] w fun e w' => e = .returned (.bool x) ∧ Below w.heap.size w w' := by
  subst hx; exact ref_avoided A c l d w h hm ho
theorem ref_free (A : Option Addr) (c : Nat) (l : ArcL) (s deg : Int) (w : World) (h : Arcs w w.heap.size A l) (hm : l.length ≤ 100) (ho : OkArcs l) (hd1 : -1000 ≤ deg) (hd2 : deg ≤ 1000) :
    Calls Try.prog 29 #[.int .i64 s, .int .i64 deg, .slice A l.length c] w fun e w' => e = .returned (.bool (fr l s deg)) ∧ Below w.heap.size w w' := by
  have d1 : 0 ≤ s % 360 := by omega
  have d2 : s % 360 ≤ 359 := by omega
  by_cases hneg : deg < 0
  ·
    go_enter Try.func29, Try.ntmps29
    go_wp2_with (go_at_call 16; refine (refNormal _ _).mono ?_; rintro e w' ⟨rfl, rfl⟩)
    go_loopw [8, 9] (fun i _ wr => ∃ k : Nat, k ≤ deg.natAbs + 1 ∧ i = .int .i64 k ∧ frUpto l (s % 360) deg k = true ∧ Below w.heap.size w wr) (fun i _ _ => deg.natAbs + 1 - (intOf i).toNat)
    case atStart => exact ⟨0, Nat.zero_le _, rfl, by rw [frUpto_iff]; intro k hk; omega, Below.refl _ _⟩
    case round =>
      obtain ⟨k, hk, rfl, hno, hbw⟩ := hrel
      have Hno := bx hno
      clear hno
      have hw := h.below hbw
      by_cases hlt : k < deg.natAbs + 1
      · have Hs := bx (frUpto_succ l (s % 360) deg k)
        have Hx := bx (show stepTo (s % 360) deg k = s % 360 - k by unfold stepTo; rw [if_pos hneg])
        have Hf := bx (@fr_not l s deg k (by omega))
        cases hi : av l (s % 360 - (k : Int))
        · have Hi := bx hi
          clear hi
          go_wp2_with (go_at_call 18; refine (ref_avoided' _ _ l _ _ _ Hi.out (hw.more hbw.size) hm ho).mono ?_; rintro e w' ⟨rfl, hb'⟩)
          go_roundw
          case rel => exact ⟨k + 1, by omega, by go_num, by rw [Hs.out, Hno.out, Hx.out, Hi.out]; rfl, hbw.trans (hb'.mono hbw.size)⟩
          case measure => simp [intOf]; omega
        · have Hi := bx hi
          clear hi
          go_wp2_with (go_at_call 18; refine (ref_avoided' _ _ l _ _ _ Hi.out (hw.more hbw.size) hm ho).mono ?_; rintro e w' ⟨rfl, hb'⟩)
          go_ret
          exact ⟨ret_bool (Hf.out (by rw [Hx.out, Hi.out])).symm, hbw.trans (hb'.mono hbw.size)⟩
      · have Hc := bx (@fr_of_upto l s deg k (by omega) Hno.out)
        go_wp2
        go_ret
        exact ⟨ret_bool Hc.out.symm, hbw⟩
  ·
    go_enter Try.func29, Try.ntmps29
    go_wp2_with (go_at_call 16; refine (refNormal _ _).mono ?_; rintro e w' ⟨rfl, rfl⟩)
    go_loopw [8, 9] (fun i _ wr => ∃ k : Nat, k ≤ deg.natAbs + 1 ∧ i = .int .i64 k ∧ frUpto l (s % 360) deg k = true ∧ Below w.heap.size w wr) (fun i _ _ => deg.natAbs + 1 - (intOf i).toNat)
    case atStart => exact ⟨0, Nat.zero_le _, rfl, by rw [frUpto_iff]; intro k hk; omega, Below.refl _ _⟩
    case round =>
      obtain ⟨k, hk, rfl, hno, hbw⟩ := hrel
      have Hno := bx hno
      clear hno
      have hw := h.below hbw
      by_cases hlt : k < deg.natAbs + 1
      · have Hs := bx (frUpto_succ l (s % 360) deg k)
        have Hx := bx (show stepTo (s % 360) deg k = s % 360 + k by unfold stepTo; rw [if_neg (by omega)])
        have Hf := bx (@fr_not l s deg k (by omega))
        cases hi : av l (s % 360 + (k : Int))
        · have Hi := bx hi
          clear hi
          go_wp2_with (go_at_call 18; refine (ref_avoided' _ _ l _ _ _ Hi.out (hw.more hbw.size) hm ho).mono ?_; rintro e w' ⟨rfl, hb'⟩)
          go_roundw
          case rel => exact ⟨k + 1, by omega, by go_num, by rw [Hs.out, Hno.out, Hx.out, Hi.out]; rfl, hbw.trans (hb'.mono hbw.size)⟩
          case measure => simp [intOf]; omega
        · have Hi := bx hi
          clear hi
          go_wp2_with (go_at_call 18; refine (ref_avoided' _ _ l _ _ _ Hi.out (hw.more hbw.size) hm ho).mono ?_; rintro e w' ⟨rfl, hb'⟩)
          go_ret
          exact ⟨ret_bool (Hf.out (by rw [Hx.out, Hi.out])).symm, hbw.trans (hb'.mono hbw.size)⟩
      · have Hc := bx (@fr_of_upto l s deg k (by omega) Hno.out)
        go_wp2
        go_ret
        exact ⟨ret_bool Hc.out.symm, hbw⟩

theorem ref_ticks (d r : Int) (w : World) (h1 : -360 ≤ d) (h2 : d ≤ 360) (h3 : 1 ≤ r) (h4 : r ≤ 360) :
    Calls Try.prog 24 #[.int .i64 d, .int .i64 r] w fun e w' => e = .returned (.int .i64 (ticks d r)) ∧ w = w' := by
  by_cases hneg : d < 0
  all_goals
    go_enter Try.func24, Try.ntmps24
    go_wp2
    all_goals (first | (exfalso; omega) | (go_ret; exact ⟨ret_int (by unfold ticks; congr 1; omega), rfl⟩))
theorem ref_step (a d r : Int) (w : World) (h1 : -360 ≤ d) (h2 : d ≤ 360) (h3 : 1 ≤ r) (h4 : r ≤ 360) :
    Calls Try.prog 22 #[.int .i64 a, .int .i64 d, .int .i64 r] w fun e w' => e = .returned (.tuple #[.int .i64 ((a + stepD d r) % 360), .int .i64 (d - stepD d r)]) ∧ w = w' := by
  have q1 : 0 ≤ a % 360 := by omega
  have q2 : a % 360 ≤ 359 := by omega
  have H : Bx (stepD d r = min (max d (0 - r)) r) := ⟨rfl⟩
  by_cases c1 : d < -r
  · have e1 := bx (show stepD d r = -r by have := H.out; omega)
    go_enter Try.func22, Try.ntmps22
    go_wp2_with (go_at_call 16; refine (refNormal _ _).mono ?_; rintro e w' ⟨rfl, rfl⟩)
    all_goals (first | (exfalso; omega) | (go_ret2; exact ⟨ret_tup2 (by rw [e1.out]) (by rw [e1.out]; try omega), rfl⟩))
  by_cases c2 : r < d
  · have e1 := bx (show stepD d r = r by have := H.out; omega)
    go_enter Try.func22, Try.ntmps22
    go_wp2_with (go_at_call 16; refine (refNormal _ _).mono ?_; rintro e w' ⟨rfl, rfl⟩)
    all_goals (first | (exfalso; omega) | (go_ret2; exact ⟨ret_tup2 (by rw [e1.out]) (by rw [e1.out]; try omega), rfl⟩))
  have e1 := bx (show stepD d r = d by have := H.out; omega)
  go_enter Try.func22, Try.ntmps22
  go_wp2_with (go_at_call 16; refine (refNormal _ _).mono ?_; rintro e w' ⟨rfl, rfl⟩)
  all_goals (first | (exfalso; omega) | (go_ret2; exact ⟨ret_tup2 (by rw [e1.out]) (by rw [e1.out]; try omega), rfl⟩))
theorem up_eq (a b : Int) : upOf a b = (b - a) % 360 := by unfold upOf; omega
theorem ref_turn (A : Option Addr) (c : Nat) (l : ArcL) (a b : Int) (w : World) (h : Arcs w w.heap.size A l) (hm : l.length ≤ 100) (ho : OkArcs l) :
    Calls Try.prog 20 #[.int .i64 a, .int .i64 b, .slice A l.length c] w fun e w' => e = .returned (.tuple #[.int .i64 (turn l a b).1, .int .i64 (turn l a b).2]) ∧ Below w.heap.size w w' := by
  have q1 : 0 ≤ a % 360 := by omega
  have q2 : a % 360 ≤ 359 := by omega
  have q3 : 0 ≤ b % 360 := by omega
  have q4 : b % 360 ≤ 359 := by omega
  have u1 : 0 ≤ (b - a) % 360 := by omega
  have u2 : (b - a) % 360 ≤ 359 := by omega
  by_cases h0 : (b - a) % 360 = 0
  · have H0 := bx h0
    have hz : ((b - a) % 360 == 0) = true := by simp [h0]
    clear h0
    cases hf : fr l a ((b - a) % 360)
    all_goals
      have Hf := bx hf
      clear hf
      have T := bx (show turn l a b = if fr l a ((b - a) % 360) then (0, 0) else (0, 1) by unfold turn; rw [up_eq, if_pos H0.out, H0.out])
      go_enter Try.func20, Try.ntmps20
      go_wp2_with (first | (go_at_call 16; refine (refNormal _ _).mono ?_; rintro e w' ⟨rfl, rfl⟩) | (go_at_call 29; refine (ref_free _ _ l _ _ _ h hm ho (by omega) (by omega)).mono ?_; rintro e w' ⟨rfl, hb⟩; rw [Hf.out]))
      go_ret2
      exact ⟨ret_tup2 (by rw [T.out, Hf.out]; rfl) (by rw [T.out, Hf.out]; rfl), hb⟩
  · have H0 := bx h0
    have hz : ((b - a) % 360 == 0) = false := by simp [h0]
    clear h0
    cases hf : fr l a ((b - a) % 360) <;> cases hg : fr l a ((b - a) % 360 - 360) <;> cases h3 : decide ((b - a) % 360 ≤ 360 - (b - a) % 360)
    all_goals
      have Hf := bx hf
      clear hf
      have Hg := bx hg
      clear hg
      have H3 := bx h3
      clear h3
      first | have h3 := of_decide_eq_true H3.out | have h3 := of_decide_eq_false H3.out
      have T := bx (show turn l a b = if fr l a ((b - a) % 360) && (!fr l a ((b - a) % 360 - 360) || decide ((b - a) % 360 ≤ 360 - (b - a) % 360)) then ((b - a) % 360, 0)
          else if fr l a ((b - a) % 360 - 360) then ((b - a) % 360 - 360, 0) else (0, 1) by
        unfold turn
        rw [up_eq, if_neg H0.out])
      go_enter Try.func20, Try.ntmps20
      go_wp2_with (first | (go_at_call 16; refine (refNormal _ _).mono ?_; rintro e w' ⟨rfl, rfl⟩) | fail)
      refine (ref_free _ _ l _ _ _ h hm ho (by omega) (by omega)).mono ?_
      rintro e w1 ⟨rfl, hb⟩
      rw [Hf.out]
      go_wp2_with fail
      refine (ref_free _ _ l _ _ _ ((h.below hb).more hb.size) hm ho (by omega) (by omega)).mono ?_
      rintro e w2 ⟨rfl, hb2⟩
      rw [Hg.out]
      go_wp2
      all_goals (try (exfalso; omega))
      go_ret2
      exact ⟨ret_tup2 (by rw [T.out, Hf.out, Hg.out, H3.out]; rfl) (by rw [T.out, Hf.out, Hg.out, H3.out]; rfl), hb.trans (hb2.mono hb.size)⟩
theorem scan_range_succ (f : Nat → Bool) (k : Nat) : scan ((List.range (k + 1)).map f) (0, 0) =
    (if f k then 0 else (scan ((List.range k).map f) (0, 0)).1 + 1, max (scan ((List.range k).map f) (0, 0)).2 (if f k then 0 else (scan ((List.range k).map f) (0, 0)).1 + 1)) := by
  rw [List.range_succ, List.map_append, List.map_singleton, scan_snoc]
theorem scan_le (f : Nat → Bool) (k : Nat) : (scan ((List.range k).map f) (0, 0)).1 ≤ k ∧ (scan ((List.range k).map f) (0, 0)).2 ≤ k := by
  obtain ⟨⟨h1, _⟩, ⟨i, h2, _⟩, _⟩ := scan_spec ((List.range k).map f)
  simp at h1 h2
  omega
set_option maxRecDepth 10000 in
theorem ref_worst (A : Option Addr) (c : Nat) (l : ArcL) (w : World) (h : Arcs w w.heap.size A l) (hm : l.length ≤ 100) (ho : OkArcs l) :
    Calls Try.prog 26 #[.slice A l.length c] w fun e w' => e = .returned (.int .i64 (worstOf l)) ∧ Below w.heap.size w w' := by
  generalize hF : (fun d : Nat => av l (d : Int)) = F
  have HF := bx hF
  clear hF
  have Hv : ∀ k : Nat, F k = av l (k : Int) := fun k => by rw [← HF.out]
  have HV := bx Hv
  clear Hv
  obtain ⟨N, hN⟩ : ∃ N : Nat, N = 720 := ⟨_, rfl⟩
  have n1 : (N : Int) ≤ 720 := by omega
  have n2 : 720 ≤ (N : Int) := by omega
  have HN7 := bx hN
  clear hN
  go_enter Try.func26, Try.ntmps26
  go_wp2
  go_loopw [3, 4, 5, 6] (fun run best bl d wr => ∃ (k r m : Nat) (x : Bool), k ≤ N ∧ d = .int .i64 k ∧ run = .int .i64 r ∧ best = .int .i64 m ∧ bl = .bool x ∧ r ≤ k ∧ m ≤ k ∧
    (r, m) = scan ((List.range k).map F) (0, 0) ∧ x = (List.range k).any F ∧ Below w.heap.size w wr) (fun _ _ _ d _ => N - (intOf d).toNat)
  case atStart => exact ⟨0, 0, 0, false, by omega, rfl, rfl, rfl, rfl, Nat.le_refl _, Nat.le_refl _, rfl, rfl, Below.refl _ _⟩
  case round =>
    obtain ⟨k, r, m, x, hk, rfl, rfl, rfl, rfl, hr, hm', hs, hx, hbw⟩ := hrel
    have HS := bx hs
    have HX := bx hx
    clear hs hx
    have hw := h.below hbw
    by_cases hlt : k < N
    · have HN := bx (scan_range_succ F k)
      have HR := bx (show (List.range (k + 1)).any F = ((List.range k).any F || F k) by rw [List.range_succ, List.any_append]; simp)
      cases hf : F k
      · have Hf := bx hf
        clear hf
        have Hi := bx ((HV.out k).symm.trans Hf.out)
        have Hfin := bx (show (r + 1, max m (r + 1)) = scan ((List.range (k + 1)).map F) (0, 0) by rw [HN.out, ← HS.out, Hf.out]; rfl)
        go_wp2_with (go_at_call 18; refine (ref_avoided' _ _ l _ _ _ Hi.out (hw.more hbw.size) hm ho).mono ?_; rintro e w' ⟨rfl, hb'⟩)
        all_goals
          go_roundw
          case rel => exact ⟨k + 1, r + 1, max m (r + 1), x, by omega, by go_num, by go_num, congrArg (Value.int _) (by omega), rfl, by omega, by omega, Hfin.out, by rw [HR.out, ← HX.out, Hf.out]; simp, hbw.trans (hb'.mono hbw.size)⟩
          case measure => simp [intOf]; omega
      · have Hf := bx hf
        clear hf
        have Hi := bx ((HV.out k).symm.trans Hf.out)
        have Hfin := bx (show (0, m) = scan ((List.range (k + 1)).map F) (0, 0) by rw [HN.out, ← HS.out, Hf.out]; simp)
        go_wp2_with (go_at_call 18; refine (ref_avoided' _ _ l _ _ _ Hi.out (hw.more hbw.size) hm ho).mono ?_; rintro e w' ⟨rfl, hb'⟩)
        go_roundw
        case rel => exact ⟨k + 1, 0, m, true, by omega, by go_num, rfl, rfl, rfl, by omega, by omega, Hfin.out, by rw [HR.out, Hf.out]; simp, hbw.trans (hb'.mono hbw.size)⟩
        case measure => simp [intOf]; omega
    · obtain rfl : k = N := by omega
      have HB := bx (show bestOf 720 (fun d => av l d) = m by unfold bestOf; rw [HF.out, ← HN7.out, ← HS.out])
      have HC := bx (show anyHit l = x by unfold anyHit; rw [HF.out, ← HN7.out, HX.out])
      cases x
      · go_wp2
        go_ret
        exact ⟨ret_int (by unfold worstOf; rw [HC.out]; rfl), hbw⟩
      · go_wp2
        all_goals
          go_ret
          exact ⟨ret_int (by unfold worstOf; rw [HC.out, HB.out]; simp; omega), hbw⟩
end Go.Proofs.Ytaahdfmbbbjmaaa
