/-
  Walk of layer 9: orbit.Ticks.
-/
import Derived.Test.YtamfifndddldcaaW15
import Derived.Sort.QuietIn
namespace Go.Proofs.Ytamfifndddldcaa
open Go.RowKit Go.Shelf
attribute [local go_sem] Oper.semAt_some

/-- an operation that is no defer statement runs in a round as outside it -/
def noDefer (o : Oper) : Bool := match o.op with
  | .defer _ => false
  | _ => true
theorem noDefer_at {o : Oper} (h : noDefer o = true) : ∀ c, o.op ≠ .defer c := fun c e => by rw [noDefer, e] at h; cases h
theorem any_inRound {F : Fence} {n : Nat} {P : Program} {md : Region.Mode} {ops : Array Oper} {Q : Exit → Act → World → Prop} (lp : Nat) (hro : F.round = none) (hnd : ∀ (i : Nat) (o : Oper), ops[i]? = some o → noDefer o = true) :
    ∀ (fuel : Nat) (listed : Array Bool) (a : Act) (w : World), wpAnyIn F n P md ops Q fuel listed a w → wpAnyIn (F.inRound lp) n P md ops Q fuel listed a w
  | 0, _, _, _, h => h
  | fuel + 1, listed, a, w, h => ⟨h.1, fun i hi => by
    have h2 := h.2 i hi
    unfold wpOpIn at h2 ⊢
    cases ho : ops[i]? with
    | none =>
      simp only [ho] at h2
      exact any_inRound lp hro hnd fuel _ a w h2
    | some o =>
      simp only [ho] at h2
      simp only
      by_cases hw : Region.wanted o (yielded ops a.tmps) = true
      · rw [if_pos hw] at h2 ⊢
        refine Oper.wpIn_mono (fun a' w' hk => any_inRound lp hro hnd fuel _ a' w' hk) ?_
        unfold Oper.wpIn at h2 ⊢
        rw [Oper.semAt_eq _ _ _ (noDefer_at (hnd i o ho))] at h2 ⊢
        exact h2
      · rw [if_neg hw] at h2 ⊢
        exact ⟨h2.1, any_inRound lp hro hnd fuel _ _ w h2.2⟩⟩
/-- a region that only reads, inside a round: one walk of its lexical order serves -/
theorem region_quiet_round {F : Fence} {n : Nat} {P : Program} {id : Nat} {Q : Exit → Act → World → Prop} {a : Act} {w : World} {l : List Oper} (lp : Nat) (hro : F.round = none) (hnd : l.all noDefer = true) (hm : P.follows .mixedOrders = true) (hB : Region.lexB .any l.toArray = true)
    (h : wpQuietIn F n P l.toArray (fun w' => ∃ n, w' = w.drewN n) (fun a' => ∀ w', (∃ n, w' = w.drewN n) → Q .normal a' w') l a) : (Code.region id l.toArray true).wpIn (F.inRound lp) n P Q a w := by
  have hB2 := hB
  simp only [Region.lexB, Bool.and_eq_true] at hB2
  refine wpIn_region_any hm ?_
  refine any_inRound lp hro (fun i o ho => ?_) _ _ _ _ ?_
  · have h1 : l[i]? = some o := by simpa using ho
    exact List.all_eq_true.1 hnd o (List.mem_of_getElem? h1)
  · refine wpAnyIn_of_quiet (C := fun w' => ∃ n, w' = w.drewN n) (Q := fun a' => ∀ w', (∃ n, w' = w.drewN n) → Q .normal a' w') hro (fun _ w' hw' h => h w' hw') _ _ _ _ ⟨1, rfl⟩ ?_
    have := wpAnyQIn_lex (F := F) (n := n) (C := fun w' => ∃ n, w' = w.drewN n) (md := .any) hB2.1 l 0 (Array.replicate l.toArray.size false) a (by simp) (by simpa using hB2.2) h
    simpa using this
theorem keepsO_drewN (W : World) (q : Nat) : KeepsOthers W (W.drewN q) := by
  induction q with
  | zero => exact KeepsOthers.refl W
  | succ q ih => exact ih.trans (KeepsOthers.drew _)
theorem boxed_drewN {W : World} {b : Nat} {t : TypeId} {v : Value} (h : Boxed W b t v) (q : Nat) : Boxed (W.drewN q) b t v := (heap_drewN W q b).trans h
/-- the ticks of a window in a period -/
def tkW (fr un : Int) (x : Wn) : Int := if max fr x.f < min un x.u then min un x.u - max fr x.f else 0
def ticksF (fr un : Int) (l : List Wn) : Int := l.foldl (fun n x => n + tkW fr un x) 0
theorem ticksF_snoc (fr un : Int) (l : List Wn) (x : Wn) : ticksF fr un (l ++ [x]) = ticksF fr un l + tkW fr un x := by simp [ticksF]
set_option maxHeartbeats 4000000 in
theorem ticks_calls (A : Option Addr) (cap : Nat) (t : List Wn) (k a b fr un : Int) (w : World) (h : Wins w (.slice A t.length cap) t) (hm : t.length ≤ 1000000)
    (hfr : 0 ≤ fr ∧ fr ≤ 2000000) (hun : 0 ≤ un ∧ un ≤ 2000000) (hw : ∀ x ∈ t, 0 ≤ x.f ∧ x.f < x.u ∧ x.u ≤ 2000000) (z : Int) (hz : ticksF fr un (ofL k a b t) = z) :
    Calls Try.prog 30 #[.slice A t.length cap, .int .i64 k, .int .i64 a, .int .i64 b, .int .i64 fr, .int .i64 un] w fun r w' => r = .returned (.int .i64 z) ∧ From w w' := by
  have HZ := Go.Proofs.Ytamfifndddldcaa.bx hz
  have HS := Go.Proofs.Ytamfifndddldcaa.bx h
  clear h hz
  refine (callsIn_wide (n := 3)).1 ?_
  refine callsIn_of_wp_marks Try.func30 rfl trivial ?_ rfl
  simp only [Try.ntmps30, List.size_toArray, List.length_cons, List.length_nil, Nat.reduceAdd, Nat.reduceSub, Array.replicate_succ, Array.replicate_zero, List.push_toArray, List.append_toArray, List.nil_append, List.cons_append]
  gi_wp2_with (first | (refine ⟨trivial, ?_⟩; gi_at_call 42; refine (callsIn_wide.2 (of_calls _ _ _ _ _ _ _)).mono ?_; rintro e w' ⟨rfl, rfl⟩) | gi_in)
  simp only [Nat.add_assoc, Nat.reduceAdd]
  obtain ⟨V1, hV1⟩ : ∃ V, w.alloc (.cells #[.int .i64 fr] 3) = V := ⟨_, rfl⟩
  obtain ⟨V2, hV2⟩ : ∃ V, V1.alloc (.cells #[.int .i64 un] 3) = V := ⟨_, rfl⟩
  obtain ⟨V3, hV3⟩ : ∃ V, V2.alloc (.cells #[.int .i64 0] 3) = V := ⟨_, rfl⟩
  obtain ⟨W0, hW0⟩ : ∃ V, (((V3.alloc (.cells #[.slice A t.length cap] 45)).alloc (.cells #[.int .i64 k] 3)).alloc (.cells #[.int .i64 a] 3)).alloc (.cells #[.int .i64 b] 3) = V := ⟨_, rfl⟩
  rw [hV1, hV2, hV3, hW0]
  have z1 : V1.heap.size = w.heap.size + 1 := by rw [← hV1]; simp
  have z2 : V2.heap.size = w.heap.size + 2 := by rw [← hV2]; simp [z1]
  have z3 : V3.heap.size = w.heap.size + 3 := by rw [← hV3]; simp [z2]
  have z0 : W0.heap.size = w.heap.size + 7 := by rw [← hW0]; simp [z3]
  have F1 : From w V1 := by rw [← hV1]; exact (From.refl _).alloc _
  have F2 : From V1 V2 := by rw [← hV2]; exact (From.refl _).alloc _
  have F3 : From V2 V3 := by rw [← hV3]; exact (From.refl _).alloc _
  have F4 : From V3 W0 := by rw [← hW0]; exact ((((From.refl _).alloc _).alloc _).alloc _).alloc _
  have r0 : Boxed W0 w.heap.size 3 (.int .i64 fr) := (F2.trans (F3.trans F4)).heap (by rw [← hV1]; exact heap_alloc_new _ _)
  have r1 : Boxed W0 (w.heap.size + 1) 3 (.int .i64 un) := (F3.trans F4).heap (by rw [← hV2, ← z1]; exact heap_alloc_new _ _)
  have r2 : Boxed W0 (w.heap.size + 2) 3 (.int .i64 0) := F4.heap (by rw [← hV3, ← z2]; exact heap_alloc_new _ _)
  have hB0 : From w W0 := F1.trans (F2.trans (F3.trans F4))
  have rO : OfB W0 (w.heap.size + 3) (.slice A t.length cap) k a b := by
    rw [← hW0, ← z3]
    exact ofB_new V3 _ _ _ _
  have hS0 : Sl W0 w.heap.size (.slice A t.length cap) t.length (t.flatMap wcs) := HS.out.below hB0
  clear hV1 hV2 hV3 hW0 F1 F2 F3 F4
  have hll := ofL_len k a b t
  have hst := of_stops 2 (w.heap.size + 3) w.heap.size (w.heap.size + 2) A cap t k a b hm hw W0 hS0 rO (by omega) (by omega)
  obtain ⟨L, hL⟩ : ∃ L, ofL k a b t = L := ⟨_, rfl⟩
  rw [hL] at hst HZ hll
  refine wpIn_rangeFunc_ownH rfl (by omega) (gf := 52) (lb := #[.pointer (some ⟨w.heap.size + 3, 0, none⟩), .pointer (some ⟨w.heap.size + 4, 0, none⟩), .pointer (some ⟨w.heap.size + 5, 0, none⟩), .pointer (some ⟨w.heap.size + 6, 0, none⟩)]) (by simp [Act.eval]) trivial (enters_of Try.func52 (by kernel_rfl) rfl)
    hst KeepO.t (KeepO.b (by omega)) (Below.refl _ _) (fun _ => rfl)
    (fun pre X => Boxed X (w.heap.size + 2) 3 (.int .i64 (ticksF fr un (pre.map (·.1)))) ∧ (0 ≤ ticksF fr un (pre.map (·.1)) ∧ ticksF fr un (pre.map (·.1)) ≤ pre.length * 2000000) ∧ Below w.heap.size w X ∧ Boxed X w.heap.size 3 (.int .i64 fr) ∧ Boxed X (w.heap.size + 1) 3 (.int .i64 un) ∧ w.heap.size + 7 ≤ X.heap.size)
    (fun _ _ _ => False)
    (OwnFrom.and (Own.from (boxed_own _ _ _) _) (OwnFrom.and (ownFrom_pure _ _) (OwnFrom.and (ownFrom_below (Nat.le_refl _) (by omega)) (OwnFrom.and (Own.from (boxed_own _ _ _) _) (OwnFrom.and (Own.from (boxed_own _ _ _) _) (fun _ _ _ _ hs hg _ => Nat.le_trans hs hg.size))))))
    (fun k => fun _ _ _ _ hs _ _ => hs)
    ⟨r2, ⟨by simp [ticksF], by simp [ticksF]⟩, hB0, r0, r1, by omega⟩
    (fun x a' X => ∃ Bz, w.heap.size + 7 ≤ Bz ∧ WinC X Bz x.1 ∧ a' = { tmps := #[.slice A t.length cap, .int .i64 k, .int .i64 a, .int .i64 b, .int .i64 fr, .int .i64 un, undef, undef, undef, undef, .pointer (some ⟨w.heap.size, 0, none⟩), .pointer (some ⟨w.heap.size + 1, 0, none⟩), .int .i64 0, .pointer (some ⟨w.heap.size + 2, 0, none⟩), .pointer (some ⟨Bz, 0, none⟩), undef, undef, .slice A t.length cap, .int .i64 k, .int .i64 a, .int .i64 b, .func (.func 52) #[] #[.pointer (some ⟨w.heap.size + 3, 0, none⟩), .pointer (some ⟨w.heap.size + 4, 0, none⟩), .pointer (some ⟨w.heap.size + 5, 0, none⟩), .pointer (some ⟨w.heap.size + 6, 0, none⟩)], .agg #[.int .i64 x.1.k, .int .i64 x.1.a, .int .i64 x.1.b, .int .i64 x.1.f, .int .i64 x.1.u, .int .i64 x.1.r], undef, undef, undef, undef, undef, undef, undef, undef, undef, undef, undef, undef, undef, undef, undef, undef, undef], defers := [] })
    (fun x a' => fun _ X Y row ⟨Bz, h1, h2, h3⟩ hg hr => ⟨Bz, h1, ⟨(grownBy_keeps_cells hg (fun r e => (hr r e).2) h2.out rfl).trans h2.out⟩, h3⟩) ?assign ?body ?done ?s
  case assign =>
    rintro l pre x X K ⟨i1, i2, i3, i4, i5, i6⟩ hK'
    simp only [encW]
    gi_wp2
    refine hK' _ _ ((KeepsOthers.alloc _ _).from _) ((KeepO.refl _ _ _).alloc (by omega) _) ⟨i1.alloc _, i2, i3.alloc (by omega) _, i4.alloc _, i5.alloc _, by simp; omega⟩ ⟨X.heap.size, by omega, WinC.new X x.1, rfl⟩
  case body =>
    rintro l pre x a' X hl ⟨r, hr⟩ ⟨i1, i2, i3, i4, i5, i6⟩ ⟨Bz, hBz, hwc, rfl⟩ hlt
    have hF : ticksF fr un ((pre ++ [x]).map (·.1)) = ticksF fr un (pre.map (·.1)) + tkW fr un x.1 := by
      rw [List.map_append, List.map_cons, List.map_nil, ticksF_snoc]
    have hPL : (pre ++ [x]).length = pre.length + 1 := by simp
    have hx := x.2
    obtain ⟨e3, e4⟩ := hwc.facts
    have c0 := i4.cell
    have c1 := i5.cell
    have c2 := i1.cell
    have f2 := i1.frozen
    have I1 := Go.Proofs.Ytamfifndddldcaa.bx i1
    have I4 := Go.Proofs.Ytamfifndddldcaa.bx i4
    have I5 := Go.Proofs.Ytamfifndddldcaa.bx i5
    have HP := Go.Proofs.Ytamfifndddldcaa.bx hPL
    obtain ⟨f, hf⟩ : ∃ f, x.1.f = f := ⟨_, rfl⟩
    obtain ⟨u, hu⟩ : ∃ u, x.1.u = u := ⟨_, rfl⟩
    unfold tkW at hF
    rw [hf] at e3 hF hx
    rw [hu] at e4 hF hx
    obtain ⟨x1, x2, x3⟩ := hx
    obtain ⟨i2a, i2b⟩ := i2
    generalize ticksF fr un (pre.map (·.1)) = z0 at *
    have e1 : max fr f = if fr < f then f else fr := by split <;> omega
    have e2 : min un u = if u < un then u else un := by split <;> omega
    rw [e1, e2] at hF
    obtain ⟨lo, hlo⟩ : ∃ m, (if fr < f then f else fr) = m := ⟨_, rfl⟩
    obtain ⟨hi, hhi⟩ : ∃ m, (if u < un then u else un) = m := ⟨_, rfl⟩
    have hb1 : 0 ≤ lo ∧ lo ≤ 2000000 := by rw [← hlo]; split <;> omega
    have hb2 : 0 ≤ hi ∧ hi ≤ 2000000 := by rw [← hhi]; split <;> omega
    rw [hlo, hhi] at hF
    clear e1 e2
    have hpl : (pre.length : Int) < 1000001 := by omega
    clear i1 i4 i5 hPL hf hu hwc
    clear HZ HS hst hll hlt hr hl
    have hkb : ∀ (nq : Nat) (j : Nat) (u : Value), KeepO w.heap.size (w.heap.size + 2) X ((X.drewN nq).setCell ⟨w.heap.size + 2, j, none⟩ u) := fun nq j u => (KeepO.of_below (From.drewN (From.refl X) nq) (by omega)).set (by omega) _ _
    have hkd : ∀ nq : Nat, KeepO w.heap.size (w.heap.size + 2) X (X.drewN nq) := fun nq => KeepO.of_below (From.drewN (From.refl X) nq) (by omega)
    have HKB := Go.Proofs.Ytamfifndddldcaa.bx hkb
    have HKD := Go.Proofs.Ytamfifndddldcaa.bx hkd
    clear hkb hkd
    by_cases hc : lo < hi
    case pos =>
      rw [if_pos hc] at hF
      have HF := Go.Proofs.Ytamfifndddldcaa.bx hF
      clear hF
      have d1 : decide (lo < hi) = true := decide_eq_true hc
      gi_wp2
      refine region_quiet_round l rfl (by kernel_rfl) (by kernel_rfl) (by kernel_rfl) ?_
      repeat (gi_big_quiet_step (fail))
      refine wpQuietIn_nil ?_
      rintro _ ⟨nq, rfl⟩
      gi_wp2
      refine ⟨((keepsO_drewN X nq).trans (KeepsOthers.setCell _ _ _)).from _, HKB.out _ _ _, ?_, ?_, (Below.trans i3 (From.drewN (W0 := X) (From.refl X) nq |>.mono (Below.size i3))).setCell (p := ⟨_, 0, none⟩) (by simp) _, (boxed_drewN I4.out nq).other (by omega) _, (boxed_drewN I5.out nq).other (by omega) _, by simpa using i6⟩
      · rw [HF.out]; exact (boxed_drewN I1.out nq).set _
      · rw [HF.out, HP.out]; omega
    case neg =>
      rw [if_neg hc] at hF
      have HF := Go.Proofs.Ytamfifndddldcaa.bx hF
      clear hF
      have d1 : decide (lo < hi) = false := decide_eq_false hc
      gi_wp2
      refine region_quiet_round l rfl (by kernel_rfl) (by kernel_rfl) (by kernel_rfl) ?_
      repeat (gi_big_quiet_step (fail))
      refine wpQuietIn_nil ?_
      rintro _ ⟨nq, rfl⟩
      gi_wp2
      refine ⟨(keepsO_drewN X nq).from _, HKD.out _, ?_, ?_, Below.trans i3 (From.drewN (W0 := X) (From.refl X) nq |>.mono (Below.size i3)), boxed_drewN I4.out nq, boxed_drewN I5.out nq, by simpa using i6⟩
      · rw [HF.out, Int.add_zero]; exact boxed_drewN I1.out nq
      · rw [HF.out, HP.out]; omega
  case done =>
    rintro D xs X hD hxs ⟨i1, _, i3, i4, i5, i6⟩ hK
    rw [hxs, HZ.out] at i1
    have c0 := i1.cell
    have hbb := belowK_b (n₀ := w.heap.size) (w := W0) (by omega) X D _ (.deferred none) hD hK rfl rfl
    have HFin := Go.Proofs.Ytamfifndddldcaa.bx (i3.trans hbb)
    clear hbb i3
    gi_wp2
    refine ⟨by simp, .inl ⟨_, _, rfl, run_takeDeferred hK, ?_⟩⟩
    exact ⟨_, results_tmp rfl _ _ _, rfl, HFin.out⟩
  case s =>
    rintro D2 k pre X hD2 _ hn _
    exact hn.elim
end Go.Proofs.Ytamfifndddldcaa
