/-
  Walks of layer 9: orbit.of, its iterator.
-/
import Derived.Test.YtamfifndddldcaaW4
namespace Go.Proofs.Ytamfifndddldcaa
open Go.RowKit Go.Shelf
attribute [local go_sem] Oper.semAt_some

/-- the windows of a key -/
def isW (k a b : Int) (x : Wn) : Bool := decide (x.k = k) && (decide (x.a = a) && decide (x.b = b))
def ofL (k a b : Int) (t : List Wn) : List Wn := t.filter (isW k a b)
theorem ofL_drop (k a b : Int) (t : List Wn) (i : Nat) (h : i < t.length) : ofL k a b (t.drop i) = if isW k a b t[i] then t[i] :: ofL k a b (t.drop (i + 1)) else ofL k a b (t.drop (i + 1)) := by
  rw [List.drop_eq_getElem_cons h]; unfold ofL; rw [List.filter_cons]
theorem ofL_len (k a b : Int) (t : List Wn) : (ofL k a b t).length ≤ t.length := List.length_filter_le _ _
/-- a window, within bounds -/
abbrev WEl := { x : Wn // 0 ≤ x.f ∧ x.f < x.u ∧ x.u ≤ 2000000 }
def encW (x : WEl) : Array Value := #[.agg #[.int .i64 x.1.k, .int .i64 x.1.a, .int .i64 x.1.b, .int .i64 x.1.f, .int .i64 x.1.u, .int .i64 x.1.r]]
/-- what a round keeps: what lies below B0, and all cells but the block b -/
structure KeepO (B0 b : Nat) (W W' : World) : Prop where
  size : W.heap.size ≤ W'.heap.size
  low : ∀ i, i < B0 → W'.heap[i]? = W.heap[i]?
  out : ∀ (i : Nat) (cs : Array Value) (t : TypeId) (fz : Nat × Nat), i ≠ b → W.heap[i]? = some (Obj.cells cs t fz) → W'.heap[i]? = some (Obj.cells cs t fz)
theorem KeepO.refl (B0 b : Nat) (W : World) : KeepO B0 b W W := ⟨Nat.le_refl _, fun _ _ => rfl, fun _ _ _ _ _ h => h⟩
theorem KeepO.t {B0 b : Nat} {A B C : World} (h : KeepO B0 b A B) (k : KeepO B0 b B C) : KeepO B0 b A C :=
  ⟨Nat.le_trans h.size k.size, fun i hi => (k.low i hi).trans (h.low i hi), fun i cs t fz hi hh => k.out i cs t fz hi (h.out i cs t fz hi hh)⟩
theorem KeepO.b {B0 b : Nat} {w : World} (h1 : B0 ≤ w.heap.size) (W : World) (l : Nat) (o o' : Obj) (hl : w.heap.size ≤ l) (ho : W.heap[l]? = some o) (hc : o.isCells = false) (_ : o.isWalk = false) : KeepO B0 b W (W.putObj l o') :=
  ⟨(grownBy_putObj' W l o').size, fun i hi => World.putObj_heap_other (by omega), fun i _ _ _ _ hh => by
    have hne : i ≠ l := by
      rintro rfl
      rw [hh] at ho
      cases ho
      cases hc
    exact (World.putObj_heap_other hne).trans hh⟩
theorem KeepO.of_grown {B0 b : Nat} {W W' : World} (h : W.grownBy W' none) (h1 : B0 ≤ W.heap.size) : KeepO B0 b W W' :=
  ⟨h.size, fun i hi => h.block i (by omega) (by simp), fun i _ _ _ _ hh => (h.block i (Array.getElem?_eq_some_iff.1 hh).1 (by simp)).trans hh⟩
theorem KeepO.of_below {B0 b : Nat} {W W' : World} (h : Below W.heap.size W W') (h1 : B0 ≤ W.heap.size) : KeepO B0 b W W' :=
  ⟨h.size, fun i hi => h.block i (by omega), fun i _ _ _ _ hh => (h.block i (Array.getElem?_eq_some_iff.1 hh).1).trans hh⟩
theorem KeepO.set {B0 b : Nat} {W W' : World} (h : KeepO B0 b W W') (hb : B0 ≤ b) (j : Nat) (u : Value) : KeepO B0 b W (W'.setCell ⟨b, j, none⟩ u) :=
  ⟨by simpa using h.size, fun i hi => (heap_set_off W' (by omega) j u).trans (h.low i hi), fun i cs t fz hi hh => (heap_set_off W' (Ne.symm hi) j u).trans (h.out i cs t fz hi hh)⟩
theorem KeepO.alloc {B0 b : Nat} {W W' : World} (h : KeepO B0 b W W') (h1 : B0 ≤ W.heap.size) (o : Obj) : KeepO B0 b W (W'.alloc o) := h.t (KeepO.of_grown (World.grownBy_alloc W' o none) (Nat.le_trans h1 h.size))
theorem Sl.keepO {B0 b : Nat} {W W' : World} {v : Value} {n : Nat} {cs : List Value} (h : Sl W B0 v n cs) (k : KeepO B0 b W W') : Sl W' B0 v n cs := by
  rcases h.out with h | ⟨a, c, e, h⟩
  · exact ⟨.inl h⟩
  · refine ⟨.inr ⟨a, c, e, fun j u hj => ?_⟩⟩
    obtain ⟨b, off, e1, e2, e3⟩ := h j u hj
    exact ⟨b, off, e1, e2, (World.cell?_of_block (a := ⟨b, off + j, none⟩) (k.low b e2)).trans e3⟩
/-- the iterator's boxes -/
structure OfB (W : World) (lo : Nat) (v : Value) (k a b : Int) : Prop where
  b0 : Boxed W lo 45 v
  b1 : Boxed W (lo + 1) 3 (.int .i64 k)
  b2 : Boxed W (lo + 2) 3 (.int .i64 a)
  b3 : Boxed W (lo + 3) 3 (.int .i64 b)
theorem OfB.keep {B0 bx lo : Nat} {W W' : World} {v : Value} {k a b : Int} (h : OfB W lo v k a b) (q : KeepO B0 bx W W') (hb : bx < lo ∨ lo + 4 ≤ bx) : OfB W' lo v k a b :=
  ⟨q.out _ _ _ _ (by omega) h.b0, q.out _ _ _ _ (by omega) h.b1, q.out _ _ _ _ (by omega) h.b2, q.out _ _ _ _ (by omega) h.b3⟩
theorem ofB_new (w : World) (v : Value) (k a b : Int) : OfB ((((w.alloc (.cells #[v] 45)).alloc (.cells #[.int .i64 k] 3)).alloc (.cells #[.int .i64 a] 3)).alloc (.cells #[.int .i64 b] 3)) w.heap.size v k a b := by
  obtain ⟨V1, hV1⟩ : ∃ V, w.alloc (.cells #[v] 45) = V := ⟨_, rfl⟩
  obtain ⟨V2, hV2⟩ : ∃ V, V1.alloc (.cells #[.int .i64 k] 3) = V := ⟨_, rfl⟩
  obtain ⟨V3, hV3⟩ : ∃ V, V2.alloc (.cells #[.int .i64 a] 3) = V := ⟨_, rfl⟩
  obtain ⟨V4, hV4⟩ : ∃ V, V3.alloc (.cells #[.int .i64 b] 3) = V := ⟨_, rfl⟩
  rw [hV1, hV2, hV3, hV4]
  have z1 : V1.heap.size = w.heap.size + 1 := by rw [← hV1]; simp
  have z2 : V2.heap.size = w.heap.size + 2 := by rw [← hV2]; simp [z1]
  have z3 : V3.heap.size = w.heap.size + 3 := by rw [← hV3]; simp [z2]
  have F2 : From V1 V2 := by rw [← hV2]; exact (From.refl _).alloc _
  have F3 : From V2 V3 := by rw [← hV3]; exact (From.refl _).alloc _
  have F4 : From V3 V4 := by rw [← hV4]; exact (From.refl _).alloc _
  have b0 : Boxed V1 w.heap.size 45 v := by rw [← hV1]; exact heap_alloc_new _ _
  have b1 : Boxed V2 (w.heap.size + 1) 3 (.int .i64 k) := by rw [← hV2, ← z1]; exact heap_alloc_new _ _
  have b2 : Boxed V3 (w.heap.size + 2) 3 (.int .i64 a) := by rw [← hV3, ← z2]; exact heap_alloc_new _ _
  have b3 : Boxed V4 (w.heap.size + 3) 3 (.int .i64 b) := by rw [← hV4, ← z3]; exact heap_alloc_new _ _
  exact ⟨(F2.trans (F3.trans F4)).heap b0, (F3.trans F4).heap b1, F4.heap b2, b3⟩
theorem of_calls (A : Option Addr) (n cap : Nat) (k a b : Int) (w : World) :
    Calls Try.prog 42 #[.slice A n cap, .int .i64 k, .int .i64 a, .int .i64 b] w fun e w' =>
      e = .returned (.func (.func 52) #[] #[.pointer (some ⟨w.heap.size, 0, none⟩), .pointer (some ⟨w.heap.size + 1, 0, none⟩), .pointer (some ⟨w.heap.size + 2, 0, none⟩), .pointer (some ⟨w.heap.size + 3, 0, none⟩)]) ∧
      w' = (((w.alloc (.cells #[.slice A n cap] 45)).alloc (.cells #[.int .i64 k] 3)).alloc (.cells #[.int .i64 a] 3)).alloc (.cells #[.int .i64 b] 3) := by
  go_enter Try.func42, Try.ntmps42
  go_wp2
  go_ret
  exact ⟨rfl, rfl⟩
/-- what is left when pre has come -/
abbrev LeftW (L : List Wn) (pre : List WEl) (r : List Wn) : Prop := pre.map (·.1) ++ r = L
theorem LeftW.next {L : List Wn} {pre : List WEl} {x : Wn} {r : List Wn} (h : LeftW L pre (x :: r)) (y : WEl) (hy : y.1 = x) : LeftW L (pre ++ [y]) r := by
  show (pre ++ [y]).map (·.1) ++ r = L
  rw [← h, List.map_append, List.append_assoc]
  simp [hy]
theorem LeftW.lt {L : List Wn} {pre : List WEl} {x : Wn} {r : List Wn} (h : LeftW L pre (x :: r)) : pre.length < L.length := by
  rw [← h]; simp
theorem LeftW.all {L : List Wn} {pre : List WEl} (h : LeftW L pre []) : pre.map (·.1) = L := by
  rw [← h]; simp
set_option maxHeartbeats 2000000 in
set_option maxRecDepth 10000 in
theorem of_in (n l lo B0 bx : Nat) (A : Option Addr) (cap : Nat) (t : List Wn) (k a b : Int) (hm : t.length ≤ 1000000) (hw : ∀ x ∈ t, 0 ≤ x.f ∧ x.f < x.u ∧ x.u ≤ 2000000) (J Jx : List WEl → World → Prop) (hJ : ∀ pre W o, J pre W → J pre (W.alloc o))
    (hY : ∀ pre x W, J pre W → pre.length < (ofL k a b t).length → YieldAt Fence.wide (n - 1) Try.prog l (encW x) W fun e W' =>
      (e = .returned (.bool true) ∧ J (pre ++ [x]) W' ∧ KeepO B0 bx W W') ∨ (e = .returned (.bool false) ∧ Jx (pre ++ [x]) W'))
    (W0 : World) (hS : Sl W0 B0 (.slice A t.length cap) t.length (t.flatMap wcs)) (hB : OfB W0 lo (.slice A t.length cap) k a b) (hbx : bx < lo ∨ lo + 4 ≤ bx) (hB0 : B0 ≤ W0.heap.size) (h0 : J [] W0) :
    CallsIn Fence.wide n Try.prog 52 #[.func (.yield l) #[] #[], .pointer (some ⟨lo, 0, none⟩), .pointer (some ⟨lo + 1, 0, none⟩), .pointer (some ⟨lo + 2, 0, none⟩), .pointer (some ⟨lo + 3, 0, none⟩)] W0 fun e W' => (∃ v, e = .returned v) ∧
      ((∃ xs : List WEl, xs.map (·.1) = ofL k a b t ∧ J xs W') ∨ (∃ pre : List WEl, (∃ r, LeftW (ofL k a b t) pre r) ∧ Jx pre W')) := by
  obtain ⟨L, hL⟩ : ∃ L, ofL k a b t = L := ⟨_, rfl⟩
  rw [hL] at hY ⊢
  have HL := Go.Proofs.Ytamfifndddldcaa.bx hL
  have HS := Go.Proofs.Ytamfifndddldcaa.bx hS
  have HB := Go.Proofs.Ytamfifndddldcaa.bx hB
  have HW := Go.Proofs.Ytamfifndddldcaa.bx hw
  clear hL hS hw
  have b0 := hB.b0.cell
  have b1 := hB.b1.cell
  have b2 := hB.b2.cell
  have b3 := hB.b3.cell
  clear hB
  refine callsIn_of_wp Try.func52 rfl trivial ?_ rfl
  simp only [Try.ntmps52, List.size_toArray, List.length_cons, List.length_nil, Nat.reduceAdd, Nat.reduceSub, Array.replicate_succ, Array.replicate_zero, List.push_toArray, List.append_toArray, List.nil_append, List.cons_append]
  gi_wp2
  gi_loopw [7, 10] (fun _ v10 wr => ∃ (i : Nat) (pre : List WEl), i ≤ t.length ∧ v10 = .int .i64 i ∧ J pre wr ∧ KeepO B0 bx W0 wr ∧ LeftW L pre (ofL k a b (t.drop i))) (fun _ v10 _ => t.length - (intOf v10).toNat)
  case atStart => exact ⟨0, [], by omega, rfl, h0, KeepO.refl _ _ _, HL.out⟩
  case round =>
    obtain ⟨i, pre, hi, rfl, hJk, hK, hLf⟩ := hrel
    clear b0 b1 b2 b3 h0
    have HK := Go.Proofs.Ytamfifndddldcaa.bx hK
    clear hK
    by_cases hlt : i < t.length
    · have hwk := HW.out t[i] (List.getElem_mem hlt)
      obtain ⟨bb, off, rfl, hb, c0, c1, c2, c3, c4, c5⟩ := wins_at (HS.out.keepO HK.out) hlt
      rw [ofL_drop k a b t i hlt] at hLf
      have d1 : decide ((i : Int) < (t.length : Int)) = true := decide_eq_true (by omega)
      obtain ⟨Y, hY0⟩ : ∃ Y, t[i] = Y := ⟨_, rfl⟩
      rw [hY0] at c0 c1 c2 c3 c4 c5 hLf hwk
      obtain ⟨y0, y1, y2, y3, y4, y5⟩ := Y
      clear hY0
      have HK1 := Go.Proofs.Ytamfifndddldcaa.bx (HK.out.alloc hB0 (.cells #[.int .i64 y0, .int .i64 y1, .int .i64 y2, .int .i64 y3, .int .i64 y4, .int .i64 y5] 68))
      have hJ1 := hJ pre wr (.cells #[.int .i64 y0, .int .i64 y1, .int .i64 y2, .int .i64 y3, .int .i64 y4, .int .i64 y5] 68) hJk
      have hB1 := HB.out.keep HK1.out hbx
      have g0 := hB1.b0.cell
      have g1 := hB1.b1.cell
      have g2 := hB1.b2.cell
      have g3 := hB1.b3.cell
      simp only at c0 c1 c2 c3 c4 c5
      clear hB1
      have hwk2 : 0 ≤ y3 ∧ y3 < y4 ∧ y4 ≤ 2000000 := hwk
      have HWK := Go.Proofs.Ytamfifndddldcaa.bx hwk2
      clear hwk hwk2
      by_cases k0 : y0 = k
      case neg =>
        have e0 : (y0 == k) = false := by simpa using k0
        rw [if_neg (by simp [isW, k0])] at hLf
        have HLf := Go.Proofs.Ytamfifndddldcaa.bx hLf
        clear hLf
        gi_wp2
        refine ⟨fun _ h => (by cases h), ?_⟩
        gi_wp2
        go_roundw
        case rel => exact ⟨i + 1, pre, by omega, by go_num, hJ1, HK1.out, HLf.out⟩
        case measure => simp [intOf]; omega
      by_cases k1 : y1 = a
      case neg =>
        have e1 : (y1 == a) = false := by simpa using k1
        rw [if_neg (by simp [isW, k1])] at hLf
        have HLf := Go.Proofs.Ytamfifndddldcaa.bx hLf
        clear hLf
        subst k0
        gi_wp2
        refine ⟨fun _ h => (by cases h), ?_⟩
        gi_wp2
        go_roundw
        case rel => exact ⟨i + 1, pre, by omega, by go_num, hJ1, HK1.out, HLf.out⟩
        case measure => simp [intOf]; omega
      by_cases k2 : y2 = b
      case neg =>
        have e2 : (y2 == b) = false := by simpa using k2
        rw [if_neg (by simp [isW, k2])] at hLf
        have HLf := Go.Proofs.Ytamfifndddldcaa.bx hLf
        clear hLf
        subst k0 k1
        gi_wp2
        refine ⟨fun _ h => (by cases h), ?_⟩
        gi_wp2
        go_roundw
        case rel => exact ⟨i + 1, pre, by omega, by go_num, hJ1, HK1.out, HLf.out⟩
        case measure => simp [intOf]; omega
      subst k0 k1 k2
      rw [if_pos (by simp [isW])] at hLf
      have hlen := hLf.lt
      have HLf := Go.Proofs.Ytamfifndddldcaa.bx (hLf.next ⟨⟨y0, y1, y2, y3, y4, y5⟩, HWK.out⟩ rfl)
      obtain ⟨fn, tmps, assign, body, hy, hR⟩ := hY pre ⟨⟨y0, y1, y2, y3, y4, y5⟩, HWK.out⟩ _ hJ1 hlen
      simp only [encW] at hy
      clear hLf hlen
      gi_wp2
      refine ⟨wide_n, hR.mono ?_⟩
      rintro e W3 (⟨rfl, hJ3, hk3⟩ | ⟨rfl, hJx3⟩)
      · have HK3 := Go.Proofs.Ytamfifndddldcaa.bx (HK1.out.t hk3)
        gi_wp2
        go_roundw
        case rel => exact ⟨i + 1, _, by omega, by go_num, hJ3, HK3.out, HLf.out⟩
        case measure => simp [intOf]; omega
      · gi_wp2
        refine bodyPost_ret (results_none rfl _ _ _) rfl ?_
        exact ⟨⟨_, rfl⟩, .inr ⟨_, ⟨_, HLf.out⟩, hJx3⟩⟩
    · obtain rfl : i = t.length := by omega
      have d1 : decide (((t.length : Nat) : Int) < (t.length : Int)) = false := decide_eq_false (by omega)
      rw [List.drop_length] at hLf
      have HLf := Go.Proofs.Ytamfifndddldcaa.bx (show LeftW L pre [] from hLf)
      clear hLf
      gi_wp2
      go_end0
      exact ⟨⟨_, rfl⟩, .inl ⟨_, HLf.out.all, hJk⟩⟩
/-- the iterator of windows of a key, as its callers use it -/
theorem of_stops (n lo B0 bx : Nat) (A : Option Addr) (cap : Nat) (t : List Wn) (k a b : Int) (hm : t.length ≤ 1000000) (hw : ∀ x ∈ t, 0 ≤ x.f ∧ x.f < x.u ∧ x.u ≤ 2000000)
    (w : World) (hS : Sl w B0 (.slice A t.length cap) t.length (t.flatMap wcs)) (hB : OfB w lo (.slice A t.length cap) k a b) (hbx : bx < lo ∨ lo + 4 ≤ bx) (hB0 : B0 ≤ w.heap.size) :
    SeqStopsK Fence.wide n Try.prog 52 #[.pointer (some ⟨lo, 0, none⟩), .pointer (some ⟨lo + 1, 0, none⟩), .pointer (some ⟨lo + 2, 0, none⟩), .pointer (some ⟨lo + 3, 0, none⟩)]
      encW (KeepO B0 bx) (fun xs => xs.map (·.1) = ofL k a b t) (fun pre => ∃ r, LeftW (ofL k a b t) pre r) (ofL k a b t).length w :=
  fun l J Jx W hW hJ _ hY h0 => by
    have hk := KeepO.of_below (B0 := B0) (b := bx) hW hB0
    exact of_in n l lo B0 bx A cap t k a b hm hw J Jx (fun pre W o h => hJ pre W _ none h (World.grownBy_alloc W o none) (by simp)) hY W (hS.keepO hk) (hB.keep hk hbx) hbx (by have := hk.size; omega) h0
end Go.Proofs.Ytamfifndddldcaa
