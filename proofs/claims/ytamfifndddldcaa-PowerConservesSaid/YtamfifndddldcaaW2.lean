/-
  Walk of layer 10: the iterator over the stretches of constant gain.
-/
import Derived.Test.YtamfifndddldcaaW1
namespace Go.Proofs.Ytamfifndddldcaa
open Go.RowKit Go.Shelf
attribute [local go_sem] Oper.semAt_some

/-- a stretch: ticks and gain, within bounds -/
abbrev Str := { x : Int × Int // 1 ≤ x.1 ∧ x.1 ≤ 10000000 ∧ 0 ≤ x.2 ∧ x.2 ≤ 10000000 }
def encStr (x : Str) : Array Value := #[.int .i64 x.1.1, .int .i64 x.1.2]
/-- what a round keeps: the iterator's five boxes, what lies below B0, and every copy of a window -/
structure KeepS (B0 lo : Nat) (W W' : World) : Prop where
  size : W.heap.size ≤ W'.heap.size
  low : ∀ i, i < B0 → W'.heap[i]? = W.heap[i]?
  box : ∀ i, lo ≤ i → i < lo + 5 → W'.heap[i]? = W.heap[i]?
  win : ∀ (i : Nat) (cs : Array Value) (fz : Nat × Nat), W.heap[i]? = some (Obj.cells cs 68 fz) → W'.heap[i]? = some (Obj.cells cs 68 fz)
theorem KeepS.refl (B0 lo : Nat) (W : World) : KeepS B0 lo W W := ⟨Nat.le_refl _, fun _ _ => rfl, fun _ _ _ => rfl, fun _ _ _ h => h⟩
theorem KeepS.t {B0 lo : Nat} {A B C : World} (h : KeepS B0 lo A B) (k : KeepS B0 lo B C) : KeepS B0 lo A C := ⟨Nat.le_trans h.size k.size, fun i hi => (k.low i hi).trans (h.low i hi), fun i hi hj => (k.box i hi hj).trans (h.box i hi hj), fun i cs fz hh => k.win i cs fz (h.win i cs fz hh)⟩
theorem KeepS.b {B0 lo : Nat} {w : World} (h1 : B0 ≤ w.heap.size) (h2 : lo + 5 ≤ w.heap.size) (W : World) (l : Nat) (o o' : Obj) (hl : w.heap.size ≤ l) (ho : W.heap[l]? = some o) (hc : o.isCells = false) (_ : o.isWalk = false) :
    KeepS B0 lo W (W.putObj l o') :=
  ⟨(grownBy_putObj' W l o').size, fun i hi => World.putObj_heap_other (by omega), fun i _ hi => World.putObj_heap_other (by omega), fun i cs fz hh => by
    have hne : i ≠ l := by
      rintro rfl
      rw [hh] at ho
      cases ho
      cases hc
    exact (World.putObj_heap_other hne).trans hh⟩
theorem KeepS.of_grown {B0 lo : Nat} {W W' : World} (h : W.grownBy W' none) (h1 : B0 ≤ W.heap.size) (h2 : lo + 5 ≤ W.heap.size) : KeepS B0 lo W W' :=
  ⟨h.size, fun i hi => h.block i (by omega) (by simp), fun i _ hi => h.block i (by omega) (by simp), fun i cs fz hh => (h.block i (Array.getElem?_eq_some_iff.1 hh).1 (by simp)).trans hh⟩
theorem KeepS.of_row {B0 lo : Nat} {W W' : World} {row : Option Nat} (h : W.grownBy W' row) (h1 : B0 ≤ W.heap.size) (h2 : lo + 5 ≤ W.heap.size)
    (hr : ∀ r, row = some r → B0 ≤ r ∧ lo + 5 ≤ r ∧ ∀ cs fz, W.heap[r]? ≠ some (Obj.cells cs 68 fz)) : KeepS B0 lo W W' :=
  ⟨h.size, fun i hi => h.block i (by omega) (fun e => by have := hr i e.symm; omega), fun i _ hi => h.block i (by omega) (fun e => by have := hr i e.symm; omega),
   fun i cs fz hh => (h.block i (Array.getElem?_eq_some_iff.1 hh).1 (fun e => (hr i e.symm).2.2 cs fz hh)).trans hh⟩
theorem KeepS.set {B0 lo : Nat} {W W' : World} (h : KeepS B0 lo W W') (b j : Nat) (u : Value) (h1 : B0 ≤ b) (h2 : b < lo ∨ lo + 5 ≤ b) (h3 : ∀ cs fz, W'.heap[b]? ≠ some (Obj.cells cs 68 fz)) : KeepS B0 lo W (W'.setCell ⟨b, j, none⟩ u) :=
  ⟨by simpa using h.size, fun i hi => (heap_set_off W' (by omega) j u).trans (h.low i hi), fun i hi hj => (heap_set_off W' (by omega) j u).trans (h.box i hi hj),
   fun i cs fz hh => by
    have h4 := h.win i cs fz hh
    exact (heap_set_off W' (fun e => h3 cs fz (by rw [e]; exact h4)) j u).trans h4⟩
theorem KeepS.alloc {B0 lo : Nat} {W W' : World} (h : KeepS B0 lo W W') (o : Obj) (h1 : B0 ≤ W.heap.size) (h2 : lo + 5 ≤ W.heap.size) : KeepS B0 lo W (W'.alloc o) :=
  h.t (KeepS.of_grown (World.grownBy_alloc W' o none) (Nat.le_trans h1 h.size) (Nat.le_trans h2 h.size))
theorem KeepS.of_below {B0 lo : Nat} {W W' : World} (h : Below W.heap.size W W') (h1 : B0 ≤ W.heap.size) (h2 : lo + 5 ≤ W.heap.size) : KeepS B0 lo W W' :=
  ⟨h.size, fun i hi => h.block i (by omega), fun i _ hi => h.block i (by omega), fun i cs fz hh => (h.block i (Array.getElem?_eq_some_iff.1 hh).1).trans hh⟩
/-- a copy of a window -/
structure WinC (W : World) (r : Nat) (x : Wn) : Prop where
  out : W.heap[r]? = some (Obj.cells #[.int .i64 x.k, .int .i64 x.a, .int .i64 x.b, .int .i64 x.f, .int .i64 x.u, .int .i64 x.r] 68 (0, 0))
theorem WinC.keep {B0 lo : Nat} {W W' : World} {r : Nat} {x : Wn} (h : WinC W r x) (k : KeepS B0 lo W W') : WinC W' r x := ⟨k.win _ _ _ h.out⟩
theorem WinC.new (w : World) (x : Wn) : WinC (w.alloc (.cells #[.int .i64 x.k, .int .i64 x.a, .int .i64 x.b, .int .i64 x.f, .int .i64 x.u, .int .i64 x.r] 68)) w.heap.size x := ⟨heap_alloc_new w _⟩
theorem WinC.facts {W : World} {r : Nat} {x : Wn} (h : WinC W r x) : W.cell? ⟨r, 3, none⟩ = some (.int .i64 x.f) ∧ W.cell? ⟨r, 4, none⟩ = some (.int .i64 x.u) := by
  have e := h.out
  refine ⟨?_, ?_⟩ <;> (rw [cell_of_row _ _ _ _ _ _ e]; rfl)
theorem Sl.keepS {B0 lo : Nat} {W W' : World} {v : Value} {n : Nat} {cs : List Value} (h : Sl W B0 v n cs) (k : KeepS B0 lo W W') : Sl W' B0 v n cs := by
  rcases h.out with h | ⟨a, c, e, h⟩
  · exact ⟨.inl h⟩
  · refine ⟨.inr ⟨a, c, e, fun j u hj => ?_⟩⟩
    obtain ⟨b, off, e1, e2, e3⟩ := h j u hj
    exact ⟨b, off, e1, e2, (World.cell?_of_block (a := ⟨b, off + j, none⟩) (k.low b e2)).trans e3⟩
/-- the iterator's boxes -/
structure StB (W : World) (lo : Nat) (v : Value) (c fr un s : Int) : Prop where
  b0 : W.cell? ⟨lo, 0, none⟩ = some v
  b1 : W.cell? ⟨lo + 1, 0, none⟩ = some (.int .i64 c)
  b2 : W.cell? ⟨lo + 2, 0, none⟩ = some (.int .i64 fr)
  b3 : W.cell? ⟨lo + 3, 0, none⟩ = some (.int .i64 un)
  b4 : W.cell? ⟨lo + 4, 0, none⟩ = some (.int .i64 s)
theorem StB.keep {B0 lo : Nat} {W W' : World} {v : Value} {c fr un s : Int} (h : StB W lo v c fr un s) (k : KeepS B0 lo W W') : StB W' lo v c fr un s :=
  ⟨(World.cell?_of_block (a := ⟨lo, 0, none⟩) (k.box lo (by omega) (by omega))).trans h.b0, (World.cell?_of_block (a := ⟨lo + 1, 0, none⟩) (k.box _ (by simp) (by simp))).trans h.b1,
   (World.cell?_of_block (a := ⟨lo + 2, 0, none⟩) (k.box _ (by simp) (by simp))).trans h.b2, (World.cell?_of_block (a := ⟨lo + 3, 0, none⟩) (k.box _ (by simp) (by simp))).trans h.b3,
   (World.cell?_of_block (a := ⟨lo + 4, 0, none⟩) (k.box _ (by simp) (by simp))).trans h.b4⟩
theorem strs_drop (c un s : Int) (t : List Wn) (k : Nat) (hk : k < t.length) (at_ : Int) : strs c un s (t.drop k) at_ =
    if un ≤ at_ then [] else if t[k].k ≠ 3 ∨ t[k].a ≠ c ∨ t[k].u ≤ at_ ∨ un ≤ t[k].f then strs c un s (t.drop (k + 1)) at_
    else if at_ < t[k].f then (t[k].f - at_, s) :: (min t[k].u un - t[k].f, 0) :: strs c un s (t.drop (k + 1)) (min t[k].u un)
    else (min t[k].u un - at_, 0) :: strs c un s (t.drop (k + 1)) (min t[k].u un) := by
  rw [List.drop_eq_getElem_cons hk]; rfl
/-- what is left when pre has come -/
abbrev Left (L : List (Int × Int)) (pre : List Str) (r : List (Int × Int)) : Prop := pre.map (·.1) ++ r = L
theorem Left.next {L : List (Int × Int)} {pre : List Str} {x : Int × Int} {r : List (Int × Int)} (h : Left L pre (x :: r)) (y : Str) (hy : y.1 = x) : Left L (pre ++ [y]) r := by
  show (pre ++ [y]).map (·.1) ++ r = L
  rw [← h, List.map_append, List.append_assoc]
  simp [hy]
theorem Left.lt {L : List (Int × Int)} {pre : List Str} {x : Int × Int} {r : List (Int × Int)} (h : Left L pre (x :: r)) : pre.length < L.length := by
  rw [← h]; simp
theorem Left.all {L : List (Int × Int)} {pre : List Str} (h : Left L pre []) : pre.map (·.1) = L := by
  rw [← h]; simp

set_option maxHeartbeats 2000000 in
set_option maxRecDepth 10000 in
theorem str_in (n l lo B0 : Nat) (A : Option Addr) (cap : Nat) (t : List Wn) (c fr un s : Int) (hm : t.length ≤ 1000000) (hfr : 0 ≤ fr ∧ fr ≤ 2000000) (hun : 0 ≤ un ∧ un ≤ 2000000) (hs : 0 ≤ s ∧ s ≤ 10000000)
    (hw : ∀ x ∈ t, 0 ≤ x.f ∧ x.f < x.u ∧ x.u ≤ 2000000) (J Jx : List Str → World → Prop) (hJ : ∀ pre W o, J pre W → J pre (W.alloc o))
    (hY : ∀ pre x W, J pre W → pre.length < (strs c un s t fr).length → YieldAt Fence.wide (n - 1) Try.prog l (encStr x) W fun e W' =>
      (e = .returned (.bool true) ∧ J (pre ++ [x]) W' ∧ KeepS B0 lo W W') ∨ (e = .returned (.bool false) ∧ Jx (pre ++ [x]) W'))
    (W0 : World) (hS : Sl W0 B0 (.slice A t.length cap) t.length (t.flatMap wcs)) (hB : StB W0 lo (.slice A t.length cap) c fr un s) (hB0 : B0 ≤ lo) (hlo : lo + 5 ≤ W0.heap.size) (h0 : J [] W0) :
    CallsIn Fence.wide n Try.prog 50 #[.func (.yield l) #[] #[], .pointer (some ⟨lo + 2, 0, none⟩), .pointer (some ⟨lo, 0, none⟩), .pointer (some ⟨lo + 3, 0, none⟩), .pointer (some ⟨lo + 1, 0, none⟩), .pointer (some ⟨lo + 4, 0, none⟩)] W0 fun e W' => (∃ v, e = .returned v) ∧
      ((∃ xs : List Str, xs.map (·.1) = strs c un s t fr ∧ J xs W') ∨ (∃ pre : List Str, (∃ r, Left (strs c un s t fr) pre r) ∧ Jx pre W')) := by
  obtain ⟨L, hL⟩ : ∃ L, strs c un s t fr = L := ⟨_, rfl⟩
  rw [hL] at hY ⊢
  have HL := bx hL
  have HS := bx hS
  have HB := bx hB
  have HW := bx hw
  clear hL hS hw
  obtain ⟨b0, b1, b2, b3, b4⟩ := hB
  refine callsIn_of_wp Try.func50 rfl trivial ?_ rfl
  simp only [Try.ntmps50, List.size_toArray, List.length_cons, List.length_nil, Nat.reduceAdd, Nat.reduceSub, Array.replicate_succ, Array.replicate_zero, List.push_toArray, List.append_toArray, List.nil_append, List.cons_append]
  gi_wp2
  gi_loopw [7, 9, 10, 14] (fun v7 _ _ v14 wr => ∃ (k : Nat) (at_ : Int) (pre : List Str), k ≤ t.length ∧ v14 = .int .i64 k ∧ v7 = .int .i64 at_ ∧ 0 ≤ at_ ∧ at_ ≤ 2000000 ∧ J pre wr ∧ KeepS B0 lo W0 wr ∧ Left L pre (strs c un s (t.drop k) at_)) (fun _ _ _ v14 _ => t.length - (intOf v14).toNat)
  case atStart => exact ⟨0, fr, [], by omega, rfl, rfl, hfr.1, hfr.2, h0, KeepS.refl _ _ _, HL.out⟩
  case round =>
    obtain ⟨k, at_, pre, hk, rfl, rfl, ha0, ha1, hJk, hK, hLf⟩ := hrel
    clear b0 b1 b2 b3 b4 h0
    obtain ⟨b0, b1, b2, b3, b4⟩ := HB.out.keep hK
    have HK := bx hK
    clear hK
    by_cases hlt : k < t.length
    · have hwk := HW.out t[k] (List.getElem_mem hlt)
      obtain ⟨b, off, rfl, hb, c0, c1, c2, c3, c4, c5⟩ := wins_at (HS.out.keepS HK.out) hlt
      rw [strs_drop c un s t k hlt] at hLf
      have d1 : decide ((k : Int) < (t.length : Int)) = true := decide_eq_true (by omega)
      obtain ⟨Y, hY0⟩ : ∃ Y, t[k] = Y := ⟨_, rfl⟩
      rw [hY0] at c0 c1 c2 c3 c4 c5 hLf hwk
      obtain ⟨y0, y1, y2, y3, y4, y5⟩ := Y
      simp only at c0 c1 c2 c3 c4 c5 hLf hwk
      clear hY0
      obtain ⟨w1, w2, w3⟩ := hwk
      have HLf := bx hLf
      clear hLf
      have hJ1 := hJ pre wr (.cells #[.int .i64 y0, .int .i64 y1, .int .i64 y2, .int .i64 y3, .int .i64 y4, .int .i64 y5] 68) hJk
      have HK1 := bx (HK.out.alloc (.cells #[.int .i64 y0, .int .i64 y1, .int .i64 y2, .int .i64 y3, .int .i64 y4, .int .i64 y5] 68) (by omega) hlo)
      obtain ⟨g0, g1, g2, g3, g4⟩ := HB.out.keep HK1.out
      by_cases hu : un ≤ at_
      · have d2 : decide (un ≤ at_) = true := decide_eq_true hu
        have HE := HLf.out
        rw [if_pos hu] at HE
        gi_wp2
        refine bodyPost_ret (results_none rfl _ _ _) rfl ?_
        exact ⟨⟨_, rfl⟩, .inl ⟨pre, HE.all, hJ1⟩⟩
      have d2 : decide (un ≤ at_) = false := decide_eq_false hu
      have hLf := HLf.out
      rw [if_neg hu] at hLf
      clear HLf
      by_cases hsk : y0 ≠ 3 ∨ y1 ≠ c ∨ y4 ≤ at_ ∨ un ≤ y3
      · rw [if_pos hsk] at hLf
        have HLf := bx hLf
        clear hLf
        by_cases k0 : y0 = 3
        case neg =>
          have e0 : (y0 != 3) = true := by simpa using k0
          gi_wp2
          go_roundw
          case rel => exact ⟨k + 1, at_, pre, by omega, by go_num, rfl, ha0, ha1, hJ1, HK1.out, HLf.out⟩
          case measure => simp [intOf]; omega
        subst k0
        by_cases k1 : y1 = c
        case neg =>
          have e1 : (y1 != c) = true := by simpa using k1
          gi_wp2
          go_roundw
          case rel => exact ⟨k + 1, at_, pre, by omega, by go_num, rfl, ha0, ha1, hJ1, HK1.out, HLf.out⟩
          case measure => simp [intOf]; omega
        subst k1
        by_cases k2 : y4 ≤ at_
        case pos =>
          have e2 : decide (y4 ≤ at_) = true := decide_eq_true k2
          gi_wp2
          go_roundw
          case rel => exact ⟨k + 1, at_, pre, by omega, by go_num, rfl, ha0, ha1, hJ1, HK1.out, HLf.out⟩
          case measure => simp [intOf]; omega
        have e2 : decide (y4 ≤ at_) = false := decide_eq_false k2
        have k3 : un ≤ y3 := by omega
        have e3 : decide (un ≤ y3) = true := decide_eq_true k3
        gi_wp2
        go_roundw
        case rel => exact ⟨k + 1, at_, pre, by omega, by go_num, rfl, ha0, ha1, hJ1, HK1.out, HLf.out⟩
        case measure => simp [intOf]; omega
      rw [if_neg hsk] at hLf
      obtain rfl : y0 = 3 := by omega
      obtain rfl : y1 = c := by omega
      have k2 : at_ < y4 := by omega
      have k3 : y3 < un := by omega
      have e2 : decide (y4 ≤ at_) = false := decide_eq_false (by omega)
      have e3 : decide (un ≤ y3) = false := decide_eq_false (by omega)
      by_cases h5 : y4 ≤ un
      case pos =>
        have d5 : min y4 un = y4 := by omega
        rw [d5] at hLf
        clear d5
        have d6 : decide (un < y4) = false := by simp; omega
        have d7 : decide (y4 < un) = decide (y4 < un) := by first | rfl | (simp; omega)
        clear d7
        by_cases h4 : at_ < y3
        · have d3 : decide (at_ < y3) = true := decide_eq_true h4
          rw [if_pos h4] at hLf
          have hlen := hLf.lt
          have HLf := bx (hLf.next ⟨(y3 - at_, s), by simp only; omega⟩ rfl)
          obtain ⟨fn, tmps, assign, body, hy, hR⟩ := hY pre ⟨(y3 - at_, s), by simp only; omega⟩ _ hJ1 hlen
          simp only [encStr] at hy
          have HC := WinC.new wr ⟨3, y1, y2, y3, y4, y5⟩
          clear hLf hlen
          gi_wp2
          refine ⟨wide_n, hR.mono ?_⟩
          rintro e W3 (⟨rfl, hJ3, hk3⟩ | ⟨rfl, hJx3⟩)
          · have HK3 := bx (HK1.out.t hk3)
            have HC3 := bx (HC.keep hk3)
            obtain ⟨m0, m1⟩ := HC3.out.facts
            clear g0 g1 g2 g3 g4
            obtain ⟨g0, g1, g2, g3, g4⟩ := HB.out.keep HK3.out
            clear hy hR
            have hlen1 := HLf.out.lt
            have HLd := bx (HLf.out.next ⟨(y4 - y3, 0), by simp only; omega⟩ rfl)
            obtain ⟨fn1, tmps1, assign1, body1, hy1, hR1⟩ := hY _ ⟨(y4 - y3, 0), by simp only; omega⟩ _ hJ3 hlen1
            simp only [encStr] at hy1
            clear hlen1
            gi_wp2
            refine ⟨wide_n, hR1.mono ?_⟩
            rintro e W4 (⟨rfl, hJ4, hk4⟩ | ⟨rfl, hJx4⟩)
            · have HK4 := bx (HK3.out.t hk4)
              gi_wp2
              go_roundw
              case rel => exact ⟨k + 1, y4, _, by omega, by go_num, by first | rfl | (congr 1; omega), by omega, by omega, hJ4, HK4.out, HLd.out⟩
              case measure => simp [intOf]; omega
            · gi_wp2
              refine bodyPost_ret (results_none rfl _ _ _) rfl ?_
              exact ⟨⟨_, rfl⟩, .inr ⟨_, ⟨_, HLd.out⟩, hJx4⟩⟩
          · gi_wp2
            refine bodyPost_ret (results_none rfl _ _ _) rfl ?_
            exact ⟨⟨_, rfl⟩, .inr ⟨_, ⟨_, HLf.out⟩, hJx3⟩⟩
        · have d3 : decide (at_ < y3) = false := decide_eq_false h4
          rw [if_neg h4] at hLf
          have HLf := bx hLf
          clear hLf
          have hlen1 := HLf.out.lt
          have HLd := bx (HLf.out.next ⟨(y4 - at_, 0), by simp only; omega⟩ rfl)
          obtain ⟨fn1, tmps1, assign1, body1, hy1, hR1⟩ := hY _ ⟨(y4 - at_, 0), by simp only; omega⟩ _ hJ1 hlen1
          simp only [encStr] at hy1
          clear hlen1
          gi_wp2
          refine ⟨fun _ h => (by cases h), ?_⟩
          gi_wp2
          refine ⟨wide_n, hR1.mono ?_⟩
          rintro e W4 (⟨rfl, hJ4, hk4⟩ | ⟨rfl, hJx4⟩)
          · have HK4 := bx (HK1.out.t hk4)
            gi_wp2
            go_roundw
            case rel => exact ⟨k + 1, y4, _, by omega, by go_num, by first | rfl | (congr 1; omega), by omega, by omega, hJ4, HK4.out, HLd.out⟩
            case measure => simp [intOf]; omega
          · gi_wp2
            refine bodyPost_ret (results_none rfl _ _ _) rfl ?_
            exact ⟨⟨_, rfl⟩, .inr ⟨_, ⟨_, HLd.out⟩, hJx4⟩⟩
      case neg =>
        have d5 : min y4 un = un := by omega
        rw [d5] at hLf
        clear d5
        have d6 : decide (un < y4) = true := by simp; omega
        have d7 : decide (y4 < un) = decide (un < un) := by first | rfl | (simp; omega)
        clear d7
        by_cases h4 : at_ < y3
        · have d3 : decide (at_ < y3) = true := decide_eq_true h4
          rw [if_pos h4] at hLf
          have hlen := hLf.lt
          have HLf := bx (hLf.next ⟨(y3 - at_, s), by simp only; omega⟩ rfl)
          obtain ⟨fn, tmps, assign, body, hy, hR⟩ := hY pre ⟨(y3 - at_, s), by simp only; omega⟩ _ hJ1 hlen
          simp only [encStr] at hy
          have HC := WinC.new wr ⟨3, y1, y2, y3, y4, y5⟩
          clear hLf hlen
          gi_wp2
          refine ⟨wide_n, hR.mono ?_⟩
          rintro e W3 (⟨rfl, hJ3, hk3⟩ | ⟨rfl, hJx3⟩)
          · have HK3 := bx (HK1.out.t hk3)
            have HC3 := bx (HC.keep hk3)
            obtain ⟨m0, m1⟩ := HC3.out.facts
            clear g0 g1 g2 g3 g4
            obtain ⟨g0, g1, g2, g3, g4⟩ := HB.out.keep HK3.out
            clear hy hR
            have hlen1 := HLf.out.lt
            have HLd := bx (HLf.out.next ⟨(un - y3, 0), by simp only; omega⟩ rfl)
            obtain ⟨fn1, tmps1, assign1, body1, hy1, hR1⟩ := hY _ ⟨(un - y3, 0), by simp only; omega⟩ _ hJ3 hlen1
            simp only [encStr] at hy1
            clear hlen1
            gi_wp2
            refine ⟨wide_n, hR1.mono ?_⟩
            rintro e W4 (⟨rfl, hJ4, hk4⟩ | ⟨rfl, hJx4⟩)
            · have HK4 := bx (HK3.out.t hk4)
              gi_wp2
              go_roundw
              case rel => exact ⟨k + 1, un, _, by omega, by go_num, by first | rfl | (congr 1; omega), by omega, by omega, hJ4, HK4.out, HLd.out⟩
              case measure => simp [intOf]; omega
            · gi_wp2
              refine bodyPost_ret (results_none rfl _ _ _) rfl ?_
              exact ⟨⟨_, rfl⟩, .inr ⟨_, ⟨_, HLd.out⟩, hJx4⟩⟩
          · gi_wp2
            refine bodyPost_ret (results_none rfl _ _ _) rfl ?_
            exact ⟨⟨_, rfl⟩, .inr ⟨_, ⟨_, HLf.out⟩, hJx3⟩⟩
        · have d3 : decide (at_ < y3) = false := decide_eq_false h4
          rw [if_neg h4] at hLf
          have HLf := bx hLf
          clear hLf
          have hlen1 := HLf.out.lt
          have HLd := bx (HLf.out.next ⟨(un - at_, 0), by simp only; omega⟩ rfl)
          obtain ⟨fn1, tmps1, assign1, body1, hy1, hR1⟩ := hY _ ⟨(un - at_, 0), by simp only; omega⟩ _ hJ1 hlen1
          simp only [encStr] at hy1
          clear hlen1
          gi_wp2
          refine ⟨fun _ h => (by cases h), ?_⟩
          gi_wp2
          refine ⟨wide_n, hR1.mono ?_⟩
          rintro e W4 (⟨rfl, hJ4, hk4⟩ | ⟨rfl, hJx4⟩)
          · have HK4 := bx (HK1.out.t hk4)
            gi_wp2
            go_roundw
            case rel => exact ⟨k + 1, un, _, by omega, by go_num, by first | rfl | (congr 1; omega), by omega, by omega, hJ4, HK4.out, HLd.out⟩
            case measure => simp [intOf]; omega
          · gi_wp2
            refine bodyPost_ret (results_none rfl _ _ _) rfl ?_
            exact ⟨⟨_, rfl⟩, .inr ⟨_, ⟨_, HLd.out⟩, hJx4⟩⟩
    · obtain rfl : k = t.length := by omega
      have d1 : decide (((t.length : Nat) : Int) < (t.length : Int)) = false := decide_eq_false (by omega)
      rw [List.drop_length] at hLf
      unfold strs at hLf
      by_cases h6 : at_ < un
      · have d2 : decide (at_ < un) = true := decide_eq_true h6
        rw [if_pos h6] at hLf
        have hlen := hLf.lt
        have HLf := bx (hLf.next ⟨(un - at_, s), by simp only; omega⟩ rfl)
        obtain ⟨fn, tmps, assign, body, hy, hR⟩ := hY pre ⟨(un - at_, s), by simp only; omega⟩ _ hJk hlen
        simp only [encStr] at hy
        clear hLf hlen
        gi_wp2
        refine ⟨wide_n, hR.mono ?_⟩
        rintro e W3 (⟨rfl, hJ3, hk3⟩ | ⟨rfl, hJx3⟩)
        · gi_wp2
          go_end0
          exact ⟨⟨_, rfl⟩, .inl ⟨_, HLf.out.all, hJ3⟩⟩
        · gi_wp2
          go_end0
          exact ⟨⟨_, rfl⟩, .inr ⟨_, ⟨_, HLf.out⟩, hJx3⟩⟩
      · have d2 : decide (at_ < un) = false := decide_eq_false h6
        rw [if_neg h6] at hLf
        have HLf := bx hLf
        clear hLf
        gi_wp2
        go_end0
        exact ⟨⟨_, rfl⟩, .inl ⟨_, HLf.out.all, hJk⟩⟩

/-- the iterator of stretches, as its callers use it -/
theorem str_stops (n lo B0 : Nat) (A : Option Addr) (cap : Nat) (t : List Wn) (c fr un s : Int) (hm : t.length ≤ 1000000) (hfr : 0 ≤ fr ∧ fr ≤ 2000000) (hun : 0 ≤ un ∧ un ≤ 2000000) (hs : 0 ≤ s ∧ s ≤ 10000000)
    (hw : ∀ x ∈ t, 0 ≤ x.f ∧ x.f < x.u ∧ x.u ≤ 2000000) (w : World) (hS : Sl w B0 (.slice A t.length cap) t.length (t.flatMap wcs)) (hB : StB w lo (.slice A t.length cap) c fr un s) (hB0 : B0 ≤ lo) (hlo : lo + 5 ≤ w.heap.size) :
    SeqStopsK Fence.wide n Try.prog 50 #[.pointer (some ⟨lo + 2, 0, none⟩), .pointer (some ⟨lo, 0, none⟩), .pointer (some ⟨lo + 3, 0, none⟩), .pointer (some ⟨lo + 1, 0, none⟩), .pointer (some ⟨lo + 4, 0, none⟩)]
      encStr (KeepS B0 lo) (fun xs => xs.map (·.1) = strs c un s t fr) (fun pre => ∃ r, Left (strs c un s t fr) pre r) (strs c un s t fr).length w :=
  fun l J Jx W hW hJ _ hY h0 => by
    have hk := KeepS.of_below (B0 := B0) (lo := lo) hW (by omega) hlo
    exact str_in n l lo B0 A cap t c fr un s hm hfr hun hs hw J Jx (fun pre W o h => hJ pre W _ none h (World.grownBy_alloc W o none) (by simp)) hY W (hS.keepS hk) (hB.keep hk) hB0 (by have := hk.size; omega) h0
end Go.Proofs.Ytamfifndddldcaa
