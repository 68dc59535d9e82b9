/-
  Walks of layer 12: the marks of the avoided directions.
-/
import Derived.Test.YtaahdfmbbbjmaaaW5
import Derived.Deep.MidRow
namespace Go.Proofs.Ytaahdfmbbbjmaaa
open Go.RowKit Go.Shelf
attribute [local go_sem] Oper.semAt_some

/-- the blocks for the deferred calls of the loops' rounds, still open, all different, from block B on -/
def MarksOk (B : Nat) (W : World) : List Deferred → Prop
  | [] => True
  | d :: ds => (∃ D, d = { target := .collected D, args := #[] } ∧ B ≤ D ∧ W.heap[D]? = some (.deferred (some [])) ∧ ∀ d' ∈ ds, d'.target ≠ .collected D) ∧ MarksOk B W ds
theorem MarksOk.keep {B : Nat} {W W' : World} (hk : ∀ D, B ≤ D → W.heap[D]? = some (.deferred (some [])) → W'.heap[D]? = some (.deferred (some []))) : ∀ {ds : List Deferred}, MarksOk B W ds → MarksOk B W' ds
  | [], _ => trivial
  | _ :: _, ⟨⟨D, h1, h2, h3, h4⟩, h5⟩ => ⟨⟨D, h1, h2, hk D h2 h3, h4⟩, MarksOk.keep hk h5⟩
theorem MarksOk.others {B : Nat} {W W' : World} {ds : List Deferred} (h : MarksOk B W ds) (hk : KeepsOthers W W') : MarksOk B W' ds := h.keep fun _ _ hh => hk.same _ _ hh rfl
theorem MarksOk.lt {B : Nat} {W : World} : ∀ {ds : List Deferred}, MarksOk B W ds → ∀ d ∈ ds, ∃ D, d.target = .collected D ∧ D < W.heap.size
  | [], _ => by simp
  | d :: ds, ⟨⟨D, h1, h2, h3, h4⟩, h5⟩ => by
    intro d' hd'
    rcases List.mem_cons.1 hd' with rfl | hm
    · exact ⟨D, by rw [h1], (Array.getElem?_eq_some_iff.1 h3).1⟩
    · exact h5.lt d' hm
/-- what lies below M is kept where blocks from M on alone turn -/
theorem MarksOk.from_ {B M : Nat} {W W' : World} {row : Option Nat} (hg : W.grownBy W' row) (hr : ∀ r, row = some r → M ≤ r ∧ ∃ o : Obj, W.heap[r]? = some o ∧ o.isCells = false) : ∀ {ds : List Deferred},
    (∀ d ∈ ds, ∀ D, d.target = .collected D → D < M) → MarksOk B W ds → MarksOk B W' ds
  | [], _, _ => trivial
  | d :: ds, hlt, ⟨⟨D, h1, h2, h3, h4⟩, h5⟩ =>
    ⟨⟨D, h1, h2, (hg.block D (Array.getElem?_eq_some_iff.1 h3).1 (fun e => by
      have := (hr D e.symm).1
      have := hlt d (by simp) D (by rw [h1])
      omega)).trans h3, h4⟩, MarksOk.from_ hg hr (fun d' hd' => hlt d' (by simp [hd'])) h5⟩
/-- cells are kept, and what lay below B -/
structure CellsKept (B : Nat) (W W' : World) : Prop where
  cells : ∀ (k : Nat) (c : Array Value) (t : TypeId) (fz : Nat × Nat), W.heap[k]? = some (Obj.cells c t fz) → W'.heap[k]? = some (Obj.cells c t fz)
  below : Below B W W'
theorem leaves_marks {F : Fence} {n : Nat} {P : Program} {fn : Func} {tmps : Array Value} {R : Ending → World → Prop} {B : Nat} : ∀ (ds : List Deferred) (W : World), MarksOk B W ds →
    (∀ W', CellsKept B W W' → LeavesIn F n P fn tmps R [] .returning W') → LeavesInM F n P fn tmps R ds .returning W
  | [], W, _, hf => hf W ⟨fun _ _ _ _ h => h, Below.refl _ _⟩
  | d :: ds, W, ⟨⟨D, h1, h2, h3, h4⟩, h5⟩, hf => by
    subst h1
    refine ⟨by simp, .inl ⟨D, _, rfl, run_takeDeferred h3, ?_⟩⟩
    have hlt := (Array.getElem?_eq_some_iff.1 h3).1
    refine leaves_marks (B := B) ds _ ?_ ?_
    · have : ∀ {ds : List Deferred}, (∀ d' ∈ ds, d'.target ≠ .collected D) → MarksOk B W ds → MarksOk B (W.putObj D (.deferred none)) ds := by
        intro ds
        induction ds with
        | nil => intro _ _; trivial
        | cons e es ih =>
          rintro hne ⟨⟨D', g1, g2, g3, g4⟩, g5⟩
          refine ⟨⟨D', g1, g2, (World.putObj_heap_other ?_).trans g3, g4⟩, ih (fun d' hd' => hne d' (by simp [hd'])) g5⟩
          intro e0
          exact hne e (by simp) (by rw [g1, e0])
      exact this h4 h5
    · intro W' hk
      refine hf W' ⟨fun k c t fz hc => hk.cells k c t fz ?_, ?_⟩
      · refine (World.putObj_heap_other ?_).trans hc
        rintro rfl
        rw [h3] at hc; cases hc
      · exact ((Below.refl B W).grown (grownBy_putObj' W D _) (by omega) (fun k e => by cases e; exact h2)).trans hk.below

def zArr : Array Value := Array.replicate 360 (.bool false)
theorem zero48 (w : World) : (zeroValue 48).run Try.prog w = .ok (.agg zArr) w := by kernel_rfl
theorem zArr_size : zArr.size = 360 := by simp [zArr]
theorem zArr_at (i : Nat) (h : i < 360) : zArr[i]? = some (.bool false) := by simp [zArr, h]
/-- the 360 marks as an array -/
structure MarkArr (cs : Array Value) (F : Int → Bool) : Prop where
  size : cs.size = 360
  at_ : ∀ i : Nat, i < 360 → cs[i]? = some (.bool (F i))
theorem MarkArr.set {cs : Array Value} {F : Int → Bool} (h : MarkArr cs F) (x : Dir) : MarkArr (cs.setIfInBounds x.1.toNat (.bool true)) (fun i => F i || decide (x.1 = i)) :=
  ⟨by simp [h.size], fun i hi => by
    have h1 := x.2.1
    have h2 := x.2.2
    rw [Array.getElem?_setIfInBounds]
    split
    · rename_i e
      rw [if_pos (by rw [h.size]; omega)]
      rw [decide_eq_true (by omega : x.1 = (i : Int))]; simp
    · rename_i e
      rw [h.at_ i hi, decide_eq_false (by omega : ¬ x.1 = (i : Int))]; simp⟩
theorem MarkArr.congr {cs : Array Value} {F G : Int → Bool} (h : MarkArr cs F) (e : ∀ i : Int, 0 ≤ i → i < 360 → F i = G i) : MarkArr cs G := ⟨h.size, fun i hi => by rw [h.at_ i hi, e i (by omega) (by omega)]⟩
theorem zArr_marks : MarkArr zArr (fun i => av [] i) := ⟨zArr_size, fun i hi => zArr_at i hi⟩
/-- the directions of an arc, by its way -/
theorem arc_way {f t i : Int} (i1 : 0 ≤ i) (i2 : i < 360) :
    ((wayList f ((t - f) % 360) (((t - f) % 360).natAbs + 1)).any fun x => decide (x.1 = i)) = inArc (f, t) i := by
  apply bool_ext
  rw [List.any_eq_true]
  simp only [decide_eq_true_eq, inArc]
  constructor
  · rintro ⟨x, hx, rfl⟩
    obtain ⟨k, hk, e⟩ := wayList_mem hx
    unfold stepTo at e
    rw [if_neg (by omega)] at e
    rw [e]; omega
  · intro h
    refine ⟨wayDir f ((t - f) % 360) ((i - f) % 360).toNat, List.mem_map.2 ⟨_, List.mem_range.2 (by omega), rfl⟩, ?_⟩
    unfold wayDir stepTo
    simp only
    rw [if_neg (by omega)]
    omega
theorem any_snoc_dir (pre : List Dir) (x : Dir) (i : Int) : ((pre ++ [x]).any fun y => decide (y.1 = i)) = ((pre.any fun y => decide (y.1 = i)) || decide (x.1 = i)) := by
  rw [List.any_append]; simp
theorem av_take_inArc {l : ArcL} {k : Nat} (hk : k < l.length) {i : Int} (i1 : 0 ≤ i) (i2 : i < 360) : av (l.take (k + 1)) i = (av (l.take k) i || inArc (l[k].1, l[k].2) i) := by
  rw [av_take_succ hk, Int.emod_eq_of_lt i1 i2]
theorem heap_set {W : World} {B i : Nat} {c : Array Value} {t : TypeId} {fz : Nat × Nat} {v : Value} (h : W.heap[B]? = some (.cells c t fz)) : (W.setCell ⟨B, i, none⟩ v).heap[B]? = some (.cells (c.setIfInBounds i v) t fz) := by
  simp [World.setCell, Array.getElem?_modify, h]
theorem range_of_heap {W : World} {B : Nat} {c : Array Value} {t : TypeId} {fz : Nat × Nat} (h : W.heap[B]? = some (.cells c t fz)) : W.rangeAt B 0 c.toList := by
  intro j v hj
  rw [cell_of_row _ _ _ _ _ _ h, Nat.zero_add]; simpa using hj
theorem there_of_heap {W : World} {B : Nat} {c : Array Value} {t : TypeId} (h : W.heap[B]? = some (.cells c t (0, 0))) : W.there B 0 c.size := by
  intro j hj
  refine ⟨by rw [cell_of_row _ _ _ _ _ _ h, Nat.zero_add, Array.getElem?_eq_getElem hj]; rfl, by simp [World.frozen?, h]⟩
theorem MarkArr.one {cs : Array Value} {F : Int → Bool} (h : MarkArr cs F) : cs.all (·.oneCell') = true := by
  rw [Array.all_eq_true]
  intro i hi
  have := h.at_ i (by have := h.size; omega)
  rw [Array.getElem?_eq_getElem hi] at this
  injection this with this
  rw [this]; rfl
theorem CellsKept.cell {B : Nat} {W W' : World} (h : CellsKept B W W') {p : Addr} {v : Value} (hc : W.cell? p = some v) : W'.cell? p = some v := by
  unfold World.cell? at hc
  split at hc
  · rename_i c t fz hh
    unfold World.cell?
    rw [h.cells _ _ _ _ hh]; exact hc
  · cases hc
theorem keeps_setCells (b : Nat) : ∀ (vs : List Value) (o : Nat) (W : World), KeepsOthers W (W.setCells b o vs)
  | [], _, W => KeepsOthers.refl W
  | v :: r, o, W => (KeepsOthers.setCell W ⟨b, o, none⟩ v).trans (keeps_setCells b r (o + 1) _)
theorem below_setCells {B : Nat} (b : Nat) (hb : B ≤ b) : ∀ (vs : List Value) (o : Nat) (W : World), Below B W (W.setCells b o vs)
  | [], _, W => Below.refl _ W
  | v :: r, o, W => ((Below.refl B W).setCell (p := ⟨b, o, none⟩) hb v).trans (below_setCells b hb r (o + 1) _)
theorem results_cell1 {fn : Func} {p : Tmp} {ty : TypeId} (h : fn.results = #[.cell p ty]) (tmps : Array Value) (P : Program) (w : World) (a : Addr) (v : Value) (hp : tmps.getD p undef = .pointer (some a))
    (hl : (loadVar ty a).run P w = .ok v w) : (results fn tmps).run P w = .ok v w := by
  have hp' : tmps[p]?.getD undef = .pointer (some a) := by simpa using hp
  simp [results, h, hp', asAddr, hl]
theorem Try.size48 : (Try.prog.info? 48).map (·.size) = some 360 := by kernel_rfl
theorem normal' (a : Int) (w : World) : Calls Try.prog 15 #[.int .i64 a] w fun e w' => e = .returned (.int .i64 (a % 360)) ∧ w = w' := attNormal a w
set_option maxRecDepth 10000 in
theorem marks_calls (A : Option Addr) (c : Nat) (l : ArcL) (w : World) (h : Arcs w w.heap.size A l) (hm : l.length ≤ 100) (ho : OkArcs l) :
    Calls Try.prog 33 #[.slice A l.length c] w fun e w' => ∃ cs, e = .returned (.agg cs) ∧ MarkArr cs (av l) ∧ Below w.heap.size w w' := by
  refine (callsIn_wide (n := 3)).1 ?_
  refine callsIn_of_wp_marks Try.func33 rfl trivial (wpIn_wide.2 ?_) rfl
  simp only [Try.ntmps33, List.size_toArray, List.length_cons, List.length_nil, Nat.reduceAdd, Nat.reduceSub, Array.replicate_succ, Array.replicate_zero, List.push_toArray, List.append_toArray, List.nil_append, List.cons_append]
  have hz := zero48
  go_wp2
  obtain ⟨W0, hW0⟩ : ∃ W0, (w.alloc (.cells zArr 48)).alloc (.cells zArr 48) = W0 := ⟨_, rfl⟩
  rw [hW0]
  have s0 : W0.heap.size = w.heap.size + 2 := by rw [← hW0]; simp
  have hB0 : Below w.heap.size w W0 := by rw [← hW0]; exact ((Below.refl _ w).alloc (Nat.le_refl _) _).alloc (by simp) _
  have r0 : W0.heap[w.heap.size]? = some (.cells zArr 48 (0, 0)) := by rw [← hW0]; exact (Below.heap_alloc _ _ _ (by simp)).trans (heap_alloc_new w _)
  have r1 : W0.heap[w.heap.size + 1]? = some (.cells zArr 48 (0, 0)) := by rw [← hW0]; have := heap_alloc_new (w.alloc (.cells zArr 48)) (.cells zArr 48); rwa [World.size_alloc] at this
  clear hW0
  refine wp_loop (fun a wr => ∃ (k : Nat) (ds : List Deferred) (cs : Array Value) (u5 u10 u11 u12 u13 u14 u15 u16 u17 u18 u19 u20 u21 u25 : Value), a = { tmps := #[.slice A l.length c, undef, .pointer (some ⟨w.heap.size, 0, none⟩), .pointer (some ⟨w.heap.size + 1, 0, none⟩), undef, u5, undef, .slice A l.length c, .int .i64 l.length, .int .i64 k, u10, u11, u12, u13, u14, u15, u16, u17, u18, u19, u20, u21, undef, undef, undef, u25, undef], defers := ds } ∧
      k ≤ l.length ∧ MarkArr cs (av (l.take k)) ∧ wr.heap[w.heap.size]? = some (.cells zArr 48 (0, 0)) ∧ wr.heap[w.heap.size + 1]? = some (.cells cs 48 (0, 0)) ∧ MarksOk w.heap.size wr ds ∧ Below w.heap.size w wr)
    (fun a _ => l.length - (intOf (a.tmps.getD 9 undef)).toNat) ?start ?round
  case start => exact ⟨0, [], zArr, _, _, _, _, _, _, _, _, _, _, _, _, _, _, rfl, Nat.zero_le _, zArr_marks, r0, r1, trivial, hB0⟩
  case round =>
    rintro a wr ⟨k, ds, cs, u5, u10, u11, u12, u13, u14, u15, u16, u17, u18, u19, u20, u21, u25, rfl, hk, hcs, g0, g1, hmk, hbw⟩
    by_cases hlt : k < l.length
    · obtain ⟨b, off, rfl, hb, c1, c2⟩ := (h.below hbw).at_ k hlt
      obtain ⟨f1, f2, t1, t2⟩ := ho _ (List.getElem_mem hlt)
      have HS := bx (fun i i1 i2 => @av_take_inArc l k hlt i i1 i2)
      generalize l[k].1 = f at *
      generalize l[k].2 = t at *
      have e1 : IntKind.i64.wrap (t - f) = t - f := IntWalk.i64_in _ (by omega)
      have k1 : (wr.alloc (.cells #[.int .i64 f, .int .i64 t] 44)).cell? ⟨wr.heap.size, 0, none⟩ = some (.int .i64 f) := by rw [cell_of_row _ _ _ _ _ _ (heap_alloc_new wr _)]; rfl
      have k2 : (wr.alloc (.cells #[.int .i64 f, .int .i64 t] 44)).cell? ⟨wr.heap.size, 1, none⟩ = some (.int .i64 t) := by rw [cell_of_row _ _ _ _ _ _ (heap_alloc_new wr _)]; rfl
      go_wp2_with fail
      obtain ⟨W1, hW1⟩ : ∃ W1, wr.alloc (.cells #[.int .i64 f, .int .i64 t] 44) = W1 := ⟨_, rfl⟩
      rw [hW1] at k1 k2 ⊢
      have s1 : W1.heap.size = wr.heap.size + 1 := by rw [← hW1]; simp
      have S1 := bx s1
      have hB1 : Below wr.heap.size wr W1 := by rw [← hW1]; exact (Below.refl _ _).alloc (Nat.le_refl _) _
      have hO1 : KeepsOthers wr W1 := by rw [← hW1]; exact KeepsOthers.alloc _ _
      have HW := bx hW1
      clear hW1 s1
      go_region_held3 (fun w' => w'.cell? ⟨wr.heap.size, 0, none⟩ = some (.int .i64 f) ∧ w'.cell? ⟨wr.heap.size, 1, none⟩ = some (.int .i64 t))
        (first | go_keep)
        (first | (go_at_call 15; refine (attNormal _ _).mono ?_; rintro e w' ⟨rfl, rfl⟩) | (go_at_call 36; refine (way_calls _ _ _).mono ?_; rintro e w' ⟨rfl, rfl⟩))
      go_wp2
      obtain ⟨W2, hW2⟩ : ∃ W2, ((W1.alloc (.cells #[.int .i64 f] 3)).alloc (.cells #[.int .i64 ((t - f) % 360)] 3)).drew = W2 := ⟨_, rfl⟩
      rw [hW2]
      have s2a : W2.heap.size ≤ W1.heap.size + 2 := by rw [← hW2]; simp
      have s2b : W1.heap.size + 2 ≤ W2.heap.size := by rw [← hW2]; simp
      have hB2 : Below W1.heap.size W1 W2 := by rw [← hW2]; exact (((Below.refl _ _).alloc (Nat.le_refl _) _).alloc (by simp) _).drew
      have hO2 : KeepsOthers W1 W2 := by rw [← hW2]; exact ((KeepsOthers.alloc _ _).trans (KeepsOthers.alloc _ _)).trans (KeepsOthers.drew _)
      have x1 : Boxed W2 W1.heap.size 3 (.int .i64 f) := by rw [← hW2]; exact (Boxed.new W1 3 _).alloc _
      have x2 : Boxed W2 (W1.heap.size + 1) 3 (.int .i64 ((t - f) % 360)) := by rw [← hW2]; have := Boxed.new (W1.alloc (.cells #[.int .i64 f] 3)) 3 (.int .i64 ((t - f) % 360)); rw [World.size_alloc] at this; exact this
      have s1a : W1.heap.size ≤ wr.heap.size + 1 := by have := S1.out; omega
      have s1b : wr.heap.size + 1 ≤ W1.heap.size := by have := S1.out; omega
      have hsz := hbw.size
      have hbW : Below w.heap.size w W2 := (hbw.trans (hB1.mono hsz)).trans (hB2.mono (by omega))
      have hmk2 := (hmk.others hO1).others hO2
      have hltd : ∀ d ∈ ds, ∀ D, d.target = .collected D → D < W2.heap.size := by
        intro d hd D hD
        obtain ⟨D', e, hlt'⟩ := hmk.lt d hd
        rw [hD] at e; injection e with e; omega
      have hl1 : w.heap.size + 1 < wr.heap.size := (Array.getElem?_eq_some_iff.1 g1).1
      have z0 : W2.heap[w.heap.size]? = some (.cells zArr 48 (0, 0)) := ((hB2.block _ (by omega)).trans (hB1.block _ (by omega))).trans g0
      have z1 : W2.heap[w.heap.size + 1]? = some (.cells cs 48 (0, 0)) := by
          exact ((hB2.block _ (by omega)).trans (hB1.block _ (by omega))).trans g1
      have hl1 : w.heap.size + 1 < wr.heap.size := (Array.getElem?_eq_some_iff.1 g1).1
      clear hW2
      refine wpIn_wide.1 (wpIn_rangeFunc_ownG (n := 3) rfl (by omega) (gf := 44) (lb := #[.pointer (some ⟨W1.heap.size + 1, 0, none⟩), .pointer (some ⟨W1.heap.size, 0, none⟩)]) (by simp [Act.eval]) trivial (enters_of Try.func44 (by kernel_rfl) rfl)
        (way_stops _ (W1.heap.size + 1) W1.heap.size f ((t - f) % 360) W2 (by omega) (by omega) (by omega) (by omega) x2.cell x1.cell) KeepB.t (KeepB.b (by omega) (by omega)) (Below.refl _ _) (fun _ => rfl)
        (fun pre W => ∃ cs', MarkArr cs' (fun i => av (l.take k) i || pre.any fun y => decide (y.1 = i)) ∧ W.heap[w.heap.size]? = some (.cells zArr 48 (0, 0)) ∧ W.heap[w.heap.size + 1]? = some (.cells cs' 48 (0, 0)) ∧ MarksOk w.heap.size W ds ∧ Below w.heap.size w W)
        (fun _ _ _ => False)
        (fun s X Y row ⟨cs', h1, h2, h3, h4, h5⟩ hg hr => ⟨cs', h1, heap_kept h2 hg (fun r e => (hr r e).2), heap_kept h3 hg (fun r e => (hr r e).2), h4.from_ hg hr hltd, h5.grown hg h5.size (fun r e => by have := (hr r e).1; omega)⟩)
        (fun _ _ _ _ _ h _ _ => h)
        ⟨cs, hcs.congr (fun i _ _ => by simp), z0, z1, hmk2, hbW⟩
        (fun x => { tmps := #[.slice (some ⟨b, off, none⟩) l.length c, undef, .pointer (some ⟨w.heap.size, 0, none⟩), .pointer (some ⟨w.heap.size + 1, 0, none⟩), undef, .pointer (some ⟨wr.heap.size, 0, none⟩), .int .i64 x.1, .slice (some ⟨b, off, none⟩) l.length c, .int .i64 l.length, .int .i64 k, .bool true, .pointer (some ⟨b, off + k * 2, none⟩), .agg #[.int .i64 f, .int .i64 t], .pointer (some ⟨wr.heap.size, 0, none⟩), .int .i64 f, .pointer (some ⟨wr.heap.size, 1, none⟩), .int .i64 t, .pointer (some ⟨wr.heap.size, 0, none⟩), .int .i64 f, .int .i64 (t - f), .int .i64 ((t - f) % 360), .func (.func 44) #[] #[.pointer (some ⟨W1.heap.size + 1, 0, none⟩), .pointer (some ⟨W1.heap.size, 0, none⟩)], .int .i64 x.1, undef, undef, u25, undef], defers := [] }) ?assign ?body ?done ?stop)
      case assign =>
        intro lp x W K hK
        simp only [encDir]
        gi_wp2
        exact hK
      case body =>
        rintro lp pre x W ⟨cs', h1, h2, h3, h4, h5⟩ _
        have hx1 := x.2.1
        have hx2 := x.2.2
        have hcell : W.cell? ⟨w.heap.size + 1, x.1.toNat, none⟩ = some (.bool (av (l.take k) x.1.toNat || pre.any fun y => decide (y.1 = (x.1.toNat : Int)))) := by
          rw [cell_of_row _ _ _ _ _ _ h3]; exact h1.at_ _ (by omega)
        have hfz : W.frozen? ⟨w.heap.size + 1, x.1.toNat, none⟩ = false := by simp [World.frozen?, h3]
        generalize (av (l.take k) x.1.toNat || pre.any fun y => decide (y.1 = (x.1.toNat : Int))) = q at hcell
        have HM := bx h1
        have H2 := bx h2
        have H3 := bx h3
        clear h1 h2 h3
        gi_wp2
        refine ⟨(KeepsOthers.setCell _ _ _).from _, ⟨by simp [World.setCell], Below.heap_setCell _ _ _ _ (by simp only [ne_eq]; omega), Below.heap_setCell _ _ _ _ (by simp only [ne_eq]; omega)⟩, cs'.setIfInBounds x.1.toNat (.bool true), (HM.out.set x).congr (fun i _ _ => by rw [any_snoc_dir, Bool.or_assoc]), ?_, ?_, h4.others (KeepsOthers.setCell _ _ _), h5.setCell (by simp only; omega) _⟩
        · exact (Below.heap_setCell _ _ _ _ (by simp only [ne_eq]; omega)).trans H2.out
        · exact heap_set H3.out
      case done =>
        rintro D xs W hD rfl ⟨cs', h1, h2, h3, h4, h5⟩ hK
        have HM := bx (h1.congr (G := av (l.take (k + 1))) (fun i i1 i2 => by rw [HS.out i i1 i2, arc_way i1 i2]))
        have H2 := bx h2
        have H3 := bx h3
        clear h1 h2 h3
        go_wp2
        refine ⟨⟨k + 1, _, cs', _, _, _, _, _, _, _, _, _, _, _, _, _, _, rfl, by omega, HM.out, H2.out, H3.out, ⟨⟨D, rfl, by omega, hK, ?_⟩, h4⟩, h5⟩, by simp [intOf]; omega⟩
        intro d hd e
        have := hltd d hd D e
        omega
      case stop =>
        rintro D c pre W _ _ h _
        exact h.elim
    · obtain rfl : k = l.length := by omega
      have HM := bx hcs
      have ht : wr.there w.heap.size 0 cs.size := by rw [HM.out.size, ← zArr_size]; exact there_of_heap g0
      have h1c := bx (HM.out.one)
      have HG := bx g1
      clear hcs hk hlt
      go_wp2_with (first | (refine wpList_load_mid rfl 48 _ rfl (w.heap.size + 1) 0 rfl cs.toList _ (range_of_heap HG.out) Try.underlying48 rfl (by rw [Array.length_toList, HM.out.size]; exact Try.size48) ?_) | (refine wpList_store_mid rfl 48 _ _ rfl w.heap.size 0 cs rfl rfl ht (by rw [HM.out.size]; exact Try.size48) h1c.out ?_))
      have hO := keeps_setCells w.heap.size cs.toList 0 wr
      have hB := below_setCells (B := w.heap.size) w.heap.size (Nat.le_refl _) cs.toList 0 wr
      have hR := World.rangeAt_setCells_same wr w.heap.size 0 cs.toList (by simpa using ht)
      refine leaves_marks (B := w.heap.size) ds _ (hmk.others hO) ?_
      intro W' hk
      refine ⟨.agg cs, ?_, cs, rfl, ?_, (hbw.trans hB).trans hk.below⟩
      · have hR' : W'.rangeAt w.heap.size 0 cs.toList := fun j v hv => hk.cell (hR j v hv)
        have := run_loadVar_mid (P := Try.prog) W' w.heap.size 0 48 cs.toList _ hR' Try.underlying48 rfl (by rw [Array.length_toList, HM.out.size]; exact Try.size48)
        simp only [Array.toArray_toList] at this
        exact results_cell1 rfl _ _ _ _ _ rfl this
      · have := HM.out
        rwa [List.take_of_length_le (Nat.le_refl _)] at this
end Go.Proofs.Ytaahdfmbbbjmaaa
