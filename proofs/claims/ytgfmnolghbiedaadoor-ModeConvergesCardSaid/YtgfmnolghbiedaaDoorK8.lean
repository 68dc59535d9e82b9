/-
  Walks of layer 30: the marks that loops over an iterator leave; the call of diagnose.Least up to its loop.
-/
import Derived.Test.YtgfmnolghbiedaaDoorK7
import Derived.Test.YtgfmnolghbiedaaDoorN2
namespace Go.Proofs.YtgfmnolghbiedaaDoor
open Go.RowKit Go.Shelf
attribute [local go_sem] Oper.semAt_some

/-- the blocks for the deferred calls of the loops' rounds, still open, all different, from block B on -/
def MarksOk (B : Nat) (W : World) : List Deferred → Prop
  | [] => True
  | d :: ds => (∃ D, d = { target := .collected D, args := #[] } ∧ B ≤ D ∧ W.heap[D]? = some (.deferred (some [])) ∧ ∀ d' ∈ ds, d'.target ≠ .collected D) ∧ MarksOk B W ds
theorem MarksOk.keep {B : Nat} {W W' : World} (hk : ∀ D, B ≤ D → W.heap[D]? = some (.deferred (some [])) → W'.heap[D]? = some (.deferred (some []))) : ∀ {ds : List Deferred}, MarksOk B W ds → MarksOk B W' ds
  | [], _ => trivial
  | _ :: _, ⟨⟨D, h1, h2, h3, h4⟩, h5⟩ => ⟨⟨D, h1, h2, hk D h2 h3, h4⟩, MarksOk.keep hk h5⟩
theorem MarksOk.others {B : Nat} {W W' : World} {ds : List Deferred} (h : MarksOk B W ds) (hk : KeepsOthers W W') : MarksOk B W' ds := h.keep fun _ _ hh => hk.same _ _ hh rfl
theorem MarksOk.lt {B : Nat} {W : World} : ∀ {ds : List Deferred}, MarksOk B W ds → ∀ d ∈ ds, ∃ D, d.target = .collected D ∧ D < W.heap.size
  | [], _ => by simp
  | d :: ds, ⟨⟨D, h1, h2, h3, h4⟩, h5⟩ => by
    intro d' hd'
    rcases List.mem_cons.1 hd' with rfl | hm
    · exact ⟨D, by rw [h1], (Array.getElem?_eq_some_iff.1 h3).1⟩
    · exact h5.lt d' hm
/-- rows of cells that are written disturb no mark -/
theorem MarksOk.cells {B : Nat} {W W' : World} {row : Option Nat} (hg : W.grownBy W' row) (hr : ∀ r, row = some r → ∃ cs t fz, W.heap[r]? = some (.cells cs t fz)) {ds : List Deferred} (h : MarksOk B W ds) : MarksOk B W' ds :=
  h.keep fun D _ hD => (hg.block D (Array.getElem?_eq_some_iff.1 hD).1 (fun e => by
    obtain ⟨cs, t, fz, hc⟩ := hr D e.symm
    rw [hD] at hc; cases hc)).trans hD
/-- a block that lies behind all marks is turned -/
theorem MarksOk.put {B M : Nat} {W : World} {l : Nat} {o' : Obj} (hl : M ≤ l) : ∀ {ds : List Deferred}, (∀ d ∈ ds, ∀ D, d.target = .collected D → D < M) → MarksOk B W ds → MarksOk B (W.putObj l o') ds
  | [], _, _ => trivial
  | d :: ds, hlt, ⟨⟨D, h1, h2, h3, h4⟩, h5⟩ =>
    ⟨⟨D, h1, h2, (World.putObj_heap_other (by have := hlt d (by simp) D (by rw [h1]); omega)).trans h3, h4⟩, MarksOk.put hl (fun d' hd' => hlt d' (by simp [hd'])) h5⟩
/-- cells are kept, and what lay below B -/
structure CellsKept (B : Nat) (W W' : World) : Prop where
  cells : ∀ (k : Nat) (c : Array Value) (t : TypeId) (fz : Nat × Nat), W.heap[k]? = some (Obj.cells c t fz) → W'.heap[k]? = some (Obj.cells c t fz)
  below : Below B W W'
theorem leaves_marks {F : Fence} {n : Nat} {P : Program} {fn : Func} {tmps : Array Value} {R : Ending → World → Prop} {B : Nat} : ∀ (ds : List Deferred) (W : World), MarksOk B W ds →
    (∀ W', CellsKept B W W' → LeavesIn F n P fn tmps R [] .returning W') → LeavesInM F n P fn tmps R ds .returning W
  | [], W, _, hf => hf W ⟨fun _ _ _ _ h => h, Below.refl _ _⟩
  | d :: ds, W, ⟨⟨D, h1, h2, h3, h4⟩, h5⟩, hf => by
    subst h1
    refine ⟨by simp, .inl ⟨D, _, rfl, run_takeDeferred h3, ?_⟩⟩
    have hlt := (Array.getElem?_eq_some_iff.1 h3).1
    refine leaves_marks (B := B) ds _ ?_ ?_
    · have : ∀ {ds : List Deferred}, (∀ d' ∈ ds, d'.target ≠ .collected D) → MarksOk B W ds → MarksOk B (W.putObj D (.deferred none)) ds := by
        intro ds
        induction ds with
        | nil => intro _ _; trivial
        | cons e es ih =>
          rintro hne ⟨⟨D', g1, g2, g3, g4⟩, g5⟩
          refine ⟨⟨D', g1, g2, (World.putObj_heap_other ?_).trans g3, g4⟩, ih (fun d' hd' => hne d' (by simp [hd'])) g5⟩
          intro e0
          exact hne e (by simp) (by rw [g1, e0])
      exact this h4 h5
    · intro W' hk
      refine hf W' ⟨fun k c t fz hc => hk.cells k c t fz ?_, ?_⟩
      · refine (World.putObj_heap_other ?_).trans hc
        rintro rfl
        rw [h3] at hc; cases hc
      · exact ((Below.refl B W).grown (grownBy_putObj' W D _) (by omega) (fun k e => by cases e; exact h2)).trans hk.below
theorem results_cell2 {fn : Func} {p q : Tmp} {t u : TypeId} (h : fn.results = #[.cell p t, .cell q u]) (tmps : Array Value) (P : Program) (w : World) (a b : Addr) (v x : Value) (hp : tmps.getD p undef = .pointer (some a)) (hq : tmps.getD q undef = .pointer (some b))
    (hl : (loadVar t a).run P w = .ok v w) (hm : (loadVar u b).run P w = .ok x w) : (results fn tmps).run P w = .ok (.tuple #[v, x]) w := by
  have hp' : tmps[p]?.getD undef = .pointer (some a) := by simpa using hp
  have hq' : tmps[q]?.getD undef = .pointer (some b) := by simpa using hq
  simp [results, h, hp', hq', asAddr, hl, hm, Sem.run_bind, Result.andThen]
theorem own_put {X : World} {B n : Nat} {e : TypeId} {size : Nat} {v : Value} {xs : List Value} (h : X.ownsRow B e size v n xs) {l : Nat} {o o' : Obj} (hl : X.heap[l]? = some o) (ho : o.isCells = false) : (X.putObj l o').ownsRow B e size v n xs := by
  refine h.kept (grownBy_putObj' X l o') ?_
  rcases h.2 with ⟨rfl, _⟩ | ⟨g, cap, cur, rfl, hg, hh, _⟩
  · exact .inl rfl
  · refine .inr fun e => ?_
    have : g = l := by simpa [Value.ownBlock] using e
    subst this
    rw [hh] at hl; cases hl; cases ho
theorem boxed_put {X : World} {B : Nat} {t : TypeId} {v : Value} (h : Boxed X B t v) {l : Nat} {o o' : Obj} (hl : X.heap[l]? = some o) (ho : o.isCells = false) : Boxed (X.putObj l o') B t v :=
  (World.putObj_heap_other (by rintro rfl; rw [show X.heap[B]? = _ from h] at hl; cases hl; cases ho)).trans h
theorem irow_own {W : World} {base c : Nat} {A : Option Addr} {l : List Int} (h : W.ownsRow base 3 1 (.slice A l.length c) l.length (ic l)) : IRow W none A c l := by
  obtain ⟨h0, h⟩ := h
  generalize hm : l.length = m at h
  rcases h with ⟨hv, h0⟩ | ⟨g, cap, cur, hv, hg, hh, q1, q2, q3, q4⟩
  · injection hv with e1 e2 e3
    subst e1 e3
    obtain rfl := List.eq_nil_of_length_eq_zero (hm.trans h0)
    exact ⟨by simp, by omega, fun h => absurd rfl h⟩
  · injection hv with e1 e2 e3
    subst e1 e3
    refine ⟨by omega, by unfold maxLen at q2; omega, fun _ => ⟨g, 0, cur, (0, 0), rfl, hh, by simp, fun k hk => ?_⟩⟩
    have h1 : (cur.toList.take (m * 1))[k]? = some (.int .i64 l[k]) := by rw [q4]; simp [ic]
    rw [List.getElem?_take_of_lt (by omega)] at h1
    simpa using h1
theorem CellsKept.cell {B : Nat} {W W' : World} (h : CellsKept B W W') {p : Addr} {v : Value} (hc : W.cell? p = some v) : W'.cell? p = some v := by
  unfold World.cell? at hc
  split at hc
  · rename_i c t fz hh
    unfold World.cell?
    rw [h.cells _ _ _ _ hh]; exact hc
  · cases hc
theorem own_cells {W W' : World} {B n : Nat} {e : TypeId} {size : Nat} {v : Value} {xs : List Value} (h : W.ownsRow B e size v n xs)
    (hk : ∀ (k : Nat) (c : Array Value) (t : TypeId) (fz : Nat × Nat), W.heap[k]? = some (Obj.cells c t fz) → W'.heap[k]? = some (Obj.cells c t fz)) : W'.ownsRow B e size v n xs := by
  refine ⟨h.1, ?_⟩
  rcases h.2 with h | ⟨g, cap, cur, hv, hg, hh, r⟩
  · exact .inl h
  · exact .inr ⟨g, cap, cur, hv, hg, hk _ _ _ _ hh, r⟩
theorem own_len {X : World} {B n : Nat} {e : TypeId} {size : Nat} {v : Value} {xs : List Value} (h : X.ownsRow B e size v n xs) : n ≤ 9223372036854775807 := by
  rcases h.2 with ⟨_, rfl⟩ | ⟨g, cap, cur, _, _, _, q1, q2, _⟩
  · omega
  · unfold maxLen at q2; omega
theorem keeps_below {B : Nat} {X Y : World} (h : Below X.heap.size X Y) : KeepsFrom B X Y := ⟨h.size, fun k _ _ hk _ => (h.block k (Array.getElem?_eq_some_iff.1 hk).1).trans hk⟩
/-- what Least answers -/
def LeastPost (w : World) (o : Option (List Int)) (e : Ending) (Y : World) : Prop :=
  (∃ s A c, o = some s ∧ e = .returned (.tuple #[.slice A s.length c, .bool true]) ∧ Y.ownsRow w.heap.size 3 1 (.slice A s.length c) s.length (ic s) ∧ Below w.heap.size w Y) ∨
  (o = none ∧ e = .returned (.tuple #[.slice none 0 0, .bool false]) ∧ Below w.heap.size w Y)
set_option maxRecDepth 10000 in
theorem least_calls (n : Int) (AG : Option Addr) (cG : Nat) (sh : List (List Int)) (AS : Option Addr) (cS : Nat) (seen : List Int) (AC : Option Addr) (cC : Nat) (clear : List Int) (w : World)
    (hl : Lists w w.heap.size AG sh) (hn : sh.length ≤ 90) (h1 : Ints w w.heap.size AS seen) (hm1 : seen.length ≤ 9223372036854775807) (h2 : Ints w w.heap.size AC clear) (hm2 : clear.length ≤ 9223372036854775807) :
    Calls Tryd.prog 39 #[.agg #[.int .i64 n, .slice AG sh.length cG], .slice AS seen.length cS, .slice AC clear.length cC] w (LeastPost w (leastOf sh seen clear)) := by
  refine (callsIn_wide (n := 3)).1 ?_
  refine callsIn_of_wp_marks Tryd.func39 rfl trivial (wpIn_wide.2 ?_) rfl
  simp only [Tryd.ntmps39, List.size_toArray, List.length_cons, List.length_nil, Nat.reduceAdd, Nat.reduceSub, Array.replicate_succ, Array.replicate_zero, List.push_toArray, List.append_toArray, List.nil_append, List.cons_append]
  go_wp2_with fail
  obtain ⟨W0, hW0⟩ : ∃ W0, (((w.alloc (.cells #[.int .i64 n, .slice AG sh.length cG] 35)).alloc (.cells #[.slice AS seen.length cS] 32)).alloc (.cells #[.slice none 0 0] 32)).alloc (.cells #[.bool false] 4) = W0 := ⟨_, rfl⟩
  have hW : W0.heap.size = w.heap.size + 4 := by rw [← hW0]; simp
  have hB0 : Below w.heap.size w W0 := by rw [← hW0]; exact ((((Below.refl _ w).alloc (Nat.le_refl _) _).alloc (by simp) _).alloc (by simp; omega) _).alloc (by simp; omega) _
  have hG0 : GBox W0 W0.heap.size w.heap.size n sh := by
    rw [← hW0]
    exact ((((gbox_new w n AG cG sh hl (by omega)).below ((Below.refl _ _).alloc (by simp) _)).below (((Below.refl _ _).alloc (by simp) _).mono (Nat.le_refl _))).below (((Below.refl _ _).alloc (by simp) _))).more (by simp)
  have hU0 : UBox W0 W0.heap.size (w.heap.size + 1) seen := by
    have hb1 : Below w.heap.size w (w.alloc (.cells #[.int .i64 n, .slice AG sh.length cG] 35)) := (Below.refl _ w).alloc (Nat.le_refl _) _
    have := ubox_new (w.alloc (.cells #[.int .i64 n, .slice AG sh.length cG] 35)) AS cS seen ((h1.below hb1).more hb1.size) hm1 32
    rw [World.size_alloc] at this
    rw [← hW0]
    exact ((this.below ((Below.refl _ _).alloc (by simp) _)).below ((Below.refl _ _).alloc (by simp) _)).more (by simp)
  have r0 : Boxed W0 (w.heap.size + 1 + 1) 32 (.slice none 0 0) := by
    rw [← hW0]
    have := Boxed.new ((w.alloc (.cells #[.int .i64 n, .slice AG sh.length cG] 35)).alloc (.cells #[.slice AS seen.length cS] 32)) 32 (.slice none 0 0)
    rw [World.size_alloc, World.size_alloc] at this
    exact this.alloc _
  have r1 : Boxed W0 (w.heap.size + 1 + 1 + 1) 4 (.bool false) := by
    rw [← hW0]
    have := Boxed.new (((w.alloc (.cells #[.int .i64 n, .slice AG sh.length cG] 35)).alloc (.cells #[.slice AS seen.length cS] 32)).alloc (.cells #[.slice none 0 0] 32)) 4 (.bool false)
    rw [World.size_alloc, World.size_alloc, World.size_alloc] at this
    exact this
  rw [hW0]
  refine (cand_calls n AG cG sh AC cC clear W0 ((hl.below hB0).more hB0.size) (by omega) ((h2.below hB0).more hB0.size) hm2).mono ?_
  rintro e W1 ⟨A8, c8, rfl, o8, hB1⟩
  have hs1 := hB1.size
  have hG1 := (hG0.below hB1).more hs1
  have hU1 := (hU0.below hB1).more hs1
  have x0 : Boxed W1 (w.heap.size + 1 + 1) 32 (.slice none 0 0) := (hB1.block _ (by omega)).trans r0
  have x1 : Boxed W1 (w.heap.size + 1 + 1 + 1) 4 (.bool false) := (hB1.block _ (by omega)).trans r1
  clear hG0 hU0 r0 r1 hW0 hl h1 h2
  have hle := cand_len sh clear
  obtain ⟨l, hcl⟩ : ∃ l, cand sh clear = l := ⟨_, rfl⟩
  rw [hcl] at o8 hle ⊢
  have HC := bx hcl
  clear hcl
  have hrow1 : IRow W1 none A8 c8 l := irow_own o8
  go_wp2
  refine wp_loop (fun a wr => ∃ (k : Nat) (ds : List Deferred) (u9 u10 u18 u19 u20 u21 u22 u23 u24 u25 u26 u27 u28 u29 : Value), a = { tmps := #[.agg #[.int .i64 n, .slice AG sh.length cG], .slice AS seen.length cS, .slice AC clear.length cC, .pointer (some ⟨w.heap.size, 0, none⟩), .pointer (some ⟨w.heap.size + 1, 0, none⟩), undef, .pointer (some ⟨w.heap.size + 1 + 1, 0, none⟩), .pointer (some ⟨w.heap.size + 1 + 1 + 1, 0, none⟩), .slice A8 l.length c8, u9, u10, .agg #[.int .i64 n, .slice AG sh.length cG], .slice AC clear.length cC, .slice A8 l.length c8, .slice A8 l.length c8, .int .i64 l.length, .int .i64 (l.length + 1), .int .i64 k, u18, u19, u20, u21, u22, u23, u24, u25, u26, u27, u28, u29], defers := ds } ∧
      k ≤ l.length + 1 ∧ (∀ j, j < k → noneAt sh seen l j) ∧ MarksOk w.heap.size wr ds ∧ Below W1.heap.size W1 wr)
    (fun a _ => l.length + 1 - (intOf (a.tmps.getD 17 undef)).toNat) ?start ?round
  case start => exact ⟨0, [], _, _, _, _, _, _, _, _, _, _, _, _, _, _, rfl, by omega, fun j hj => absurd hj (by omega), trivial, Below.refl _ _⟩
  case round =>
    rintro a wr ⟨k, ds, u9, u10, u18, u19, u20, u21, u22, u23, u24, u25, u26, u27, u28, u29, rfl, hk, hno, hmk, hbw⟩
    have Hno := bx hno
    clear hno
    by_cases hlt : k < l.length + 1
    · go_wp2_with (go_at_call 51; refine (subsets_calls _ _ _ _ _).mono ?_; rintro e w' ⟨rfl, rfl⟩)
      obtain ⟨W2, hW2⟩ : ∃ W2, (wr.alloc (.cells #[.slice A8 l.length c8] 32)).alloc (.cells #[.int .i64 k] 3) = W2 := ⟨_, rfl⟩
      have s2 : W2.heap.size = wr.heap.size + 2 := by rw [← hW2]; simp
      have hb2 : Below wr.heap.size wr W2 := by rw [← hW2]; exact ((Below.refl _ _).alloc (Nat.le_refl _) _).alloc (by simp) _
      have hO2 : KeepsOthers wr W2 := by rw [← hW2]; exact (KeepsOthers.alloc _ _).trans (KeepsOthers.alloc _ _)
      have y0 : Boxed W2 wr.heap.size 32 (.slice A8 l.length c8) := by rw [← hW2]; exact (Boxed.new wr _ _).alloc _
      have y1 : Boxed W2 (wr.heap.size + 1) 3 (.int .i64 k) := by rw [← hW2]; have := Boxed.new (wr.alloc (.cells #[.slice A8 l.length c8] 32)) 3 (.int .i64 k); rw [World.size_alloc] at this; exact this
      rw [hW2]
      clear hW2
      have hbW : Below W1.heap.size W1 W2 := hbw.trans (hb2.mono hbw.size)
      have hmk2 := hmk.others hO2
      have hltd : ∀ d ∈ ds, ∀ D, d.target = .collected D → D < W2.heap.size := by
        intro d hd D hD
        obtain ⟨D', e, hlt'⟩ := hmk.lt d hd
        rw [hD] at e; injection e with e; omega
      have hs2 := hbW.size
      have hrow2 : IRow W2 none A8 c8 l := hrow1.moved (KInt.of_grown (grown_of_below hbW none)) (fun r e => by cases e)
      refine wpIn_wide.1 (range_feeds (n := 3) (by omega) (gf := 54) (lb := #[.pointer (some ⟨wr.heap.size, 0, none⟩), .pointer (some ⟨wr.heap.size + 1, 0, none⟩)]) (by simp [Act.eval]) (enters_of Tryd.func54 (by kernel_rfl) rfl)
        (sets_feeds _ wr.heap.size (wr.heap.size + 1) A8 c8 l k W2 (by omega) (by omega) y0.cell y1.cell hrow2 (by omega)) (fun _ => rfl)
        (fun B pre r X h => ⟨h.1, h.2.2.elim fun cs h => ⟨cs, _, h⟩⟩)
        KInt.trans (fun X l _ o' h hc => ⟨by simp, fun b cs fz hb _ => (World.putObj_heap_other (by rintro rfl; rw [h] at hb; cases hb; cases hc)).trans hb⟩)
        (fun B pre x X l o o' h ho hc => ⟨h.1, own_put h.2 ho hc⟩)
        (fun pre W => (∀ y ∈ pre, expl sh y.s seen [] = false) ∧ MarksOk w.heap.size W ds ∧ Below W1.heap.size W1 W)
        (fun pre W => ∃ (pre' : List Slc) (x : Slc), pre = pre' ++ [x] ∧ (∀ y ∈ pre', expl sh y.s seen [] = false) ∧ expl sh x.s seen [] = true ∧ Boxed W (w.heap.size + 1 + 1) 32 x.v ∧ Boxed W (w.heap.size + 1 + 1 + 1) 4 (.bool true) ∧
          W.ownsRow w.heap.size 3 1 x.v x.s.length (ic x.s) ∧ MarksOk w.heap.size W ds ∧ Below w.heap.size w W)
        (fun pre X Y row ⟨h1, h2, h3⟩ hg hr => ⟨h1, h2.cells hg (fun r e => (hr r e).2.2.elim fun cs h => ⟨cs, _, h⟩), h3.grown hg h3.size (fun r e => by have := (hr r e).1; omega)⟩)
        (fun pre X l o o' hl ho hc ⟨h1, h2, h3⟩ => ⟨h1, h2.put hl hltd, h3.grown (grownBy_putObj' X l o') h3.size (fun r e => by cases e; omega)⟩)
        (fun pre X Y ⟨pre', x, h1, h2, h3, h4, h5, h6, h7, h8⟩ hg => ⟨pre', x, h1, h2, h3, h4.kept hg (by simp), h5.kept hg (by simp), h6.kept hg (by cases x.v.ownBlock <;> simp), h7.cells hg (fun r e => by cases e), h8.grown hg h8.size (fun r e => by cases e)⟩)
        (fun pre X l o o' hl ho hc ⟨pre', x, h1, h2, h3, h4, h5, h6, h7, h8⟩ => ⟨pre', x, h1, h2, h3, boxed_put h4 ho hc, boxed_put h5 ho hc, own_put h6 ho hc, h7.put hl hltd, h8.grown (grownBy_putObj' X l o') h8.size (fun r e => by cases e; have := hB0.size; omega)⟩)
        ⟨by simp, hmk2, hbW⟩
        (fun x => { tmps := #[.agg #[.int .i64 n, .slice AG sh.length cG], .slice AS seen.length cS, .slice AC clear.length cC, .pointer (some ⟨w.heap.size, 0, none⟩), .pointer (some ⟨w.heap.size + 1, 0, none⟩), undef, .pointer (some ⟨w.heap.size + 1 + 1, 0, none⟩), .pointer (some ⟨w.heap.size + 1 + 1 + 1, 0, none⟩), .slice A8 l.length c8, .int .i64 k, x.v, .agg #[.int .i64 n, .slice AG sh.length cG], .slice AC clear.length cC, .slice A8 l.length c8, .slice A8 l.length c8, .int .i64 l.length, .int .i64 (l.length + 1), .int .i64 k, .bool true, .int .i64 k, .slice A8 l.length c8, .int .i64 k, .func (.func 54) #[] #[.pointer (some ⟨wr.heap.size, 0, none⟩), .pointer (some ⟨wr.heap.size + 1, 0, none⟩)], x.v, u24, u25, u26, u27, u28, u29], defers := [] }) ?assign ?body ?done ?stop)
      case assign =>
        intro m lp x W K hK
        gi_wp2
        exact hK
      case body =>
        rintro m lp pre ⟨xA, xc, xs⟩ X ⟨hp, hmkX, hbX⟩ hel
        obtain ⟨x, hxx⟩ : ∃ x : Slc, (⟨xA, xc, xs⟩ : Slc) = x := ⟨_, rfl⟩
        have hel' : X.ownsRow (W2.heap.size + 2) 3 1 (.slice xA xs.length xc) xs.length (ic xs) := hel.2
        simp only [Slc.v]
        clear hel hxx x
        obtain ⟨_, l1, g0, AG', cG', gg1, hlX⟩ := (hG1.below hbX).more hbX.size
        obtain ⟨_, l2, AU, cU, u0, hiX⟩ := (hU1.below hbX).more hbX.size
        have Hx := bx (ints_of_own hel')
        have hsX := hbX.size
        have hlen := own_len hel'
        cases hv : expl sh xs seen []
        · have HV := bx hv
          clear hv
          gi_wp2_with fail
          refine ⟨trivial, wide_n, ?_⟩
          refine (CallsIn.inRound lp (callsIn_wide.2 (explains_calls n AG' cG' sh xA xc xs AU cU seen none 0 [] X hlX l1 Hx.out hlen hiX l2 Ints.nil (by simp) false HV.out))).mono ?_
          rintro e w5 ⟨rfl, hb5⟩
          gi_wp2
          refine ⟨keeps_below hb5, KInt.of_grown (grown_of_below hb5 none), ?_, hmkX.cells (grown_of_below hb5 none) (fun r e => by cases e), hbX.trans (hb5.mono hsX)⟩
          intro y hy
          rcases List.mem_append.1 hy with hy | hy
          · exact hp y hy
          · obtain rfl := List.mem_singleton.1 hy; exact HV.out
        · have HV := bx hv
          clear hv
          gi_wp2_with fail
          refine ⟨trivial, wide_n, ?_⟩
          refine (CallsIn.inRound lp (callsIn_wide.2 (explains_calls n AG' cG' sh xA xc xs AU cU seen none 0 [] X hlX l1 Hx.out hlen hiX l2 Ints.nil (by simp) true HV.out))).mono ?_
          rintro e w5 ⟨rfl, hb5⟩
          have z0 : Boxed w5 (w.heap.size + 1 + 1) 32 (.slice none 0 0) := ((hb5.block _ (by omega)).trans (hbX.block _ (by omega))).trans x0
          have z1 : Boxed w5 (w.heap.size + 1 + 1 + 1) 4 (.bool false) := ((hb5.block _ (by omega)).trans (hbX.block _ (by omega))).trans x1
          have z0c := z0.cell
          have z0f := z0.frozen
          have z1c := z1.cell
          have z1f := z1.frozen
          gi_wp2
          have hb15 := hbX.trans (hb5.mono hsX)
          have hbw5 : Below w.heap.size w w5 := hB0.trans ((hB1.trans (hb15.mono hs1)).mono hB0.size)
          have hne : ∀ r, (Value.slice xA xs.length xc).ownBlock = some r → W2.heap.size + 2 ≤ r := fun r e => (own_lt hel' e).1
          refine ⟨(keeps_below hb5).trans (((KeepsOthers.setCell _ _ _).trans (KeepsOthers.setCell _ _ _)).from _), pre, ⟨xA, xc, xs⟩, rfl, hp, HV.out, (z0.set _).other (by omega) _, (z1.other (by omega) _).set _, ?_, ?_, (hbw5.setCell (p := ⟨w.heap.size + 1 + 1, 0, none⟩) (by simp only; omega) _).setCell (p := ⟨w.heap.size + 1 + 1 + 1, 0, none⟩) (by simp only; omega) _⟩
          · exact ((own_base (hel'.kept (grown_of_below hb5 none) (by cases (Value.slice xA xs.length xc).ownBlock <;> simp)) (by omega)).kept (grownBy_setCell' _ _ _) (.inr fun e => by have := hne _ e; omega)).kept (grownBy_setCell' _ _ _) (.inr fun e => by have := hne _ e; omega)
          · exact (hmkX.cells (grown_of_below hb5 none) (fun r e => by cases e)).others ((KeepsOthers.setCell _ _ _).trans (KeepsOthers.setCell _ _ _))
      case done =>
        rintro D xs W hD hS ⟨h1, h2, h3⟩ hK
        have HN := bx (show ∀ j, j < k + 1 → noneAt sh seen l j by
          intro j hj
          by_cases hjk : j < k
          · exact Hno.out j hjk
          · obtain rfl : j = k := by omega
            intro t ht
            rw [← hS] at ht
            obtain ⟨y, hy, rfl⟩ := List.mem_map.1 ht
            exact h1 y hy)
        go_wp2
        refine ⟨⟨k + 1, _, _, _, _, _, _, _, _, _, _, _, _, _, _, _, rfl, by omega, HN.out, ⟨⟨D, rfl, by omega, hK, ?_⟩, h2⟩, h3⟩, by simp [intOf]; omega⟩
        intro d hd e
        have := hltd d hd D e
        omega
      case stop =>
        rintro D pre W hD hSp ⟨pre', x, rfl, h2, h3, h4, h5, h6, h7, h8⟩ hK
        have HF := bx (show leastOf sh seen clear = some x.s from least_found (k := k) (pre := pre'.map (·.s)) (by rw [HC.out]; omega) (by rw [HC.out]; exact Hno.out) (by rw [HC.out]; simpa using hSp)
          (fun t ht => by obtain ⟨y, hy, rfl⟩ := List.mem_map.1 ht; exact h2 y hy) h3)
        gi_wp2
        refine leaves_marks (B := w.heap.size) (_ :: ds) _ ⟨⟨D, rfl, by omega, hK, fun d hd e => by have := hltd d hd D e; omega⟩, h7⟩ ?_
        intro W' hk
        have c4 := hk.cell h4.cell
        have c5 := hk.cell h5.cell
        exact ⟨.tuple #[.slice x.A x.s.length x.c, .bool true], by simp [results, Tryd.results39, go_sem, c4, c5, Slc.v], .inl ⟨x.s, x.A, x.c, HF.out, rfl, own_cells h6 hk.cells, h8.trans hk.below⟩⟩
    · obtain rfl : k = l.length + 1 := by omega
      have z0 : Boxed wr (w.heap.size + 1 + 1) 32 (.slice none 0 0) := (hbw.block _ (by omega)).trans x0
      have z1 : Boxed wr (w.heap.size + 1 + 1 + 1) 4 (.bool false) := (hbw.block _ (by omega)).trans x1
      have z0c := z0.cell
      have z0f := z0.frozen
      have z1c := z1.cell
      have z1f := z1.frozen
      have HF := bx (show leastOf sh seen clear = none from least_none (by rw [HC.out]; exact Hno.out))
      have hbwr : Below w.heap.size w wr := hB0.trans ((hB1.trans (hbw.mono hs1)).mono hB0.size)
      go_wp2
      refine leaves_marks (B := w.heap.size) ds _ (hmk.others ((KeepsOthers.setCell _ _ _).trans (KeepsOthers.setCell _ _ _))) ?_
      intro W' hk
      have c4 := hk.cell ((z0.set (.slice none 0 0)).other (B' := w.heap.size + 1 + 1 + 1) (by omega) (.bool false)).cell
      have c5 := hk.cell ((z1.other (B' := w.heap.size + 1 + 1) (by omega) (.slice none 0 0)).set (.bool false)).cell
      exact ⟨.tuple #[.slice none 0 0, .bool false], by simp [results, Tryd.results39, go_sem, c4, c5], .inr ⟨HF.out, rfl, ((hbwr.setCell (p := ⟨w.heap.size + 1 + 1, 0, none⟩) (by simp only; omega) _).setCell (p := ⟨w.heap.size + 1 + 1 + 1, 0, none⟩) (by simp only; omega) _).trans hk.below⟩⟩
end Go.Proofs.YtgfmnolghbiedaaDoor
