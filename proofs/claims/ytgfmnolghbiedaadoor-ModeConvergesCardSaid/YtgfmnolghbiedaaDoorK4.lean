/-
  A range over a function whose iterator writes rows of its own and hands out rows that it has made: the iterator's contract, and what its caller owes.
-/
import Derived.Test.YtgfmnolghbiedaaDoorK3
import Derived.RangeFuncNested
import Derived.RangeFuncBound
import Derived.RangeFuncCalls
import Derived.RangeFuncLeaves
import Derived.Shelf.Abstract
import Derived.Shelf.RegionOpen
import Derived.OwnWalkIn
import Derived.TacticsInMore
import Derived.LoopNIn
import Derived.LoopIn
namespace Go.Proofs.YtgfmnolghbiedaaDoor
open Go.RowKit Go.Shelf

/-- the iterator's contract: El: what is known of an element where it is handed out; Row: which blocks the iterator writes; Kp: what a round must leave as it lay -/
def Feeds {α : Type} (n : Nat) (P : Program) (gf : Nat) (lb : Array Value) (enc : α → Array Value) (El : Nat → List α → α → World → Prop) (Row : Nat → List α → Nat → World → Prop) (Kp : World → World → Prop) (S Sp : List α → Prop) (w0 : World) : Prop :=
  ∀ (l : Nat) (J Jx : List α → World → Prop) (W : World), Below w0.heap.size w0 W →
    (∀ pre X Y row, J pre X → X.grownBy Y row → (∀ r, row = some r → Row W.heap.size pre r X) → J pre Y) →
    (∀ pre X Y, Jx pre X → X.grownBy Y none → Jx pre Y) →
    (∀ m pre x X, J pre X → El W.heap.size pre x X → YieldAt Fence.wide m P l (enc x) X fun e Y =>
      (e = .returned (.bool true) ∧ J (pre ++ [x]) Y ∧ Kp X Y) ∨ (e = .returned (.bool false) ∧ Jx (pre ++ [x]) Y)) →
    J [] W →
    CallsIn Fence.wide n P gf (#[.func (.yield l) #[] #[]] ++ lb) W fun e Y => (∃ v, e = .returned v) ∧ ((∃ xs, S xs ∧ J xs Y) ∨ (∃ xs, Sp xs ∧ Jx xs Y))

/-- how a round may end -/
def RoundEnd {α : Type} (B : Nat) (Kp : World → World → Prop) (I Ix : List α → World → Prop) (xs : List α) (X : World) : Exit → Act → World → Prop
  | .normal, _, Y => KeepsFrom B X Y ∧ Kp X Y ∧ I xs Y
  | .ret, _, Y => KeepsFrom B X Y ∧ Ix xs Y
  | _, _, _ => False

variable {P : Program} {w : World}
theorem range_feeds {α : Type} {g : Operand} {ps : Array Tmp} {assign body : Code} {Q : Exit → Act → World → Prop} {a : Act} {n gf : Nat} {lb : Array Value} (hn : 1 ≤ n)
    {enc : α → Array Value} {El : Nat → List α → α → World → Prop} {Row : Nat → List α → Nat → World → Prop} {Kp : World → World → Prop} {S Sp : List α → Prop}
    (hg : a.eval g = .func (.func gf) #[] lb) (eg : ∀ args w, (callFunc gf args).run P w = .ok (.enter gf args) w) (hfeed : Feeds (n - 1) P gf lb enc El Row Kp S Sp w) (hps : ∀ x, (enc x).size = ps.size)
    (hRow : ∀ B pre r X, Row B pre r X → B ≤ r ∧ ∃ cs t fz, X.heap[r]? = some (.cells cs t fz))
    (hKt : ∀ {A B C : World}, Kp A B → Kp B C → Kp A C) (hKo : ∀ (X : World) (l : Nat) (o o' : Obj), X.heap[l]? = some o → o.isCells = false → Kp X (X.putObj l o'))
    (hElo : ∀ B pre x (X : World) (l : Nat) (o o' : Obj), El B pre x X → X.heap[l]? = some o → o.isCells = false → El B pre x (X.putObj l o'))
    (I Ix : List α → World → Prop)
    (hIr : ∀ pre X Y row, I pre X → X.grownBy Y row → (∀ r, row = some r → Row (w.heap.size + 2) pre r X) → I pre Y)
    (hIo : ∀ pre (X : World) (l : Nat) (o o' : Obj), w.heap.size ≤ l → X.heap[l]? = some o → o.isCells = false → I pre X → I pre (X.putObj l o'))
    (hIxn : ∀ pre X Y, Ix pre X → X.grownBy Y none → Ix pre Y)
    (hIxo : ∀ pre (X : World) (l : Nat) (o o' : Obj), w.heap.size ≤ l → X.heap[l]? = some o → o.isCells = false → Ix pre X → Ix pre (X.putObj l o'))
    (h0 : I [] w) (a₁ : α → Act)
    (hassign : ∀ (m l : Nat) (x : α) (W : World) (K : Act → World → Prop), K (a₁ x) W →
      assign.wpIn (Fence.wide.inRound l) m P (Exit.then K (fun _ _ _ => False)) { tmps := (ps.zip (enc x)).foldl (fun t (p, v) => t.setIfInBounds p v) a.tmps, defers := [] } W)
    (hbody : ∀ (m l : Nat) (pre : List α) (x : α) (X : World), I pre X → El (w.heap.size + 2) pre x X → body.wpIn (Fence.wide.inRound l) m P (RoundEnd w.heap.size Kp I Ix (pre ++ [x]) X) (a₁ x) X)
    (hdone : ∀ (D : Nat) (xs : List α) (W : World), w.heap.size ≤ D → S xs → I xs W → W.heap[D]? = some (.deferred (some [])) → Q .normal { a with defers := { target := .collected D, args := #[] } :: a.defers } W)
    (hstop : ∀ (D : Nat) (pre : List α) (W : World), w.heap.size ≤ D → Sp pre → Ix pre W → W.heap[D]? = some (.deferred (some [])) → Code.ret.wpIn Fence.wide n P Q { a with defers := { target := .collected D, args := #[] } :: a.defers } W) :
    (Code.rangeFunc g ps assign body).wpIn Fence.wide n P Q a w := by
  refine wpIn_rangeFunc fun fn hfn => ?_
  -- the loop's record in each of its states
  let rec' : LoopState → Option Code → Obj := fun st pe => .loop { state := st, pending := pe, fn, tmps := a.tmps, params := ps, assign, body, defers := w.heap.size }
  have hrc : ∀ st pe, (rec' st pe).isCells = false := fun _ _ => rfl
  let W1 : World := (w.alloc (.deferred (some []))).alloc (rec' .ready none)
  have s1 : W1.heap.size = w.heap.size + 2 := by simp [W1]
  have bD : W1.heap[w.heap.size]? = some (.deferred (some [])) := (Below.heap_alloc _ _ _ (by simp)).trans (World.alloc_heap_new w _)
  have bR : W1.heap[w.heap.size + 1]? = some (rec' .ready none) := by
    have := World.alloc_heap_new (w.alloc (.deferred (some []))) (rec' .ready none); rwa [World.size_alloc] at this
  refine ⟨w.heap.size + 1, [{ target := .collected w.heap.size, args := #[] }], W1, { target := .fn (.func gf) lb, args := #[.func (.yield (w.heap.size + 1)) #[] #[]] }, W1, gf,
    #[.func (.yield (w.heap.size + 1)) #[] #[]] ++ lb, W1, run_enterLoop_outer _ _ _ _ _, ?_, fun _ _ => trivial, ?_, fun _ => hn, ?_⟩
  · simp only [resolve, hg]; simp [go_sem]
  · simp [invoke, go_sem, eg]
  -- a block that is no cells stands through what the iterator writes
  have stands : ∀ {X Y : World} {row : Option Nat} {k : Nat} {o : Obj}, X.grownBy Y row → (∀ r, row = some r → ∃ cs t fz, X.heap[r]? = some (.cells cs t fz)) → X.heap[k]? = some o → o.isCells = false → Y.heap[k]? = some o := by
    intro X Y row k o hgr hr hk ho
    refine (hgr.block k (Array.getElem?_eq_some_iff.1 hk).1 fun e => ?_).trans hk
    obtain ⟨cs, t, fz, h⟩ := hr k e.symm
    rw [hk] at h; cases h; cases ho
  refine (hfeed (w.heap.size + 1)
    (fun pre X => I pre X ∧ X.heap[w.heap.size + 1]? = some (rec' .ready none) ∧ X.heap[w.heap.size]? = some (.deferred (some [])))
    (fun pre X => Ix pre X ∧ X.heap[w.heap.size + 1]? = some (rec' .done (some .ret)) ∧ X.heap[w.heap.size]? = some (.deferred (some [])))
    W1 (((Below.refl _ w).alloc (Nat.le_refl _) _).alloc (by simp) _) ?_ ?_ ?_ ⟨?_, bR, bD⟩).mono ?_
  · rintro pre X Y row ⟨hi, hl, hd⟩ hgr hr
    have hr' : ∀ r, row = some r → ∃ cs t fz, X.heap[r]? = some (.cells cs t fz) := fun r e => (hRow _ _ _ _ (hr r e)).2
    exact ⟨hIr pre X Y row hi hgr (fun r e => by rw [← s1]; exact hr r e), stands hgr hr' hl rfl, stands hgr hr' hd rfl⟩
  · rintro pre X Y ⟨hi, hl, hd⟩ hgr
    exact ⟨hIxn pre X Y hi hgr, stands hgr (fun r e => by cases e) hl rfl, stands hgr (fun r e => by cases e) hd rfl⟩
  · -- one round
    rintro m pre x X ⟨hi, hl, hd⟩ hel
    rw [s1] at hel
    have hlt : w.heap.size + 1 < X.heap.size := (Array.getElem?_eq_some_iff.1 hl).1
    refine ⟨fn, _, assign, body, run_yield (P := P) (args := enc x) hl (hps x), roundIn_of_wpIn hfn (hassign m _ x X _ ⟨_, run_beginRound hl rfl, ?_⟩)⟩
    let X1 : World := X.putObj (w.heap.size + 1) (rec' .busy none)
    have l1 : X1.heap[w.heap.size + 1]? = some (rec' .busy none) := World.putObj_heap_same hlt
    have d1 : X1.heap[w.heap.size]? = some (.deferred (some [])) := (World.putObj_heap_other (by omega)).trans hd
    refine wpIn_mono (hbody m _ pre x X1 (hIo _ _ _ _ _ (by omega) hl rfl hi) (hElo _ _ _ _ _ _ _ hel hl rfl)) ?_
    intro e a3 Y hp
    cases e with
    | normal =>
      obtain ⟨hk, hkp, hi3⟩ := hp
      have l3 := hk.same _ _ (by omega) l1 rfl
      have d3 := hk.same _ _ (Nat.le_refl _) d1 rfl
      refine ⟨_, _, run_endRound (P := P) none l3, .inl ⟨rfl, ⟨hIo _ _ _ _ _ (by omega) l3 rfl hi3, World.putObj_heap_same (Array.getElem?_eq_some_iff.1 l3).1, (World.putObj_heap_other (by omega)).trans d3⟩, ?_⟩⟩
      exact hKt (hKt (hKo _ _ _ _ hl rfl) hkp) (hKo _ _ _ _ l3 rfl)
    | ret =>
      obtain ⟨hk, hi3⟩ := hp
      have l3 := hk.same _ _ (by omega) l1 rfl
      have d3 := hk.same _ _ (Nat.le_refl _) d1 rfl
      exact ⟨_, _, run_endRound (P := P) (some .ret) l3, .inr ⟨rfl, hIxo _ _ _ _ _ (by omega) l3 rfl hi3, World.putObj_heap_same (Array.getElem?_eq_some_iff.1 l3).1, (World.putObj_heap_other (by omega)).trans d3⟩⟩
    | exit id => exact hp.elim
    | goto t => exact hp.elim
    | panic ch => exact hp.elim
    | outgrown => exact hp.elim
  · exact hIr [] _ _ none (hIr [] _ _ none h0 (World.grownBy_alloc w _ none) (fun r e => by cases e)) (World.grownBy_alloc _ _ none) (fun r e => by cases e)
  · -- behind the iterator
    rintro e Y ⟨⟨v, rfl⟩, (⟨xs, hS, hi, hl, hd⟩ | ⟨xs, hS, hi, hl, hd⟩)⟩
    · exact ⟨none, _, run_endLoop (P := P) hl (by simp), hdone _ xs _ (Nat.le_refl _) hS (hIo _ _ _ _ _ (by omega) hl rfl hi) ((World.putObj_heap_other (by omega)).trans hd)⟩
    · exact ⟨some .ret, _, run_endLoop (P := P) hl (by simp), hstop _ xs _ (Nat.le_refl _) hS (hIxo _ _ _ _ _ (by omega) hl rfl hi) ((World.putObj_heap_other (by omega)).trans hd)⟩
end Go.Proofs.YtgfmnolghbiedaaDoor
