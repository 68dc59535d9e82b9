/-
  Maps from numbers to snapshots in memory; what a call leaves alone.
-/
import Derived.Test.YtpdbdpmlppbnnaaU15
import Derived.Test.YtpdbdpmlppbnnaaU24
import Derived.Maps.OwnSet
import Derived.Maps.OwnIn
namespace Go.Proofs.Ytpdbdpmlppbnnaa
open Go.RowKit Go.Shelf

/-- nothing but the blocks of S has turned -/
structure Off (S : Nat → Prop) (w w' : World) : Prop where
  os : w'.os = w.os
  tape : w'.tape = w.tape
  output : w'.output = w.output
  size : w.heap.size ≤ w'.heap.size
  block : ∀ k, k < w.heap.size → ¬ S k → w'.heap[k]? = w.heap[k]?
theorem Off.of {S : Nat → Prop} {w w' : World} (h : From w w') : Off S w w' := ⟨h.os, h.tape, h.output, h.size, fun k hk _ => h.block k hk⟩
theorem Off.refl (S : Nat → Prop) (w : World) : Off S w w := Off.of (From.refl w)
theorem Off.trans {S : Nat → Prop} {a b c : World} (h : Off S a b) (k : Off S b c) : Off S a c :=
  ⟨k.os.trans h.os, k.tape.trans h.tape, k.output.trans h.output, Nat.le_trans h.size k.size, fun i hi hs => (k.block i (Nat.lt_of_lt_of_le hi h.size) hs).trans (h.block i hi hs)⟩
theorem Off.mono {S T : Nat → Prop} {a b : World} (h : Off S a b) (hs : ∀ k, S k → T k) : Off T a b := ⟨h.os, h.tape, h.output, h.size, fun i hi ht => h.block i hi fun hk => ht (hs i hk)⟩
theorem Off.from {S : Nat → Prop} {a b c : World} (h : Off S a b) (k : From b c) : Off S a c := h.trans (Off.of k)
theorem Off.set {S : Nat → Prop} {a b : World} (h : Off S a b) {r : Nat} (hr : S r ∨ a.heap.size ≤ r) (i : Nat) (x : Value) : Off S a (b.setCell ⟨r, i, none⟩ x) := by
  refine ⟨h.os, h.tape, h.output, by simpa [World.setCell] using h.size, fun k hk hs => ?_⟩
  rw [heap_set_off _ (fun e => by subst e; rcases hr with hr | hr; exact hs hr; omega)]
  exact h.block k hk hs
theorem Off.turned {S : Nat → Prop} {a b c : World} {r : Nat} (h : Off S a b) (hr : S r ∨ a.heap.size ≤ r) (k : b.mapTurned c r) : Off S a c := by
  have g := k.grown
  refine ⟨g.os.trans h.os, g.tape.trans h.tape, g.output.trans h.output, Nat.le_trans h.size g.size, fun i hi hs => ?_⟩
  rw [g.block i (Nat.lt_of_lt_of_le hi h.size) (fun e => by injection e with e; subst e; rcases hr with hr | hr; exact hs hr; omega)]
  exact h.block i hi hs
/-- what Off leaves of an older world -/
theorem From.off {S : Nat → Prop} {w a b : World} (h : From w a) (k : Off S a b) (hs : ∀ i, S i → w.heap.size ≤ i) : From w b :=
  ⟨k.os.trans h.os, k.tape.trans h.tape, k.output.trans h.output, Nat.le_trans h.size k.size, fun i hi => (k.block i (Nat.lt_of_lt_of_le hi h.size) fun e => by have := hs i e; omega).trans (h.block i hi)⟩
/-- the same in the blocks of S -/
def SameOn (S : Nat → Prop) (w w' : World) : Prop := ∀ k, S k → w'.heap[k]? = w.heap[k]?
theorem Off.same {S T : Nat → Prop} {w w' : World} (h : Off S w w') (hT : ∀ k, T k → k < w.heap.size ∧ ¬ S k) : SameOn T w w' := fun k hk => h.block k (hT k hk).1 (hT k hk).2
theorem SameOn.of {S : Nat → Prop} {w w' : World} (h : From w w') (hS : ∀ k, S k → k < w.heap.size) : SameOn S w w' := fun k hk => h.block k (hS k hk)

/-- how the elements of these maps read: as themselves -/
def heldR (v : Value) : Option (DataW Value × List MemPlace) := some (.held v, [])
/-- block b holds a map from numbers of kind q to values; z is the zero value -/
def MapIs (k : TypeId) (q : IntKind) (w : World) (b n : Nat) (z : Value) (M : Int → Option Value) : Prop :=
  ∃ D : DataW Value, w.ownsMap Try.prog k heldR b n D ∧ ∀ x, (Lit.int q x).wf = true → Maps.has D (.int q x) = (M x).isSome ∧ ∀ v, M x = some v → D.atKey (.int q x) (.held z) = .held v
theorem MapIs.lt {k : TypeId} {q : IntKind} {w : World} {b n : Nat} {z : Value} {M : Int → Option Value} (h : MapIs k q w b n z M) : b < w.heap.size := by
  obtain ⟨D, h, _⟩ := h
  exact h.lt
theorem MapIs.sameAt {k : TypeId} {q : IntKind} {w w' : World} {b n : Nat} {z : Value} {M : Int → Option Value} (h : MapIs k q w b n z M) (e : w'.heap[b]? = w.heap[b]?) : MapIs k q w' b n z M := by
  obtain ⟨D, ⟨es, clock, hb, F, hs, hD⟩, h2⟩ := h
  exact ⟨D, ⟨es, clock, e.trans hb, F, hs, hD⟩, h2⟩
theorem MapIs.mono {k : TypeId} {q : IntKind} {w : World} {b n m : Nat} {z : Value} {M : Int → Option Value} (h : MapIs k q w b n z M) (hm : n ≤ m) : MapIs k q w b m z M := by
  obtain ⟨D, h1, h2⟩ := h
  exact ⟨D, h1.mono hm, h2⟩
theorem MapIs.ext {k : TypeId} {q : IntKind} {w : World} {b n : Nat} {z : Value} {M N : Int → Option Value} (h : MapIs k q w b n z M) (e : ∀ x, (Lit.int q x).wf = true → N x = M x) : MapIs k q w b n z N := by
  obtain ⟨D, h1, h2⟩ := h
  exact ⟨D, h1, fun x hx => by rw [e x hx]; exact h2 x hx⟩
theorem mapIs_new (k : TypeId) (q : IntKind) (w : World) (z : Value) : MapIs k q (w.alloc (.map #[] 0)) w.heap.size 0 z (fun _ => none) :=
  ⟨.map [], World.ownsMap_made w _ _ _, fun _ _ => ⟨rfl, fun _ h => by cases h⟩⟩
theorem MapIs.look {k t e : TypeId} {q : IntKind} {w : World} {b n : Nat} {z : Value} {M : Int → Option Value} (h : MapIs k q w b n z M) (hk : Try.prog.underlying k = some (.int q)) (ht : Try.prog.underlying t = some (.map k e)) (hz : (zeroValue e).run Try.prog w = .ok z w) {x : Int} (hx : (Lit.int q x).wf = true) :
    (Instr.lookup t (.map (some b)) (.int q x) true).run Try.prog w = .ok (.tuple #[(M x).getD z, .bool (M x).isSome]) w := by
  obtain ⟨D, h1, h2⟩ := h
  obtain ⟨v, ps, hrun, hv⟩ := h1.look_ok (Maps.int_keyed hk) ht hz (zd := .held z) (zp := []) rfl (Maps.keyOf_int_mk hk hx)
  obtain ⟨a1, a2⟩ := h2 x hx
  rw [hrun, a1]
  unfold heldR at hv
  cases hM : M x with
  | none =>
    rw [hM] at a1
    rw [Maps.atKey_of_not_has a1] at hv
    rw [DataW.held.inj (Prod.mk.inj (Option.some.inj hv)).1]
    rfl
  | some u =>
    rw [a2 u hM] at hv
    rw [DataW.held.inj (Prod.mk.inj (Option.some.inj hv)).1]
    rfl
theorem MapIs.get {k t e : TypeId} {q : IntKind} {w : World} {b n : Nat} {z : Value} {M : Int → Option Value} (h : MapIs k q w b n z M) (hk : Try.prog.underlying k = some (.int q)) (ht : Try.prog.underlying t = some (.map k e)) (hz : (zeroValue e).run Try.prog w = .ok z w) {x : Int} (hx : (Lit.int q x).wf = true) :
    (Instr.lookup t (.map (some b)) (.int q x) false).run Try.prog w = .ok ((M x).getD z) w := by
  obtain ⟨D, h1, h2⟩ := h
  obtain ⟨v, ps, hrun, hv⟩ := h1.lookup (Maps.int_keyed hk) ht hz (zd := .held z) (zp := []) rfl (Maps.keyOf_int_mk hk hx)
  obtain ⟨a1, a2⟩ := h2 x hx
  rw [hrun]
  unfold heldR at hv
  cases hM : M x with
  | none =>
    rw [hM] at a1
    rw [Maps.atKey_of_not_has a1] at hv
    rw [DataW.held.inj (Prod.mk.inj (Option.some.inj hv)).1]
    rfl
  | some u =>
    rw [a2 u hM] at hv
    rw [DataW.held.inj (Prod.mk.inj (Option.some.inj hv)).1]
    rfl
theorem MapIs.put {k t e : TypeId} {q : IntKind} {w : World} {b n : Nat} {z : Value} {M : Int → Option Value} (h : MapIs k q w b n z M) (hk : Try.prog.underlying k = some (.int q)) (ht : Try.prog.underlying t = some (.map k e)) (hn : n ≤ 1000000) {x : Int} (hx : (Lit.int q x).wf = true) (v : Value) :
    ∃ w', (Instr.mapUpdate t (.map (some b)) (.int q x) v).run Try.prog w = .ok () w' ∧ MapIs k q w' b (n + 1) z (fun y => if y = x then some v else M y) ∧ w.mapTurned w' b := by
  obtain ⟨D, h1, h2⟩ := h
  have K := Maps.int_keyed (P := Try.prog) hk
  obtain ⟨w', hrun, o1, t1⟩ := h1.store K ht (by unfold maxLen; omega) (Maps.keyOf_int_mk hk hx) (d := .held v) (ps := []) rfl
  refine ⟨w', hrun, ⟨_, o1, fun y hy => ?_⟩, t1⟩
  dsimp only
  by_cases e : y = x
  · subst e
    rw [if_pos rfl]
    refine ⟨Maps.has_put_same h1.isMap (K.key (Maps.keyOf_int_mk hk hx)) _, fun u hu => ?_⟩
    rw [Option.some.inj hu.symm]
    exact Maps.atKey_put_same h1.isMap (K.key (Maps.keyOf_int_mk hk hx)) _ _
  · rw [if_neg e]
    have hne : Lit.int q y ≠ Lit.int q x := fun h => e (by injection h)
    rw [Maps.has_put_other hne, Maps.atKey_put_other hne]
    exact h2 y hy
theorem MapIs.del {k t e : TypeId} {q : IntKind} {w : World} {b n : Nat} {z : Value} {M : Int → Option Value} (h : MapIs k q w b n z M) (hk : Try.prog.underlying k = some (.int q)) (ht : Try.prog.underlying t = some (.map k e)) {x : Int} (hx : (Lit.int q x).wf = true) (ty : TypeId) :
    ∃ w', (Builtin.delete_ #[t, k] ty #[.map (some b), .int q x]).run Try.prog w = .ok (.tuple #[]) w' ∧ MapIs k q w' b n z (fun y => if y = x then none else M y) ∧ w.mapTurned w' b := by
  obtain ⟨D, h1, h2⟩ := h
  have K := Maps.int_keyed (P := Try.prog) hk
  obtain ⟨w', hrun, o1, t1⟩ := h1.drop K ht (Maps.keyOf_int_mk hk hx) ty
  refine ⟨w', hrun, ⟨_, o1, fun y hy => ?_⟩, t1⟩
  dsimp only
  by_cases e : y = x
  · subst e
    rw [if_pos rfl]
    exact ⟨Maps.has_del_same, fun u hu => by cases hu⟩
  · rw [if_neg e]
    have hne : Lit.int q y ≠ Lit.int q x := fun h => e (by injection h)
    rw [Maps.has_del_other hne, Maps.atKey_del_other hne]
    exact h2 y hy
theorem zero_of {P : Program} {t : TypeId} {i : TypeInfo} {z : Value} (hi : P.info? t = some i) (hz : i.zero = some z) (w : World) : (zeroValue t).run P w = .ok z w := by
  simp [zeroValue, typeInfo, hi, hz]
theorem zero_snap (w : World) : (zeroValue 24).run Try.prog w = .ok (snv 0 (.slice none 0 0)) w := by
  obtain ⟨i, hi, hz, _, _⟩ := info_parts (P := Try.prog) (e := 24) (z := snv 0 (.slice none 0 0)) (size := 2) (bytes := 32) (by kernel_rfl)
  exact zero_of hi hz w
end Go.Proofs.Ytpdbdpmlppbnnaa
