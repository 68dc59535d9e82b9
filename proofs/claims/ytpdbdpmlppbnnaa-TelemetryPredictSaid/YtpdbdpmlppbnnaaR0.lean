/-
  The step from a law's walk to its row, for any readable parameter types: nothing that was there has changed ('Below'), so every argument reads as it did; the result is true.
-/
import Derived.Test.YtpdbdpmlppbnnaaRows
import Derived.WalkKit
import Derived.ProofKit
import Derived.OpenShut
import Derived.Carry
import Derived.Deep.Slices
import Derived.Deep.Fields
import Derived.ChangeSame
import Derived.Below
namespace Go.Proofs.Ytpdbdpmlppbnnaa
open Go.ChangeShapes Go.WideShapes Go.ChangeAt Go.RowKit Go.Deep

section
variable {H : Type} {enc : TypeId × Value → H} {P : Program}
/-- every argument reads behind the call as it read before -/
theorem trodAll_below (hl : laidOutB P = true) {W W' : World} (hb : Below W.heap.size W W') (sp : Nat → Bool) :
    ∀ {ts : List TypeId} {vs : List Value} {ds : List (DataW H)} {p : List MemPlace}, ts.all (fun t => P.readableRec t && decide (t < P.types.size)) = true →
      DataW.TrodAll enc P W 0 (fun _ => true) true ts vs ds p → (∀ x ∈ p, x.block < W.heap.size) → (∀ x ∈ p, sp x.block = true) → DataW.TrodAll enc P W' 0 sp true ts vs ds p
  | [], _, _, _, _, h, _, _ => by
    obtain ⟨rfl, rfl, rfl⟩ := trodAll_nil h
    exact trodAll_mk0
  | t :: ts, vs, ds, p, hr, h, hlt, hsp => by
    match vs, ds, h with
    | v :: vs, d :: ds, h =>
      obtain ⟨p1, p2, h1, h2, rfl⟩ := h
      simp only [List.all_cons, Bool.and_eq_true, decide_eq_true_eq] at hr
      exact ⟨p1, p2, WideElems.Trod_stays hl hr.1.1 hr.1.2 h1 (fun x hx => hb.same (hlt x (by simp [hx]))) (fun x hx => hsp x (by simp [hx])),
        trodAll_below hl hb sp hr.2 h2 (fun x hx => hlt x (by simp [hx])) (fun x hx => hsp x (by simp [hx])), rfl⟩
theorem law_post {f : Func} {s : ChangeSpec} {W W' : World} {args : Array Value} {ds gs : List (DataW H)} {before : List MemPlace} {tb : TypeId}
    (hl : laidOutB P = true) (hp : f.params.toList.all (fun t => P.readableRec t && decide (t < P.types.size)) = true) (hv : s.vars = []) (hr : f.resultTypes = #[tb]) (hbo : P.underlying tb = some .bool)
    (hs : s.fn H (ds ++ gs) = { results := [.lit (.bool true)], args := ds })
    (hW : DataW.Whole enc P f.params.toList s.vars false W args.toList ds gs before) (hb : Below W.heap.size W W') : s.post enc P f false true false false W args (.bool true) W' := by
  have hlt : ∀ p ∈ before, p.block < W.heap.size := fun p hp => hW.lt p hp
  have hW0 := hW
  obtain ⟨p, q, hA, hV, rfl, hz, hn⟩ := hW
  have hq : q = [] ∧ gs = [] := by
    rw [hv] at hV
    obtain ⟨h1, h2⟩ := trodVars_none hV
    exact ⟨h2, h1⟩
  obtain ⟨rfl, rfl⟩ := hq
  have hltp : ∀ x ∈ p, x.block < W.heap.size := fun x hx => hlt x (by simp [hx])
  refine ⟨ds, [], p ++ [], [], p, [], hW0, ?_, ?_, ?_, ?_, fun h => by cases h⟩
  · rw [hs, hr]
    exact trodAll_mk1 (shut_bool hbo true)
  · rw [hs]
    exact trodAll_below hl hb _ hp hA hltp (fun x hx => by simpa using hltp x hx)
  · rw [hs, hv]
    rfl
  · exact World.keptBut_mono (fun x hx => ⟨by simpa using hx, .inr (.inl hx)⟩) (hb.frame (· ∈ p))
end
/-- A slice of structs of one-cell fields that can be read: every field's cell of every element up to the length, with its own reading. -/
theorem open_structs {H : Type} {enc : TypeId × Value → H} {P : Program} {w : World} {base : Nat} {sp : Nat → Bool} {held : Bool} {t e : TypeId} {fs : Array Field} {A : Option Addr} {n c : Nat} {d : DataW H} {ps : List MemPlace}
    (ht : P.underlying t = some (.slice e)) (he : P.underlying e = some (.struct fs)) (hone : oneCellFields P fs = true) (hC : P.cellsOf e = fs.size) (h : DataW.Trod enc P w base sp held t (.slice A n c) d ps) :
    (A = none ∧ n = 0 ∧ c = 0) ∨ ∃ a, A = some a ∧ n ≤ maxLen ∧ ∀ i, i < n → ∀ (j : Nat) (f : Field), fs[j]? = some f →
      ∃ (v : Value) (y : DataW H × List MemPlace) (m : Nat), w.cell? (a.add (i * fs.size + j)) = some v ∧ DataW.trod enc P w base sp held m f.type [v] = some y := by
  obtain ⟨fuel, hf⟩ := h
  rcases open_slice ht hf with ⟨hcs, _⟩ | ⟨a, len, cap, m, k, D, Pl, hcs, _, hlc, hmx, hmm, _, hall⟩
  · refine .inl ?_
    simpa [Value.cells] using hcs
  · simp only [Value.cells, List.cons.injEq, Value.slice.injEq, and_true] at hcs
    obtain ⟨rfl, rfl, rfl⟩ := hcs
    refine .inr ⟨a, rfl, Nat.le_trans hlc hmx, fun i hi j f hj => ?_⟩
    have him : i < m := by rw [hmm]; split <;> omega
    obtain ⟨cells, hcells, htrod⟩ := hall i him
    obtain ⟨ys, k', _, _, hlen, hyl, hfld⟩ := DataW.trod_struct he htrod
    obtain ⟨_, hcl, hat⟩ := World.cells?_some hcells
    have hjf : j < fs.size := (Array.getElem?_eq_some_iff.1 hj).1
    have hjc : j < cells.length := by rw [hlen]; omega
    obtain ⟨ho, hk⟩ := hone_of hone j f hj
    have hy := hfld j f hj
    rw [ho, hk, List.drop_eq_getElem_cons hjc, List.take_succ_cons, List.take_zero] at hy
    refine ⟨cells[j], ys[j]'(by omega), k', ?_, hy.trans (List.getElem?_eq_getElem (by omega))⟩
    have := hat j (by omega)
    rw [hC] at this
    rw [← Go.Deep.add_add, this, List.getElem?_eq_getElem hjc]
theorem Try.laid : laidOutB Try.prog = true := by kernel_rfl

theorem own : ownKnob Try.prog.godebug = none := by kernel_rfl
end Go.Proofs.Ytpdbdpmlppbnnaa
