/-
  Plain law: one monitor for each symptom, its parameter 1 where the symptom shows.
-/
import Derived.Test.YtlogokjjphlkkaaW26
namespace Go.Proofs.Ytlogokjjphlkkaa
open Go.RowKit Go.Shelf

/-- the monitor of a symptom -/
def monS (s : Nat) : Mon := ⟨s, 0, 0, 1, 1, s, [], false⟩
def monsS (n : Nat) : List Mon := (List.range n).map monS
/-- the parameters -/
def valS (sh : List Int) (s : Nat) : Int := if sh.contains (s : Int) then 1 else 0
def valsS (sh : List Int) (n : Nat) : List Int := (List.range n).map (valS sh)
theorem monsS_succ (n : Nat) : monsS (n + 1) = monsS n ++ [monS n] := by simp [monsS, List.range_succ]
theorem valsS_succ (sh : List Int) (n : Nat) : valsS sh (n + 1) = valsS sh n ++ [if sh.contains (n : Int) then 1 else 0] := by simp [valsS, List.range_succ, valS]
theorem monsS_len (n : Nat) : (monsS n).length = n := by simp [monsS]
theorem valsS_len (sh : List Int) (n : Nat) : (valsS sh n).length = n := by simp [valsS]
/-- the symptoms that show, by their numbers -/
def showS (sh : List Int) (n : Nat) : List Int := ((List.range n).filter fun s : Nat => sh.contains (s : Int)).map fun s : Nat => (s : Int)
theorem nx_monS (sh : List Int) (n s : Nat) (hs : s < n) :
    (nxM (valsS sh n) (monS s)).raised = sh.contains (s : Int) ∧ (nxM (valsS sh n) (monS s)).ev = s ∧ uxM (valsS sh n) (monS s) = sh.contains (s : Int) := by
  have hlt : (monS s).par < ((valsS sh n).length : Int) := by rw [valsS_len]; show (s : Int) < n; omega
  have hv : (valsS sh n).getD (monS s).par.toNat 0 = valS sh s := by
    show (valsS sh n).getD ((s : Int).toNat) 0 = valS sh s
    rw [Int.toNat_natCast, List.getD_eq_getElem?_getD, valsS, List.getElem?_map, List.getElem?_range hs]
    rfl
  unfold nxM uxM
  rw [if_pos hlt, hv, decide_eq_true hlt]
  unfold valS
  cases sh.contains (s : Int)
  · refine ⟨?_, rfl, ?_⟩ <;> simp [stepM, upM, dnM, pushP, outB, trues, monS]
  · refine ⟨?_, rfl, ?_⟩ <;> simp [stepM, upM, dnM, pushP, outB, trues, monS]
theorem filter_pick {α : Type} (f : Nat → α) (g : α → Int) (p : α → Bool) (q : Nat → Bool) : ∀ (l : List Nat), (∀ s ∈ l, p (f s) = q s ∧ g (f s) = (s : Int)) → ((l.map f).filter p).map g = (l.filter q).map fun s : Nat => (s : Int)
  | [], _ => rfl
  | a :: t, h => by
    obtain ⟨h1, h2⟩ := h a (by simp)
    have ih := filter_pick f g p q t fun s hs => h s (by simp [hs])
    simp only [List.map_cons, List.filter_cons, h1]
    cases q a
    · simpa using ih
    · simp [h2, ih]
theorem evsM_S (sh : List Int) (n : Nat) : evsM (allM (valsS sh n) (monsS n)) = showS sh n := by
  unfold evsM allM monsS showS
  rw [List.map_map]
  exact filter_pick _ _ _ _ _ fun s hs => ⟨(nx_monS sh n s (List.mem_range.1 hs)).1, (nx_monS sh n s (List.mem_range.1 hs)).2.1⟩
theorem evs_S (sh : List Int) (n : Nat) : evs (uxM (valsS sh n)) (monsS n) = showS sh n := by
  unfold evs monsS showS
  exact filter_pick monS (·.ev) _ _ _ fun s hs => ⟨(nx_monS sh n s (List.mem_range.1 hs)).2.2, rfl⟩
theorem strict_showS (sh : List Int) (n : Nat) : (showS sh n).Pairwise (· < ·) := by
  unfold showS
  rw [List.pairwise_map]
  exact (List.pairwise_lt_range.filter _).imp fun h => by omega
/-- a strictly increasing list of symptoms is what shows -/
theorem showS_eq (sh : List Int) (n : Nat) (h : sh.Pairwise (· < ·)) (hb : ∀ x ∈ sh, 0 ≤ x ∧ x < n) : showS sh n = sh := by
  refine strict_eq (strict_showS sh n) h fun x => ?_
  unfold showS
  rw [List.mem_map]
  constructor
  · rintro ⟨s, hs, rfl⟩
    have := (List.mem_filter.1 hs).2
    simpa using this
  · intro hx
    obtain ⟨h0, h1⟩ := hb x hx
    refine ⟨x.toNat, List.mem_filter.2 ⟨List.mem_range.2 (by omega), ?_⟩, by omega⟩
    rw [show ((x.toNat : Nat) : Int) = x by omega]
    simpa using hx
/-- what Raised answers is what shows -/
theorem raised_S (sh : List Int) (n : Nat) (h : sh.Pairwise (· < ·)) (hb : ∀ x ∈ sh, 0 ≤ x ∧ x < n) : raisedM (allM (valsS sh n) (monsS n)) = sh := by
  rw [raised_two]
  refine strict_eq (strict_sortedI _ (nodup_ddE _)) h fun x => ?_
  rw [mem_sortedI, mem_ddE, evsM_S, showS_eq sh n h hb]
theorem ups_S (sh : List Int) (n : Nat) (h : sh.Pairwise (· < ·)) (hb : ∀ x ∈ sh, 0 ≤ x ∧ x < n) : evs (uxM (valsS sh n)) (monsS n) = sh := by
  rw [evs_S, showS_eq sh n h hb]
end Go.Proofs.Ytlogokjjphlkkaa
