/-
  Arguments opened: bytes with their capacity and the form's reach; a snapshot.
-/
import Derived.Test.YtpdbdpmlppbnnaaR2
import Derived.Test.YtpdbdpmlppbnnaaU10
import Derived.SizedLaws
import Derived.HandedShaped
namespace Go.Proofs.Ytpdbdpmlppbnnaa
open Go.ChangeShapes Go.WideShapes Go.ChangeAt Go.RowKit Go.Deep Go.Joins

theorem sized_mem {H : Type} {P : Program} {ts : List TypeId} {ds : List (DataW H)} (h : (DataW.weightsEach P ts ds).all (· ≤ reachBytes) = true) {j : Nat} {t : TypeId} {d : DataW H} (ht : ts[j]? = some t) (hd : ds[j]? = some d) : ∀ n ∈ d.weights P t, n ≤ reachBytes := fun n hn => by
  have := List.all_eq_true.1 h n (DataW.weights_mem_each ht hd n hn)
  simpa using this
theorem slice_reach {H : Type} {enc : TypeId × Value → H} {W : World} {t e : TypeId} {A : Option Addr} {n c : Nat} {d : DataW H} {p : List MemPlace} (sz : Nat) (ht : Try.prog.underlying t = some (.slice e)) (hb : Try.prog.bytesOf e = sz)
    (h : DataW.Trod enc Try.prog W 0 (fun _ => true) true t (.slice A n c) d p) (hwt : ∀ n ∈ d.weights Try.prog t, n ≤ reachBytes) : n ≤ c ∧ n * sz ≤ 140737488355328 := by
  obtain ⟨fuel, hf⟩ := h
  rcases open_slice ht hf with ⟨hcs, _⟩ | ⟨a, len, cap, m, k, D, Pl, hcs, _, hlc, _, _, hy, _⟩
  · simp only [Value.cells, List.cons.injEq, Value.slice.injEq, and_true] at hcs
    obtain ⟨rfl, rfl, rfl⟩ := hcs
    simp
  · simp only [Value.cells, List.cons.injEq, Value.slice.injEq, and_true] at hcs
    obtain ⟨rfl, rfl, rfl⟩ := hcs
    refine ⟨hlc, ?_⟩
    have hm : (n + (m - n)) * sz ∈ d.weights Try.prog t := by
      rw [(Prod.mk.inj hy).1, DataW.weights, ht]
      simp [hb]
    have h1 := hwt _ hm
    unfold reachBytes at h1
    rw [Nat.add_mul] at h1
    omega
set_option maxRecDepth 100000 in
theorem open_bytsc {H : Type} {enc : TypeId × Value → H} {W : World} {base : Nat} {v : Value} {d : DataW H} {p : List MemPlace}
    (hv : Value.okWide Try.prog W .any base 31 v) (h : DataW.Trod enc Try.prog W 0 (fun _ => true) true 31 v d p) (hwt : ∀ n ∈ d.weights Try.prog 31, n ≤ reachBytes) :
    ∃ A c l, v = .slice A (l : List Int).length c ∧ Byts W (.slice A l.length c) l ∧ l.length ≤ 140737488355328 ∧ (∀ x ∈ l, 0 ≤ x ∧ x ≤ 255) ∧ l.length ≤ c := by
  obtain ⟨A, c, l, rfl, hB, hm, hx⟩ := open_bytsv hv h
  have := slice_reach 1 Try.underlying31 (by kernel_rfl) h hwt
  exact ⟨A, c, l, rfl, hB, by omega, hx, this.1⟩
set_option maxRecDepth 100000 in
theorem open_intscw {H : Type} {enc : TypeId × Value → H} {W : World} {base : Nat} {v : Value} {d : DataW H} {p : List MemPlace}
    (hv : Value.okWide Try.prog W .any base 22 v) (h : DataW.Trod enc Try.prog W 0 (fun _ => true) true 22 v d p) (hwt : ∀ n ∈ d.weights Try.prog 22, n ≤ reachBytes) :
    ∃ A c l, v = .slice A (l : List Int).length c ∧ Ints W (.slice A l.length c) l ∧ l.length ≤ 17592186044416 ∧ (∀ x ∈ l, -9223372036854775808 ≤ x ∧ x ≤ 9223372036854775807) ∧ l.length ≤ c := by
  obtain ⟨A, c, l, rfl, hB, hm, hx⟩ := open_intsr hv h
  have := slice_reach 8 Try.underlying22 (by kernel_rfl) h hwt
  exact ⟨A, c, l, rfl, hB, by omega, hx, this.1⟩
set_option maxRecDepth 100000 in
/-- a snapshot -/
theorem open_snap {H : Type} {enc : TypeId × Value → H} {W : World} {base : Nat} {v : Value} {d : DataW H} {p : List MemPlace}
    (hv : Value.okWide Try.prog W .any base 24 v) (h : DataW.Trod enc Try.prog W 0 (fun _ => true) true 24 v d p) :
    ∃ (q : Int) (A : Option Addr) (c : Nat) (l : List Int), v = .agg #[.int .i64 q, .slice A l.length c] ∧ Ints W (.slice A l.length c) l ∧ l.length ≤ 9223372036854775807 ∧ (-9223372036854775808 ≤ q ∧ q ≤ 9223372036854775807) ∧ ∀ x ∈ l, -9223372036854775808 ≤ x ∧ x ≤ 9223372036854775807 := by
  obtain ⟨v0, v1, y0, y1, n, rfl, rfl, _, t0, t1⟩ := open_agg2 Try.underlying24 (by kernel_rfl) (by kernel_rfl) hv h
  obtain ⟨q, e0, _, w0⟩ := DataW.trod_int Try.underlying3 t0
  simp only [List.cons.injEq, and_true] at e0
  subst e0
  simp only [Lit.wf, Bool.and_eq_true, decide_eq_true_eq] at w0
  have hsl : ∃ A len cap, v1 = .slice A len cap := by
    rcases open_slice Try.underlying22 t1 with ⟨hcs, _⟩ | ⟨a, len, cap, m, k, D, Pl, hcs, _, _, _, _, hy, _⟩
    · simp only [List.cons.injEq, and_true] at hcs; exact ⟨_, _, _, hcs⟩
    · simp only [List.cons.injEq, and_true] at hcs; exact ⟨_, _, _, hcs⟩
  obtain ⟨A, len, cap, rfl⟩ := hsl
  rcases open_ints Try.underlying22 Try.underlying3 (by kernel_rfl) t1 with ⟨hcs, _⟩ | ⟨a, len', cap', zs, hcs, _, hl, hm, hz, _, hcell, hwf⟩
  · simp only [List.cons.injEq, Value.slice.injEq, and_true] at hcs
    obtain ⟨rfl, rfl, rfl⟩ := hcs
    exact ⟨q, none, 0, [], rfl, Sl.nil _ _, by simp, w0, by simp⟩
  · simp only [List.cons.injEq, Value.slice.injEq, and_true] at hcs
    obtain ⟨rfl, rfl, rfl⟩ := hcs
    simp only [if_true] at hz
    have hlen : (zs.take len).length = len := by rw [List.length_take]; omega
    refine ⟨q, some a, cap, zs.take len, by rw [hlen], ?_, by rw [hlen]; unfold maxLen at hm; omega, w0, fun x hx => ?_⟩
    · refine sl_open fun j u hj => ?_
      have hjl : j < len := by have := (List.getElem?_eq_some_iff.1 hj).1; rw [ic_len, hlen] at this; exact this
      rw [hcell j (by omega), ← hj]
      simp only [ic, List.getElem?_map, List.getElem?_take, if_pos hjl]
      rw [List.getD_eq_getElem?_getD, List.getElem?_eq_getElem (by omega)]
      rfl
    · have hw := hwf x (List.mem_of_mem_take hx)
      simp only [Lit.wf, Bool.and_eq_true, decide_eq_true_eq] at hw
      exact hw
end Go.Proofs.Ytpdbdpmlppbnnaa
