/-
  Arguments opened: a script of TelemetryScript's and TelemetrySync's steps.
-/
import Derived.Test.YtpdbdpmlppbnnaaR8
namespace Go.Proofs.Ytpdbdpmlppbnnaa
open Go.ChangeShapes Go.WideShapes Go.ChangeAt Go.RowKit Go.Deep Go.Joins

/-- a step of a script -/
structure StV where
  kind : Int
  n : Int
  AL : Option Addr
  cL : Nat
  L : List Int
  AB : Option Addr
  cB : Nat
  B : List Int
def stc (x : StV) : List Value := [.int .i64 x.kind, .int .i64 x.n, .slice x.AL x.L.length x.cL, .slice x.AB x.B.length x.cB]
structure StOk (w : World) (x : StV) : Prop where
  kind : -9223372036854775808 ≤ x.kind ∧ x.kind ≤ 9223372036854775807
  n : -9223372036854775808 ≤ x.n ∧ x.n ≤ 9223372036854775807
  L : Ints w (.slice x.AL x.L.length x.cL) x.L
  Lm : x.L.length ≤ 9223372036854775807
  Lc : x.L.length ≤ x.cL
  Lx : ∀ y ∈ x.L, -9223372036854775808 ≤ y ∧ y ≤ 9223372036854775807
  B : Byts w (.slice x.AB x.B.length x.cB) x.B
  Bm : x.B.length ≤ 140737488355328
  Bx_ : ∀ y ∈ x.B, 0 ≤ y ∧ y ≤ 255
  Bc : x.B.length ≤ x.cB
/-- a script in memory -/
def Steps (w : World) (v : Value) (l : List StV) : Prop := (l = [] ∧ ∃ A c, v = .slice A 0 c) ∨ ∃ b off c, v = .slice (some ⟨b, off, none⟩) l.length c ∧ b < w.heap.size ∧ ∀ k (hk : k < l.length), StOk w l[k] ∧ ∀ j u, (stc l[k])[j]? = some u → w.cell? ⟨b, off + k * 4 + j, none⟩ = some u
theorem StOk.from {w w' : World} {x : StV} (h : StOk w x) (k : From w w') : StOk w' x := { h with L := h.L.from k, B := h.B.from k }
theorem Steps.from {w w' : World} {v : Value} {l : List StV} (h : Steps w v l) (k : From w w') : Steps w' v l := by
  rcases h with h | ⟨b, off, c, e, hb, h⟩
  · exact .inl h
  · refine .inr ⟨b, off, c, e, Nat.lt_of_lt_of_le hb k.size, fun i hi => ?_⟩
    obtain ⟨h1, h2⟩ := h i hi
    exact ⟨h1.from k, fun j u hu => k.cell (h2 j u hu)⟩
theorem Steps.form {w : World} {v : Value} {l : List StV} (h : Steps w v l) : ∃ A c, v = .slice A l.length c := by
  rcases h with ⟨rfl, A, c, rfl⟩ | ⟨b, off, c, rfl, _⟩
  · exact ⟨_, _, rfl⟩
  · exact ⟨_, _, rfl⟩
theorem Steps.at_ {w : World} {A : Option Addr} {n c : Nat} {l : List StV} (h : Steps w (.slice A n c) l) {k : Nat} (hk : k < l.length) : ∃ b off, A = some ⟨b, off, none⟩ ∧ b < w.heap.size ∧ StOk w l[k] ∧ w.cell? ⟨b, off + k * 4, none⟩ = some (.int .i64 l[k].kind) ∧
    w.cell? ⟨b, off + k * 4 + 1, none⟩ = some (.int .i64 l[k].n) ∧ w.cell? ⟨b, off + k * 4 + 2, none⟩ = some (.slice l[k].AL l[k].L.length l[k].cL) ∧ w.cell? ⟨b, off + k * 4 + 3, none⟩ = some (.slice l[k].AB l[k].B.length l[k].cB) := by
  rcases h with ⟨rfl, _⟩ | ⟨b, off, c, e, hb, h⟩
  · simp at hk
  · injection e with e _ _
    obtain ⟨h1, h2⟩ := h k hk
    exact ⟨b, off, e, hb, h1, h2 0 _ rfl, h2 1 _ rfl, h2 2 _ rfl, h2 3 _ rfl⟩
set_option maxRecDepth 100000 in
theorem ints_of_trod {H : Type} {enc : TypeId × Value → H} {W : World} {v : Value} {y : DataW H × List MemPlace} {n : Nat} (t1 : DataW.trod enc Try.prog W 0 (fun _ => true) true n 22 [v] = some y) :
    ∃ (A : Option Addr) (c : Nat) (l : List Int), v = .slice A l.length c ∧ Ints W (.slice A l.length c) l ∧ l.length ≤ 9223372036854775807 ∧ (∀ x ∈ l, -9223372036854775808 ≤ x ∧ x ≤ 9223372036854775807) ∧ l.length ≤ c := by
  have hsl : ∃ A len cap, v = .slice A len cap ∧ len ≤ cap := by
    rcases open_slice Try.underlying22 t1 with ⟨hcs, _⟩ | ⟨a, len, cap, m, k, D, Pl, hcs, _, hlc, _, _, hy, _⟩
    · simp only [List.cons.injEq, and_true] at hcs; exact ⟨_, _, _, hcs, by decide⟩
    · simp only [List.cons.injEq, and_true] at hcs; exact ⟨_, _, _, hcs, hlc⟩
  obtain ⟨A, len, cap, rfl, hlc⟩ := hsl
  rcases open_ints Try.underlying22 Try.underlying3 (by kernel_rfl) t1 with ⟨hcs, _⟩ | ⟨a, len', cap', zs, hcs, _, hl, hm, hz, _, hcell, hwf⟩
  · simp only [List.cons.injEq, Value.slice.injEq, and_true] at hcs
    obtain ⟨rfl, rfl, rfl⟩ := hcs
    exact ⟨none, 0, [], rfl, Sl.nil _ _, by simp, by simp, by simp⟩
  · simp only [List.cons.injEq, Value.slice.injEq, and_true] at hcs
    obtain ⟨rfl, rfl, rfl⟩ := hcs
    simp only [if_true] at hz
    have hlen : (zs.take len).length = len := by rw [List.length_take]; omega
    refine ⟨some a, cap, zs.take len, by rw [hlen], ?_, by rw [hlen]; unfold maxLen at hm; omega, fun x hx => ?_, by rw [hlen]; exact hlc⟩
    · refine sl_open fun j u hj => ?_
      have hjl : j < len := by have := (List.getElem?_eq_some_iff.1 hj).1; rw [ic_len, hlen] at this; exact this
      rw [hcell j (by omega), ← hj]
      simp only [ic, List.getElem?_map, List.getElem?_take, if_pos hjl]
      rw [List.getD_eq_getElem?_getD, List.getElem?_eq_getElem (by omega)]
      rfl
    · have hw := hwf x (List.mem_of_mem_take hx)
      simp only [Lit.wf, Bool.and_eq_true, decide_eq_true_eq] at hw
      exact hw
set_option maxRecDepth 100000 in
theorem byts_of_trod {H : Type} {enc : TypeId × Value → H} {W : World} {v : Value} {y : DataW H × List MemPlace} {n : Nat} (t1 : DataW.trod enc Try.prog W 0 (fun _ => true) true n 31 [v] = some y) (hwt : ∀ n ∈ y.1.weights Try.prog 31, n ≤ reachBytes) :
    ∃ (A : Option Addr) (c : Nat) (l : List Int), v = .slice A l.length c ∧ Byts W (.slice A l.length c) l ∧ l.length ≤ 140737488355328 ∧ (∀ x ∈ l, 0 ≤ x ∧ x ≤ 255) ∧ l.length ≤ c := by
  have hsl : ∃ A len cap, v = .slice A len cap ∧ len ≤ cap ∧ len ≤ 140737488355328 := by
    rcases open_slice Try.underlying31 t1 with ⟨hcs, _⟩ | ⟨a, len, cap, m, k, D, Pl, hcs, _, hlc, _, _, hy, _⟩
    · simp only [List.cons.injEq, and_true] at hcs; exact ⟨_, _, _, hcs, by decide, by decide⟩
    · simp only [List.cons.injEq, and_true] at hcs
      refine ⟨_, _, _, hcs, hlc, ?_⟩
      have hb : Try.prog.bytesOf 5 = 1 := by kernel_rfl
      have hm : (len + (m - len)) * 1 ∈ y.1.weights Try.prog 31 := by
        rw [hy, DataW.weights, Try.underlying31]
        simp [hb]
      have h1 := hwt _ hm
      unfold reachBytes at h1
      omega
  obtain ⟨A, len, cap, rfl, hlc, hlm⟩ := hsl
  rcases open_ints Try.underlying31 Try.underlying5 (by kernel_rfl) t1 with ⟨hcs, _⟩ | ⟨a, len', cap', zs, hcs, _, hl, hm, hz, _, hcell, hwf⟩
  · simp only [List.cons.injEq, Value.slice.injEq, and_true] at hcs
    obtain ⟨rfl, rfl, rfl⟩ := hcs
    exact ⟨none, 0, [], rfl, Sl.nil _ _, by simp, by simp, by simp⟩
  · simp only [List.cons.injEq, Value.slice.injEq, and_true] at hcs
    obtain ⟨rfl, rfl, rfl⟩ := hcs
    simp only [if_true] at hz
    have hlen : (zs.take len).length = len := by rw [List.length_take]; omega
    refine ⟨some a, cap, zs.take len, by rw [hlen], ?_, by rw [hlen]; exact hlm, fun x hx => ?_, by rw [hlen]; exact hlc⟩
    · refine sl_open fun j u hj => ?_
      have hjl : j < len := by have := (List.getElem?_eq_some_iff.1 hj).1; rw [yc_len, hlen] at this; exact this
      rw [hcell j (by omega), ← hj]
      simp only [yc, List.getElem?_map, List.getElem?_take, if_pos hjl]
      rw [List.getD_eq_getElem?_getD, List.getElem?_eq_getElem (by omega)]
      rfl
    · have hw := hwf x (List.mem_of_mem_take hx)
      simp only [Lit.wf, Bool.and_eq_true, decide_eq_true_eq] at hw
      exact hw
theorem weights_mem_all {H : Type} {P : Program} {e : TypeId} {d : DataW H} : ∀ {ds : List (DataW H)}, d ∈ ds → ∀ n ∈ d.weights P e, n ∈ DataW.weightsAll P e ds
  | [], h, _, _ => by cases h
  | x :: r, h, n, hn => by
    rw [DataW.weightsAll, List.mem_append]
    rcases List.mem_cons.1 h with rfl | h
    · exact .inl hn
    · exact .inr (weights_mem_all h n hn)
set_option maxRecDepth 100000 in
theorem open_steps {H : Type} {enc : TypeId × Value → H} {W : World} {base : Nat} {v : Value} {d : DataW H} {p : List MemPlace}
    (hv : Value.okWide Try.prog W .any base 56 v) (h : DataW.Trod enc Try.prog W 0 (fun _ => true) true 56 v d p) (hwt : ∀ n ∈ d.weights Try.prog 56, n ≤ reachBytes) :
    ∃ A c l, v = .slice A (l : List StV).length c ∧ Steps W (.slice A l.length c) l ∧ l.length ≤ 9223372036854775807 := by
  obtain ⟨a0, len, cap, rfl⟩ := okWide_slice Try.underlying56 hv
  obtain ⟨fuel, hf⟩ := h
  have hC : Try.prog.cellsOf 63 = 4 := by kernel_rfl
  rcases open_slice Try.underlying56 hf with ⟨hcs, _⟩ | ⟨a, len', cap', m, k, D, Pl, hcs, _, hlc, hmx, hmm, hy, hall⟩
  · simp only [Value.cells, List.cons.injEq, Value.slice.injEq, and_true] at hcs
    obtain ⟨rfl, rfl, rfl⟩ := hcs
    exact ⟨none, 0, [], rfl, .inl ⟨rfl, _, _, rfl⟩, by simp⟩
  · simp only [Value.cells, List.cons.injEq, Value.slice.injEq, and_true] at hcs
    obtain ⟨rfl, rfl, rfl⟩ := hcs
    rw [hC] at hall
    have key : ∀ i, ∃ x : StV, i < len → StOk W x ∧ ∀ j u, (stc x)[j]? = some u → W.cell? (a.add (i * 4 + j)) = some u := by
      intro i
      by_cases hi : i < len
      · obtain ⟨cells, hcells, htrod⟩ := hall i (by rw [hmm]; split <;> omega)
        obtain ⟨ys, k', _, hDi, hlen, hyl, hfld⟩ := DataW.trod_struct Try.underlying63 htrod
        obtain ⟨_, hcl, hat⟩ := World.cells?_some hcells
        rw [hC] at hlen
        match cells, hlen with
        | [c0, c1, c2, c3], _ =>
          have k3 : Try.prog.cellsOf 3 = 1 := by kernel_rfl
          have k22 : Try.prog.cellsOf 22 = 1 := by kernel_rfl
          have k31 : Try.prog.cellsOf 31 = 1 := by kernel_rfl
          have hys : ys.length = 4 := hyl
          have f0 : DataW.trod enc Try.prog W 0 (fun _ => true) true k' 3 [c0] = some (ys[0]'(by omega)) := by
            have := hfld 0 _ rfl
            simpa [k3, hys] using this
          have f1 : DataW.trod enc Try.prog W 0 (fun _ => true) true k' 3 [c1] = some (ys[1]'(by omega)) := by
            have := hfld 1 _ rfl
            simpa [k3, hys] using this
          have f2 : DataW.trod enc Try.prog W 0 (fun _ => true) true k' 22 [c2] = some (ys[2]'(by omega)) := by
            have := hfld 2 _ rfl
            simpa [k22, hys] using this
          have f3 : DataW.trod enc Try.prog W 0 (fun _ => true) true k' 31 [c3] = some (ys[3]'(by omega)) := by
            have := hfld 3 _ rfl
            simpa [k31, hys] using this
          obtain ⟨x0, e0, _, w0⟩ := DataW.trod_int Try.underlying3 f0
          obtain ⟨x1, e1, _, w1⟩ := DataW.trod_int Try.underlying3 f1
          simp only [List.cons.injEq, and_true] at e0 e1
          simp only [Lit.wf, Bool.and_eq_true, decide_eq_true_eq] at w0 w1
          obtain ⟨AL, cL, L, rfl, hL1, hL2, hL3, hL4⟩ := ints_of_trod f2
          obtain ⟨AB, cB, B, rfl, hB1, hB2, hB3, hB4⟩ := byts_of_trod f3 (fun n hn => hwt n (by
            have e1 : d = .slice ((List.range len).map D) ((List.range (m - len)).map fun j => D (len + j)) := (Prod.mk.inj hy).1
            have e2 : D i = .agg (ys.map (·.1)) := (Prod.mk.inj hDi).1
            rw [e1, DataW.weights, Try.underlying56]
            refine List.mem_cons_of_mem _ (List.mem_append_left _ (weights_mem_all (d := D i) (List.mem_map.2 ⟨i, List.mem_range.2 hi, rfl⟩) n ?_))
            rw [e2, DataW.weights, Try.underlying63]
            refine DataW.weights_mem_each (j := 3) (t := 31) (d := (ys[3]'(by omega)).1) rfl ?_ n hn
            simp [hys]))
          subst e0 e1
          refine ⟨⟨x0, x1, AL, cL, L, AB, cB, B⟩, fun _ => ⟨⟨w0, w1, hL1, hL2, hL4, hL3, hB1, hB2, hB3, hB4⟩, fun j u hu => ?_⟩⟩
          have hj : j < 4 := by have := (List.getElem?_eq_some_iff.1 hu).1; simpa [stc] using this
          have h1 := hat j hj
          rw [← Go.Deep.add_add, h1]
          exact hu
      · exact ⟨⟨0, 0, none, 0, [], none, 0, []⟩, fun h => absurd h hi⟩
    obtain ⟨f, hf2⟩ := Classical.axiomOfChoice key
    refine ⟨some a, cap, (List.range len).map f, by simp, ?_, by simp; unfold maxLen at hmx; omega⟩
    by_cases h0 : len = 0
    · subst h0
      exact .inl ⟨rfl, _, _, rfl⟩
    · obtain ⟨h1, h2⟩ := hf2 0 (by omega)
      have h3 := h2 0 _ rfl
      rw [Nat.zero_mul, show a.add (0 + 0) = a from rfl] at h3
      obtain ⟨b, off, rfl⟩ := addr_form h3
      refine .inr ⟨b, off, cap, by simp, World.block_lt_of_cell? W _ h3, fun i hi => ?_⟩
      simp only [List.length_map, List.length_range] at hi
      rw [List.getElem_map, List.getElem_range]
      obtain ⟨h4, h5⟩ := hf2 i hi
      refine ⟨h4, fun j u hu => ?_⟩
      have := h5 j u hu
      rwa [Addr.add_mid, ← Nat.add_assoc] at this
end Go.Proofs.Ytpdbdpmlppbnnaa
