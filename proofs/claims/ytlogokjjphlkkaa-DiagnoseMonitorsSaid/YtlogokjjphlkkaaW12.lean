/-
  Walks of layer 29: monitors in a list, monitor.put, monitor.Raised.
-/
import Derived.Test.YtlogokjjphlkkaaW11
namespace Go.Proofs.Ytlogokjjphlkkaa
open Go.RowKit Go.Shelf

/-- monitors' cells, each with the value of its past -/
abbrev MV := Mon × Value
def mlc (l : List MV) : List Value := l.flatMap fun a => (mcs a.1 a.2).toList
theorem mlc_len (l : List MV) : (mlc l).length = l.length * 8 := by
  induction l with
  | nil => rfl
  | cons a t ih => simp only [mlc, List.flatMap_cons, List.length_append, List.length_cons] at *; rw [ih]; simp; omega
theorem mlc_append (l m : List MV) : mlc (l ++ m) = mlc l ++ mlc m := by simp [mlc]
theorem mlc_one (l : List MV) (h : ∀ a ∈ l, a.2.oneCell' = true) : ∀ u ∈ mlc l, u.oneCell' = true := by
  intro u hu
  obtain ⟨a, ha, hu⟩ := List.mem_flatMap.1 hu
  simp at hu
  rcases hu with rfl | rfl | rfl | rfl | rfl | rfl | rfl | rfl <;> first | rfl | exact h a ha
theorem mlc_at (l : List MV) : ∀ k (hk : k < l.length) i u, (mcs l[k].1 l[k].2)[i]? = some u → (mlc l)[k * 8 + i]? = some u := by
  induction l with
  | nil => intro k hk; simp at hk
  | cons a t ih =>
    intro k hk i u hu
    have h8 : (mcs a.1 a.2).toList.length = 8 := rfl
    cases k with
    | zero =>
      simp only [mlc, List.flatMap_cons]
      have hi : i < 8 := by
        have := (Array.getElem?_eq_some_iff.1 hu).1
        simpa [mcs] using this
      rw [List.getElem?_append_left (by rw [h8]; omega)]
      simpa using hu
    | succ k =>
      simp only [mlc, List.flatMap_cons]
      rw [List.getElem?_append_right (by rw [h8]; omega), h8, show (k + 1) * 8 + i - 8 = k * 8 + i by omega]
      exact ih k (by simpa using hk) i u (by simpa using hu)
/-- the slice v holds the monitors ms -/
structure Mons (w : World) (v : Value) (ms : List Mon) : Prop where
  out : ∃ ps : List MV, ps.map (·.1) = ms ∧ Sl w w.heap.size v ms.length (mlc ps) ∧ ∀ a ∈ ps, Bools w a.2 a.1.past
theorem Mons.from {w w' : World} {v : Value} {ms : List Mon} (h : Mons w v ms) (hb : From w w') : Mons w' v ms := by
  obtain ⟨ps, h1, h2, h3⟩ := h.out
  exact ⟨ps, h1, h2.from hb, fun a ha => (h3 a ha).from hb⟩
theorem Mons.form {w : World} {v : Value} {ms : List Mon} (h : Mons w v ms) : ∃ A c, v = .slice A ms.length c := by
  obtain ⟨ps, h1, h2, h3⟩ := h.out
  exact h2.form
theorem Mons.at_ {w : World} {n c : Nat} {A : Option Addr} {ms : List Mon} (h : Mons w (.slice A n c) ms) {k : Nat} (hk : k < ms.length) : ∃ b off AP cP, A = some ⟨b, off, none⟩ ∧ b < w.heap.size ∧ Bools w (.slice AP ms[k].past.length cP) ms[k].past ∧
    w.cell? ⟨b, off + k * 8, none⟩ = some (.int .i64 ms[k].par) ∧ w.cell? ⟨b, off + k * 8 + 1, none⟩ = some (.int .i64 ms[k].low) ∧ w.cell? ⟨b, off + k * 8 + 2, none⟩ = some (.int .i64 ms[k].high) ∧ w.cell? ⟨b, off + k * 8 + 3, none⟩ = some (.int .i64 ms[k].need) ∧
    w.cell? ⟨b, off + k * 8 + 4, none⟩ = some (.int .i64 ms[k].of) ∧ w.cell? ⟨b, off + k * 8 + 5, none⟩ = some (.int .i64 ms[k].ev) ∧ w.cell? ⟨b, off + k * 8 + 6, none⟩ = some (.slice AP ms[k].past.length cP) ∧ w.cell? ⟨b, off + k * 8 + 7, none⟩ = some (.bool ms[k].raised) := by
  obtain ⟨ps, h1, h2, h3⟩ := h.out
  have hkp : k < ps.length := by rw [← h1] at hk; simpa using hk
  have hms : ms[k] = ps[k].1 := by subst h1; simp
  have hp := h3 ps[k] (List.getElem_mem hkp)
  obtain ⟨AP, cP, hv⟩ := hp.form
  rw [hms]
  have at_ : ∀ i u, (mcs ps[k].1 ps[k].2)[i]? = some u → ∃ b off, A = some ⟨b, off, none⟩ ∧ b < w.heap.size ∧ w.cell? ⟨b, off + (k * 8 + i), none⟩ = some u := fun i u hu => h2.at_ (mlc_at ps k hkp i u hu)
  obtain ⟨b, off, hA, hb, c0⟩ := at_ 0 _ rfl
  have f : ∀ i u, (mcs ps[k].1 ps[k].2)[i]? = some u → w.cell? ⟨b, off + k * 8 + i, none⟩ = some u := fun i u hu => by
    obtain ⟨b', off', hA', _, c⟩ := at_ i u hu
    rw [hA] at hA'
    cases hA'
    rw [Nat.add_assoc]; exact c
  rw [hv] at hp
  exact ⟨b, off, AP, cP, hA, hb, hp, f 0 _ rfl, f 1 _ rfl, f 2 _ rfl, f 3 _ rfl, f 4 _ rfl, f 5 _ rfl, by rw [← hv]; exact f 6 _ rfl, f 7 _ rfl⟩
/-- what put answers -/
def PutPost (w : World) (base : Nat) (v : Value) (xs : List Int) (b : Bool) (x : Int) (e : Ending) (w' : World) : Prop :=
  ∃ A n c ys, n = ys.length ∧ ys = (if b then xs ++ [x] else xs) ∧ e = .returned (.slice A n c) ∧ w'.ownsRow base 3 1 (.slice A n c) n (ic ys) ∧ w.grownBy w' v.ownBlock ∧ (∀ r, (Value.slice A n c).ownBlock = some r → v.ownBlock = some r ∨ w.heap.size ≤ r)
theorem put_calls (base : Nat) (v : Value) (xs : List Int) (b : Bool) (x : Int) (w : World) (h : w.ownsRow base 3 1 v xs.length (ic xs)) (hb : base ≤ w.heap.size) (hm : xs.length ≤ 1000) :
    Calls Try.prog 109 #[v, .bool b, .int .i64 x] w (PutPost w base v xs b x) := by
  obtain ⟨A, c, rfl⟩ := slice_form h
  cases b
  · have H := bx h
    clear h
    go_enter Try.func109, Try.ntmps109
    go_wp2
    go_ret
    exact ⟨A, _, c, xs, rfl, rfl, rfl, H.out, World.grownBy.refl _ _, fun r hr => .inl hr⟩
  · have H := bx h
    clear h
    go_enter Try.func109, Try.ntmps109
    go_wp2_with (at_builtin; refine app_sl rfl _ _ 22 rfl Try.elInt rfl (H.out.alloc _) 1 [.int .i64 x] rfl (sl_new w [.int .i64 x] 3 1 1) rfl (by simp [Value.oneCell']) (by omega) (by unfold maxLen; omega) (by simp; omega) ?_; intro A3 c3 w3 o3 g3 b3)
    go_ret
    exact ⟨A3, _, c3, xs ++ [x], by simp, rfl, rfl, by rw [ic_append]; exact o3, (World.grownBy_alloc w _ _).trans g3, fun r hr => (b3 r hr).imp id (fun h => by simp at h; omega)⟩
end Go.Proofs.Ytlogokjjphlkkaa
