/-
  Walks of layer 10: windows and loads in memory; the end of a table; stretches and its iterator.
-/
import Derived.Test.YtamfifndddldcaaM1
namespace Go.Proofs.Ytamfifndddldcaa
open Go.RowKit Go.Shelf
attribute [local go_sem] Oper.semAt_some

theorem wide_n {n : Nat} : Fence.wide.depth.isSome = true → 1 ≤ n := fun h => by cases h
/-- elements of k cells, one behind the other -/
theorem flat_at {α : Type} {enc : α → List Value} {k : Nat} (hk : ∀ x, (enc x).length = k) (l : List α) (i : Nat) (hi : i < l.length) (j : Nat) (hj : j < k) : (l.flatMap enc)[i * k + j]? = (enc l[i])[j]? := by
  induction l generalizing i with
  | nil => simp at hi
  | cons x l ih =>
    cases i with
    | zero =>
      rw [List.flatMap_cons, Nat.zero_mul, Nat.zero_add, List.getElem?_append_left (by rw [hk]; exact hj)]
      rfl
    | succ i =>
      rw [List.flatMap_cons, List.getElem?_append_right (by rw [hk, Nat.add_mul]; omega), hk, show (i + 1) * k + j - k = i * k + j by rw [Nat.add_mul]; omega, ih i (by simpa using hi)]
      rfl
theorem flat_len {α : Type} {enc : α → List Value} {k : Nat} (hk : ∀ x, (enc x).length = k) (l : List α) : (l.flatMap enc).length = l.length * k := by
  induction l with
  | nil => simp
  | cons x l ih => rw [List.flatMap_cons, List.length_append, hk, ih, List.length_cons, Nat.add_mul]; omega
theorem flat_one {α : Type} {enc : α → List Value} (h1 : ∀ x, ∀ u ∈ enc x, u.oneCell' = true) (l : List α) : ∀ u ∈ l.flatMap enc, u.oneCell' = true := by
  intro u hu
  obtain ⟨x, _, hx⟩ := List.mem_flatMap.1 hu
  exact h1 x u hx
/-- windows -/
def wcs (x : Wn) : List Value := [.int .i64 x.k, .int .i64 x.a, .int .i64 x.b, .int .i64 x.f, .int .i64 x.u, .int .i64 x.r]
theorem wcs_len (x : Wn) : (wcs x).length = 6 := rfl
theorem wcs_one (x : Wn) : ∀ u ∈ wcs x, u.oneCell' = true := by simp [wcs, Value.oneCell']
abbrev Wins (w : World) (v : Value) (t : List Wn) : Prop := Sl w w.heap.size v t.length (t.flatMap wcs)
theorem wins_at {w : World} {B m n c : Nat} {A : Option Addr} {t : List Wn} (h : Sl w B (.slice A m c) n (t.flatMap wcs)) {k : Nat} (hk : k < t.length) : ∃ b off, A = some ⟨b, off, none⟩ ∧ b < B ∧
    w.cell? ⟨b, off + k * 6, none⟩ = some (.int .i64 t[k].k) ∧ w.cell? ⟨b, off + k * 6 + 1, none⟩ = some (.int .i64 t[k].a) ∧ w.cell? ⟨b, off + k * 6 + 2, none⟩ = some (.int .i64 t[k].b) ∧
    w.cell? ⟨b, off + k * 6 + 3, none⟩ = some (.int .i64 t[k].f) ∧ w.cell? ⟨b, off + k * 6 + 4, none⟩ = some (.int .i64 t[k].u) ∧ w.cell? ⟨b, off + k * 6 + 5, none⟩ = some (.int .i64 t[k].r) := by
  have H : ∀ j u, j < 6 → (wcs t[k])[j]? = some u → ∃ b off, A = some ⟨b, off, none⟩ ∧ b < B ∧ w.cell? ⟨b, off + (k * 6 + j), none⟩ = some u := fun j u hj hu =>
    h.at_ ((flat_at wcs_len t k hk j hj).trans hu)
  obtain ⟨b, off, rfl, hb, h0⟩ := H 0 _ (by omega) rfl
  obtain ⟨b1, o1, e1, _, h1⟩ := H 1 _ (by omega) rfl
  obtain ⟨b2, o2, e2, _, h2⟩ := H 2 _ (by omega) rfl
  obtain ⟨b3, o3, e3, _, h3⟩ := H 3 _ (by omega) rfl
  obtain ⟨b4, o4, e4, _, h4⟩ := H 4 _ (by omega) rfl
  obtain ⟨b5, o5, e5, _, h5⟩ := H 5 _ (by omega) rfl
  simp only [Option.some.injEq, Addr.mk.injEq, and_true] at e1 e2 e3 e4 e5
  obtain ⟨rfl, rfl⟩ := e1; obtain ⟨rfl, rfl⟩ := e2; obtain ⟨rfl, rfl⟩ := e3; obtain ⟨rfl, rfl⟩ := e4; obtain ⟨rfl, rfl⟩ := e5
  exact ⟨b, off, rfl, hb, h0, by rw [Nat.add_assoc]; exact h1, by rw [Nat.add_assoc]; exact h2, by rw [Nat.add_assoc]; exact h3, by rw [Nat.add_assoc]; exact h4, by rw [Nat.add_assoc]; exact h5⟩
/-- loads -/
structure Lo where
  id : Int
  pw : Int
  pr : Int
  es : Bool
def lcs (x : Lo) : List Value := [.int .i64 x.id, .int .i64 x.pw, .int .i64 x.pr, .bool x.es]
theorem lcs_len (x : Lo) : (lcs x).length = 4 := rfl
theorem lcs_one (x : Lo) : ∀ u ∈ lcs x, u.oneCell' = true := by
  intro u hu
  simp only [lcs, List.mem_cons, List.not_mem_nil, or_false] at hu
  rcases hu with rfl | rfl | rfl | rfl <;> rfl
abbrev Loads (w : World) (v : Value) (t : List Lo) : Prop := Sl w w.heap.size v t.length (t.flatMap lcs)
theorem loads_at {w : World} {B m n c : Nat} {A : Option Addr} {t : List Lo} (h : Sl w B (.slice A m c) n (t.flatMap lcs)) {k : Nat} (hk : k < t.length) : ∃ b off, A = some ⟨b, off, none⟩ ∧ b < B ∧
    w.cell? ⟨b, off + k * 4, none⟩ = some (.int .i64 t[k].id) ∧ w.cell? ⟨b, off + k * 4 + 1, none⟩ = some (.int .i64 t[k].pw) ∧ w.cell? ⟨b, off + k * 4 + 2, none⟩ = some (.int .i64 t[k].pr) ∧
    w.cell? ⟨b, off + k * 4 + 3, none⟩ = some (.bool t[k].es) := by
  have H : ∀ j u, j < 4 → (lcs t[k])[j]? = some u → ∃ b off, A = some ⟨b, off, none⟩ ∧ b < B ∧ w.cell? ⟨b, off + (k * 4 + j), none⟩ = some u := fun j u hj hu =>
    h.at_ ((flat_at lcs_len t k hk j hj).trans hu)
  obtain ⟨b, off, rfl, hb, h0⟩ := H 0 _ (by omega) rfl
  obtain ⟨b1, o1, e1, _, h1⟩ := H 1 _ (by omega) rfl
  obtain ⟨b2, o2, e2, _, h2⟩ := H 2 _ (by omega) rfl
  obtain ⟨b3, o3, e3, _, h3⟩ := H 3 _ (by omega) rfl
  simp only [Option.some.injEq, Addr.mk.injEq, and_true] at e1 e2 e3
  obtain ⟨rfl, rfl⟩ := e1; obtain ⟨rfl, rfl⟩ := e2; obtain ⟨rfl, rfl⟩ := e3
  exact ⟨b, off, rfl, hb, h0, by rw [Nat.add_assoc]; exact h1, by rw [Nat.add_assoc]; exact h2, by rw [Nat.add_assoc]; exact h3⟩
theorem endT_snoc (t : List Wn) (x : Wn) : endT (t ++ [x]) = max (endT t) x.u := by simp [endT]
theorem endT_take (t : List Wn) (k : Nat) (hk : k < t.length) : endT (t.take (k + 1)) = max (endT (t.take k)) t[k].u := by rw [List.take_succ_eq_append_getElem hk, endT_snoc]

theorem stretches_calls (A : Option Addr) (n cap : Nat) (c fr un s : Int) (w : World) :
    Calls Try.prog 38 #[.slice A n cap, .int .i64 c, .int .i64 fr, .int .i64 un, .int .i64 s] w fun e w' =>
      e = .returned (.func (.func 50) #[] #[.pointer (some ⟨w.heap.size + 2, 0, none⟩), .pointer (some ⟨w.heap.size, 0, none⟩), .pointer (some ⟨w.heap.size + 3, 0, none⟩), .pointer (some ⟨w.heap.size + 1, 0, none⟩), .pointer (some ⟨w.heap.size + 4, 0, none⟩)]) ∧
      w' = ((((w.alloc (.cells #[.slice A n cap] 45)).alloc (.cells #[.int .i64 c] 3)).alloc (.cells #[.int .i64 fr] 3)).alloc (.cells #[.int .i64 un] 3)).alloc (.cells #[.int .i64 s] 3) := by
  go_enter Try.func38, Try.ntmps38
  go_wp2
  go_ret
  exact ⟨rfl, rfl⟩
theorem end_calls (A : Option Addr) (cap : Nat) (t : List Wn) (w : World) (h : Wins w (.slice A t.length cap) t) (hm : t.length ≤ 1000000) (x : Int) (hx : endT t = x) :
    Calls Try.prog 39 #[.slice A t.length cap] w fun e w' => e = .returned (.int .i64 x) ∧ From w w' := by
  have HX := bx hx
  have H := bx h
  clear h hx
  go_enter Try.func39, Try.ntmps39
  go_wp2
  go_loopw [3, 5, 8] (fun v3 _ v8 wr => ∃ k : Nat, k ≤ t.length ∧ v8 = .int .i64 k ∧ v3 = .int .i64 (endT (t.take k)) ∧ From w wr) (fun _ _ v8 _ => t.length - (intOf v8).toNat)
  case atStart => exact ⟨0, by omega, rfl, by simp [endT], From.refl _⟩
  case round =>
    obtain ⟨k, hk, rfl, rfl, hf⟩ := hrel
    by_cases hlt : k < t.length
    · obtain ⟨b, off, rfl, hb, c0, c1, c2, c3, c4, c5⟩ := wins_at (H.out.from hf) hlt
      have HE := bx (endT_take t k hlt)
      have d1 : decide ((k : Int) < (t.length : Int)) = true := decide_eq_true (by omega)
      generalize endT (t.take k) = E0 at *
      obtain ⟨Y, hY⟩ : ∃ Y, t[k] = Y := ⟨_, rfl⟩
      rw [hY] at c0 c1 c2 c3 c4 c5 HE
      obtain ⟨y0, y1, y2, y3, y4, y5⟩ := Y
      simp only at c0 c1 c2 c3 c4 c5 HE
      clear hY
      go_wp2
      go_roundw
      case rel => exact ⟨k + 1, by omega, by go_num, by rw [HE.out]; congr 1; split <;> omega, hf.alloc _⟩
      case measure => simp [intOf]; omega
    · obtain rfl : k = t.length := by omega
      rw [List.take_length] at *
      rw [HX.out]
      go_wp2
      go_ret
      exact ⟨rfl, hf⟩
end Go.Proofs.Ytamfifndddldcaa
