/-
  Walks of layer 30: what units cause (slices.Contains, the closures of diagnose.caused and diagnose.Explains).
-/
import Derived.Test.YtgfmnolghbiedaaDoorProg
import Derived.Test.YtgfmnolghbiedaaDoorN1
import Derived.WalkKit
import Derived.Outline
import Derived.WalkLawsBesides
import Derived.BigQuiet
import Derived.Deep.QuietTactic
import Derived.Deep.RegionHeld3
namespace Go.Proofs.YtgfmnolghbiedaaDoor
open Go.RowKit

/-- a fact hidden from the walk -/
structure Bx (p : Prop) : Prop where
  out : p
theorem bx {p : Prop} (h : p) : Bx p := ⟨h⟩
theorem retv {a b : Value} (h : a = b) : Ending.returned a = Ending.returned b := by rw [h]
theorem ret_int {k : IntKind} {a b : Int} (h : a = b) : Ending.returned (.int k a) = Ending.returned (.int k b) := by rw [h]
theorem ret_bool {a b : Bool} (h : a = b) : Ending.returned (.bool a) = Ending.returned (.bool b) := by rw [h]
theorem below_drewN {B : Nat} {W W' : World} (h : Below B W W') (n : Nat) : Below B W (W'.drewN n) := by
  induction n with
  | zero => exact h
  | succ n ih => exact ih.drew

/-- the slice at A holds the numbers xs, below block B -/
structure Ints (w : World) (B : Nat) (A : Option Addr) (xs : List Int) : Prop where
  at_ : ∀ k (hk : k < xs.length), ∃ b off, A = some ⟨b, off, none⟩ ∧ b < B ∧ w.cell? ⟨b, off + k, none⟩ = some (.int .i64 xs[k])
theorem Ints.below {w w' : World} {B : Nat} {A : Option Addr} {xs : List Int} (h : Ints w B A xs) (hb : Below B w w') : Ints w' B A xs :=
  ⟨fun k hk => by
    obtain ⟨b, off, e, hlt, c⟩ := h.at_ k hk
    exact ⟨b, off, e, hlt, (hb.cell (p := ⟨b, off + k, none⟩) hlt).trans c⟩⟩
theorem Ints.more {w : World} {B B' : Nat} {A : Option Addr} {xs : List Int} (h : Ints w B A xs) (hB : B ≤ B') : Ints w B' A xs :=
  ⟨fun k hk => by
    obtain ⟨b, off, e, hlt, c⟩ := h.at_ k hk
    exact ⟨b, off, e, by omega, c⟩⟩
theorem Ints.nil {w : World} {B : Nat} {A : Option Addr} : Ints w B A [] := ⟨fun k hk => absurd hk (by simp)⟩
/-- the slice at A holds the lists sh, below block B -/
structure Lists (w : World) (B : Nat) (A : Option Addr) (sh : List (List Int)) : Prop where
  at_ : ∀ k (hk : k < sh.length), ∃ b off A' c', A = some ⟨b, off, none⟩ ∧ b < B ∧ w.cell? ⟨b, off + k, none⟩ = some (.slice A' sh[k].length c') ∧ Ints w B A' sh[k] ∧ sh[k].length ≤ 9223372036854775807
theorem Lists.below {w w' : World} {B : Nat} {A : Option Addr} {sh : List (List Int)} (h : Lists w B A sh) (hb : Below B w w') : Lists w' B A sh :=
  ⟨fun k hk => by
    obtain ⟨b, off, A', c', e, hlt, c, hi, hl⟩ := h.at_ k hk
    exact ⟨b, off, A', c', e, hlt, (hb.cell (p := ⟨b, off + k, none⟩) hlt).trans c, hi.below hb, hl⟩⟩
theorem Lists.more {w : World} {B B' : Nat} {A : Option Addr} {sh : List (List Int)} (h : Lists w B A sh) (hB : B ≤ B') : Lists w B' A sh :=
  ⟨fun k hk => by
    obtain ⟨b, off, A', c', e, hlt, c, hi, hl⟩ := h.at_ k hk
    exact ⟨b, off, A', c', e, by omega, c, hi.more hB, hl⟩⟩

theorem size_drewN (w : World) (n : Nat) : (w.drewN n).heap.size = w.heap.size := by
  induction n with
  | zero => rfl
  | succ n ih => exact ih
/-- what slices.Index answers -/
def IdxPost (xs : List Int) (v : Int) (w : World) (e : Ending) (w' : World) : Prop := (∃ i : Int, e = .returned (.int .i64 i) ∧ decide (0 ≤ i) = xs.contains v) ∧ w' = w
theorem Ints.drewN {w : World} {B : Nat} {A : Option Addr} {xs : List Int} (h : Ints w B A xs) (n : Nat) : Ints (w.drewN n) B A xs := h.below (below_drewN (Below.refl _ _) n)
theorem index_calls (A : Option Addr) (c : Nat) (xs : List Int) (v : Int) (w : World) (h : Ints w w.heap.size A xs) (hm : xs.length ≤ 9223372036854775807) :
    Calls Tryd.prog 65 #[.slice A xs.length c, .int .i64 v] w (IdxPost xs v w) := by
  go_enter Tryd.func65, Tryd.ntmps65
  go_wp2
  go_loopw [5, 8] (fun _ i wr => ∃ k : Nat, k ≤ xs.length ∧ i = .int .i64 k ∧ (xs.take k).contains v = false ∧ wr = w) (fun _ i _ => xs.length - (intOf i).toNat)
  case atStart => exact ⟨0, Nat.zero_le _, rfl, by simp, rfl⟩
  case round =>
    obtain ⟨k, hk, rfl, hno, rfl⟩ := hrel
    have Hno := bx hno
    clear hno
    by_cases hlt : k < xs.length
    · obtain ⟨b, off, rfl, hb, c1⟩ := h.at_ k hlt
      have Hs := bx (show (xs.take (k + 1)).contains v = ((xs.take k).contains v || v == xs[k]) by
        rw [List.take_succ_eq_append_getElem hlt]; simp only [List.contains_append, List.contains_cons, List.contains_nil, Bool.or_false])
      have Hm := bx (fun hv : v = xs[k] => show xs.contains v = true by rw [hv]; simp)
      generalize xs[k] = y at *
      by_cases hv : v = y
      · subst hv
        have Ht := bx (Hm.out rfl)
        go_wp2
        go_ret
        exact ⟨⟨k, rfl, by rw [Ht.out]; simp⟩, rfl⟩
      · have Hv := bx (show (v == y) = false by simp [hv])
        go_wp2
        go_roundw
        case rel => exact ⟨k + 1, by omega, by go_num, by rw [Hs.out, Hno.out, Hv.out]; rfl, trivial⟩
        case measure => simp [intOf]; omega
    · obtain rfl : k = xs.length := by omega
      have Hc := bx (show xs.contains v = false by have := Hno.out; rwa [List.take_of_length_le (Nat.le_refl _)] at this)
      go_wp2
      go_ret
      exact ⟨⟨-1, rfl, by rw [Hc.out]; rfl⟩, rfl⟩
theorem contains_calls (A : Option Addr) (c : Nat) (xs : List Int) (v : Int) (w : World) (h : Ints w w.heap.size A xs) (hm : xs.length ≤ 9223372036854775807) :
    Calls Tryd.prog 63 #[.slice A xs.length c, .int .i64 v] w fun e w' => e = .returned (.bool (xs.contains v)) ∧ w' = w := by
  go_enter Tryd.func63, Tryd.ntmps63
  go_wp2_with fail
  refine (index_calls A c xs v w h hm).mono ?_
  rintro e w' ⟨⟨i, rfl, hi⟩, rfl⟩
  have Hi := bx hi
  clear hi
  go_wp2
  go_ret
  exact ⟨ret_bool Hi.out, rfl⟩

/-- a graph in a box -/
structure GBox (w : World) (B b : Nat) (n : Int) (sh : List (List Int)) : Prop where
  lt : b < B
  len : sh.length ≤ 9223372036854775807
  c0 : w.cell? ⟨b, 0, none⟩ = some (.int .i64 n)
  c1 : ∃ A c, w.cell? ⟨b, 1, none⟩ = some (.slice A sh.length c) ∧ Lists w B A sh
theorem GBox.below {w w' : World} {B b : Nat} {n : Int} {sh : List (List Int)} (h : GBox w B b n sh) (hb : Below B w w') : GBox w' B b n sh := by
  obtain ⟨lt, len, c0, A, c, c1, hl⟩ := h
  exact ⟨lt, len, (hb.cell (p := ⟨b, 0, none⟩) lt).trans c0, A, c, (hb.cell (p := ⟨b, 1, none⟩) lt).trans c1, hl.below hb⟩
theorem GBox.more {w : World} {B B' b : Nat} {n : Int} {sh : List (List Int)} (h : GBox w B b n sh) (hB : B ≤ B') : GBox w B' b n sh := by
  obtain ⟨lt, len, c0, A, c, c1, hl⟩ := h
  exact ⟨by omega, len, c0, A, c, c1, hl.more hB⟩
/-- does a unit cause a symptom -/
def cau1 (sh : List (List Int)) (s u : Int) : Bool := decide (0 ≤ u) && (decide (u < sh.length) && (sh.getD u.toNat []).contains s)
theorem cau_eq (sh : List (List Int)) (us : List Int) (s : Int) : cau sh us s = us.any (cau1 sh s) := rfl

theorem caused1 (n : Int) (sh : List (List Int)) (s u : Int) (bg bs : Nat) (w : World) (h : GBox w w.heap.size bg n sh) (hs : w.cell? ⟨bs, 0, none⟩ = some (.int .i64 s)) :
    Calls Tryd.prog 62 #[.int .i64 u, .pointer (some ⟨bg, 0, none⟩), .pointer (some ⟨bs, 0, none⟩)] w fun e w' => e = .returned (.bool (cau1 sh s u)) ∧ Below w.heap.size w w' := by
  obtain ⟨lt, len, c0, A, c, c1, hl⟩ := h
  by_cases h0 : 0 ≤ u
  · by_cases h1 : u < sh.length
    · obtain ⟨k, rfl⟩ : ∃ k : Nat, u = k := ⟨u.toNat, by omega⟩
      obtain ⟨b, off, A', c', rfl, hb, g1, g2, g3⟩ := hl.at_ k (by omega)
      have He := bx (show (sh[k]'(by omega)).contains s = cau1 sh s k by
        unfold cau1
        rw [show decide ((0 : Int) ≤ k) = true by simp, show decide ((k : Int) < sh.length) = true by simpa using h1]
        simp only [Bool.true_and, Int.toNat_natCast]
        rw [List.getD_eq_getElem?_getD, List.getElem?_eq_getElem (by omega)]; rfl)
      have hk : k < sh.length := by omega
      generalize sh[k] = l at *
      go_enter Tryd.func62, Tryd.ntmps62
      go_wp2_with fail
      go_quiet ((go_at_call 63; exact Calls.quiet_of_same ((contains_calls _ _ _ _ _ (by rw [size_drewN]; exact g2.drewN _) g3).mono fun e w' ⟨a, b⟩ => ⟨a, b⟩)))
      go_wp2
      go_ret
      exact ⟨ret_bool (by rw [← He.out]; simp), below_drewN (Below.refl _ _) _⟩
    · have He := bx (show false = cau1 sh s u by
        unfold cau1; rw [show decide (u < sh.length) = false by simpa using h1]; simp)
      have hd : decide (u < (sh.length : Int)) = false := by simpa using h1
      go_enter Tryd.func62, Tryd.ntmps62
      go_wp2_with fail
      go_quiet (fail)
      go_wp2
      go_ret
      exact ⟨ret_bool He.out, below_drewN (Below.refl _ _) _⟩
  · have He := bx (show false = cau1 sh s u by
      unfold cau1; rw [show decide (0 ≤ u) = false by simpa using h0]; simp)
    have hd : decide ((0 : Int) ≤ u) = false := by simpa using h0
    go_enter Tryd.func62, Tryd.ntmps62
    go_wp2_with fail
    go_quiet (fail)
    go_wp2
    go_ret
    exact ⟨ret_bool He.out, below_drewN (Below.refl _ _) _⟩
end Go.Proofs.YtgfmnolghbiedaaDoor
