/-
  Diagnose, walked and in plain Lean, joined from the texts N1, K1, K2, K3, K4, K5, K6, K7, N2, K8, K9, K10, K11, K12.
-/
import Derived.Test.YtlogokjjphlkkaaProg
import Derived.WalkKit
import Derived.Outline
import Derived.WalkLawsBesides
import Derived.BigQuiet
import Derived.Deep.QuietTactic
import Derived.Deep.RegionHeld3
import Derived.Maps.AppendAt
import Derived.Laws.AppendOwnNone
import Derived.Deep.AppendLies
import Derived.StillTailTactics
import Derived.RangeFuncNested
import Derived.RangeFuncBound
import Derived.RangeFuncCalls
import Derived.RangeFuncLeaves
import Derived.Shelf.Abstract
import Derived.Shelf.RegionOpen
import Derived.OwnWalkIn
import Derived.TacticsInMore
import Derived.LoopNIn
import Derived.LoopIn
import Derived.Lib.BufferMore
import Derived.Deep.DeepAppendRoom
import Derived.Deep.RegionLaw
import Derived.WalkMore
namespace Go.Proofs.Ytlogokjjphlkkaa.Dg

/-- what units cause a symptom -/
def cau (sh : List (List Int)) (us : List Int) (s : Int) : Bool := us.any fun u => decide (0 ≤ u) && (decide (u < sh.length) && (sh.getD u.toNat []).contains s)
def expl (sh : List (List Int)) (us seen clear : List Int) : Bool := seen.all (cau sh us) && !clear.any (cau sh us)
def units (n : Nat) : List Int := (List.range n).map Int.ofNat
def cand (sh : List (List Int)) (clear : List Int) : List Int := (units sh.length).filter fun u => expl sh [u] [] clear
/-- all sets of k elements of a list, in order -/
def subs : List Int → Nat → List (List Int)
  | _, 0 => [[]]
  | [], _ + 1 => []
  | x :: xs, k + 1 => (subs xs k).map (x :: ·) ++ subs xs (k + 1)
theorem subs_zero (l : List Int) : subs l 0 = [[]] := by cases l <;> rfl
set_option maxRecDepth 100000 in
theorem subs_short : ∀ (l : List Int) (k : Nat), l.length < k → subs l k = [] := by
  intro l
  induction l with
  | nil => intro k hk; cases k with
    | zero => omega
    | succ k => rfl
  | cons x xs ih =>
    intro k hk
    cases k with
    | zero => simp at hk
    | succ k =>
      rw [subs, ih k (by simp at hk; omega), ih (k + 1) (by simp at hk; omega)]; rfl
/-- one round of the loop over the first element -/
theorem subs_round (l : List Int) (k i : Nat) (hi : i < l.length) : subs (l.drop i) (k + 1) = (subs (l.drop (i + 1)) k).map (l[i] :: ·) ++ subs (l.drop (i + 1)) (k + 1) := by
  rw [List.drop_eq_getElem_cons hi, subs]
set_option maxRecDepth 100000 in
theorem mem_subs : ∀ (l : List Int) (k : Nat) (s : List Int), s ∈ subs l k → s.Sublist l ∧ s.length = k := by
  intro l
  induction l with
  | nil =>
    intro k s hs
    cases k with
    | zero => simp [subs] at hs; subst hs; simp
    | succ k => simp [subs] at hs
  | cons x xs ih =>
    intro k s hs
    cases k with
    | zero => simp [subs] at hs; subst hs; simp
    | succ k =>
      simp only [subs, List.mem_append, List.mem_map] at hs
      rcases hs with ⟨t, ht, rfl⟩ | hs
      · obtain ⟨h1, h2⟩ := ih k t ht
        exact ⟨h1.cons_cons x, by simp [h2]⟩
      · obtain ⟨h1, h2⟩ := ih (k + 1) s hs
        exact ⟨h1.cons x, h2⟩
set_option maxRecDepth 100000 in
theorem sub_mem : ∀ (l s : List Int), s.Sublist l → s ∈ subs l s.length := by
  intro l
  induction l with
  | nil => intro s hs; obtain rfl := List.sublist_nil.1 hs; simp [subs]
  | cons x xs ih =>
    intro s hs
    cases hs with
    | cons _ h =>
      cases s with
      | nil => simp [subs]
      | cons y ys => simp only [List.length_cons, subs, List.mem_append]; exact .inr (ih _ h)
    | cons_cons _ h => simp only [List.length_cons, subs, List.mem_append, List.mem_map]; exact .inl ⟨_, ih _ h, rfl⟩
set_option maxRecDepth 100000 in
/-- sets whose elements all satisfy a test are the sets of the elements that do -/
theorem subs_filter (p : Int → Bool) : ∀ (l : List Int) (k : Nat), (subs l k).filter (fun s => s.all p) = subs (l.filter p) k := by
  intro l
  induction l with
  | nil => intro k; cases k <;> rfl
  | cons x xs ih =>
    intro k
    cases k with
    | zero => simp [subs_zero]
    | succ k =>
      rw [subs, List.filter_append, ih (k + 1), List.filter_map]
      by_cases hp : p x = true
      · have e : ((fun s : List Int => s.all p) ∘ (fun s => x :: s)) = fun s => s.all p := by funext s; simp [hp]
        rw [e, ih k, List.filter_cons_of_pos hp, subs]
      · have e : ((fun s : List Int => s.all p) ∘ (fun s => x :: s)) = fun _ => false := by funext s; simp [hp]
        rw [e, List.filter_cons_of_neg hp]; simp
theorem cau_append (sh : List (List Int)) (a b : List Int) (s : Int) : cau sh (a ++ b) s = (cau sh a s || cau sh b s) := by simp [cau]
theorem cau_iff (sh : List (List Int)) (us : List Int) (s : Int) : cau sh us s = true ↔ ∃ u ∈ us, cau sh [u] s = true := by
  simp [cau]
theorem expl_iff (sh : List (List Int)) (us seen clear : List Int) : expl sh us seen clear = true ↔ (∀ s ∈ seen, cau sh us s = true) ∧ ∀ s ∈ clear, cau sh us s = false := by
  simp [expl]
set_option maxRecDepth 100000 in
theorem expl_clear (sh : List (List Int)) (us clear : List Int) : (!clear.any (cau sh us)) = us.all fun u => expl sh [u] [] clear := by
  rw [Bool.eq_iff_iff]
  simp only [Bool.not_eq_true', List.any_eq_false, List.all_eq_true, expl_iff, List.not_mem_nil, false_implies, implies_true, true_and, Bool.not_eq_true]
  constructor
  · intro h u hu s hs
    cases hc : cau sh [u] s
    · rfl
    · have := h s hs
      rw [(cau_iff sh us s).2 ⟨u, hu, hc⟩] at this; cases this
  · intro h s hs
    cases hc : cau sh us s
    · rfl
    · obtain ⟨u, hu, hx⟩ := (cau_iff sh us s).1 hc
      rw [h u hu s hs] at hx; cases hx
theorem expl_split (sh : List (List Int)) (us seen clear : List Int) : expl sh us seen clear = (expl sh us seen [] && us.all fun u => expl sh [u] [] clear) := by
  rw [← expl_clear]; simp [expl]
/-- the explanations of one size: by the candidates, and by all units -/
theorem sized (sh : List (List Int)) (seen clear : List Int) (k : Nat) :
    (subs (units sh.length) k).filter (fun s => expl sh s seen clear) = (subs (cand sh clear) k).filter (fun s => expl sh s seen []) := by
  rw [cand, ← subs_filter, List.filter_filter]
  congr 1
  funext s
  exact expl_split sh s seen clear
/-- the first size at which there are explanations -/
def firstOf (f : Nat → List (List Int)) : Nat → List (List Int)
  | 0 => []
  | n + 1 => if firstOf f n = [] then f n else firstOf f n
set_option maxRecDepth 100000 in
theorem firstOf_more (f : Nat → List (List Int)) : ∀ (m n : Nat), (∀ k, n ≤ k → f k = []) → firstOf f (n + m) = firstOf f n := by
  intro m
  induction m with
  | zero => intros; rfl
  | succ m ih =>
    intro n h
    rw [← Nat.add_assoc, firstOf, ih n h, h (n + m) (by omega)]
    split
    · rename_i h; exact h.symm
    · rfl
def allOf (sh : List (List Int)) (seen clear : List Int) : List (List Int) := firstOf (fun k => (subs (cand sh clear) k).filter fun s => expl sh s seen []) ((cand sh clear).length + 1)
def leastOf (sh : List (List Int)) (seen clear : List Int) : Option (List Int) := (allOf sh seen clear).head?
theorem cand_len (sh : List (List Int)) (clear : List Int) : (cand sh clear).length ≤ sh.length := by
  have := List.length_filter_le (fun u => expl sh [u] [] clear) (units sh.length)
  simpa [cand, units] using this
set_option maxRecDepth 100000 in
/-- the answer of the document is the answer of the candidates -/
theorem allOf_ref (sh : List (List Int)) (seen clear : List Int) :
    firstOf (fun k => (subs (units sh.length) k).filter fun s => expl sh s seen clear) (sh.length + 1) = allOf sh seen clear := by
  have h : (fun k => (subs (units sh.length) k).filter fun s => expl sh s seen clear) = fun k => (subs (cand sh clear) k).filter fun s => expl sh s seen [] := by
    funext k; exact sized sh seen clear k
  have hc := cand_len sh clear
  rw [h, allOf]
  obtain ⟨m, hm⟩ : ∃ m, sh.length + 1 = ((cand sh clear).length + 1) + m := ⟨sh.length - (cand sh clear).length, by omega⟩
  rw [hm]
  exact firstOf_more _ m _ fun k hk => by rw [subs_short _ _ (by omega)]; rfl
end Go.Proofs.Ytlogokjjphlkkaa.Dg
namespace Go.Proofs.Ytlogokjjphlkkaa.Dg
open Go.RowKit

/-- a fact hidden from the walk -/
structure Bx (p : Prop) : Prop where
  out : p
theorem bx {p : Prop} (h : p) : Bx p := ⟨h⟩
theorem retv {a b : Value} (h : a = b) : Ending.returned a = Ending.returned b := by rw [h]
theorem ret_int {k : IntKind} {a b : Int} (h : a = b) : Ending.returned (.int k a) = Ending.returned (.int k b) := by rw [h]
theorem ret_bool {a b : Bool} (h : a = b) : Ending.returned (.bool a) = Ending.returned (.bool b) := by rw [h]
theorem below_drewN {B : Nat} {W W' : World} (h : Below B W W') (n : Nat) : Below B W (W'.drewN n) := by
  induction n with
  | zero => exact h
  | succ n ih => exact ih.drew

/-- the slice at A holds the numbers xs, below block B -/
structure Ints (w : World) (B : Nat) (A : Option Addr) (xs : List Int) : Prop where
  at_ : ∀ k (hk : k < xs.length), ∃ b off, A = some ⟨b, off, none⟩ ∧ b < B ∧ w.cell? ⟨b, off + k, none⟩ = some (.int .i64 xs[k])
theorem Ints.below {w w' : World} {B : Nat} {A : Option Addr} {xs : List Int} (h : Ints w B A xs) (hb : Below B w w') : Ints w' B A xs :=
  ⟨fun k hk => by
    obtain ⟨b, off, e, hlt, c⟩ := h.at_ k hk
    exact ⟨b, off, e, hlt, (hb.cell (p := ⟨b, off + k, none⟩) hlt).trans c⟩⟩
theorem Ints.more {w : World} {B B' : Nat} {A : Option Addr} {xs : List Int} (h : Ints w B A xs) (hB : B ≤ B') : Ints w B' A xs :=
  ⟨fun k hk => by
    obtain ⟨b, off, e, hlt, c⟩ := h.at_ k hk
    exact ⟨b, off, e, by omega, c⟩⟩
theorem Ints.nil {w : World} {B : Nat} {A : Option Addr} : Ints w B A [] := ⟨fun k hk => absurd hk (by simp)⟩
/-- the slice at A holds the lists sh, below block B -/
structure Lists (w : World) (B : Nat) (A : Option Addr) (sh : List (List Int)) : Prop where
  at_ : ∀ k (hk : k < sh.length), ∃ b off A' c', A = some ⟨b, off, none⟩ ∧ b < B ∧ w.cell? ⟨b, off + k, none⟩ = some (.slice A' sh[k].length c') ∧ Ints w B A' sh[k] ∧ sh[k].length ≤ 9223372036854775807
theorem Lists.below {w w' : World} {B : Nat} {A : Option Addr} {sh : List (List Int)} (h : Lists w B A sh) (hb : Below B w w') : Lists w' B A sh :=
  ⟨fun k hk => by
    obtain ⟨b, off, A', c', e, hlt, c, hi, hl⟩ := h.at_ k hk
    exact ⟨b, off, A', c', e, hlt, (hb.cell (p := ⟨b, off + k, none⟩) hlt).trans c, hi.below hb, hl⟩⟩
theorem Lists.more {w : World} {B B' : Nat} {A : Option Addr} {sh : List (List Int)} (h : Lists w B A sh) (hB : B ≤ B') : Lists w B' A sh :=
  ⟨fun k hk => by
    obtain ⟨b, off, A', c', e, hlt, c, hi, hl⟩ := h.at_ k hk
    exact ⟨b, off, A', c', e, by omega, c, hi.more hB, hl⟩⟩

theorem size_drewN (w : World) (n : Nat) : (w.drewN n).heap.size = w.heap.size := by
  induction n with
  | zero => rfl
  | succ n ih => exact ih
/-- what slices.Index answers -/
def IdxPost (xs : List Int) (v : Int) (w : World) (e : Ending) (w' : World) : Prop := (∃ i : Int, e = .returned (.int .i64 i) ∧ decide (0 ≤ i) = xs.contains v) ∧ w' = w
theorem Ints.drewN {w : World} {B : Nat} {A : Option Addr} {xs : List Int} (h : Ints w B A xs) (n : Nat) : Ints (w.drewN n) B A xs := h.below (below_drewN (Below.refl _ _) n)
set_option maxRecDepth 100000 in
theorem index_calls (A : Option Addr) (c : Nat) (xs : List Int) (v : Int) (w : World) (h : Ints w w.heap.size A xs) (hm : xs.length ≤ 9223372036854775807) :
    Calls Try.prog 173 #[.slice A xs.length c, .int .i64 v] w (IdxPost xs v w) := by
  go_enter Try.func173, Try.ntmps173
  go_wp2
  go_loopw [5, 8] (fun _ i wr => ∃ k : Nat, k ≤ xs.length ∧ i = .int .i64 k ∧ (xs.take k).contains v = false ∧ wr = w) (fun _ i _ => xs.length - (intOf i).toNat)
  case atStart => exact ⟨0, Nat.zero_le _, rfl, by simp, rfl⟩
  case round =>
    obtain ⟨k, hk, rfl, hno, rfl⟩ := hrel
    have Hno := bx hno
    clear hno
    by_cases hlt : k < xs.length
    · obtain ⟨b, off, rfl, hb, c1⟩ := h.at_ k hlt
      have Hs := bx (show (xs.take (k + 1)).contains v = ((xs.take k).contains v || v == xs[k]) by
        rw [List.take_succ_eq_append_getElem hlt]; simp only [List.contains_append, List.contains_cons, List.contains_nil, Bool.or_false])
      have Hm := bx (fun hv : v = xs[k] => show xs.contains v = true by rw [hv]; simp)
      generalize xs[k] = y at *
      by_cases hv : v = y
      · subst hv
        have Ht := bx (Hm.out rfl)
        go_wp2
        go_ret
        exact ⟨⟨k, rfl, by rw [Ht.out]; simp⟩, rfl⟩
      · have Hv := bx (show (v == y) = false by simp [hv])
        go_wp2
        go_roundw
        case rel => exact ⟨k + 1, by omega, by go_num, by rw [Hs.out, Hno.out, Hv.out]; rfl, trivial⟩
        case measure => simp [intOf]; omega
    · obtain rfl : k = xs.length := by omega
      have Hc := bx (show xs.contains v = false by have := Hno.out; rwa [List.take_of_length_le (Nat.le_refl _)] at this)
      go_wp2
      go_ret
      exact ⟨⟨-1, rfl, by rw [Hc.out]; rfl⟩, rfl⟩
set_option maxRecDepth 100000 in
theorem contains_calls (A : Option Addr) (c : Nat) (xs : List Int) (v : Int) (w : World) (h : Ints w w.heap.size A xs) (hm : xs.length ≤ 9223372036854775807) :
    Calls Try.prog 155 #[.slice A xs.length c, .int .i64 v] w fun e w' => e = .returned (.bool (xs.contains v)) ∧ w' = w := by
  go_enter Try.func155, Try.ntmps155
  go_wp2_with fail
  refine (index_calls A c xs v w h hm).mono ?_
  rintro e w' ⟨⟨i, rfl, hi⟩, rfl⟩
  have Hi := bx hi
  clear hi
  go_wp2
  go_ret
  exact ⟨ret_bool Hi.out, rfl⟩

/-- a graph in a box -/
structure GBox (w : World) (B b : Nat) (n : Int) (sh : List (List Int)) : Prop where
  lt : b < B
  len : sh.length ≤ 9223372036854775807
  c0 : w.cell? ⟨b, 0, none⟩ = some (.int .i64 n)
  c1 : ∃ A c, w.cell? ⟨b, 1, none⟩ = some (.slice A sh.length c) ∧ Lists w B A sh
theorem GBox.below {w w' : World} {B b : Nat} {n : Int} {sh : List (List Int)} (h : GBox w B b n sh) (hb : Below B w w') : GBox w' B b n sh := by
  obtain ⟨lt, len, c0, A, c, c1, hl⟩ := h
  exact ⟨lt, len, (hb.cell (p := ⟨b, 0, none⟩) lt).trans c0, A, c, (hb.cell (p := ⟨b, 1, none⟩) lt).trans c1, hl.below hb⟩
theorem GBox.more {w : World} {B B' b : Nat} {n : Int} {sh : List (List Int)} (h : GBox w B b n sh) (hB : B ≤ B') : GBox w B' b n sh := by
  obtain ⟨lt, len, c0, A, c, c1, hl⟩ := h
  exact ⟨by omega, len, c0, A, c, c1, hl.more hB⟩
/-- does a unit cause a symptom -/
def cau1 (sh : List (List Int)) (s u : Int) : Bool := decide (0 ≤ u) && (decide (u < sh.length) && (sh.getD u.toNat []).contains s)
theorem cau_eq (sh : List (List Int)) (us : List Int) (s : Int) : cau sh us s = us.any (cau1 sh s) := rfl

set_option maxRecDepth 100000 in
theorem caused1 (n : Int) (sh : List (List Int)) (s u : Int) (bg bs : Nat) (w : World) (h : GBox w w.heap.size bg n sh) (hs : w.cell? ⟨bs, 0, none⟩ = some (.int .i64 s)) :
    Calls Try.prog 154 #[.int .i64 u, .pointer (some ⟨bg, 0, none⟩), .pointer (some ⟨bs, 0, none⟩)] w fun e w' => e = .returned (.bool (cau1 sh s u)) ∧ Below w.heap.size w w' := by
  obtain ⟨lt, len, c0, A, c, c1, hl⟩ := h
  by_cases h0 : 0 ≤ u
  · by_cases h1 : u < sh.length
    · obtain ⟨k, rfl⟩ : ∃ k : Nat, u = k := ⟨u.toNat, by omega⟩
      obtain ⟨b, off, A', c', rfl, hb, g1, g2, g3⟩ := hl.at_ k (by omega)
      have He := bx (show (sh[k]'(by omega)).contains s = cau1 sh s k by
        unfold cau1
        rw [show decide ((0 : Int) ≤ k) = true by simp, show decide ((k : Int) < sh.length) = true by simpa using h1]
        simp only [Bool.true_and, Int.toNat_natCast]
        rw [List.getD_eq_getElem?_getD, List.getElem?_eq_getElem (by omega)]; rfl)
      have hk : k < sh.length := by omega
      generalize sh[k] = l at *
      go_enter Try.func154, Try.ntmps154
      go_wp2_with fail
      go_quiet ((go_at_call 155; exact Calls.quiet_of_same ((contains_calls _ _ _ _ _ (by rw [size_drewN]; exact g2.drewN _) g3).mono fun e w' ⟨a, b⟩ => ⟨a, b⟩)))
      go_wp2
      go_ret
      exact ⟨ret_bool (by rw [← He.out]; simp), below_drewN (Below.refl _ _) _⟩
    · have He := bx (show false = cau1 sh s u by
        unfold cau1; rw [show decide (u < sh.length) = false by simpa using h1]; simp)
      have hd : decide (u < (sh.length : Int)) = false := by simpa using h1
      go_enter Try.func154, Try.ntmps154
      go_wp2_with fail
      go_quiet (fail)
      go_wp2
      go_ret
      exact ⟨ret_bool He.out, below_drewN (Below.refl _ _) _⟩
  · have He := bx (show false = cau1 sh s u by
      unfold cau1; rw [show decide (0 ≤ u) = false by simpa using h0]; simp)
    have hd : decide ((0 : Int) ≤ u) = false := by simpa using h0
    go_enter Try.func154, Try.ntmps154
    go_wp2_with fail
    go_quiet (fail)
    go_wp2
    go_ret
    exact ⟨ret_bool He.out, below_drewN (Below.refl _ _) _⟩
end Go.Proofs.Ytlogokjjphlkkaa.Dg
namespace Go.Proofs.Ytlogokjjphlkkaa.Dg
open Go.RowKit

/-- what slices.IndexFunc answers -/
def AnyPost (us : List Int) (p : Int → Bool) (w : World) (e : Ending) (w' : World) : Prop := (∃ i : Int, e = .returned (.int .i64 i) ∧ decide (0 ≤ i) = us.any p) ∧ Below w.heap.size w w'
set_option maxRecDepth 100000 in
/-- slices.IndexFunc at the closure cau -/
theorem indexFunc_cau (A : Option Addr) (c : Nat) (us : List Int) (n : Int) (sh : List (List Int)) (s : Int) (bg bs : Nat) (w : World) (h : Ints w w.heap.size A us) (hm : us.length ≤ 9223372036854775807) (hg : GBox w w.heap.size bg n sh) (hs : w.cell? ⟨bs, 0, none⟩ = some (.int .i64 s)) :
    Calls Try.prog 138 #[.slice A us.length c, .func (.func 154) #[] #[.pointer (some ⟨bg, 0, none⟩), .pointer (some ⟨bs, 0, none⟩)]] w (AnyPost us (cau1 sh s) w) := by
  go_enter Try.func138, Try.ntmps138
  go_wp2
  go_loopw [5, 8] (fun _ i wr => ∃ k : Nat, k ≤ us.length ∧ i = .int .i64 k ∧ (us.take k).any (cau1 sh s) = false ∧ Below w.heap.size w wr) (fun _ i _ => us.length - (intOf i).toNat)
  case atStart => exact ⟨0, Nat.zero_le _, rfl, rfl, Below.refl _ _⟩
  case round =>
    obtain ⟨k, hk, rfl, hno, hbw⟩ := hrel
    have Hno := bx hno
    clear hno
    have hw := h.below hbw
    have hG := bx ((hg.below hbw).more hbw.size)
    have hS := (hbw.cell (p := ⟨bs, 0, none⟩) (World.block_lt_of_cell? w _ hs)).trans hs
    by_cases hlt : k < us.length
    · obtain ⟨b, off, rfl, hb, g1⟩ := hw.at_ k hlt
      have Hs := bx (show (us.take (k + 1)).any (cau1 sh s) = ((us.take k).any (cau1 sh s) || (cau1 sh s) us[k]) by
        rw [List.take_succ_eq_append_getElem hlt, List.any_append]; simp)
      have Hm := bx (fun hb : (cau1 sh s) us[k] = true => show us.any (cau1 sh s) = true from List.any_eq_true.2 ⟨_, List.getElem_mem hlt, hb⟩)
      generalize us[k] = u at *
      cases hi : (cau1 sh s) u
      · have Hi := bx hi
        clear hi
        go_wp2_with fail
        refine (caused1 n sh s u bg bs wr hG.out hS).mono ?_
        rintro e w' ⟨rfl, hb'⟩
        rw [Hi.out]
        go_wp2
        go_roundw
        case rel => exact ⟨k + 1, by omega, by go_num, by rw [Hs.out, Hno.out, Hi.out]; rfl, hbw.trans (hb'.mono hbw.size)⟩
        case measure => simp [intOf]; omega
      · have Hi := bx hi
        have Ht := bx (Hm.out hi)
        clear hi
        go_wp2_with fail
        refine (caused1 n sh s u bg bs wr hG.out hS).mono ?_
        rintro e w' ⟨rfl, hb'⟩
        rw [Hi.out]
        go_wp2
        go_ret
        exact ⟨⟨k, rfl, by rw [Ht.out]; simp⟩, hbw.trans (hb'.mono hbw.size)⟩
    · obtain rfl : k = us.length := by omega
      have Hc := bx (show us.any (cau1 sh s) = false by have := Hno.out; rwa [List.take_of_length_le (Nat.le_refl _)] at this)
      go_wp2
      go_ret
      exact ⟨⟨-1, rfl, by rw [Hc.out]; rfl⟩, hbw⟩
set_option maxRecDepth 100000 in
/-- slices.ContainsFunc at the closure cau -/
theorem containsFunc_cau (A : Option Addr) (c : Nat) (us : List Int) (n : Int) (sh : List (List Int)) (s : Int) (bg bs : Nat) (w : World) (h : Ints w w.heap.size A us) (hm : us.length ≤ 9223372036854775807) (hg : GBox w w.heap.size bg n sh) (hs : w.cell? ⟨bs, 0, none⟩ = some (.int .i64 s)) (x : Bool) (hx : us.any (cau1 sh s) = x) :
    Calls Try.prog 96 #[.slice A us.length c, .func (.func 154) #[] #[.pointer (some ⟨bg, 0, none⟩), .pointer (some ⟨bs, 0, none⟩)]] w fun e w' => e = .returned (.bool x) ∧ Below w.heap.size w w' := by
  go_enter Try.func96, Try.ntmps96
  go_wp2_with fail
  refine (indexFunc_cau A c us n sh s bg bs w h hm hg hs).mono ?_
  rintro e w' ⟨⟨i, rfl, hi⟩, hb⟩
  rw [hx] at hi
  have Hi := bx hi
  clear hi
  go_wp2
  go_ret
  exact ⟨ret_bool Hi.out, hb⟩

theorem gbox_new (w : World) (n : Int) (A : Option Addr) (c : Nat) (sh : List (List Int)) (hl : Lists w w.heap.size A sh) (hn : sh.length ≤ 9223372036854775807) :
    GBox (w.alloc (.cells #[.int .i64 n, .slice A sh.length c] 108)) (w.heap.size + 1) w.heap.size n sh :=
  ⟨by omega, hn, by rw [World.cell?_alloc_new]; rfl, A, c, by rw [World.cell?_alloc_new]; rfl, (hl.below ((Below.refl _ _).alloc (Nat.le_refl _) _)).more (by omega)⟩
set_option maxRecDepth 100000 in
theorem caused_calls (n : Int) (AG : Option Addr) (cG : Nat) (sh : List (List Int)) (A : Option Addr) (c : Nat) (us : List Int) (s : Int) (w : World) (hl : Lists w w.heap.size AG sh) (hn : sh.length ≤ 9223372036854775807)
    (h : Ints w w.heap.size A us) (hm : us.length ≤ 9223372036854775807) (x : Bool) (hx : cau sh us s = x) :
    Calls Try.prog 120 #[.agg #[.int .i64 n, .slice AG sh.length cG], .slice A us.length c, .int .i64 s] w fun e w' => e = .returned (.bool x) ∧ Below w.heap.size w w' := by
  have hb0 : Below w.heap.size w ((w.alloc (.cells #[.int .i64 n, .slice AG sh.length cG] 108)).alloc (.cells #[.int .i64 s] 3)) := ((Below.refl _ _).alloc (Nat.le_refl _) _).alloc (by simp) _
  have hG := bx ((gbox_new w n AG cG sh hl hn).below (w' := (w.alloc (.cells #[.int .i64 n, .slice AG sh.length cG] 108)).alloc (.cells #[.int .i64 s] 3)) ((Below.refl _ _).alloc (by simp) _))
  go_enter Try.func120, Try.ntmps120
  go_wp2_with fail
  refine (containsFunc_cau A c us n sh s w.heap.size (w.heap.size + 1) _ ((h.below hb0).more hb0.size) hm (hG.out.more (by simp)) (by have e := World.cell?_alloc_new (w.alloc (.cells #[.int .i64 n, .slice AG sh.length cG] 108)) #[.int .i64 s] 3 0; rw [World.size_alloc] at e; exact e) x hx).mono ?_
  rintro e w' ⟨rfl, hb⟩
  go_wp2
  go_ret
  exact ⟨rfl, hb0.trans (hb.mono hb0.size)⟩
/-- a slice of numbers in a box -/
structure UBox (w : World) (B b : Nat) (us : List Int) : Prop where
  lt : b < B
  len : us.length ≤ 9223372036854775807
  c0 : ∃ A c, w.cell? ⟨b, 0, none⟩ = some (.slice A us.length c) ∧ Ints w B A us
theorem UBox.below {w w' : World} {B b : Nat} {us : List Int} (h : UBox w B b us) (hb : Below B w w') : UBox w' B b us := by
  obtain ⟨lt, len, A, c, c0, hi⟩ := h
  exact ⟨lt, len, A, c, (hb.cell (p := ⟨b, 0, none⟩) lt).trans c0, hi.below hb⟩
theorem UBox.more {w : World} {B B' b : Nat} {us : List Int} (h : UBox w B b us) (hB : B ≤ B') : UBox w B' b us := by
  obtain ⟨lt, len, A, c, c0, hi⟩ := h
  exact ⟨by omega, len, A, c, c0, hi.more hB⟩
theorem ubox_new (w : World) (A : Option Addr) (c : Nat) (us : List Int) (h : Ints w w.heap.size A us) (hn : us.length ≤ 9223372036854775807) (t : TypeId) :
    UBox (w.alloc (.cells #[.slice A us.length c] t)) (w.heap.size + 1) w.heap.size us :=
  ⟨by omega, hn, A, c, by rw [World.cell?_alloc_new]; rfl, (h.below ((Below.refl _ _).alloc (Nat.le_refl _) _)).more (by omega)⟩
set_option maxRecDepth 100000 in
theorem explains1 (n : Int) (sh : List (List Int)) (us : List Int) (s : Int) (bg bu : Nat) (w : World) (hg : GBox w w.heap.size bg n sh) (hu : UBox w w.heap.size bu us) :
    Calls Try.prog 121 #[.int .i64 s, .pointer (some ⟨bg, 0, none⟩), .pointer (some ⟨bu, 0, none⟩)] w fun e w' => e = .returned (.bool (cau sh us s)) ∧ Below w.heap.size w w' := by
  obtain ⟨_, l1, g0, AG, cG, g1, hl⟩ := hg
  obtain ⟨_, l2, AU, cU, u0, hi⟩ := hu
  go_enter Try.func121, Try.ntmps121
  go_wp2_with fail
  refine (caused_calls n AG cG sh AU cU us s w hl l1 hi l2 _ rfl).mono ?_
  rintro e w' ⟨rfl, hb⟩
  go_wp2
  go_ret
  exact ⟨rfl, hb⟩
set_option maxRecDepth 100000 in
/-- slices.IndexFunc at the closure expl -/
theorem indexFunc_expl (A : Option Addr) (c : Nat) (us : List Int) (n : Int) (sh : List (List Int)) (vs : List Int) (bg bu : Nat) (w : World) (h : Ints w w.heap.size A us) (hm : us.length ≤ 9223372036854775807) (hg : GBox w w.heap.size bg n sh) (hu : UBox w w.heap.size bu vs) :
    Calls Try.prog 138 #[.slice A us.length c, .func (.func 121) #[] #[.pointer (some ⟨bg, 0, none⟩), .pointer (some ⟨bu, 0, none⟩)]] w (AnyPost us (cau sh vs) w) := by
  go_enter Try.func138, Try.ntmps138
  go_wp2
  go_loopw [5, 8] (fun _ i wr => ∃ k : Nat, k ≤ us.length ∧ i = .int .i64 k ∧ (us.take k).any (cau sh vs) = false ∧ Below w.heap.size w wr) (fun _ i _ => us.length - (intOf i).toNat)
  case atStart => exact ⟨0, Nat.zero_le _, rfl, rfl, Below.refl _ _⟩
  case round =>
    obtain ⟨k, hk, rfl, hno, hbw⟩ := hrel
    have Hno := bx hno
    clear hno
    have hw := h.below hbw
    have hG := bx ((hg.below hbw).more hbw.size)
    have hU := bx ((hu.below hbw).more hbw.size)
    by_cases hlt : k < us.length
    · obtain ⟨b, off, rfl, hb, g1⟩ := hw.at_ k hlt
      have Hs := bx (show (us.take (k + 1)).any (cau sh vs) = ((us.take k).any (cau sh vs) || (cau sh vs) us[k]) by
        rw [List.take_succ_eq_append_getElem hlt, List.any_append]; simp)
      have Hm := bx (fun hb : (cau sh vs) us[k] = true => show us.any (cau sh vs) = true from List.any_eq_true.2 ⟨_, List.getElem_mem hlt, hb⟩)
      generalize us[k] = u at *
      cases hi : (cau sh vs) u
      · have Hi := bx hi
        clear hi
        go_wp2_with fail
        refine (explains1 n sh vs u bg bu wr hG.out hU.out).mono ?_
        rintro e w' ⟨rfl, hb'⟩
        rw [Hi.out]
        go_wp2
        go_roundw
        case rel => exact ⟨k + 1, by omega, by go_num, by rw [Hs.out, Hno.out, Hi.out]; rfl, hbw.trans (hb'.mono hbw.size)⟩
        case measure => simp [intOf]; omega
      · have Hi := bx hi
        have Ht := bx (Hm.out hi)
        clear hi
        go_wp2_with fail
        refine (explains1 n sh vs u bg bu wr hG.out hU.out).mono ?_
        rintro e w' ⟨rfl, hb'⟩
        rw [Hi.out]
        go_wp2
        go_ret
        exact ⟨⟨k, rfl, by rw [Ht.out]; simp⟩, hbw.trans (hb'.mono hbw.size)⟩
    · obtain rfl : k = us.length := by omega
      have Hc := bx (show us.any (cau sh vs) = false by have := Hno.out; rwa [List.take_of_length_le (Nat.le_refl _)] at this)
      go_wp2
      go_ret
      exact ⟨⟨-1, rfl, by rw [Hc.out]; rfl⟩, hbw⟩
set_option maxRecDepth 100000 in
/-- slices.ContainsFunc at the closure expl -/
theorem containsFunc_expl (A : Option Addr) (c : Nat) (us : List Int) (n : Int) (sh : List (List Int)) (vs : List Int) (bg bu : Nat) (w : World) (h : Ints w w.heap.size A us) (hm : us.length ≤ 9223372036854775807) (hg : GBox w w.heap.size bg n sh) (hu : UBox w w.heap.size bu vs) (x : Bool) (hx : us.any (cau sh vs) = x) :
    Calls Try.prog 96 #[.slice A us.length c, .func (.func 121) #[] #[.pointer (some ⟨bg, 0, none⟩), .pointer (some ⟨bu, 0, none⟩)]] w fun e w' => e = .returned (.bool x) ∧ Below w.heap.size w w' := by
  go_enter Try.func96, Try.ntmps96
  go_wp2_with fail
  refine (indexFunc_expl A c us n sh vs bg bu w h hm hg hu).mono ?_
  rintro e w' ⟨⟨i, rfl, hi⟩, hb⟩
  rw [hx] at hi
  have Hi := bx hi
  clear hi
  go_wp2
  go_ret
  exact ⟨ret_bool Hi.out, hb⟩

set_option maxRecDepth 100000 in
theorem explains_calls (n : Int) (AG : Option Addr) (cG : Nat) (sh : List (List Int)) (A : Option Addr) (c : Nat) (us : List Int) (AS : Option Addr) (cS : Nat) (seen : List Int) (AC : Option Addr) (cC : Nat) (clear : List Int) (w : World)
    (hl : Lists w w.heap.size AG sh) (hn : sh.length ≤ 9223372036854775807) (h : Ints w w.heap.size A us) (hm : us.length ≤ 9223372036854775807)
    (h1 : Ints w w.heap.size AS seen) (hm1 : seen.length ≤ 9223372036854775807) (h2 : Ints w w.heap.size AC clear) (hm2 : clear.length ≤ 9223372036854775807) (x : Bool) (hx : expl sh us seen clear = x) :
    Calls Try.prog 81 #[.agg #[.int .i64 n, .slice AG sh.length cG], .slice A us.length c, .slice AS seen.length cS, .slice AC clear.length cC] w fun e w' => e = .returned (.bool x) ∧ Below w.heap.size w w' := by
  obtain ⟨W1, hW1⟩ : ∃ W1, w.alloc (.cells #[.int .i64 n, .slice AG sh.length cG] 108) = W1 := ⟨_, rfl⟩
  obtain ⟨W0, hW0⟩ : ∃ W0, W1.alloc (.cells #[.slice A us.length c] 22) = W0 := ⟨_, rfl⟩
  have s1 : W1.heap.size = w.heap.size + 1 := by rw [← hW1]; simp
  have s0 : W0.heap.size = w.heap.size + 2 := by rw [← hW0]; simp [s1]
  have hb1 : Below w.heap.size w W1 := by rw [← hW1]; exact (Below.refl _ _).alloc (Nat.le_refl _) _
  have hb01 : Below W1.heap.size W1 W0 := by rw [← hW0]; exact (Below.refl _ _).alloc (Nat.le_refl _) _
  have hb0 : Below w.heap.size w W0 := hb1.trans (hb01.mono hb1.size)
  have hG1 : GBox W1 W1.heap.size w.heap.size n sh := by rw [s1, ← hW1]; exact gbox_new w n AG cG sh hl hn
  have hG0 := (hG1.below hb01).more hb01.size
  have hU0 : UBox W0 W0.heap.size (w.heap.size + 1) us := by
    have := ubox_new W1 A c us ((h.below hb1).more hb1.size) hm 22
    rw [hW0, s1] at this
    rw [s0]; exact this
  go_enter Try.func81, Try.ntmps81
  go_wp2_with fail
  have hS0 := (h1.below hb0).more hb0.size
  have hC0 := (h2.below hb0).more hb0.size
  have HX := bx hx
  clear hx hW1 hW0 hG1 hb1 hb01 hl h h1 h2
  go_loopw [10, 13] (fun _ i wr => ∃ k : Nat, k ≤ seen.length ∧ i = .int .i64 k ∧ (seen.take k).all (cau sh us) = true ∧ Below W0.heap.size W0 wr) (fun _ i _ => seen.length - (intOf i).toNat)
  case atStart => exact ⟨0, Nat.zero_le _, rfl, rfl, Below.refl _ _⟩
  case round =>
    obtain ⟨k, hk, rfl, hno, hbw⟩ := hrel
    have Hno := bx hno
    clear hno
    have hG := bx ((hG0.below hbw).more hbw.size)
    have hU := bx ((hU0.below hbw).more hbw.size)
    have hC := bx ((hC0.below hbw).more hbw.size)
    by_cases hlt : k < seen.length
    · obtain ⟨b, off, rfl, hb, g1⟩ := (hS0.below hbw).at_ k hlt
      obtain ⟨_, l1, g0, AG', cG', gg1, hl⟩ := hG.out
      obtain ⟨_, l2, AU, cU, u0, hi⟩ := hU.out
      have Hs := bx (show (seen.take (k + 1)).all (cau sh us) = ((seen.take k).all (cau sh us) && cau sh us seen[k]) by
        rw [List.take_succ_eq_append_getElem hlt, List.all_append]; simp)
      have Hm := bx (fun hb : cau sh us seen[k] = false => show x = false by
        rw [← HX.out, expl, show seen.all (cau sh us) = false from List.all_eq_false.2 ⟨_, List.getElem_mem hlt, by simp [hb]⟩]; rfl)
      generalize seen[k] = s at *
      cases hi' : cau sh us s
      · obtain rfl := Hm.out hi'
        have Hi := bx hi'
        clear hi'
        go_wp2_with fail
        refine (caused_calls n AG' cG' sh AU cU us s wr hl l1 hi l2 _ Hi.out).mono ?_
        rintro e w' ⟨rfl, hb'⟩
        go_wp2
        go_ret
        exact ⟨rfl, hb0.trans ((hbw.trans (hb'.mono hbw.size)).mono hb0.size)⟩
      · have Hi := bx hi'
        clear hi'
        go_wp2_with fail
        refine (caused_calls n AG' cG' sh AU cU us s wr hl l1 hi l2 _ Hi.out).mono ?_
        rintro e w' ⟨rfl, hb'⟩
        go_wp2
        go_roundw
        case rel => exact ⟨k + 1, by omega, by go_num, by rw [Hs.out, Hno.out, Hi.out]; rfl, hbw.trans (hb'.mono hbw.size)⟩
        case measure => simp [intOf]; omega
    · obtain rfl : k = seen.length := by omega
      have He := bx (show (!clear.any (cau sh us)) = x by
        have := Hno.out
        rw [List.take_of_length_le (Nat.le_refl _)] at this
        rw [← HX.out, expl, this]; rfl)
      clear HX
      obtain ⟨y, hy⟩ : ∃ y, clear.any (cau sh us) = y := ⟨_, rfl⟩
      have HY := bx hy
      rw [hy] at He
      clear hy
      go_wp2_with fail
      refine (containsFunc_expl AC cC clear n sh us w.heap.size (w.heap.size + 1) wr hC.out hm2 hG.out hU.out y HY.out).mono ?_
      rintro e w' ⟨rfl, hb'⟩
      go_wp2
      go_ret
      exact ⟨ret_bool He.out, hb0.trans ((hbw.trans (hb'.mono hbw.size)).mono hb0.size)⟩
end Go.Proofs.Ytlogokjjphlkkaa.Dg
namespace Go.Proofs.Ytlogokjjphlkkaa.Dg
open Go.RowKit

theorem grown_of_below {W W' : World} (h : Below W.heap.size W W') (row : Option Nat) : W.grownBy W' row := ⟨h.os, h.tape, h.output, h.size, fun i hi _ => h.block i hi⟩
def ic (l : List Int) : List Value := l.map fun x => .int .i64 x
theorem ic_len (l : List Int) : (ic l).length = l.length := by simp [ic]
theorem ic_append (l m : List Int) : ic (l ++ m) = ic l ++ ic m := by simp [ic]
theorem ic_one (l : List Int) : ∀ u ∈ ic l, u.oneCell' = true := by simp [ic, Value.oneCell']
set_option maxRecDepth 100000 in
theorem ints_of_own {w : World} {base : Nat} {A : Option Addr} {n c : Nat} {l : List Int} (h : w.ownsRow base 3 1 (.slice A n c) n (ic l)) : Ints w w.heap.size A l := by
  have hn : l.length = n := by have := h.1; rw [ic_len] at this; omega
  refine ⟨fun k hk => ?_⟩
  obtain ⟨g, cap, hv, _, hlt⟩ := h.form (by omega)
  have hA : A = some ⟨g, 0, none⟩ := by injection hv
  subst hA
  have c1 := h.cells (g := g) rfl k (.int .i64 l[k]) (by simp [ic])
  refine ⟨g, 0, rfl, hlt, ?_⟩
  rw [← c1]
  unfold Addr.add
  split
  · rename_i h0; rw [h0]
  · rfl
theorem Try.infoInt : (Try.prog.info? 3).map (fun i => (i.zero, i.size, i.bytes)) = some (some (.int .i64 0), 1, 8) := by kernel_rfl
theorem ret_slice {A : Option Addr} {n m c : Nat} (h : n = m) : Ending.returned (.slice A n c) = Ending.returned (.slice A m c) := by rw [h]
theorem slice_form {w : World} {base size n : Nat} {e : TypeId} {v : Value} {xs : List Value} (h : w.ownsRow base e size v n xs) : ∃ A c, v = .slice A n c := by
  rcases h.2 with ⟨rfl, rfl⟩ | ⟨g, cap, _, rfl, _⟩
  · exact ⟨_, _, rfl⟩
  · exact ⟨_, _, rfl⟩
theorem own_base {w : World} {base base' size n : Nat} {e : TypeId} {v : Value} {xs : List Value} (h : w.ownsRow base e size v n xs) (hb : base' ≤ base) : w.ownsRow base' e size v n xs := by
  refine ⟨h.1, ?_⟩
  rcases h.2 with h | ⟨g, cap, cur, hv, hg, r⟩
  · exact .inl h
  · exact .inr ⟨g, cap, cur, hv, Nat.le_trans hb hg, r⟩
theorem units_succ (n : Nat) : units (n + 1) = units n ++ [(n : Int)] := by simp [units, List.range_succ]
/-- the candidates among the first units -/
def candN (sh : List (List Int)) (clear : List Int) (k : Nat) : List Int := (units k).filter fun u => expl sh [u] [] clear
theorem candN_succ (sh : List (List Int)) (clear : List Int) (k : Nat) : candN sh clear (k + 1) = if expl sh [(k : Int)] [] clear then candN sh clear k ++ [(k : Int)] else candN sh clear k := by
  rw [candN, units_succ, List.filter_append]
  by_cases h : expl sh [(k : Int)] [] clear = true
  · rw [if_pos h]; simp [candN, h]
  · rw [if_neg h]; simp [candN, h]
theorem candN_le (sh : List (List Int)) (clear : List Int) (k : Nat) : (candN sh clear k).length ≤ k := by
  have := List.length_filter_le (fun u => expl sh [u] [] clear) (units k)
  simpa [candN, units] using this
/-- a row of numbers of the call's own -/
def RowPost (w : World) (l : List Int) (e : Ending) (w' : World) : Prop :=
  ∃ A' c', e = .returned (.slice A' l.length c') ∧ w'.ownsRow w.heap.size 3 1 (.slice A' l.length c') l.length (ic l) ∧ Below w.heap.size w w'
theorem one_int (w : World) (u : Int) : Ints (w.alloc (.cells #[.int .i64 u] 3)) (w.alloc (.cells #[.int .i64 u] 3)).heap.size (some ⟨w.heap.size, 0, none⟩) [u] :=
  ⟨fun k hk => by
    simp at hk; subst hk
    exact ⟨w.heap.size, 0, rfl, by simp, by rw [World.cell?_alloc_new]; rfl⟩⟩
set_option maxRecDepth 10000 in
theorem cand_calls (n : Int) (AG : Option Addr) (cG : Nat) (sh : List (List Int)) (AC : Option Addr) (cC : Nat) (clear : List Int) (w : World)
    (hl : Lists w w.heap.size AG sh) (hn : sh.length ≤ 100) (h2 : Ints w w.heap.size AC clear) (hm2 : clear.length ≤ 9223372036854775807) :
    Calls Try.prog 118 #[.agg #[.int .i64 n, .slice AG sh.length cG], .slice AC clear.length cC] w (RowPost w (cand sh clear)) := by
  obtain ⟨i0, hi, hz0, hz1, hz2⟩ := info_parts Try.infoInt
  obtain ⟨W1, hW1⟩ : ∃ W1, w.alloc (.cells #[.int .i64 n, .slice AG sh.length cG] 108) = W1 := ⟨_, rfl⟩
  have s1 : W1.heap.size = w.heap.size + 1 := by rw [← hW1]; simp
  have hb1 : Below w.heap.size w W1 := by rw [← hW1]; exact (Below.refl _ _).alloc (Nat.le_refl _) _
  have hG1 : GBox W1 W1.heap.size w.heap.size n sh := by rw [s1, ← hW1]; exact gbox_new w n AG cG sh hl (by omega)
  have hC1 := (h2.below hb1).more hb1.size
  obtain ⟨_, _, gi0, AGi, cGi, gi1, _⟩ := hG1
  go_enter Try.func118, Try.ntmps118
  go_wp2_with fail
  have hG1 : GBox W1 W1.heap.size w.heap.size n sh := by rw [s1, ← hW1]; exact gbox_new w n AG cG sh hl (by omega)
  clear hW1 hl h2
  go_loopw [5, 6, 10] (fun v _ i wr => ∃ k : Nat, k ≤ sh.length ∧ i = .int .i64 k ∧ wr.ownsRow W1.heap.size 3 1 v (candN sh clear k).length (ic (candN sh clear k)) ∧ Below W1.heap.size W1 wr) (fun _ _ i _ => sh.length - (intOf i).toNat)
  case atStart => exact ⟨0, Nat.zero_le _, rfl, World.ownsRow_nil _ _ _ _, Below.refl _ _⟩
  case round =>
    obtain ⟨k, hk, rfl, hown, hbw⟩ := hrel
    have hG := (hG1.below hbw).more hbw.size
    have hC := bx ((hC1.below hbw).more hbw.size)
    by_cases hlt : k < sh.length
    · obtain ⟨_, l1, g0, AG', cG', gg1, hl⟩ := hG
      have hLe := candN_le sh clear k
      have Hl := bx hl
      clear hl
      obtain ⟨W2, hW2⟩ : ∃ W2, wr.alloc (.cells #[.int .i64 k] 3) = W2 := ⟨_, rfl⟩
      have hb2 : Below wr.heap.size wr W2 := by rw [← hW2]; exact (Below.refl _ _).alloc (Nat.le_refl _) _
      have hU := bx (show Ints W2 W2.heap.size (some ⟨wr.heap.size, 0, none⟩) [(k : Int)] by rw [← hW2]; exact one_int wr k)
      have ho2 := (show W2.ownsRow W1.heap.size 3 1 u5 (candN sh clear k).length (ic (candN sh clear k)) by rw [← hW2]; exact hown.alloc _)
      cases he : expl sh [(k : Int)] [] clear
      · have He := bx he
        have Hs := bx (show candN sh clear (k + 1) = candN sh clear k by rw [candN_succ, he]; rfl)
        clear he
        go_wp2_with fail
        refine (explains_calls n AG' cG' sh _ 1 [(k : Int)] none 0 [] AC cC clear W2 ((Hl.out.below hb2).more hb2.size) l1 hU.out (by simp) Ints.nil (by simp) ((hC.out.below hb2).more hb2.size) hm2 false He.out).mono ?_
        rintro e w3 ⟨rfl, hb3⟩
        have ho3 := ho2.kept (grown_of_below hb3 none) (by cases u5.ownBlock <;> simp)
        go_wp2
        go_roundw
        case rel => exact ⟨k + 1, by omega, by go_num, by rw [Hs.out]; exact ho3, hbw.trans ((hb2.trans (hb3.mono hb2.size)).mono hbw.size)⟩
        case measure => simp [intOf]; omega
      · have He := bx he
        have Hs := bx (show candN sh clear (k + 1) = candN sh clear k ++ [(k : Int)] by rw [candN_succ, he]; rfl)
        clear he
        go_wp2_with fail
        refine (explains_calls n AG' cG' sh _ 1 [(k : Int)] none 0 [] AC cC clear W2 ((Hl.out.below hb2).more hb2.size) l1 hU.out (by simp) Ints.nil (by simp) ((hC.out.below hb2).more hb2.size) hm2 true He.out).mono ?_
        rintro e w3 ⟨rfl, hb3⟩
        have ho3 := ho2.kept (grown_of_below hb3 none) (by cases u5.ownBlock <;> simp)
        have hb13 := hbw.trans ((hb2.trans (hb3.mono hb2.size)).mono hbw.size)
        have hs13 := hb13.size
        go_wp2_with (at_builtin; refine wpList_append_own _ rfl _ _ 22 rfl W1.heap.size 3 i0 (.int .i64 0) 1 8 Try.underlying22 hi hz0 hz1 hz2 rfl (by decide) _ _ _ rfl (ho3.alloc _) ⟨w3.heap.size, 0, none⟩ 1 1 [.int .i64 k] rfl rfl (cell_one_new _ _ _) (by simp [Value.oneCell']) (by unfold maxLen; omega) (by omega) (by simp; omega) ?_; intro v' w5 o5 g5 _)
        have hb15 : Below W1.heap.size W1 w5 := (hb13.alloc hs13 _).grown g5 (by simp; omega) (fun g hg => by
          exact (hown.lt g hg).1)
        go_roundw
        case rel => exact ⟨k + 1, by omega, by go_num, by rw [Hs.out, ic_append, List.length_append]; exact o5, hb15⟩
        case measure => simp [intOf]; omega
    · obtain rfl : k = sh.length := by omega
      obtain ⟨A', c', rfl⟩ := slice_form hown
      go_wp2
      go_ret
      exact ⟨A', c', rfl, own_base hown hb1.size, hb1.trans (hbw.mono hb1.size)⟩
end Go.Proofs.Ytlogokjjphlkkaa.Dg
namespace Go.Proofs.Ytlogokjjphlkkaa.Dg
open Go.RowKit Go.Shelf

/-- the iterator's contract: El: what is known of an element where it is handed out; Row: which blocks the iterator writes; Kp: what a round must leave as it lay -/
def Feeds {α : Type} (n : Nat) (P : Program) (gf : Nat) (lb : Array Value) (enc : α → Array Value) (El : Nat → List α → α → World → Prop) (Row : Nat → List α → Nat → World → Prop) (Kp : World → World → Prop) (S Sp : List α → Prop) (w0 : World) : Prop :=
  ∀ (l : Nat) (J Jx : List α → World → Prop) (W : World), Below w0.heap.size w0 W →
    (∀ pre X Y row, J pre X → X.grownBy Y row → (∀ r, row = some r → Row W.heap.size pre r X) → J pre Y) →
    (∀ pre X Y, Jx pre X → X.grownBy Y none → Jx pre Y) →
    (∀ m pre x X, J pre X → El W.heap.size pre x X → YieldAt Fence.wide m P l (enc x) X fun e Y =>
      (e = .returned (.bool true) ∧ J (pre ++ [x]) Y ∧ Kp X Y) ∨ (e = .returned (.bool false) ∧ Jx (pre ++ [x]) Y)) →
    J [] W →
    CallsIn Fence.wide n P gf (#[.func (.yield l) #[] #[]] ++ lb) W fun e Y => (∃ v, e = .returned v) ∧ ((∃ xs, S xs ∧ J xs Y) ∨ (∃ xs, Sp xs ∧ Jx xs Y))

/-- how a round may end -/
def RoundEnd {α : Type} (B : Nat) (Kp : World → World → Prop) (I Ix : List α → World → Prop) (xs : List α) (X : World) : Exit → Act → World → Prop
  | .normal, _, Y => KeepsFrom B X Y ∧ Kp X Y ∧ I xs Y
  | .ret, _, Y => KeepsFrom B X Y ∧ Ix xs Y
  | _, _, _ => False

variable {P : Program} {w : World}
set_option maxRecDepth 100000 in
theorem range_feeds {α : Type} {g : Operand} {ps : Array Tmp} {assign body : Code} {Q : Exit → Act → World → Prop} {a : Act} {n gf : Nat} {lb : Array Value} (hn : 1 ≤ n)
    {enc : α → Array Value} {El : Nat → List α → α → World → Prop} {Row : Nat → List α → Nat → World → Prop} {Kp : World → World → Prop} {S Sp : List α → Prop}
    (hg : a.eval g = .func (.func gf) #[] lb) (eg : ∀ args w, (callFunc gf args).run P w = .ok (.enter gf args) w) (hfeed : Feeds (n - 1) P gf lb enc El Row Kp S Sp w) (hps : ∀ x, (enc x).size = ps.size)
    (hRow : ∀ B pre r X, Row B pre r X → B ≤ r ∧ ∃ cs t fz, X.heap[r]? = some (.cells cs t fz))
    (hKt : ∀ {A B C : World}, Kp A B → Kp B C → Kp A C) (hKo : ∀ (X : World) (l : Nat) (o o' : Obj), X.heap[l]? = some o → o.isCells = false → Kp X (X.putObj l o'))
    (hElo : ∀ B pre x (X : World) (l : Nat) (o o' : Obj), El B pre x X → X.heap[l]? = some o → o.isCells = false → El B pre x (X.putObj l o'))
    (I Ix : List α → World → Prop)
    (hIr : ∀ pre X Y row, I pre X → X.grownBy Y row → (∀ r, row = some r → Row (w.heap.size + 2) pre r X) → I pre Y)
    (hIo : ∀ pre (X : World) (l : Nat) (o o' : Obj), w.heap.size ≤ l → X.heap[l]? = some o → o.isCells = false → I pre X → I pre (X.putObj l o'))
    (hIxn : ∀ pre X Y, Ix pre X → X.grownBy Y none → Ix pre Y)
    (hIxo : ∀ pre (X : World) (l : Nat) (o o' : Obj), w.heap.size ≤ l → X.heap[l]? = some o → o.isCells = false → Ix pre X → Ix pre (X.putObj l o'))
    (h0 : I [] w) (a₁ : α → Act)
    (hassign : ∀ (m l : Nat) (x : α) (W : World) (K : Act → World → Prop), K (a₁ x) W →
      assign.wpIn (Fence.wide.inRound l) m P (Exit.then K (fun _ _ _ => False)) { tmps := (ps.zip (enc x)).foldl (fun t (p, v) => t.setIfInBounds p v) a.tmps, defers := [] } W)
    (hbody : ∀ (m l : Nat) (pre : List α) (x : α) (X : World), I pre X → El (w.heap.size + 2) pre x X → body.wpIn (Fence.wide.inRound l) m P (RoundEnd w.heap.size Kp I Ix (pre ++ [x]) X) (a₁ x) X)
    (hdone : ∀ (D : Nat) (xs : List α) (W : World), w.heap.size ≤ D → S xs → I xs W → W.heap[D]? = some (.deferred (some [])) → Q .normal { a with defers := { target := .collected D, args := #[] } :: a.defers } W)
    (hstop : ∀ (D : Nat) (pre : List α) (W : World), w.heap.size ≤ D → Sp pre → Ix pre W → W.heap[D]? = some (.deferred (some [])) → Code.ret.wpIn Fence.wide n P Q { a with defers := { target := .collected D, args := #[] } :: a.defers } W) :
    (Code.rangeFunc g ps assign body).wpIn Fence.wide n P Q a w := by
  refine wpIn_rangeFunc fun fn hfn => ?_
  -- the loop's record in each of its states
  let rec' : LoopState → Option Code → Obj := fun st pe => .loop { state := st, pending := pe, fn, tmps := a.tmps, params := ps, assign, body, defers := w.heap.size }
  have hrc : ∀ st pe, (rec' st pe).isCells = false := fun _ _ => rfl
  let W1 : World := (w.alloc (.deferred (some []))).alloc (rec' .ready none)
  have s1 : W1.heap.size = w.heap.size + 2 := by simp [W1]
  have bD : W1.heap[w.heap.size]? = some (.deferred (some [])) := (Below.heap_alloc _ _ _ (by simp)).trans (World.alloc_heap_new w _)
  have bR : W1.heap[w.heap.size + 1]? = some (rec' .ready none) := by
    have := World.alloc_heap_new (w.alloc (.deferred (some []))) (rec' .ready none); rwa [World.size_alloc] at this
  refine ⟨w.heap.size + 1, [{ target := .collected w.heap.size, args := #[] }], W1, { target := .fn (.func gf) lb, args := #[.func (.yield (w.heap.size + 1)) #[] #[]] }, W1, gf,
    #[.func (.yield (w.heap.size + 1)) #[] #[]] ++ lb, W1, run_enterLoop_outer _ _ _ _ _, ?_, fun _ _ => trivial, ?_, fun _ => hn, ?_⟩
  · simp only [resolve, hg]; simp [go_sem]
  · simp [invoke, go_sem, eg]
  -- a block that is no cells stands through what the iterator writes
  have stands : ∀ {X Y : World} {row : Option Nat} {k : Nat} {o : Obj}, X.grownBy Y row → (∀ r, row = some r → ∃ cs t fz, X.heap[r]? = some (.cells cs t fz)) → X.heap[k]? = some o → o.isCells = false → Y.heap[k]? = some o := by
    intro X Y row k o hgr hr hk ho
    refine (hgr.block k (Array.getElem?_eq_some_iff.1 hk).1 fun e => ?_).trans hk
    obtain ⟨cs, t, fz, h⟩ := hr k e.symm
    rw [hk] at h; cases h; cases ho
  refine (hfeed (w.heap.size + 1)
    (fun pre X => I pre X ∧ X.heap[w.heap.size + 1]? = some (rec' .ready none) ∧ X.heap[w.heap.size]? = some (.deferred (some [])))
    (fun pre X => Ix pre X ∧ X.heap[w.heap.size + 1]? = some (rec' .done (some .ret)) ∧ X.heap[w.heap.size]? = some (.deferred (some [])))
    W1 (((Below.refl _ w).alloc (Nat.le_refl _) _).alloc (by simp) _) ?_ ?_ ?_ ⟨?_, bR, bD⟩).mono ?_
  · rintro pre X Y row ⟨hi, hl, hd⟩ hgr hr
    have hr' : ∀ r, row = some r → ∃ cs t fz, X.heap[r]? = some (.cells cs t fz) := fun r e => (hRow _ _ _ _ (hr r e)).2
    exact ⟨hIr pre X Y row hi hgr (fun r e => by rw [← s1]; exact hr r e), stands hgr hr' hl rfl, stands hgr hr' hd rfl⟩
  · rintro pre X Y ⟨hi, hl, hd⟩ hgr
    exact ⟨hIxn pre X Y hi hgr, stands hgr (fun r e => by cases e) hl rfl, stands hgr (fun r e => by cases e) hd rfl⟩
  · -- one round
    rintro m pre x X ⟨hi, hl, hd⟩ hel
    rw [s1] at hel
    have hlt : w.heap.size + 1 < X.heap.size := (Array.getElem?_eq_some_iff.1 hl).1
    refine ⟨fn, _, assign, body, run_yield (P := P) (args := enc x) hl (hps x), roundIn_of_wpIn hfn (hassign m _ x X _ ⟨_, run_beginRound hl rfl, ?_⟩)⟩
    let X1 : World := X.putObj (w.heap.size + 1) (rec' .busy none)
    have l1 : X1.heap[w.heap.size + 1]? = some (rec' .busy none) := World.putObj_heap_same hlt
    have d1 : X1.heap[w.heap.size]? = some (.deferred (some [])) := (World.putObj_heap_other (by omega)).trans hd
    refine wpIn_mono (hbody m _ pre x X1 (hIo _ _ _ _ _ (by omega) hl rfl hi) (hElo _ _ _ _ _ _ _ hel hl rfl)) ?_
    intro e a3 Y hp
    cases e with
    | normal =>
      obtain ⟨hk, hkp, hi3⟩ := hp
      have l3 := hk.same _ _ (by omega) l1 rfl
      have d3 := hk.same _ _ (Nat.le_refl _) d1 rfl
      refine ⟨_, _, run_endRound (P := P) none l3, .inl ⟨rfl, ⟨hIo _ _ _ _ _ (by omega) l3 rfl hi3, World.putObj_heap_same (Array.getElem?_eq_some_iff.1 l3).1, (World.putObj_heap_other (by omega)).trans d3⟩, ?_⟩⟩
      exact hKt (hKt (hKo _ _ _ _ hl rfl) hkp) (hKo _ _ _ _ l3 rfl)
    | ret =>
      obtain ⟨hk, hi3⟩ := hp
      have l3 := hk.same _ _ (by omega) l1 rfl
      have d3 := hk.same _ _ (Nat.le_refl _) d1 rfl
      exact ⟨_, _, run_endRound (P := P) (some .ret) l3, .inr ⟨rfl, hIxo _ _ _ _ _ (by omega) l3 rfl hi3, World.putObj_heap_same (Array.getElem?_eq_some_iff.1 l3).1, (World.putObj_heap_other (by omega)).trans d3⟩⟩
    | exit id => exact hp.elim
    | goto t => exact hp.elim
    | panic ch => exact hp.elim
    | outgrown => exact hp.elim
  · exact hIr [] _ _ none (hIr [] _ _ none h0 (World.grownBy_alloc w _ none) (fun r e => by cases e)) (World.grownBy_alloc _ _ none) (fun r e => by cases e)
  · -- behind the iterator
    rintro e Y ⟨⟨v, rfl⟩, (⟨xs, hS, hi, hl, hd⟩ | ⟨xs, hS, hi, hl, hd⟩)⟩
    · exact ⟨none, _, run_endLoop (P := P) hl (by simp), hdone _ xs _ (Nat.le_refl _) hS (hIo _ _ _ _ _ (by omega) hl rfl hi) ((World.putObj_heap_other (by omega)).trans hd)⟩
    · exact ⟨some .ret, _, run_endLoop (P := P) hl (by simp), hstop _ xs _ (Nat.le_refl _) hS (hIxo _ _ _ _ _ (by omega) hl rfl hi) ((World.putObj_heap_other (by omega)).trans hd)⟩
end Go.Proofs.Ytlogokjjphlkkaa.Dg
namespace Go.Proofs.Ytlogokjjphlkkaa.Dg
open Go.RowKit Go.Shelf
attribute [local go_sem] Oper.semAt_some

set_option maxRecDepth 100000 in
theorem append_row {P : Program} {w : World} {ops : Array Oper} {rest : List Oper} {o : Oper} {a : Act} {Q : Exit → Act → World → Prop} (hgd : o.guard = none) (s x : Operand) (t : TypeId)
    (ho : o.op = .call { callee := .builtin .append, args := #[s, x], argTypes := #[t, t] })
    (base : Nat) (e : TypeId) (i : TypeInfo) (z : Value) (size bytes : Nat) (ht : P.underlying t = some (.slice e)) (hi : P.info? e = some i) (hz : i.zero = some z)
    (hsize : i.size = size) (hby : i.bytes = bytes) (hzs : z.cells.size = size) (hsz : 0 < size)
    (v : Value) (n : Nat) (xs : List Value) (hs : a.eval s = v) (hown : w.ownsRow base e size v n xs)
    (base' : Nat) (u : Value) (m : Nat) (ys : List Value) (hx : a.eval x = u) (hown' : w.ownsRow base' e size u m ys) (h1 : ∀ q ∈ ys, q.oneCell' = true)
    (h63 : n + m ≤ maxLen) (hbytes : (n + m) * bytes ≤ 140737488355328) (hbase : base ≤ w.heap.size)
    (h : ∀ v' w', w'.ownsRow base e size v' (n + m) (xs ++ ys) → w.grownBy w' v.ownBlock → wpList P ops Q rest (a.put o.dst v') w') : wpList P ops Q (o :: rest) a w := by
  rcases hown'.2 with ⟨hu, hm0⟩ | ⟨g, cap, _, hu, _⟩
  · subst hm0
    have hy : ys = [] := List.eq_nil_of_length_eq_zero (by have := hown'.1; omega)
    subst hy
    refine wpList_append_own_none hgd s x t ho base e i size ht hi v n xs hs hown (hx.trans hu) (h v w ?_ (World.grownBy.refl w _))
    simpa using hown
  · refine wpList_append_own w hgd s x t ho base e i z size bytes ht hi hz hsize hby hzs hsz v n xs hs hown ⟨g, 0, none⟩ m cap ys (hx.trans hu) hown'.1 (hown'.cells (by rw [hu]; rfl)) h1 h63 hbytes hbase fun v' w' k1 k2 _ => h v' w' k1 k2
theorem owns_empty (w : World) (base : Nat) (hb : base ≤ w.heap.size) (e : TypeId) (s : Nat) : (w.alloc (.cells #[] e)).ownsRow base e s (.slice (some ⟨w.heap.size, 0, none⟩) 0 0) 0 [] :=
  ⟨by simp, .inr ⟨w.heap.size, 0, #[], rfl, hb, heap_alloc_new w _, Nat.le_refl _, Nat.zero_le _, by simp, by simp⟩⟩
set_option maxRecDepth 100000 in
theorem clone_calls (B : Nat) (v : Value) (l : List Int) (w : World) (h : w.ownsRow B 3 1 v l.length (ic l)) (hm : l.length ≤ 1000) :
    Calls Try.prog 87 #[v] w (RowPost w l) := by
  obtain ⟨i0, hi, hz0, hz1, hz2⟩ := info_parts Try.infoInt
  rcases h.2 with ⟨rfl, h0⟩ | ⟨g, cap, cur, rfl, hg, hh, _⟩
  · have hl := List.eq_nil_of_length_eq_zero h0
    subst hl
    have hnil : ∀ W, (binOp .eql 22 (.slice none 0 0) (.slice none 0 0)).run Try.prog W = .ok (.bool true) W := fun W => Lib.run_eql_slice_nil_nil W _ _ Try.underlying22
    simp only [List.length_nil] at *
    go_enter Try.func87, Try.ntmps87
    go_wp2
    go_ret
    exact ⟨none, 0, rfl, World.ownsRow_nil _ _ _ _, Below.refl _ _⟩
  · have Hh := bx hh
    clear hh
    have hnil : ∀ W, (binOp .eql 22 (.slice (some ⟨g, 0, none⟩) l.length cap) (.slice none 0 0)).run Try.prog W = .ok (.bool false) W := fun W => Lib.run_eql_slice_some_nil W _ _ _ Try.underlying22
    go_enter Try.func87, Try.ntmps87
    go_wp2_with (at_builtin; refine append_row rfl _ _ 22 rfl w.heap.size 3 i0 (.int .i64 0) 1 8 Try.underlying22 hi hz0 hz1 hz2 rfl (by decide) (.slice (some ⟨w.heap.size, 0, none⟩) 0 0) 0 [] rfl (owns_empty w _ (Nat.le_refl _) _ _) B (.slice (some ⟨g, 0, none⟩) l.length cap) l.length (ic l) rfl (h.alloc _) (ic_one l) (by unfold maxLen; omega) (by omega) (by simp) ?_; intro v2 w2 o2 g2)
    obtain ⟨A2, c2, rfl⟩ := slice_form o2
    go_ret
    have hb : Below w.heap.size w w2 := ((Below.refl _ w).alloc (Nat.le_refl _) _).grown g2 (by simp) (fun k hk => by simp [Value.ownBlock] at hk; omega)
    simp only [Nat.zero_add, List.nil_append] at o2
    exact ⟨A2, c2, ret_slice (by simp), o2, hb⟩

/-- a set that is handed out: a slice -/
structure Slc where
  A : Option Addr
  c : Nat
  s : List Int
def Slc.v (x : Slc) : Value := .slice x.A x.s.length x.c
/-- what is known of a set where it is handed out -/
def ElS (T : List (List Int)) (B : Nat) (pre : List Slc) (x : Slc) (X : World) : Prop := (pre ++ [x]).map (·.s) <+: T ∧ X.ownsRow B 3 1 x.v x.s.length (ic x.s)
/-- the blocks that the iterator writes: rows of numbers, of no set handed out -/
def RowS (B : Nat) (pre : List Slc) (r : Nat) (X : World) : Prop := B ≤ r ∧ (∀ y ∈ pre, y.v.ownBlock ≠ some r) ∧ ∃ cs fz, X.heap[r]? = some (.cells cs 3 fz)
/-- rows of numbers stand, but for one block -/
structure KInt (row : Option Nat) (X Y : World) : Prop where
  size : X.heap.size ≤ Y.heap.size
  same : ∀ b cs fz, X.heap[b]? = some (.cells cs 3 fz) → some b ≠ row → Y.heap[b]? = some (.cells cs 3 fz)
theorem KInt.refl (row : Option Nat) (X : World) : KInt row X X := ⟨Nat.le_refl _, fun _ _ _ h _ => h⟩
theorem KInt.trans {row : Option Nat} {X Y Z : World} (h : KInt row X Y) (k : KInt row Y Z) : KInt row X Z := ⟨Nat.le_trans h.size k.size, fun b cs fz hb hr => k.same b cs fz (h.same b cs fz hb hr) hr⟩
theorem KInt.of_grown {row : Option Nat} {X Y : World} (h : X.grownBy Y row) : KInt row X Y := ⟨h.size, fun b _ _ hb hr => (h.block b (Array.getElem?_eq_some_iff.1 hb).1 hr).trans hb⟩
theorem KInt.but {X Y : World} (h : KInt none X Y) (row : Option Nat) : KInt row X Y := ⟨h.size, fun b cs fz hb _ => h.same b cs fz hb (by simp)⟩
theorem KInt.owns {row : Option Nat} {X Y : World} {B n : Nat} {v : Value} {xs : List Value} (h : KInt row X Y) (ho : X.ownsRow B 3 1 v n xs) (hne : ∀ r, v.ownBlock = some r → row ≠ some r) : Y.ownsRow B 3 1 v n xs := by
  refine ⟨ho.1, ?_⟩
  rcases ho.2 with h0 | ⟨g, cap, cur, rfl, hg, hh, r⟩
  · exact .inl h0
  · exact .inr ⟨g, cap, cur, rfl, hg, h.same g cur (0, 0) hh (fun e => hne g rfl e.symm), r⟩
/-- what extend answers: it hands out hd with each set; J: what the rounds kept -/
def ExtPost (J Jx : List Slc → World → Prop) (B : Nat) (v : Value) (hd : List Int) (sets : List (List Int)) (pre : List Slc) (X : World) (e : Ending) (Y : World) : Prop :=
  (e = .returned (.bool true) ∧ ∃ ys : List Slc, ys.map (·.s) = sets.map (hd ++ ·) ∧ J (pre ++ ys) Y ∧ KInt v.ownBlock X Y ∧ Y.ownsRow B 3 1 v hd.length (ic hd) ∧ ∀ y ∈ ys, ∀ r, y.v.ownBlock = some r → X.heap.size ≤ r ∧ r < Y.heap.size) ∨
  (e = .returned (.bool false) ∧ ∃ ys : List Slc, ys.map (·.s) <+: sets.map (hd ++ ·) ∧ Jx (pre ++ ys) Y)
theorem wide_n {n : Nat} : Fence.wide.depth.isSome = true → 1 ≤ n := fun h => by cases h
theorem own_lt {X : World} {B n : Nat} {e : TypeId} {size : Nat} {v : Value} {xs : List Value} (h : X.ownsRow B e size v n xs) {r : Nat} (hr : v.ownBlock = some r) : B ≤ r ∧ r < X.heap.size := h.lt r hr
set_option maxRecDepth 100000 in
theorem extend_zero (T : List (List Int)) (lp B : Nat) (J Jx : List Slc → World → Prop)
    (hJ : ∀ pre X Y row, J pre X → X.grownBy Y row → (∀ r, row = some r → RowS B pre r X) → J pre Y)
    (hY : ∀ m pre x X, J pre X → ElS T B pre x X → YieldAt Fence.wide m Try.prog lp #[x.v] X fun e Y =>
      (e = .returned (.bool true) ∧ J (pre ++ [x]) Y ∧ KInt none X Y) ∨ (e = .returned (.bool false) ∧ Jx (pre ++ [x]) Y))
    (v : Value) (hd : List Int) (AL : Option Addr) (nL cL : Nat) (pre : List Slc) (X : World) (hv : X.ownsRow B 3 1 v hd.length (ic hd)) (hB : B ≤ X.heap.size) (hm : hd.length ≤ 100) (h0 : J pre X) (hT : pre.map (·.s) ++ [hd] <+: T) :
    Calls Try.prog 153 #[v, .slice AL nL cL, .int .i64 0, .func (.yield lp) #[] #[]] X (ExtPost J Jx B v hd [[]] pre X) := by
  refine (callsIn_wide (n := 3)).1 ?_
  refine callsIn_of_wp Try.func153 rfl trivial ?_ rfl
  simp only [Try.ntmps153, List.size_toArray, List.length_cons, List.length_nil, Nat.reduceAdd, Nat.reduceSub, Array.replicate_succ, Array.replicate_zero, List.push_toArray, List.append_toArray, List.nil_append, List.cons_append]
  gi_wp2_with (first | (refine ⟨trivial, ?_⟩; gi_at_call 87; refine (callsIn_wide.2 (clone_calls B v hd X hv (by omega))).mono ?_; rintro e w1 ⟨A1, c1, rfl, o1, hb1⟩) | gi_in)
  have hJ1 : J pre w1 := hJ pre X w1 none h0 (grown_of_below hb1 none) (fun r e => by cases e)
  obtain ⟨fn, tmps, assign, body, hy, hR⟩ := hY _ pre ⟨A1, c1, hd⟩ w1 hJ1 ⟨by simpa using hT, own_base o1 hB⟩
  dsimp only [Slc.v] at hy
  rw [hy]
  refine ⟨wide_n, hR.mono ?_⟩
  rintro e Y (⟨rfl, hJ2, hk2⟩ | ⟨rfl, hx2⟩)
  · have hfr : ∀ y ∈ [(⟨A1, c1, hd⟩ : Slc)], ∀ r, y.v.ownBlock = some r → X.heap.size ≤ r ∧ r < Y.heap.size := by
      intro y hy r hr
      obtain rfl := List.mem_singleton.1 hy
      obtain ⟨p, q⟩ := own_lt o1 hr
      exact ⟨p, Nat.lt_of_lt_of_le q hk2.size⟩
    have hkx : KInt v.ownBlock X Y := (KInt.of_grown (grown_of_below hb1 v.ownBlock)).trans (hk2.but _)
    have hvY : Y.ownsRow B 3 1 v hd.length (ic hd) := hk2.owns (hv.kept (grown_of_below hb1 none) (by cases v.ownBlock <;> simp)) (fun r _ => by simp)
    gi_wp2
    go_ret
    exact .inl ⟨rfl, [⟨A1, c1, hd⟩], by simp, hJ2, hkx, hvY, hfr⟩
  · gi_wp2
    go_ret
    exact .inr ⟨rfl, [⟨A1, c1, hd⟩], by simp, hx2⟩
end Go.Proofs.Ytlogokjjphlkkaa.Dg
namespace Go.Proofs.Ytlogokjjphlkkaa.Dg
open Go.RowKit Go.Shelf

/-- how a slice of one's own grows by one element: in place, or in a new block -/
def Grew (e : TypeId) (B : Nat) (v : Value) (n : Nat) (cs : List Value) (w w' : World) (v' : Value) : Prop :=
  (∃ g cap, v = .slice (some ⟨g, 0, none⟩) n cap ∧ v' = .slice (some ⟨g, 0, none⟩) (n + 1) cap ∧ w'.ownsRow B e 1 v' (n + 1) cs ∧ w.grownBy w' (some g)) ∨
  (w'.ownsRow w.heap.size e 1 v' (n + 1) cs ∧ w.grownBy w' none)
set_option maxRecDepth 100000 in
theorem run_head {P : Program} (w : World) (t ty : TypeId) (base : Nat) (e : TypeId) (i : TypeInfo) (z : Value) (bytes : Nat) (ht : P.underlying t = some (.slice e)) (hi : P.info? e = some i) (hz : i.zero = some z)
    (hsize : i.size = 1) (hby : i.bytes = bytes) (hzs : z.cells.size = 1) (v : Value) (n : Nat) (xs : List Value) (hown : w.ownsRow base e 1 v n xs)
    (ad : Addr) (c : Nat) (u : Value) (hnew : w.cell? ad = some u) (h1 : u.oneCell' = true) (h63 : n + 1 ≤ maxLen) (hbytes : (n + 1) * bytes ≤ 140737488355328) :
    ∃ v' w', (Builtin.append_ #[t, t] ty #[v, .slice (some ad) 1 c]).run P w = .ok v' w' ∧ Grew e base v n (xs ++ [u]) w w' v' := by
  have hnews : ∀ j q, [u][j]? = some q → w.cell? (ad.add j) = some q := by
    intro j q hj
    cases j with
    | zero => simp at hj; subst hj; unfold Addr.add; simpa using hnew
    | succ j => simp at hj
  have hone : ∀ q ∈ [u], q.oneCell' = true := by intro q hq; obtain rfl := List.mem_singleton.1 hq; exact h1
  rcases hown.2 with ⟨rfl, rfl⟩ | ⟨g, cap, cur, rfl, hg, hh, hnc, hcm, hcs, htk⟩
  · obtain rfl : xs = [] := List.eq_nil_of_length_eq_zero (by have := hown.1; omega)
    obtain ⟨v', w', hrun, r1, r2, _⟩ := run_append_own (P := P) w w.heap.size t ty e i z 1 bytes ht hi hz hsize hby hzs (by decide) (.slice none 0 0) 0 [] (World.ownsRow_nil w _ e 1) ad 1 c [u] rfl hnews hone h63 hbytes (Nat.le_refl _)
    exact ⟨v', w', hrun, .inr ⟨r1, r2⟩⟩
  · by_cases hr : n + 1 ≤ cap
    · obtain ⟨w', hrun, r1, r2⟩ := run_append_own_spare (P := P) w base t ty e i 1 ht hi hsize g n cap xs hown ad 1 c [u] rfl hnews hone hr
      exact ⟨_, w', hrun, .inl ⟨g, cap, rfl, rfl, r1, r2⟩⟩
    · obtain ⟨v', w', hrun, r1, r2⟩ := run_append_arg_grows (P := P) w t ty e i z 1 bytes ht hi hz hsize hby hzs (by decide) ⟨g, 0, none⟩ n cap xs hown.1 (hown.cells (g := g) rfl) ad 1 c [u] rfl hnews (by omega) h63 hbytes
      exact ⟨v', w', hrun, .inr ⟨r1, r2⟩⟩
set_option maxRecDepth 100000 in
theorem step_append_head {P : Program} {ops : Array Oper} {o : Oper} {a : Act} {w : World} {K : Act → World → Prop} {Q : Exit → Act → World → Prop} {E : Prop} (hgd : o.guard = none) (s x : Operand) (t : TypeId)
    (ho : o.op = .call { callee := .builtin .append, args := #[s, x], argTypes := #[t, t] })
    (base : Nat) (e : TypeId) (i : TypeInfo) (z : Value) (bytes : Nat) (ht : P.underlying t = some (.slice e)) (hi : P.info? e = some i) (hz : i.zero = some z)
    (hsize : i.size = 1) (hby : i.bytes = bytes) (hzs : z.cells.size = 1) (v : Value) (n : Nat) (xs : List Value) (hs : a.eval s = v) (hown : w.ownsRow base e 1 v n xs)
    (ad : Addr) (c : Nat) (u : Value) (hx : a.eval x = .slice (some ad) 1 c) (hnew : w.cell? ad = some u) (h1 : u.oneCell' = true) (h63 : n + 1 ≤ maxLen) (hbytes : (n + 1) * bytes ≤ 140737488355328)
    (h : ∀ v' w', Grew e base v n (xs ++ [u]) w w' v' → K (a.put o.dst v') w') :
    if Region.wanted o (yielded ops a.tmps) = true then Oper.wp P o a w K Q else E := by
  have hw : Region.wanted o (yielded ops a.tmps) = true := by simp [Region.wanted, hgd]
  rw [if_pos hw]
  obtain ⟨v', w', hr, hgr⟩ := run_head (P := P) w t o.type base e i z bytes ht hi hz hsize hby hzs v n xs hown ad c u hnew h1 h63 hbytes
  unfold Oper.wp execOp
  simp only [ho, resolve, invoke, builtin, Sem.run_bind, Sem.run_pure, Result.andThen_ok, List.map_toArray, List.map_cons, List.map_nil, hs, hx, hr]
  exact h v' w' hgr

/-- what the growth of the head leaves, and what it gives back behind the inner call -/
structure Grown (B : Nat) (v : Value) (hd : List Int) (x : Int) (wr w1 : World) (v1 : Value) : Prop where
  own : w1.ownsRow B 3 1 v1 (hd ++ [x]).length (ic (hd ++ [x]))
  grew : wr.grownBy w1 v.ownBlock
  blk : ∀ r, v1.ownBlock = some r → v.ownBlock = some r ∨ wr.heap.size ≤ r
  back : ∀ Y, KInt v1.ownBlock w1 Y → Y.ownsRow B 3 1 v1 (hd ++ [x]).length (ic (hd ++ [x])) → KInt v.ownBlock wr Y ∧ Y.ownsRow B 3 1 v hd.length (ic hd)
set_option maxRecDepth 100000 in
theorem grown_of {B : Nat} {v : Value} {hd : List Int} {x : Int} {wr W w1 : World} {v1 : Value} (hv : wr.ownsRow B 3 1 v hd.length (ic hd)) (hB : B ≤ wr.heap.size) (hW : Below wr.heap.size wr W)
    (h : Grew 3 B v hd.length (ic hd ++ [.int .i64 x]) W w1 v1) : Grown B v hd x wr w1 v1 := by
  have hl : (hd ++ [x]).length = hd.length + 1 := by simp
  have hc : ic (hd ++ [x]) = ic hd ++ [.int .i64 x] := by simp [ic]
  have g0 := grown_of_below hW none
  have hWs := hW.size
  rcases h with ⟨g, cap, rfl, rfl, ho, hg⟩ | ⟨ho, hg⟩
  · have hg' : wr.grownBy w1 (some g) := (grown_of_below hW (some g)).trans hg
    refine ⟨by rw [hl, hc]; exact ho, hg', fun r e => .inl e, fun Y hk hy => ?_⟩
    refine ⟨(KInt.of_grown hg').trans hk, ?_⟩
    rw [hl, hc] at hy
    refine ⟨by simp [ic], .inr ?_⟩
    rcases hy.2 with ⟨h, _⟩ | ⟨g', cap', cur, e, hb, hh, h1, h2, h3, h4⟩
    · cases h
    · cases e
      refine ⟨g, cap, cur, rfl, hb, hh, by omega, h2, h3, ?_⟩
      have := congrArg (List.take (hd.length * 1)) h4
      rw [List.take_take, Nat.min_eq_left (by omega)] at this
      rw [this, List.take_append_of_le_length (by simp [ic]), List.take_of_length_le (by simp [ic])]
  · have hg' : wr.grownBy w1 none := g0.trans hg
    have hb : ∀ r, v1.ownBlock = some r → wr.heap.size ≤ r := fun r e => Nat.le_trans hWs (own_lt ho e).1
    refine ⟨by rw [hl, hc]; exact own_base ho (Nat.le_trans hB hWs), ⟨hg'.os, hg'.tape, hg'.output, hg'.size, fun i hi _ => hg'.block i hi (by simp)⟩, fun r e => .inr (hb r e), fun Y hk _ => ?_⟩
    have hne : ∀ b, b < wr.heap.size → some b ≠ v1.ownBlock := fun b hlt e => by have := hb b e.symm; omega
    have k1 : KInt none wr w1 := KInt.of_grown hg'
    have k2 : KInt v.ownBlock wr Y := ⟨Nat.le_trans k1.size hk.size, fun b cs fz hx _ => hk.same b cs fz (k1.same b cs fz hx (by simp)) (hne b (Array.getElem?_eq_some_iff.1 hx).1)⟩
    refine ⟨k2, ?_⟩
    refine ⟨hv.1, ?_⟩
    rcases hv.2 with h0 | ⟨g, cap, cur, rfl, hgB, hh, r⟩
    · exact .inl h0
    · exact .inr ⟨g, cap, cur, rfl, hgB, hk.same g cur (0, 0) (k1.same g cur (0, 0) hh (by simp)) (hne g (Array.getElem?_eq_some_iff.1 hh).1), r⟩

/-- a slice of numbers that may be cut, in a block of numbers -/
structure IRow (X : World) (row : Option Nat) (A : Option Addr) (c : Nat) (xs : List Int) : Prop where
  cap : xs.length ≤ c
  big : c ≤ 9223372036854775807
  at_ : xs ≠ [] → ∃ b off cs fz, A = some ⟨b, off, none⟩ ∧ X.heap[b]? = some (.cells cs 3 fz) ∧ some b ≠ row ∧ ∀ k (hk : k < xs.length), cs[off + k]? = some (.int .i64 xs[k])
theorem IRow.moved {X Y : World} {row row' : Option Nat} {A : Option Addr} {c : Nat} {xs : List Int} (h : IRow X row A c xs) (hk : KInt row X Y) (hr : ∀ r, row' = some r → row = some r ∨ X.heap.size ≤ r) : IRow Y row' A c xs :=
  ⟨h.cap, h.big, fun hne => by
    obtain ⟨b, off, cs, fz, e, hb, hbr, hc⟩ := h.at_ hne
    refine ⟨b, off, cs, fz, e, hk.same b cs fz hb hbr, fun e' => ?_, hc⟩
    rcases hr b e'.symm with h | h
    · exact hbr h.symm
    · have := (Array.getElem?_eq_some_iff.1 hb).1; omega⟩
set_option maxRecDepth 100000 in
theorem IRow.cut {X : World} {row : Option Nat} {b off c : Nat} {xs : List Int} (h : IRow X row (some ⟨b, off, none⟩) c xs) (i : Nat) (hi : i ≤ xs.length) : IRow X row (some ⟨b, off + i, none⟩) (c - i) (xs.drop i) := by
  have hcap := h.cap
  refine ⟨by simp; omega, by have := h.big; omega, fun hne => ?_⟩
  have hne' : xs ≠ [] := fun e => hne (by simp [e])
  obtain ⟨b', off', cs, fz, e, hb, hbr, hc⟩ := h.at_ hne'
  cases e
  exact ⟨b, off + i, cs, fz, rfl, hb, hbr, fun k hk => by
    simp only [List.length_drop] at hk
    rw [List.getElem_drop, Nat.add_assoc]
    exact hc (i + k) (by omega)⟩
theorem IRow.load {X : World} {row : Option Nat} {A : Option Addr} {c : Nat} {xs : List Int} (h : IRow X row A c xs) (i : Nat) (hi : i < xs.length) : ∃ b off, A = some ⟨b, off, none⟩ ∧ X.cell? ⟨b, off + i, none⟩ = some (.int .i64 xs[i]) := by
  obtain ⟨b, off, cs, fz, e, hb, _, hc⟩ := h.at_ (fun e => by subst e; simp at hi)
  exact ⟨b, off, e, by rw [cell_of_row _ _ _ _ _ _ hb]; exact hc i hi⟩
/-- the post of extend, its answer a letter -/
theorem ExtPost.cases {J Jx : List Slc → World → Prop} {B : Nat} {v : Value} {hd : List Int} {sets : List (List Int)} {pre : List Slc} {X : World} {e : Ending} {Y : World} (h : ExtPost J Jx B v hd sets pre X e Y) :
    ∃ b : Bool, e = .returned (.bool b) ∧ ExtPost J Jx B v hd sets pre X (.returned (.bool b)) Y := by
  rcases h with ⟨rfl, h⟩ | ⟨rfl, h⟩
  · exact ⟨true, rfl, .inl ⟨rfl, h⟩⟩
  · exact ⟨false, rfl, .inr ⟨rfl, h⟩⟩
/-- what holds at the head of each round of extend's loop -/
def ExtRel (J : List Slc → World → Prop) (B k : Nat) (v : Value) (hd xs : List Int) (pre : List Slc) (X : World) (idx : Value) (wr : World) : Prop :=
  ∃ (i : Nat) (ys : List Slc), idx = .int .i64 i ∧ i ≤ xs.length ∧ ys.map (·.s) ++ (subs (xs.drop i) (k + 1)).map (hd ++ ·) = (subs xs (k + 1)).map (hd ++ ·) ∧ J (pre ++ ys) wr ∧
      KInt v.ownBlock X wr ∧ wr.ownsRow B 3 1 v hd.length (ic hd) ∧ ∀ y ∈ ys, ∀ r, y.v.ownBlock = some r → X.heap.size ≤ r ∧ r < wr.heap.size
set_option maxRecDepth 10000 in
theorem extend_succ (T : List (List Int)) (lp B : Nat) (J Jx : List Slc → World → Prop)
    (hJ : ∀ pre X Y row, J pre X → X.grownBy Y row → (∀ r, row = some r → RowS B pre r X) → J pre Y)
 (k : Nat)
    (ih : ∀ (v : Value) (hd : List Int) (AL : Option Addr) (cL : Nat) (xs : List Int) (pre : List Slc) (X : World), X.ownsRow B 3 1 v hd.length (ic hd) → B ≤ X.heap.size → hd.length + k ≤ 100 → IRow X v.ownBlock AL cL xs → J pre X →
      (∀ y ∈ pre, ∀ r, y.v.ownBlock = some r → v.ownBlock ≠ some r ∧ r < X.heap.size) → pre.map (·.s) ++ (subs xs k).map (hd ++ ·) <+: T →
      Calls Try.prog 153 #[v, .slice AL xs.length cL, .int .i64 k, .func (.yield lp) #[] #[]] X (ExtPost J Jx B v hd (subs xs k) pre X))
    (v : Value) (hd : List Int) (AL : Option Addr) (cL : Nat) (xs : List Int) (pre : List Slc) (X : World) (hv : X.ownsRow B 3 1 v hd.length (ic hd)) (hB : B ≤ X.heap.size) (hm : hd.length + (k + 1) ≤ 100) (hl : IRow X v.ownBlock AL cL xs) (h0 : J pre X)
    (hpre : ∀ y ∈ pre, ∀ r, y.v.ownBlock = some r → v.ownBlock ≠ some r ∧ r < X.heap.size) (hT : pre.map (·.s) ++ (subs xs (k + 1)).map (hd ++ ·) <+: T) :
    Calls Try.prog 153 #[v, .slice AL xs.length cL, .int .i64 (k + 1 : Nat), .func (.yield lp) #[] #[]] X (ExtPost J Jx B v hd (subs xs (k + 1)) pre X) := by
  obtain ⟨i0, hi, hz0, hz1, hz2⟩ := info_parts Try.infoInt
  have hcap := hl.cap
  have hbig := hl.big
  have k0 : ((k + 1 : Nat) : Int) ≠ 0 := by omega
  go_enter Try.func153, Try.ntmps153
  go_wp2
  go_loopw [9, 21] (fun _ idx wr => ExtRel J B k v hd xs pre X idx wr)
    (fun _ idx _ => xs.length - (intOf idx).toNat)
  case atStart => exact ⟨0, [], rfl, Nat.zero_le _, by simp, by simpa using h0, KInt.refl _ _, hv, by simp⟩
  case round =>
    obtain ⟨i, ys, rfl, hix, hys, hJr, hkr, hvr, hfr⟩ := hrel
    have hlw := hl.moved hkr (row' := v.ownBlock) (fun r e => .inl e)
    have hBr := Nat.le_trans hB hkr.size
    by_cases hlt : i + k < xs.length
    · obtain ⟨b, off, rfl, c1⟩ := hlw.load i (by omega)
      have hcut : IRow wr v.ownBlock (if cL = i + 1 then some ⟨b, off, none⟩ else some ⟨b, off + (i + 1), none⟩) (cL - (i + 1)) (xs.drop (i + 1)) := by
        by_cases hc : cL = i + 1
        · rw [if_pos hc]
          exact ⟨by simp; omega, by omega, fun hne => absurd (List.drop_eq_nil_of_le (by omega)) hne⟩
        · rw [if_neg hc]; exact hlw.cut (i + 1) (by omega)
      have hround := subs_round xs k i (by omega)
      obtain ⟨x, hx⟩ : ∃ x, xs[i] = x := ⟨_, rfl⟩
      rw [hx] at c1 hround
      have hmm : (subs (xs.drop i) (k + 1)).map (hd ++ ·) = (subs (xs.drop (i + 1)) k).map ((hd ++ [x]) ++ ·) ++ (subs (xs.drop (i + 1)) (k + 1)).map (hd ++ ·) := by
        rw [hround, List.map_append, List.map_map]
        congr 1
        apply List.map_congr_left
        intro t _
        simp
      have hT' : (pre ++ ys).map (·.s) ++ (subs (xs.drop (i + 1)) k).map ((hd ++ [x]) ++ ·) <+: T := by
        rw [← hys, hmm] at hT
        exact (List.prefix_append _ ((subs (xs.drop (i + 1)) (k + 1)).map (hd ++ ·))).trans (by simpa only [List.map_append, List.append_assoc] using hT)
      have hdl : (xs.drop (i + 1)).length = xs.length - (i + 1) := by simp
      have hih : ∀ W v1 w1, Below wr.heap.size wr W → Grew 3 B v hd.length (ic hd ++ [.int .i64 x]) W w1 v1 →
          Calls Try.prog 153 #[v1, .slice (if cL = i + 1 then some ⟨b, off, none⟩ else some ⟨b, off + (i + 1), none⟩) (xs.length - (i + 1)) (cL - (i + 1)), .int .i64 k, .func (.yield lp) #[] #[]] w1 fun e Y =>
            ∃ bb : Bool, e = .returned (.bool bb) ∧ ExtPost J Jx B v1 (hd ++ [x]) (subs (xs.drop (i + 1)) k) (pre ++ ys) w1 (.returned (.bool bb)) Y ∧ Grown B v hd x wr w1 v1 := by
        intro W v1 w1 hbW hg
        have hgr := grown_of hvr hBr hbW hg
        have hJ1 : J (pre ++ ys) w1 := by
          refine hJ _ wr w1 _ hJr hgr.grew fun r e => ?_
          rcases hvr.2 with ⟨rfl, _⟩ | ⟨g, cap, cur, rfl, hgB, hh, _⟩
          · simp [Value.ownBlock] at e
          · have hrg : r = g := by simpa [Value.ownBlock] using e.symm
            subst hrg
            refine ⟨hgB, fun y hy hyr => ?_, cur, (0, 0), hh⟩
            rcases List.mem_append.1 hy with hy | hy
            · exact (hpre y hy r hyr).1 rfl
            · have h1 := (hfr y hy r hyr).1
              have h2 := (own_lt hv (show (Value.slice (some ⟨r, 0, none⟩) hd.length cap).ownBlock = some r from rfl)).2
              omega
        have hI1 : IRow w1 v1.ownBlock (if cL = i + 1 then some ⟨b, off, none⟩ else some ⟨b, off + (i + 1), none⟩) (cL - (i + 1)) (xs.drop (i + 1)) := hcut.moved (KInt.of_grown hgr.grew) (fun r e => hgr.blk r e)
        have hsz := hgr.grew.size
        have := ih v1 (hd ++ [x]) _ (cL - (i + 1)) (xs.drop (i + 1)) (pre ++ ys) w1 hgr.own (by omega) (by simp; omega) hI1 hJ1 (by
          intro y hy r hyr
          have hyl : r < wr.heap.size := by
            rcases List.mem_append.1 hy with hy | hy
            · exact Nat.lt_of_lt_of_le (hpre y hy r hyr).2 hkr.size
            · exact (hfr y hy r hyr).2
          refine ⟨fun e => ?_, by omega⟩
          rcases hgr.blk r e with h | h
          · rcases List.mem_append.1 hy with hy | hy
            · exact (hpre y hy r hyr).1 h
            · have h1 := (hfr y hy r hyr).1
              have h2 := (own_lt hv h).2
              omega
          · omega) hT'
        rw [hdl] at this
        exact this.mono fun e Y h => by
          obtain ⟨bb, he, hp⟩ := h.cases
          exact ⟨bb, he, hp, hgr⟩
      have z1 : (0 : Int) ≤ (i : Int) := by omega
      have z2 : (i : Int) < (xs.length : Int) := by omega
      have z3 : (0 : Int) ≤ (i : Int) + 1 := by omega
      have z4 : (i : Int) + 1 ≤ (xs.length : Int) := by omega
      have e1 : IntKind.i64.wrap ((i : Int) + 1) = (i : Int) + 1 := IntWalk.i64_in _ (by omega)
      have e3 : IntKind.i64.wrap (k : Int) = (k : Int) := IntWalk.i64_in _ (by omega)
      have n1 := World.new_ne wr _ c1
      have hnc : ((wr.alloc (.cells #[.int .i64 x] 3)).drew).cell? ⟨wr.heap.size, 0, none⟩ = some (.int .i64 x) := World.cell?_alloc_new wr #[.int .i64 x] 3 0
      go_wp2_with fail
      go_region_law (first | (refine step_append_head (by rfl) (.tmp 24) (.tmp 29) 22 (by rfl) B 3 i0 (.int .i64 0) 8 Try.underlying22 hi hz0 hz1 hz2 (by decide) v hd.length (ic hd) (by rfl) ((hvr.alloc _).drew) ⟨wr.heap.size, 0, none⟩ 1 (.int .i64 x) (by rfl) hnc (by rfl) (by unfold maxLen; omega) (by omega) ?_; intro v1 w1 hg1) | (go_simp; go_at_call 153; refine (hih _ _ _ (((Below.refl _ wr).alloc (Nat.le_refl _) _).drew) hg1).mono ?_; rintro e Y ⟨bb, rfl, hpost, hgr⟩))
      have hsz1 := hgr.grew.size
      cases bb
      · rcases hpost with ⟨h, _⟩ | ⟨_, zs, hzs, hJz⟩
        · cases h
        · have Hp := bx (show (ys ++ zs).map (·.s) <+: (subs xs (k + 1)).map (hd ++ ·) by
            rw [← hys, hmm, List.map_append]
            exact List.prefix_append_right_inj _ |>.2 (hzs.trans (List.prefix_append _ _)))
          rw [List.append_assoc] at hJz
          go_wp2
          all_goals
            go_ret
            exact .inr ⟨rfl, ys ++ zs, Hp.out, hJz⟩
      · rcases hpost with ⟨_, zs, hzs, hJz, hkz, hoz, hfz⟩ | ⟨h, _⟩
        · obtain ⟨hk', ho'⟩ := hgr.back Y hkz hoz
          have hsz2 := hkz.size
          have hsz0 := hkr.size
          rw [List.append_assoc] at hJz
          have Hc := bx (show (ys ++ zs).map (·.s) ++ (subs (xs.drop (i + 1)) (k + 1)).map (hd ++ ·) = (subs xs (k + 1)).map (hd ++ ·) by
            rw [← hys, hmm, List.map_append, hzs, List.append_assoc])
          have Hf := bx (show ∀ y ∈ ys ++ zs, ∀ r, y.v.ownBlock = some r → X.heap.size ≤ r ∧ r < Y.heap.size by
            intro y hy r hr
            rcases List.mem_append.1 hy with hy | hy
            · obtain ⟨p, q⟩ := hfr y hy r hr; omega
            · obtain ⟨p, q⟩ := hfz y hy r hr; omega)
          go_wp2
          all_goals
            go_roundw
            case rel => exact ⟨_, _, .int .i64 (i + 1), ⟨i + 1, ys ++ zs, by go_num, by omega, Hc.out, hJz, hkr.trans hk', ho', Hf.out⟩, rfl, rfl, rfl⟩
            case measure => simp [intOf]; omega
        · cases h
    · have Hc := bx (show ys.map (·.s) = (subs xs (k + 1)).map (hd ++ ·) by
        rw [← hys, subs_short _ _ (by simp; omega)]; simp)
      go_wp2
      go_ret
      exact .inl ⟨rfl, ys, Hc.out, hJr, hkr, hvr, hfr⟩
set_option maxRecDepth 100000 in
theorem extend_calls (T : List (List Int)) (lp B : Nat) (J Jx : List Slc → World → Prop)
    (hJ : ∀ pre X Y row, J pre X → X.grownBy Y row → (∀ r, row = some r → RowS B pre r X) → J pre Y)
    (hY : ∀ m pre x X, J pre X → ElS T B pre x X → YieldAt Fence.wide m Try.prog lp #[x.v] X fun e Y =>
      (e = .returned (.bool true) ∧ J (pre ++ [x]) Y ∧ KInt none X Y) ∨ (e = .returned (.bool false) ∧ Jx (pre ++ [x]) Y)) (k : Nat) :
    ∀ (v : Value) (hd : List Int) (AL : Option Addr) (cL : Nat) (xs : List Int) (pre : List Slc) (X : World), X.ownsRow B 3 1 v hd.length (ic hd) → B ≤ X.heap.size → hd.length + k ≤ 100 → IRow X v.ownBlock AL cL xs → J pre X →
      (∀ y ∈ pre, ∀ r, y.v.ownBlock = some r → v.ownBlock ≠ some r ∧ r < X.heap.size) → pre.map (·.s) ++ (subs xs k).map (hd ++ ·) <+: T →
      Calls Try.prog 153 #[v, .slice AL xs.length cL, .int .i64 k, .func (.yield lp) #[] #[]] X (ExtPost J Jx B v hd (subs xs k) pre X) := by
  induction k with
  | zero =>
    intro v hd AL cL xs pre X hv hB hm _ h0 _ hT
    rw [subs_zero] at hT ⊢
    exact extend_zero T lp B J Jx hJ hY v hd AL xs.length cL pre X hv hB (by omega) h0 (by simpa using hT)
  | succ k ih => exact fun v hd AL cL xs pre X hv hB hm hl h0 hpre hT => extend_succ T lp B J Jx hJ k ih v hd AL cL xs pre X hv hB hm hl h0 hpre hT
end Go.Proofs.Ytlogokjjphlkkaa.Dg
namespace Go.Proofs.Ytlogokjjphlkkaa.Dg
open Go.RowKit Go.Shelf
attribute [local go_sem] Oper.semAt_some

theorem subsets_calls (A : Option Addr) (n c : Nat) (k : Int) (w : World) :
    Calls Try.prog 119 #[.slice A n c, .int .i64 k] w fun e w' => e = .returned (.func (.func 152) #[] #[.pointer (some ⟨w.heap.size, 0, none⟩), .pointer (some ⟨w.heap.size + 1, 0, none⟩)]) ∧
      w' = (w.alloc (.cells #[.slice A n c] 22)).alloc (.cells #[.int .i64 k] 3) := by
  go_enter Try.func119, Try.ntmps119
  go_wp2
  go_ret
  exact ⟨rfl, rfl⟩
set_option maxRecDepth 100000 in
theorem sets_feeds (n bl bk : Nat) (A : Option Addr) (c : Nat) (l : List Int) (k : Nat) (w0 : World) (hbl : bl < w0.heap.size) (hbk : bk < w0.heap.size)
    (hl : w0.cell? ⟨bl, 0, none⟩ = some (.slice A l.length c)) (hk : w0.cell? ⟨bk, 0, none⟩ = some (.int .i64 k)) (hrow : IRow w0 none A c l) (hk100 : k ≤ 100) :
    Feeds n Try.prog 152 #[.pointer (some ⟨bl, 0, none⟩), .pointer (some ⟨bk, 0, none⟩)] (fun x : Slc => #[x.v]) (ElS (subs l k)) RowS (KInt none) (fun xs => xs.map (·.s) = subs l k) (fun xs => xs.map (·.s) <+: subs l k) w0 := by
  intro lp J Jx W hW hJ _ hY h0
  refine callsIn_wide.2 ?_
  have hl' := (hW.cell (p := ⟨bl, 0, none⟩) hbl).trans hl
  have hk' := (hW.cell (p := ⟨bk, 0, none⟩) hbk).trans hk
  have hrow' : IRow W (Value.slice none 0 0).ownBlock A c l := hrow.moved (KInt.of_grown (grown_of_below hW none)) (fun r e => by cases e)
  have hcall := extend_calls (subs l k) lp W.heap.size J Jx hJ hY k (.slice none 0 0) [] A c l [] W (World.ownsRow_nil _ _ _ _) (Nat.le_refl _) (by simpa using hk100) hrow' h0 (by simp) (by simp)
  go_enter Try.func152, Try.ntmps152
  go_wp2_with fail
  refine hcall.mono ?_
  intro e Y h
  rcases h with ⟨rfl, ys, hys, hj, _⟩ | ⟨rfl, ys, hys, hj⟩
  · go_wp2
    go_end0
    exact ⟨⟨_, rfl⟩, .inl ⟨ys, by simpa using hys, by simpa using hj⟩⟩
  · go_wp2
    go_end0
    exact ⟨⟨_, rfl⟩, .inr ⟨ys, by simpa using hys, by simpa using hj⟩⟩
end Go.Proofs.Ytlogokjjphlkkaa.Dg
namespace Go.Proofs.Ytlogokjjphlkkaa.Dg

theorem firstOf_nil (f : Nat → List (List Int)) : ∀ n, (∀ j, j < n → f j = []) → firstOf f n = [] := by
  intro n
  induction n with
  | zero => intros; rfl
  | succ n ih =>
    intro h
    rw [firstOf, ih (fun j hj => h j (by omega)), if_pos rfl, h n (by omega)]
set_option maxRecDepth 100000 in
theorem firstOf_eq (f : Nat → List (List Int)) (k : Nat) (h : ∀ j, j < k → f j = []) (hk : f k ≠ []) : ∀ n, k < n → firstOf f n = f k := by
  intro n
  induction n with
  | zero => intro h; omega
  | succ n ih =>
    intro hn
    rw [firstOf]
    by_cases he : k < n
    · rw [ih he, if_neg hk]
    · obtain rfl : k = n := by omega
      rw [firstOf_nil f k h, if_pos rfl]
/-- no explanation among the sets of one size -/
def noneAt (sh : List (List Int)) (seen l : List Int) (k : Nat) : Prop := ∀ s ∈ subs l k, expl sh s seen [] = false
theorem filter_none {sh : List (List Int)} {seen l : List Int} {k : Nat} (h : noneAt sh seen l k) : (subs l k).filter (fun s => expl sh s seen []) = [] := by
  rw [List.filter_eq_nil_iff]; intro s hs; simp [h s hs]
theorem least_found {sh : List (List Int)} {seen clear : List Int} {k : Nat} {pre : List (List Int)} {s : List Int} (hk : k ≤ (cand sh clear).length) (h : ∀ j, j < k → noneAt sh seen (cand sh clear) j)
    (hp : pre ++ [s] <+: subs (cand sh clear) k) (hn : ∀ t ∈ pre, expl sh t seen [] = false) (hs : expl sh s seen [] = true) : leastOf sh seen clear = some s := by
  obtain ⟨q, hq⟩ := hp
  have hf : (subs (cand sh clear) k).filter (fun s => expl sh s seen []) = s :: q.filter (fun s => expl sh s seen []) := by
    rw [← hq, List.filter_append, List.filter_append, List.filter_eq_nil_iff.2 (by intro t ht; simp [hn t ht])]
    simp [hs]
  rw [leastOf, allOf, firstOf_eq _ k (fun j hj => filter_none (h j hj)) (by rw [hf]; simp) _ (by omega), hf]
  rfl
theorem least_none {sh : List (List Int)} {seen clear : List Int} (h : ∀ j, j < (cand sh clear).length + 1 → noneAt sh seen (cand sh clear) j) : leastOf sh seen clear = none := by
  rw [leastOf, allOf, firstOf_nil _ _ (fun j hj => filter_none (h j hj))]; rfl
end Go.Proofs.Ytlogokjjphlkkaa.Dg
namespace Go.Proofs.Ytlogokjjphlkkaa.Dg
open Go.RowKit Go.Shelf
attribute [local go_sem] Oper.semAt_some

/-- the blocks for the deferred calls of the loops' rounds, still open, all different, from block B on -/
def MarksOk (B : Nat) (W : World) : List Deferred → Prop
  | [] => True
  | d :: ds => (∃ D, d = { target := .collected D, args := #[] } ∧ B ≤ D ∧ W.heap[D]? = some (.deferred (some [])) ∧ ∀ d' ∈ ds, d'.target ≠ .collected D) ∧ MarksOk B W ds
theorem MarksOk.keep {B : Nat} {W W' : World} (hk : ∀ D, B ≤ D → W.heap[D]? = some (.deferred (some [])) → W'.heap[D]? = some (.deferred (some []))) : ∀ {ds : List Deferred}, MarksOk B W ds → MarksOk B W' ds
  | [], _ => trivial
  | _ :: _, ⟨⟨D, h1, h2, h3, h4⟩, h5⟩ => ⟨⟨D, h1, h2, hk D h2 h3, h4⟩, MarksOk.keep hk h5⟩
theorem MarksOk.others {B : Nat} {W W' : World} {ds : List Deferred} (h : MarksOk B W ds) (hk : KeepsOthers W W') : MarksOk B W' ds := h.keep fun _ _ hh => hk.same _ _ hh rfl
theorem MarksOk.lt {B : Nat} {W : World} : ∀ {ds : List Deferred}, MarksOk B W ds → ∀ d ∈ ds, ∃ D, d.target = .collected D ∧ D < W.heap.size
  | [], _ => by simp
  | d :: ds, ⟨⟨D, h1, h2, h3, h4⟩, h5⟩ => by
    intro d' hd'
    rcases List.mem_cons.1 hd' with rfl | hm
    · exact ⟨D, by rw [h1], (Array.getElem?_eq_some_iff.1 h3).1⟩
    · exact h5.lt d' hm
/-- rows of cells that are written disturb no mark -/
theorem MarksOk.cells {B : Nat} {W W' : World} {row : Option Nat} (hg : W.grownBy W' row) (hr : ∀ r, row = some r → ∃ cs t fz, W.heap[r]? = some (.cells cs t fz)) {ds : List Deferred} (h : MarksOk B W ds) : MarksOk B W' ds :=
  h.keep fun D _ hD => (hg.block D (Array.getElem?_eq_some_iff.1 hD).1 (fun e => by
    obtain ⟨cs, t, fz, hc⟩ := hr D e.symm
    rw [hD] at hc; cases hc)).trans hD
/-- a block that lies behind all marks is turned -/
theorem MarksOk.put {B M : Nat} {W : World} {l : Nat} {o' : Obj} (hl : M ≤ l) : ∀ {ds : List Deferred}, (∀ d ∈ ds, ∀ D, d.target = .collected D → D < M) → MarksOk B W ds → MarksOk B (W.putObj l o') ds
  | [], _, _ => trivial
  | d :: ds, hlt, ⟨⟨D, h1, h2, h3, h4⟩, h5⟩ =>
    ⟨⟨D, h1, h2, (World.putObj_heap_other (by have := hlt d (by simp) D (by rw [h1]); omega)).trans h3, h4⟩, MarksOk.put hl (fun d' hd' => hlt d' (by simp [hd'])) h5⟩
/-- cells are kept, and what lay below B -/
structure CellsKept (B : Nat) (W W' : World) : Prop where
  cells : ∀ (k : Nat) (c : Array Value) (t : TypeId) (fz : Nat × Nat), W.heap[k]? = some (Obj.cells c t fz) → W'.heap[k]? = some (Obj.cells c t fz)
  below : Below B W W'
set_option maxRecDepth 100000 in
theorem leaves_marks {F : Fence} {n : Nat} {P : Program} {fn : Func} {tmps : Array Value} {R : Ending → World → Prop} {B : Nat} : ∀ (ds : List Deferred) (W : World), MarksOk B W ds →
    (∀ W', CellsKept B W W' → LeavesIn F n P fn tmps R [] .returning W') → LeavesInM F n P fn tmps R ds .returning W
  | [], W, _, hf => hf W ⟨fun _ _ _ _ h => h, Below.refl _ _⟩
  | d :: ds, W, ⟨⟨D, h1, h2, h3, h4⟩, h5⟩, hf => by
    subst h1
    refine ⟨by simp, .inl ⟨D, _, rfl, run_takeDeferred h3, ?_⟩⟩
    have hlt := (Array.getElem?_eq_some_iff.1 h3).1
    refine leaves_marks (B := B) ds _ ?_ ?_
    · have : ∀ {ds : List Deferred}, (∀ d' ∈ ds, d'.target ≠ .collected D) → MarksOk B W ds → MarksOk B (W.putObj D (.deferred none)) ds := by
        intro ds
        induction ds with
        | nil => intro _ _; trivial
        | cons e es ih =>
          rintro hne ⟨⟨D', g1, g2, g3, g4⟩, g5⟩
          refine ⟨⟨D', g1, g2, (World.putObj_heap_other ?_).trans g3, g4⟩, ih (fun d' hd' => hne d' (by simp [hd'])) g5⟩
          intro e0
          exact hne e (by simp) (by rw [g1, e0])
      exact this h4 h5
    · intro W' hk
      refine hf W' ⟨fun k c t fz hc => hk.cells k c t fz ?_, ?_⟩
      · refine (World.putObj_heap_other ?_).trans hc
        rintro rfl
        rw [h3] at hc; cases hc
      · exact ((Below.refl B W).grown (grownBy_putObj' W D _) (by omega) (fun k e => by cases e; exact h2)).trans hk.below
theorem results_cell2 {fn : Func} {p q : Tmp} {t u : TypeId} (h : fn.results = #[.cell p t, .cell q u]) (tmps : Array Value) (P : Program) (w : World) (a b : Addr) (v x : Value) (hp : tmps.getD p undef = .pointer (some a)) (hq : tmps.getD q undef = .pointer (some b))
    (hl : (loadVar t a).run P w = .ok v w) (hm : (loadVar u b).run P w = .ok x w) : (results fn tmps).run P w = .ok (.tuple #[v, x]) w := by
  have hp' : tmps[p]?.getD undef = .pointer (some a) := by simpa using hp
  have hq' : tmps[q]?.getD undef = .pointer (some b) := by simpa using hq
  simp [results, h, hp', hq', asAddr, hl, hm, Sem.run_bind, Result.andThen]
theorem own_put {X : World} {B n : Nat} {e : TypeId} {size : Nat} {v : Value} {xs : List Value} (h : X.ownsRow B e size v n xs) {l : Nat} {o o' : Obj} (hl : X.heap[l]? = some o) (ho : o.isCells = false) : (X.putObj l o').ownsRow B e size v n xs := by
  refine h.kept (grownBy_putObj' X l o') ?_
  rcases h.2 with ⟨rfl, _⟩ | ⟨g, cap, cur, rfl, hg, hh, _⟩
  · exact .inl rfl
  · refine .inr fun e => ?_
    have : g = l := by simpa [Value.ownBlock] using e
    subst this
    rw [hh] at hl; cases hl; cases ho
theorem boxed_put {X : World} {B : Nat} {t : TypeId} {v : Value} (h : Boxed X B t v) {l : Nat} {o o' : Obj} (hl : X.heap[l]? = some o) (ho : o.isCells = false) : Boxed (X.putObj l o') B t v :=
  (World.putObj_heap_other (by rintro rfl; rw [show X.heap[B]? = _ from h] at hl; cases hl; cases ho)).trans h
set_option maxRecDepth 100000 in
theorem irow_own {W : World} {base c : Nat} {A : Option Addr} {l : List Int} (h : W.ownsRow base 3 1 (.slice A l.length c) l.length (ic l)) : IRow W none A c l := by
  obtain ⟨h0, h⟩ := h
  generalize hm : l.length = m at h
  rcases h with ⟨hv, h0⟩ | ⟨g, cap, cur, hv, hg, hh, q1, q2, q3, q4⟩
  · injection hv with e1 e2 e3
    subst e1 e3
    obtain rfl := List.eq_nil_of_length_eq_zero (hm.trans h0)
    exact ⟨by simp, by omega, fun h => absurd rfl h⟩
  · injection hv with e1 e2 e3
    subst e1 e3
    refine ⟨by omega, by unfold maxLen at q2; omega, fun _ => ⟨g, 0, cur, (0, 0), rfl, hh, by simp, fun k hk => ?_⟩⟩
    have h1 : (cur.toList.take (m * 1))[k]? = some (.int .i64 l[k]) := by rw [q4]; simp [ic]
    rw [List.getElem?_take_of_lt (by omega)] at h1
    simpa using h1
theorem CellsKept.cell {B : Nat} {W W' : World} (h : CellsKept B W W') {p : Addr} {v : Value} (hc : W.cell? p = some v) : W'.cell? p = some v := by
  unfold World.cell? at hc
  split at hc
  · rename_i c t fz hh
    unfold World.cell?
    rw [h.cells _ _ _ _ hh]; exact hc
  · cases hc
theorem own_cells {W W' : World} {B n : Nat} {e : TypeId} {size : Nat} {v : Value} {xs : List Value} (h : W.ownsRow B e size v n xs)
    (hk : ∀ (k : Nat) (c : Array Value) (t : TypeId) (fz : Nat × Nat), W.heap[k]? = some (Obj.cells c t fz) → W'.heap[k]? = some (Obj.cells c t fz)) : W'.ownsRow B e size v n xs := by
  refine ⟨h.1, ?_⟩
  rcases h.2 with h | ⟨g, cap, cur, hv, hg, hh, r⟩
  · exact .inl h
  · exact .inr ⟨g, cap, cur, hv, hg, hk _ _ _ _ hh, r⟩
theorem own_len {X : World} {B n : Nat} {e : TypeId} {size : Nat} {v : Value} {xs : List Value} (h : X.ownsRow B e size v n xs) : n ≤ 9223372036854775807 := by
  rcases h.2 with ⟨_, rfl⟩ | ⟨g, cap, cur, _, _, _, q1, q2, _⟩
  · omega
  · unfold maxLen at q2; omega
theorem keeps_below {B : Nat} {X Y : World} (h : Below X.heap.size X Y) : KeepsFrom B X Y := ⟨h.size, fun k _ _ hk _ => (h.block k (Array.getElem?_eq_some_iff.1 hk).1).trans hk⟩
/-- what Least answers -/
def LeastPost (w : World) (o : Option (List Int)) (e : Ending) (Y : World) : Prop :=
  (∃ s A c, o = some s ∧ e = .returned (.tuple #[.slice A s.length c, .bool true]) ∧ Y.ownsRow w.heap.size 3 1 (.slice A s.length c) s.length (ic s) ∧ Below w.heap.size w Y) ∨
  (o = none ∧ e = .returned (.tuple #[.slice none 0 0, .bool false]) ∧ Below w.heap.size w Y)
set_option maxRecDepth 10000 in
theorem least_calls (n : Int) (AG : Option Addr) (cG : Nat) (sh : List (List Int)) (AS : Option Addr) (cS : Nat) (seen : List Int) (AC : Option Addr) (cC : Nat) (clear : List Int) (w : World)
    (hl : Lists w w.heap.size AG sh) (hn : sh.length ≤ 90) (h1 : Ints w w.heap.size AS seen) (hm1 : seen.length ≤ 9223372036854775807) (h2 : Ints w w.heap.size AC clear) (hm2 : clear.length ≤ 9223372036854775807) :
    Calls Try.prog 80 #[.agg #[.int .i64 n, .slice AG sh.length cG], .slice AS seen.length cS, .slice AC clear.length cC] w (LeastPost w (leastOf sh seen clear)) := by
  refine (callsIn_wide (n := 3)).1 ?_
  refine callsIn_of_wp_marks Try.func80 rfl trivial (wpIn_wide.2 ?_) rfl
  simp only [Try.ntmps80, List.size_toArray, List.length_cons, List.length_nil, Nat.reduceAdd, Nat.reduceSub, Array.replicate_succ, Array.replicate_zero, List.push_toArray, List.append_toArray, List.nil_append, List.cons_append]
  go_wp2_with fail
  obtain ⟨W0, hW0⟩ : ∃ W0, (((w.alloc (.cells #[.int .i64 n, .slice AG sh.length cG] 108)).alloc (.cells #[.slice AS seen.length cS] 22)).alloc (.cells #[.slice none 0 0] 22)).alloc (.cells #[.bool false] 4) = W0 := ⟨_, rfl⟩
  have hW : W0.heap.size = w.heap.size + 4 := by rw [← hW0]; simp
  have hB0 : Below w.heap.size w W0 := by rw [← hW0]; exact ((((Below.refl _ w).alloc (Nat.le_refl _) _).alloc (by simp) _).alloc (by simp; omega) _).alloc (by simp; omega) _
  have hG0 : GBox W0 W0.heap.size w.heap.size n sh := by
    rw [← hW0]
    exact ((((gbox_new w n AG cG sh hl (by omega)).below ((Below.refl _ _).alloc (by simp) _)).below (((Below.refl _ _).alloc (by simp) _).mono (Nat.le_refl _))).below (((Below.refl _ _).alloc (by simp) _))).more (by simp)
  have hU0 : UBox W0 W0.heap.size (w.heap.size + 1) seen := by
    have hb1 : Below w.heap.size w (w.alloc (.cells #[.int .i64 n, .slice AG sh.length cG] 108)) := (Below.refl _ w).alloc (Nat.le_refl _) _
    have := ubox_new (w.alloc (.cells #[.int .i64 n, .slice AG sh.length cG] 108)) AS cS seen ((h1.below hb1).more hb1.size) hm1 22
    rw [World.size_alloc] at this
    rw [← hW0]
    exact ((this.below ((Below.refl _ _).alloc (by simp) _)).below ((Below.refl _ _).alloc (by simp) _)).more (by simp)
  have r0 : Boxed W0 (w.heap.size + 1 + 1) 22 (.slice none 0 0) := by
    rw [← hW0]
    have := Boxed.new ((w.alloc (.cells #[.int .i64 n, .slice AG sh.length cG] 108)).alloc (.cells #[.slice AS seen.length cS] 22)) 22 (.slice none 0 0)
    rw [World.size_alloc, World.size_alloc] at this
    exact this.alloc _
  have r1 : Boxed W0 (w.heap.size + 1 + 1 + 1) 4 (.bool false) := by
    rw [← hW0]
    have := Boxed.new (((w.alloc (.cells #[.int .i64 n, .slice AG sh.length cG] 108)).alloc (.cells #[.slice AS seen.length cS] 22)).alloc (.cells #[.slice none 0 0] 22)) 4 (.bool false)
    rw [World.size_alloc, World.size_alloc, World.size_alloc] at this
    exact this
  rw [hW0]
  refine (cand_calls n AG cG sh AC cC clear W0 ((hl.below hB0).more hB0.size) (by omega) ((h2.below hB0).more hB0.size) hm2).mono ?_
  rintro e W1 ⟨A8, c8, rfl, o8, hB1⟩
  have hs1 := hB1.size
  have hG1 := (hG0.below hB1).more hs1
  have hU1 := (hU0.below hB1).more hs1
  have x0 : Boxed W1 (w.heap.size + 1 + 1) 22 (.slice none 0 0) := (hB1.block _ (by omega)).trans r0
  have x1 : Boxed W1 (w.heap.size + 1 + 1 + 1) 4 (.bool false) := (hB1.block _ (by omega)).trans r1
  clear hG0 hU0 r0 r1 hW0 hl h1 h2
  have hle := cand_len sh clear
  obtain ⟨l, hcl⟩ : ∃ l, cand sh clear = l := ⟨_, rfl⟩
  rw [hcl] at o8 hle ⊢
  have HC := bx hcl
  clear hcl
  have hrow1 : IRow W1 none A8 c8 l := irow_own o8
  go_wp2
  refine wp_loop (fun a wr => ∃ (k : Nat) (ds : List Deferred) (u9 u10 u18 u19 u20 u21 u22 u23 u24 u25 u26 u27 u28 u29 : Value), a = { tmps := #[.agg #[.int .i64 n, .slice AG sh.length cG], .slice AS seen.length cS, .slice AC clear.length cC, .pointer (some ⟨w.heap.size, 0, none⟩), .pointer (some ⟨w.heap.size + 1, 0, none⟩), undef, .pointer (some ⟨w.heap.size + 1 + 1, 0, none⟩), .pointer (some ⟨w.heap.size + 1 + 1 + 1, 0, none⟩), .slice A8 l.length c8, u9, u10, .agg #[.int .i64 n, .slice AG sh.length cG], .slice AC clear.length cC, .slice A8 l.length c8, .slice A8 l.length c8, .int .i64 l.length, .int .i64 (l.length + 1), .int .i64 k, u18, u19, u20, u21, u22, u23, u24, u25, u26, u27, u28, u29], defers := ds } ∧
      k ≤ l.length + 1 ∧ (∀ j, j < k → noneAt sh seen l j) ∧ MarksOk w.heap.size wr ds ∧ Below W1.heap.size W1 wr)
    (fun a _ => l.length + 1 - (intOf (a.tmps.getD 17 undef)).toNat) ?start ?round
  case start => exact ⟨0, [], _, _, _, _, _, _, _, _, _, _, _, _, _, _, rfl, by omega, fun j hj => absurd hj (by omega), trivial, Below.refl _ _⟩
  case round =>
    rintro a wr ⟨k, ds, u9, u10, u18, u19, u20, u21, u22, u23, u24, u25, u26, u27, u28, u29, rfl, hk, hno, hmk, hbw⟩
    have Hno := bx hno
    clear hno
    by_cases hlt : k < l.length + 1
    · go_wp2_with (go_at_call 119; refine (subsets_calls _ _ _ _ _).mono ?_; rintro e w' ⟨rfl, rfl⟩)
      obtain ⟨W2, hW2⟩ : ∃ W2, (wr.alloc (.cells #[.slice A8 l.length c8] 22)).alloc (.cells #[.int .i64 k] 3) = W2 := ⟨_, rfl⟩
      have s2 : W2.heap.size = wr.heap.size + 2 := by rw [← hW2]; simp
      have hb2 : Below wr.heap.size wr W2 := by rw [← hW2]; exact ((Below.refl _ _).alloc (Nat.le_refl _) _).alloc (by simp) _
      have hO2 : KeepsOthers wr W2 := by rw [← hW2]; exact (KeepsOthers.alloc _ _).trans (KeepsOthers.alloc _ _)
      have y0 : Boxed W2 wr.heap.size 22 (.slice A8 l.length c8) := by rw [← hW2]; exact (Boxed.new wr _ _).alloc _
      have y1 : Boxed W2 (wr.heap.size + 1) 3 (.int .i64 k) := by rw [← hW2]; have := Boxed.new (wr.alloc (.cells #[.slice A8 l.length c8] 22)) 3 (.int .i64 k); rw [World.size_alloc] at this; exact this
      rw [hW2]
      clear hW2
      have hbW : Below W1.heap.size W1 W2 := hbw.trans (hb2.mono hbw.size)
      have hmk2 := hmk.others hO2
      have hltd : ∀ d ∈ ds, ∀ D, d.target = .collected D → D < W2.heap.size := by
        intro d hd D hD
        obtain ⟨D', e, hlt'⟩ := hmk.lt d hd
        rw [hD] at e; injection e with e; omega
      have hs2 := hbW.size
      have hrow2 : IRow W2 none A8 c8 l := hrow1.moved (KInt.of_grown (grown_of_below hbW none)) (fun r e => by cases e)
      refine wpIn_wide.1 (range_feeds (n := 3) (by omega) (gf := 152) (lb := #[.pointer (some ⟨wr.heap.size, 0, none⟩), .pointer (some ⟨wr.heap.size + 1, 0, none⟩)]) (by simp [Act.eval]) (enters_of Try.func152 (by kernel_rfl) rfl)
        (sets_feeds _ wr.heap.size (wr.heap.size + 1) A8 c8 l k W2 (by omega) (by omega) y0.cell y1.cell hrow2 (by omega)) (fun _ => rfl)
        (fun B pre r X h => ⟨h.1, h.2.2.elim fun cs h => ⟨cs, _, h⟩⟩)
        KInt.trans (fun X l _ o' h hc => ⟨by simp, fun b cs fz hb _ => (World.putObj_heap_other (by rintro rfl; rw [h] at hb; cases hb; cases hc)).trans hb⟩)
        (fun B pre x X l o o' h ho hc => ⟨h.1, own_put h.2 ho hc⟩)
        (fun pre W => (∀ y ∈ pre, expl sh y.s seen [] = false) ∧ MarksOk w.heap.size W ds ∧ Below W1.heap.size W1 W)
        (fun pre W => ∃ (pre' : List Slc) (x : Slc), pre = pre' ++ [x] ∧ (∀ y ∈ pre', expl sh y.s seen [] = false) ∧ expl sh x.s seen [] = true ∧ Boxed W (w.heap.size + 1 + 1) 22 x.v ∧ Boxed W (w.heap.size + 1 + 1 + 1) 4 (.bool true) ∧
          W.ownsRow w.heap.size 3 1 x.v x.s.length (ic x.s) ∧ MarksOk w.heap.size W ds ∧ Below w.heap.size w W)
        (fun pre X Y row ⟨h1, h2, h3⟩ hg hr => ⟨h1, h2.cells hg (fun r e => (hr r e).2.2.elim fun cs h => ⟨cs, _, h⟩), h3.grown hg h3.size (fun r e => by have := (hr r e).1; omega)⟩)
        (fun pre X l o o' hl ho hc ⟨h1, h2, h3⟩ => ⟨h1, h2.put hl hltd, h3.grown (grownBy_putObj' X l o') h3.size (fun r e => by cases e; omega)⟩)
        (fun pre X Y ⟨pre', x, h1, h2, h3, h4, h5, h6, h7, h8⟩ hg => ⟨pre', x, h1, h2, h3, h4.kept hg (by simp), h5.kept hg (by simp), h6.kept hg (by cases x.v.ownBlock <;> simp), h7.cells hg (fun r e => by cases e), h8.grown hg h8.size (fun r e => by cases e)⟩)
        (fun pre X l o o' hl ho hc ⟨pre', x, h1, h2, h3, h4, h5, h6, h7, h8⟩ => ⟨pre', x, h1, h2, h3, boxed_put h4 ho hc, boxed_put h5 ho hc, own_put h6 ho hc, h7.put hl hltd, h8.grown (grownBy_putObj' X l o') h8.size (fun r e => by cases e; have := hB0.size; omega)⟩)
        ⟨by simp, hmk2, hbW⟩
        (fun x => { tmps := #[.agg #[.int .i64 n, .slice AG sh.length cG], .slice AS seen.length cS, .slice AC clear.length cC, .pointer (some ⟨w.heap.size, 0, none⟩), .pointer (some ⟨w.heap.size + 1, 0, none⟩), undef, .pointer (some ⟨w.heap.size + 1 + 1, 0, none⟩), .pointer (some ⟨w.heap.size + 1 + 1 + 1, 0, none⟩), .slice A8 l.length c8, .int .i64 k, x.v, .agg #[.int .i64 n, .slice AG sh.length cG], .slice AC clear.length cC, .slice A8 l.length c8, .slice A8 l.length c8, .int .i64 l.length, .int .i64 (l.length + 1), .int .i64 k, .bool true, .int .i64 k, .slice A8 l.length c8, .int .i64 k, .func (.func 152) #[] #[.pointer (some ⟨wr.heap.size, 0, none⟩), .pointer (some ⟨wr.heap.size + 1, 0, none⟩)], x.v, u24, u25, u26, u27, u28, u29], defers := [] }) ?assign ?body ?done ?stop)
      case assign =>
        intro m lp x W K hK
        gi_wp2
        exact hK
      case body =>
        rintro m lp pre ⟨xA, xc, xs⟩ X ⟨hp, hmkX, hbX⟩ hel
        obtain ⟨x, hxx⟩ : ∃ x : Slc, (⟨xA, xc, xs⟩ : Slc) = x := ⟨_, rfl⟩
        have hel' : X.ownsRow (W2.heap.size + 2) 3 1 (.slice xA xs.length xc) xs.length (ic xs) := hel.2
        simp only [Slc.v]
        clear hel hxx x
        obtain ⟨_, l1, g0, AG', cG', gg1, hlX⟩ := (hG1.below hbX).more hbX.size
        obtain ⟨_, l2, AU, cU, u0, hiX⟩ := (hU1.below hbX).more hbX.size
        have Hx := bx (ints_of_own hel')
        have hsX := hbX.size
        have hlen := own_len hel'
        cases hv : expl sh xs seen []
        · have HV := bx hv
          clear hv
          gi_wp2_with fail
          refine ⟨trivial, wide_n, ?_⟩
          refine (CallsIn.inRound lp (callsIn_wide.2 (explains_calls n AG' cG' sh xA xc xs AU cU seen none 0 [] X hlX l1 Hx.out hlen hiX l2 Ints.nil (by simp) false HV.out))).mono ?_
          rintro e w5 ⟨rfl, hb5⟩
          gi_wp2
          refine ⟨keeps_below hb5, KInt.of_grown (grown_of_below hb5 none), ?_, hmkX.cells (grown_of_below hb5 none) (fun r e => by cases e), hbX.trans (hb5.mono hsX)⟩
          intro y hy
          rcases List.mem_append.1 hy with hy | hy
          · exact hp y hy
          · obtain rfl := List.mem_singleton.1 hy; exact HV.out
        · have HV := bx hv
          clear hv
          gi_wp2_with fail
          refine ⟨trivial, wide_n, ?_⟩
          refine (CallsIn.inRound lp (callsIn_wide.2 (explains_calls n AG' cG' sh xA xc xs AU cU seen none 0 [] X hlX l1 Hx.out hlen hiX l2 Ints.nil (by simp) true HV.out))).mono ?_
          rintro e w5 ⟨rfl, hb5⟩
          have z0 : Boxed w5 (w.heap.size + 1 + 1) 22 (.slice none 0 0) := ((hb5.block _ (by omega)).trans (hbX.block _ (by omega))).trans x0
          have z1 : Boxed w5 (w.heap.size + 1 + 1 + 1) 4 (.bool false) := ((hb5.block _ (by omega)).trans (hbX.block _ (by omega))).trans x1
          have z0c := z0.cell
          have z0f := z0.frozen
          have z1c := z1.cell
          have z1f := z1.frozen
          gi_wp2
          have hb15 := hbX.trans (hb5.mono hsX)
          have hbw5 : Below w.heap.size w w5 := hB0.trans ((hB1.trans (hb15.mono hs1)).mono hB0.size)
          have hne : ∀ r, (Value.slice xA xs.length xc).ownBlock = some r → W2.heap.size + 2 ≤ r := fun r e => (own_lt hel' e).1
          refine ⟨(keeps_below hb5).trans (((KeepsOthers.setCell _ _ _).trans (KeepsOthers.setCell _ _ _)).from _), pre, ⟨xA, xc, xs⟩, rfl, hp, HV.out, (z0.set _).other (by omega) _, (z1.other (by omega) _).set _, ?_, ?_, (hbw5.setCell (p := ⟨w.heap.size + 1 + 1, 0, none⟩) (by simp only; omega) _).setCell (p := ⟨w.heap.size + 1 + 1 + 1, 0, none⟩) (by simp only; omega) _⟩
          · exact ((own_base (hel'.kept (grown_of_below hb5 none) (by cases (Value.slice xA xs.length xc).ownBlock <;> simp)) (by omega)).kept (grownBy_setCell' _ _ _) (.inr fun e => by have := hne _ e; omega)).kept (grownBy_setCell' _ _ _) (.inr fun e => by have := hne _ e; omega)
          · exact (hmkX.cells (grown_of_below hb5 none) (fun r e => by cases e)).others ((KeepsOthers.setCell _ _ _).trans (KeepsOthers.setCell _ _ _))
      case done =>
        rintro D xs W hD hS ⟨h1, h2, h3⟩ hK
        have HN := bx (show ∀ j, j < k + 1 → noneAt sh seen l j by
          intro j hj
          by_cases hjk : j < k
          · exact Hno.out j hjk
          · obtain rfl : j = k := by omega
            intro t ht
            rw [← hS] at ht
            obtain ⟨y, hy, rfl⟩ := List.mem_map.1 ht
            exact h1 y hy)
        go_wp2
        refine ⟨⟨k + 1, _, _, _, _, _, _, _, _, _, _, _, _, _, _, _, rfl, by omega, HN.out, ⟨⟨D, rfl, by omega, hK, ?_⟩, h2⟩, h3⟩, by simp [intOf]; omega⟩
        intro d hd e
        have := hltd d hd D e
        omega
      case stop =>
        rintro D pre W hD hSp ⟨pre', x, rfl, h2, h3, h4, h5, h6, h7, h8⟩ hK
        have HF := bx (show leastOf sh seen clear = some x.s from least_found (k := k) (pre := pre'.map (·.s)) (by rw [HC.out]; omega) (by rw [HC.out]; exact Hno.out) (by rw [HC.out]; simpa using hSp)
          (fun t ht => by obtain ⟨y, hy, rfl⟩ := List.mem_map.1 ht; exact h2 y hy) h3)
        gi_wp2
        refine leaves_marks (B := w.heap.size) (_ :: ds) _ ⟨⟨D, rfl, by omega, hK, fun d hd e => by have := hltd d hd D e; omega⟩, h7⟩ ?_
        intro W' hk
        have c4 := hk.cell h4.cell
        have c5 := hk.cell h5.cell
        exact ⟨.tuple #[.slice x.A x.s.length x.c, .bool true], by simp [results, Try.results80, go_sem, c4, c5, Slc.v], .inl ⟨x.s, x.A, x.c, HF.out, rfl, own_cells h6 hk.cells, h8.trans hk.below⟩⟩
    · obtain rfl : k = l.length + 1 := by omega
      have z0 : Boxed wr (w.heap.size + 1 + 1) 22 (.slice none 0 0) := (hbw.block _ (by omega)).trans x0
      have z1 : Boxed wr (w.heap.size + 1 + 1 + 1) 4 (.bool false) := (hbw.block _ (by omega)).trans x1
      have z0c := z0.cell
      have z0f := z0.frozen
      have z1c := z1.cell
      have z1f := z1.frozen
      have HF := bx (show leastOf sh seen clear = none from least_none (by rw [HC.out]; exact Hno.out))
      have hbwr : Below w.heap.size w wr := hB0.trans ((hB1.trans (hbw.mono hs1)).mono hB0.size)
      go_wp2
      refine leaves_marks (B := w.heap.size) ds _ (hmk.others ((KeepsOthers.setCell _ _ _).trans (KeepsOthers.setCell _ _ _))) ?_
      intro W' hk
      have c4 := hk.cell ((z0.set (.slice none 0 0)).other (B' := w.heap.size + 1 + 1 + 1) (by omega) (.bool false)).cell
      have c5 := hk.cell ((z1.other (B' := w.heap.size + 1 + 1) (by omega) (.slice none 0 0)).set (.bool false)).cell
      exact ⟨.tuple #[.slice none 0 0, .bool false], by simp [results, Try.results80, go_sem, c4, c5], .inr ⟨HF.out, rfl, ((hbwr.setCell (p := ⟨w.heap.size + 1 + 1, 0, none⟩) (by simp only; omega) _).setCell (p := ⟨w.heap.size + 1 + 1 + 1, 0, none⟩) (by simp only; omega) _).trans hk.below⟩⟩
end Go.Proofs.Ytlogokjjphlkkaa.Dg
namespace Go.Proofs.Ytlogokjjphlkkaa.Dg
open Go.RowKit Go.Shelf
attribute [local go_sem] Oper.semAt_some

/-- the explanations among the sets that have come -/
def good (sh : List (List Int)) (seen : List Int) (pre : List Slc) : List Slc := pre.filter fun y => expl sh y.s seen []
theorem Try.infoInts : (Try.prog.info? 22).map (fun i => (i.zero, i.size, i.bytes)) = some (some (.slice none 0 0), 1, 24) := by kernel_rfl
/-- a list of lists of the call's own -/
def ListsPost (w : World) (T : List (List Int)) (e : Ending) (Y : World) : Prop :=
  ∃ (ys : List Slc) (A : Option Addr) (c : Nat), ys.map (·.s) = T ∧ e = .returned (.slice A ys.length c) ∧ Y.ownsRow w.heap.size 22 1 (.slice A ys.length c) ys.length (ys.map Slc.v) ∧
    (∀ y ∈ ys, Y.ownsRow w.heap.size 3 1 y.v y.s.length (ic y.s)) ∧ Below w.heap.size w Y
/-- what All's loop keeps between two rounds over sets -/
structure AllAt (w W1 : World) (sh : List (List Int)) (seen : List Int) (ds : List Deferred) (pre : List Slc) (W : World) : Prop where
  out : ∃ v, Boxed W (w.heap.size + 1 + 1) 69 v ∧ W.ownsRow (w.heap.size + 1 + 1) 22 1 v (good sh seen pre).length ((good sh seen pre).map Slc.v) ∧ (v = .slice none 0 0 ↔ good sh seen pre = [])
  own : ∀ y ∈ pre, W.ownsRow (w.heap.size + 1 + 1) 3 1 y.v y.s.length (ic y.s)
  marks : MarksOk w.heap.size W ds
  below : Below (w.heap.size + 1 + 1) W1 W
  ints : KInt none W1 W
set_option maxRecDepth 100000 in
theorem AllAt.row {w W1 X Y : World} {sh : List (List Int)} {seen : List Int} {ds : List Deferred} {pre : List Slc} {row : Option Nat} {B : Nat} (h : AllAt w W1 sh seen ds pre X) (hg : X.grownBy Y row) (hB : W1.heap.size ≤ B) (hB2 : w.heap.size + 1 + 1 ≤ W1.heap.size)
    (hr : ∀ r, row = some r → RowS B pre r X) : AllAt w W1 sh seen ds pre Y := by
  obtain ⟨⟨v, b1, b2, b3⟩, o, m, bl, ki⟩ := h
  have hc : ∀ r, row = some r → ∃ cs t fz, X.heap[r]? = some (.cells cs t fz) := fun r e => (hr r e).2.2.elim fun cs h => ⟨cs, _, h⟩
  refine ⟨⟨v, b1.kept hg ?_, b2.kept hg ?_, b3⟩, fun y hy => (o y hy).kept hg ?_, m.cells hg hc, bl.grown hg (by have := bl.size; have := ki.size; omega) (fun r e => by have := (hr r e).1; omega), ?_⟩
  · intro e
    obtain ⟨_, _, cs, fz, h⟩ := hr _ e.symm
    rw [show X.heap[w.heap.size + 1 + 1]? = _ from b1] at h; cases h
  · rcases b2.2 with ⟨rfl, _⟩ | ⟨g, cap, cur, rfl, _, hh, _⟩
    · exact .inl rfl
    · refine .inr fun e => ?_
      obtain ⟨_, _, cs, fz, h⟩ := hr g (by simpa [Value.ownBlock] using e.symm)
      rw [hh] at h; cases h
  · cases ho : y.v.ownBlock with
    | none => exact .inl rfl
    | some r =>
      refine .inr fun e => ?_
      exact (hr r e.symm).2.1 y hy ho
  · refine ⟨Nat.le_trans ki.size hg.size, fun b cs fz hb hn => ?_⟩
    have h1 := ki.same b cs fz hb hn
    refine (hg.block b (Array.getElem?_eq_some_iff.1 h1).1 fun e => ?_).trans h1
    have := (hr b e.symm).1
    have := (Array.getElem?_eq_some_iff.1 hb).1
    omega
theorem AllAt.put {w W1 X : World} {sh : List (List Int)} {seen : List Int} {ds : List Deferred} {pre : List Slc} {M l : Nat} {o o' : Obj} (h : AllAt w W1 sh seen ds pre X) (hl : X.heap[l]? = some o) (ho : o.isCells = false) (hM : M ≤ l) (hM2 : w.heap.size + 1 + 1 ≤ M)
    (hlt : ∀ d ∈ ds, ∀ D, d.target = .collected D → D < M) : AllAt w W1 sh seen ds pre (X.putObj l o') := by
  obtain ⟨⟨v, b1, b2, b3⟩, o1, m, bl, ki⟩ := h
  refine ⟨⟨v, boxed_put b1 hl ho, own_put b2 hl ho, b3⟩, fun y hy => own_put (o1 y hy) hl ho, m.put hM hlt, ?_, ki.trans ⟨by simp, fun b cs fz hb _ => (World.putObj_heap_other (by rintro rfl; rw [hl] at hb; cases hb; cases ho)).trans hb⟩⟩
  exact ⟨bl.os, bl.tape, bl.output, by simpa using bl.size, fun i hi => (World.putObj_heap_other (by omega)).trans (bl.block i hi)⟩
set_option maxRecDepth 100000 in
theorem subs_len : ∀ (l : List Int) (k : Nat), (subs l k).length ≤ 2 ^ l.length := by
  intro l
  induction l with
  | nil => intro k; cases k <;> simp [subs]
  | cons x xs ih =>
    intro k
    cases k with
    | zero => simp [subs]; exact Nat.one_le_two_pow
    | succ k =>
      have h1 := ih k
      have h2 := ih (k + 1)
      simp only [subs, List.length_append, List.length_map, List.length_cons, Nat.pow_succ]
      omega
theorem good_skip {sh : List (List Int)} {seen : List Int} {pre : List Slc} {x : Slc} (h : expl sh x.s seen [] = false) : good sh seen (pre ++ [x]) = good sh seen pre := by simp [good, h]
theorem good_take {sh : List (List Int)} {seen : List Int} {pre : List Slc} {x : Slc} (h : expl sh x.s seen [] = true) : good sh seen (pre ++ [x]) = good sh seen pre ++ [x] := by simp [good, h]
theorem AllAt.call {w W1 X Y : World} {sh : List (List Int)} {seen : List Int} {ds : List Deferred} {pre : List Slc} (h : AllAt w W1 sh seen ds pre X) (hb : Below X.heap.size X Y) (hB2 : w.heap.size + 1 + 1 ≤ W1.heap.size) : AllAt w W1 sh seen ds pre Y :=
  h.row (B := W1.heap.size) (grown_of_below hb none) (Nat.le_refl _) hB2 (fun r e => by cases e)
theorem AllAt.skip {w W1 X : World} {sh : List (List Int)} {seen : List Int} {ds : List Deferred} {pre : List Slc} {x : Slc} (h : AllAt w W1 sh seen ds pre X) (hv : expl sh x.s seen [] = false) (hx : X.ownsRow (w.heap.size + 1 + 1) 3 1 x.v x.s.length (ic x.s)) : AllAt w W1 sh seen ds (pre ++ [x]) X := by
  obtain ⟨o, o1, m, bl, ki⟩ := h
  refine ⟨by rw [good_skip hv]; exact o, fun y hy => ?_, m, bl, ki⟩
  rcases List.mem_append.1 hy with hy | hy
  · exact o1 y hy
  · obtain rfl := List.mem_singleton.1 hy; exact hx
set_option maxRecDepth 100000 in
theorem kint_append {W w1 : World} {r B n : Nat} {v v' : Value} {xs : List Value} {tmp : Obj} (hbx : Boxed W r 69 v) (hrow : W.ownsRow B 22 1 v n xs) (hg : (W.alloc tmp).grownBy w1 v.ownBlock) : KInt none W (w1.setCell ⟨r, 0, none⟩ v') := by
  refine ⟨?_, fun b cs fz hb _ => ?_⟩
  · have := hg.size; simp [World.setCell] at this ⊢; omega
  · have hlt := (Array.getElem?_eq_some_iff.1 hb).1
    refine (Below.heap_setCell _ _ _ _ ?_).trans ((hg.block b (by simp; omega) ?_).trans ((heap_alloc_old W tmp hlt).trans hb))
    · simp only [ne_eq]
      rintro rfl
      rw [show W.heap[b]? = _ from hbx] at hb; cases hb
    · intro e
      rcases hrow.2 with ⟨rfl, _⟩ | ⟨g, cap, cur, rfl, _, hh, _⟩
      · simp [Value.ownBlock] at e
      · have : b = g := by simpa [Value.ownBlock] using e
        subst this
        rw [hh] at hb; cases hb
theorem allOf_at {sh : List (List Int)} {seen clear : List Int} {k : Nat} (hk : k ≤ (cand sh clear).length) (h : ∀ j, j < k → noneAt sh seen (cand sh clear) j) (hne : (subs (cand sh clear) k).filter (fun s => expl sh s seen []) ≠ []) :
    allOf sh seen clear = (subs (cand sh clear) k).filter (fun s => expl sh s seen []) := by
  rw [allOf, firstOf_eq _ k (fun j hj => filter_none (h j hj)) hne _ (by omega)]
theorem allOf_none {sh : List (List Int)} {seen clear : List Int} (h : ∀ j, j < (cand sh clear).length + 1 → noneAt sh seen (cand sh clear) j) : allOf sh seen clear = [] := by
  rw [allOf, firstOf_nil _ _ (fun j hj => filter_none (h j hj))]
theorem good_map (sh : List (List Int)) (seen : List Int) (xs : List Slc) : (good sh seen xs).map (·.s) = (xs.map (·.s)).filter (fun s => expl sh s seen []) := by
  rw [List.filter_map]; rfl
set_option maxRecDepth 10000 in
theorem all_calls (n : Int) (AG : Option Addr) (cG : Nat) (sh : List (List Int)) (AS : Option Addr) (cS : Nat) (seen : List Int) (AC : Option Addr) (cC : Nat) (clear : List Int) (w : World)
    (hl : Lists w w.heap.size AG sh) (hn : sh.length ≤ 20) (h1 : Ints w w.heap.size AS seen) (hm1 : seen.length ≤ 9223372036854775807) (h2 : Ints w w.heap.size AC clear) (hm2 : clear.length ≤ 9223372036854775807) :
    Calls Try.prog 123 #[.agg #[.int .i64 n, .slice AG sh.length cG], .slice AS seen.length cS, .slice AC clear.length cC] w (ListsPost w (allOf sh seen clear)) := by
  refine (callsIn_wide (n := 3)).1 ?_
  refine callsIn_of_wp_marks Try.func123 rfl trivial (wpIn_wide.2 ?_) rfl
  simp only [Try.ntmps123, List.size_toArray, List.length_cons, List.length_nil, Nat.reduceAdd, Nat.reduceSub, Array.replicate_succ, Array.replicate_zero, List.push_toArray, List.append_toArray, List.nil_append, List.cons_append]
  go_wp2_with fail
  go_step3
  go_wp2_with fail
  obtain ⟨W0, hW0⟩ : ∃ W0, ((w.alloc (.cells #[.int .i64 n, .slice AG sh.length cG] 108)).alloc (.cells #[.slice AS seen.length cS] 22)).alloc (.cells #[.slice none 0 0] 69) = W0 := ⟨_, rfl⟩
  have hW : W0.heap.size = w.heap.size + 3 := by rw [← hW0]; simp
  have hB0 : Below w.heap.size w W0 := by rw [← hW0]; exact (((Below.refl _ w).alloc (Nat.le_refl _) _).alloc (by simp) _).alloc (by simp; omega) _
  have hG0 : GBox W0 (w.heap.size + 1 + 1) w.heap.size n sh := by
    rw [← hW0]
    exact (((gbox_new w n AG cG sh hl (by omega)).below ((Below.refl _ _).alloc (by simp) _)).below (((Below.refl _ _).alloc (by simp) _).mono (Nat.le_refl _))).more (by omega)
  have hU0 : UBox W0 (w.heap.size + 1 + 1) (w.heap.size + 1) seen := by
    have hb1 : Below w.heap.size w (w.alloc (.cells #[.int .i64 n, .slice AG sh.length cG] 108)) := (Below.refl _ w).alloc (Nat.le_refl _) _
    have := ubox_new (w.alloc (.cells #[.int .i64 n, .slice AG sh.length cG] 108)) AS cS seen ((h1.below hb1).more hb1.size) hm1 22
    rw [World.size_alloc] at this
    rw [← hW0]
    exact this.below ((Below.refl _ _).alloc (by simp) _)
  have r0 : Boxed W0 (w.heap.size + 1 + 1) 69 (.slice none 0 0) := by
    rw [← hW0]
    have := Boxed.new ((w.alloc (.cells #[.int .i64 n, .slice AG sh.length cG] 108)).alloc (.cells #[.slice AS seen.length cS] 22)) 69 (.slice none 0 0)
    rw [World.size_alloc, World.size_alloc] at this
    exact this
  rw [hW0]
  refine (cand_calls n AG cG sh AC cC clear W0 ((hl.below hB0).more hB0.size) (by omega) ((h2.below hB0).more hB0.size) hm2).mono ?_
  rintro e W1 ⟨A8, c8, rfl, o8, hB1⟩
  have hs1 := hB1.size
  have hB1' : Below (w.heap.size + 1 + 1) W0 W1 := hB1.mono (by omega)
  have hG1 := hG0.below hB1'
  have hU1 := hU0.below hB1'
  have x0 : Boxed W1 (w.heap.size + 1 + 1) 69 (.slice none 0 0) := (hB1.block _ (by omega)).trans r0
  clear hG0 hU0 r0 hW0 hl h1 h2
  have hle := cand_len sh clear
  obtain ⟨l, hcl⟩ : ∃ l, cand sh clear = l := ⟨_, rfl⟩
  rw [hcl] at o8 hle ⊢
  have HC := bx hcl
  clear hcl
  have hrow1 : IRow W1 none A8 c8 l := irow_own o8
  have hw2 : w.heap.size + 1 + 1 ≤ W1.heap.size := by omega
  obtain ⟨i0, hi, hz0, hz1, hz2⟩ := info_parts Try.infoInts
  have hbig : ∀ k, (subs l k).length ≤ 1048576 := fun k => Nat.le_trans (subs_len l k) (Nat.le_trans (Nat.pow_le_pow_right (by decide) (show l.length ≤ 20 by omega)) (by decide))
  go_wp2
  go_step3
  go_wp2
  refine wp_loop (fun a wr => ∃ (k : Nat) (ds : List Deferred) (u9 u10 u18 u19 u20 u21 u22 u23 u24 u25 u26 u27 u28 u29 u30 u31 u32 u33 u34 u35 : Value), a = { tmps := #[.agg #[.int .i64 n, .slice AG sh.length cG], .slice AS seen.length cS, .slice AC clear.length cC, .pointer (some ⟨w.heap.size, 0, none⟩), .pointer (some ⟨w.heap.size + 1, 0, none⟩), undef, .slice none 0 0, .pointer (some ⟨w.heap.size + 1 + 1, 0, none⟩), .slice A8 l.length c8, u9, u10, .agg #[.int .i64 n, .slice AG sh.length cG], .slice AC clear.length cC, .slice A8 l.length c8, .slice A8 l.length c8, .int .i64 l.length, .int .i64 (l.length + 1), .int .i64 k, u18, u19, u20, u21, u22, u23, u24, u25, u26, u27, u28, u29, u30, u31, u32, u33, u34, u35, undef], defers := ds } ∧
      k ≤ l.length + 1 ∧ (∀ j, j < k → noneAt sh seen l j) ∧ AllAt w W1 sh seen ds [] wr)
    (fun a _ => l.length + 1 - (intOf (a.tmps.getD 17 undef)).toNat) ?start ?round
  case start => exact ⟨0, [], _, _, _, _, _, _, _, _, _, _, _, _, _, _, _, _, _, _, _, _, rfl, by omega, fun j hj => absurd hj (by omega), ⟨_, x0, World.ownsRow_nil _ _ _ _, by simp [good]⟩, by simp, trivial, Below.refl _ _, KInt.refl _ _⟩
  case round =>
    rintro a wr ⟨k, ds, u9, u10, u18, u19, u20, u21, u22, u23, u24, u25, u26, u27, u28, u29, u30, u31, u32, u33, u34, u35, rfl, hk, hno, hat⟩
    have Hno := bx hno
    clear hno
    have hbw := hat.below
    have hkw := hat.ints
    have hks := hkw.size
    by_cases hlt : k < l.length + 1
    · go_wp2_with (go_at_call 119; refine (subsets_calls _ _ _ _ _).mono ?_; rintro e w' ⟨rfl, rfl⟩)
      obtain ⟨W2, hW2⟩ : ∃ W2, (wr.alloc (.cells #[.slice A8 l.length c8] 22)).alloc (.cells #[.int .i64 k] 3) = W2 := ⟨_, rfl⟩
      have s2 : W2.heap.size = wr.heap.size + 2 := by rw [← hW2]; simp
      have hb2 : Below wr.heap.size wr W2 := by rw [← hW2]; exact ((Below.refl _ _).alloc (Nat.le_refl _) _).alloc (by simp) _
      have y0 : Boxed W2 wr.heap.size 22 (.slice A8 l.length c8) := by rw [← hW2]; exact (Boxed.new wr _ _).alloc _
      have y1 : Boxed W2 (wr.heap.size + 1) 3 (.int .i64 k) := by rw [← hW2]; have := Boxed.new (wr.alloc (.cells #[.slice A8 l.length c8] 22)) 3 (.int .i64 k); rw [World.size_alloc] at this; exact this
      rw [hW2]
      clear hW2
      have hat2 := hat.call hb2 hw2
      have hltd : ∀ d ∈ ds, ∀ D, d.target = .collected D → D < W2.heap.size := by
        intro d hd D hD
        obtain ⟨D', e, hlt'⟩ := hat.marks.lt d hd
        rw [hD] at e; injection e with e; omega
      have hrow2 : IRow W2 none A8 c8 l := hrow1.moved hat2.ints (fun r e => by cases e)
      refine wpIn_wide.1 (range_feeds (n := 3) (by omega) (gf := 152) (lb := #[.pointer (some ⟨wr.heap.size, 0, none⟩), .pointer (some ⟨wr.heap.size + 1, 0, none⟩)]) (by simp [Act.eval]) (enters_of Try.func152 (by kernel_rfl) rfl)
        (sets_feeds _ wr.heap.size (wr.heap.size + 1) A8 c8 l k W2 (by omega) (by omega) y0.cell y1.cell hrow2 (by omega)) (fun _ => rfl)
        (fun B pre r X h => ⟨h.1, h.2.2.elim fun cs h => ⟨cs, _, h⟩⟩)
        KInt.trans (fun X l _ o' h hc => ⟨by simp, fun b cs fz hb _ => (World.putObj_heap_other (by rintro rfl; rw [h] at hb; cases hb; cases hc)).trans hb⟩)
        (fun B pre x X l o o' h ho hc => ⟨h.1, own_put h.2 ho hc⟩)
        (fun pre W => AllAt w W1 sh seen ds pre W) (fun _ _ => False)
        (fun pre X Y row h hg hr => h.row hg (B := W2.heap.size + 2) (by omega) hw2 hr)
        (fun pre X l o o' hl ho hc h => h.put ho hc hl (by omega) hltd)
        (fun _ _ _ h _ => h) (fun _ _ _ _ _ _ _ _ h => h) hat2
        (fun x => { tmps := #[.agg #[.int .i64 n, .slice AG sh.length cG], .slice AS seen.length cS, .slice AC clear.length cC, .pointer (some ⟨w.heap.size, 0, none⟩), .pointer (some ⟨w.heap.size + 1, 0, none⟩), undef, .slice none 0 0, .pointer (some ⟨w.heap.size + 1 + 1, 0, none⟩), .slice A8 l.length c8, .int .i64 k, x.v, .agg #[.int .i64 n, .slice AG sh.length cG], .slice AC clear.length cC, .slice A8 l.length c8, .slice A8 l.length c8, .int .i64 l.length, .int .i64 (l.length + 1), .int .i64 k, .bool true, .int .i64 k, .slice A8 l.length c8, .int .i64 k, .func (.func 152) #[] #[.pointer (some ⟨wr.heap.size, 0, none⟩), .pointer (some ⟨wr.heap.size + 1, 0, none⟩)], x.v, u24, u25, u26, u27, u28, u29, u30, u31, u32, u33, u34, u35, undef], defers := [] }) ?assign ?body ?done ?stop)
      case assign =>
        intro m lp x W K hK
        gi_wp2
        exact hK
      case body =>
        rintro m lp pre ⟨xA, xc, xs⟩ X hatX ⟨hpos, hel'⟩
        obtain ⟨_, l1, g0, AG', cG', gg1, hlX⟩ := (hG1.below hatX.below).more (show w.heap.size + 1 + 1 ≤ X.heap.size by have := hatX.ints.size; omega)
        obtain ⟨_, l2, AU, cU, u0, hiX⟩ := (hU1.below hatX.below).more (show w.heap.size + 1 + 1 ≤ X.heap.size by have := hatX.ints.size; omega)
        simp only [Slc.v] at hel' ⊢
        have Hx := bx (ints_of_own hel')
        have hlen := own_len hel'
        have hplen : pre.length ≤ 1048576 := by have h1 := hpos.length_le; have h2 := hbig k; simp only [List.length_map, List.length_append, List.length_cons, List.length_nil] at h1; omega
        cases hv : expl sh xs seen []
        · have HV := bx hv
          clear hv
          gi_wp2_with fail
          refine ⟨trivial, wide_n, ?_⟩
          refine (CallsIn.inRound lp (callsIn_wide.2 (explains_calls n AG' cG' sh xA xc xs AU cU seen none 0 [] X hlX l1 Hx.out hlen hiX l2 Ints.nil (by simp) false HV.out))).mono ?_
          rintro e w5 ⟨rfl, hb5⟩
          gi_wp2
          refine ⟨keeps_below hb5, KInt.of_grown (grown_of_below hb5 none), (hatX.call hb5 hw2).skip (x := ⟨xA, xc, xs⟩) HV.out ?_⟩
          exact own_base (hel'.kept (grown_of_below hb5 none) (by cases (Value.slice xA xs.length xc).ownBlock <;> simp)) (by omega)
        · have HV := bx hv
          clear hv
          gi_wp2_with fail
          refine ⟨trivial, wide_n, ?_⟩
          refine (CallsIn.inRound lp (callsIn_wide.2 (explains_calls n AG' cG' sh xA xc xs AU cU seen none 0 [] X hlX l1 Hx.out hlen hiX l2 Ints.nil (by simp) true HV.out))).mono ?_
          rintro e w5 ⟨rfl, hb5⟩
          have hat5 := hatX.call hb5 hw2
          have hel5 := hel'.kept (grown_of_below hb5 none) (by cases (Value.slice xA xs.length xc).ownBlock <;> simp)
          obtain ⟨v, hbx, hrow, hnil⟩ := hat5.out
          have hbc := hbx.cell
          have hgl : (good sh seen pre).length ≤ pre.length := List.length_filter_le _ _
          have hs5 : w.heap.size + 1 + 1 ≤ w5.heap.size := by have := hat5.ints.size; omega
          have HN := bx hnil
          clear hnil
          gi_wp2_with (gi_at_builtin; refine wpListIn_append_own _ rfl _ _ 69 rfl (w.heap.size + 1 + 1) 22 i0 (.slice none 0 0) 1 24 Try.underlying69 hi hz0 hz1 hz2 rfl (by decide) _ _ _ rfl (hrow.alloc _) ⟨w5.heap.size, 0, none⟩ 1 1 [.slice xA xs.length xc] rfl rfl (cell_one_new _ _ _) (by simp [Value.oneCell']) (by unfold maxLen; omega) (by omega) (by simp; omega) ?_; intro v' w6 hown' hgrow _; obtain ⟨g', cap', rfl⟩ := ownsRow_succ hown'; obtain ⟨hv1, hv2, hr2, hk2, hb2'⟩ := hbx.appended (by decide) hrow hs5 (Nat.le_refl _) hown' hgrow; have hc1 := hv1.cell; have hf1 := hv1.frozen)
          have k57 := kint_append (v' := .slice (some ⟨g', 0, none⟩) ((good sh seen pre).length + 1) cap') hbx hrow hgrow
          have hgt : good sh seen (pre ++ [⟨xA, xc, xs⟩]) = good sh seen pre ++ [⟨xA, xc, xs⟩] := good_take HV.out
          refine ⟨(keeps_below hb5).trans (hk2.from _), (KInt.of_grown (grown_of_below hb5 none)).trans k57, ⟨_, hv2, ?_, ?_⟩, ?_, hat5.marks.others hk2, hat5.below.trans hb2', hat5.ints.trans k57⟩
          · rw [hgt]; simpa [Slc.v] using hr2
          · rw [hgt]; simp
          · intro y hy
            rcases List.mem_append.1 hy with hy | hy
            · exact k57.owns (hat5.own y hy) (fun r _ => by simp)
            · obtain rfl := List.mem_singleton.1 hy
              exact k57.owns (own_base hel5 (by omega)) (fun r _ => by simp)
      case done =>
        rintro D xs W hD hS h hK
        obtain ⟨v, hbx, hrow, hnil⟩ := h.out
        have hgm := good_map sh seen xs
        rw [hS] at hgm
        have hds : ∀ d' ∈ ds, d'.target ≠ .collected D := by
          intro d hd e
          have := hltd d hd D e
          omega
        by_cases hg : good sh seen xs = []
        · obtain rfl := hnil.2 hg
          have hc := hbx.cell
          have HN := bx (show ∀ j, j < k + 1 → noneAt sh seen l j by
            intro j hj
            by_cases hjk : j < k
            · exact Hno.out j hjk
            · obtain rfl : j = k := by omega
              intro t ht
              rw [hg] at hgm
              have := List.filter_eq_nil_iff.1 hgm.symm t ht
              simpa using this)
          clear hgm hg hrow hnil
          go_wp2
          exact ⟨⟨k + 1, _, _, _, _, _, _, _, _, _, _, _, _, _, _, _, _, _, _, _, _, _, rfl, by omega, HN.out, ⟨_, hbx, World.ownsRow_nil _ _ _ _, by simp [good]⟩, by simp, ⟨⟨D, rfl, by omega, hK, hds⟩, h.marks⟩, h.below, h.ints⟩, by simp [intOf]; omega⟩
        · have hpos : 0 < (good sh seen xs).length := List.length_pos_iff.2 hg
          obtain ⟨g, cap, rfl, _, _⟩ := hrow.form hpos
          have hc := hbx.cell
          have HA := bx (show (good sh seen xs).map (·.s) = allOf sh seen clear by
            rw [hgm, allOf_at (k := k) (by rw [HC.out]; omega) (by rw [HC.out]; exact Hno.out) (by rw [HC.out, ← hgm]; simpa using hg), HC.out])
          have hgt : ((0 : Int) < ((good sh seen xs).length : Int)) := by omega
          clear hgm hnil
          have hbw5 : Below w.heap.size w W := (hB0.trans (hB1.mono hB0.size)).trans (h.below.mono (by omega))
          go_wp2
          rw [Exit.noGoto_ret]
          refine leaves_marks (B := w.heap.size) (_ :: ds) _ ⟨⟨D, rfl, by omega, hK, hds⟩, h.marks⟩ ?_
          intro W' hkk
          exact ⟨_, results_tmp rfl _ _ _, good sh seen xs, some ⟨g, 0, none⟩, cap, HA.out, rfl, own_cells (own_base hrow (by omega)) hkk.cells, fun y hy => own_cells (own_base (h.own y (List.mem_filter.1 hy).1) (by omega)) hkk.cells, hbw5.trans hkk.below⟩
      case stop => exact fun _ _ _ _ _ h => h.elim
    · obtain rfl : k = l.length + 1 := by omega
      obtain ⟨v, hbx, _, hnil⟩ := hat.out
      obtain rfl := hnil.2 rfl
      have hc := hbx.cell
      have HA := bx (show allOf sh seen clear = [] from allOf_none (by rw [HC.out]; exact Hno.out))
      have hbw5 : Below w.heap.size w wr := (hB0.trans (hB1.mono hB0.size)).trans (hat.below.mono (by omega))
      go_wp2
      refine leaves_marks (B := w.heap.size) ds _ hat.marks ?_
      intro W' hkk
      exact ⟨_, results_tmp rfl _ _ _, [], none, 0, HA.out.symm, rfl, World.ownsRow_nil _ _ _ _, by simp, hbw5.trans hkk.below⟩
end Go.Proofs.Ytlogokjjphlkkaa.Dg
namespace Go.Proofs.Ytlogokjjphlkkaa.Dg
open Go.RowKit

theorem take_eq {xs ys : List Int} {k : Nat} (h1 : k < xs.length) (h2 : k < ys.length) : (xs.take (k + 1) = ys.take (k + 1)) ↔ (xs.take k = ys.take k ∧ xs[k] = ys[k]) := by
  rw [List.take_succ_eq_append_getElem h1, List.take_succ_eq_append_getElem h2]
  constructor
  · intro h
    have := List.append_inj h (by simp; omega)
    exact ⟨this.1, by simpa using this.2⟩
  · rintro ⟨h, e⟩
    rw [h, e]
/-- what SameInts answers -/
def SamePost (xs ys : List Int) (w : World) (e : Ending) (w' : World) : Prop := e = .returned (.bool (decide (xs = ys))) ∧ ∃ m, w' = w.drewN m
theorem drewN_add (w : World) (m n : Nat) : (w.drewN m).drewN n = w.drewN (m + n) := by
  induction n with
  | zero => rfl
  | succ n ih => show ((w.drewN m).drewN n).drew = _; rw [ih]; rfl
set_option maxRecDepth 100000 in
theorem same_calls (A B : Option Addr) (c d : Nat) (xs ys : List Int) (w : World) (h1 : Ints w w.heap.size A xs) (h2 : Ints w w.heap.size B ys) (hm : xs.length ≤ 9223372036854775807) :
    Calls Try.prog 22 #[.slice A xs.length c, .slice B ys.length d] w (SamePost xs ys w) := by
  by_cases hl : xs.length = ys.length
  case neg =>
    have hd : decide (xs = ys) = false := decide_eq_false (fun e => hl (by rw [e]))
    have hi : ((xs.length : Int) != (ys.length : Int)) = true := by simp; omega
    have HD := bx hd
    clear hd
    go_enter Try.func22, Try.ntmps22
    go_wp2
    go_ret
    exact ⟨ret_bool HD.out.symm, 0, rfl⟩
  have hi : ((xs.length : Int) != (ys.length : Int)) = false := by simp; omega
  have HL := bx hl
  clear hl
  go_enter Try.func22, Try.ntmps22
  go_wp2
  go_loopw [5] (fun i wr => ∃ k : Nat, k ≤ xs.length ∧ i = .int .i64 k ∧ xs.take k = ys.take k ∧ ∃ m, wr = w.drewN m) (fun i _ => xs.length - (intOf i).toNat)
  case atStart => exact ⟨0, Nat.zero_le _, rfl, by simp, 0, rfl⟩
  case round =>
    obtain ⟨k, hk, rfl, hno, m, hm'⟩ := hrel
    have hbw : Below w.heap.size w wr := by rw [hm']; exact below_drewN (Below.refl _ _) m
    have HM := bx hm'
    have Hno := bx hno
    clear hno hm'
    by_cases hlt : k < xs.length
    · obtain ⟨b, off, rfl, hb, g1⟩ := (h1.below hbw).at_ k hlt
      obtain ⟨b', off', rfl, hb', g2⟩ := (h2.below hbw).at_ k (by have := HL.out; omega)
      have Ht := bx (@take_eq xs ys k hlt (by have := HL.out; omega))
      have z1 : (0 : Int) ≤ (k : Int) := by omega
      have z2 : (k : Int) < (xs.length : Int) := by omega
      have z3 : (k : Int) < (ys.length : Int) := by have := HL.out; omega
      generalize xs[k] = x at *
      generalize ys[k]'(by have := HL.out; omega) = y at *
      by_cases hxy : x = y
      · subst hxy
        have t0 : (x != x) = false := by simp
        go_wp2_with fail
        go_quiet (fail)
        go_wp2
        go_roundw
        case rel => exact ⟨k + 1, by omega, by go_num, Ht.out.2 ⟨Hno.out, trivial⟩, m + nq, by rw [HM.out, drewN_add]⟩
        case measure => simp [intOf]; omega
      · have t0 : (x != y) = true := by simp [hxy]
        have HD := bx (show decide (xs = ys) = false from decide_eq_false (fun e => hxy (Ht.out.1 (by rw [e])).2))
        go_wp2_with fail
        go_quiet (fail)
        go_wp2
        go_ret
        exact ⟨ret_bool HD.out.symm, m + nq, by rw [HM.out, drewN_add]⟩
    · obtain rfl : k = xs.length := by omega
      have HD := bx (show decide (xs = ys) = true from decide_eq_true (by have := Hno.out; rwa [List.take_of_length_le (Nat.le_refl _), List.take_of_length_le (by have := HL.out; omega)] at this))
      go_wp2
      go_ret
      exact ⟨ret_bool HD.out.symm, m, HM.out⟩
set_option maxRecDepth 100000 in
theorem has_calls (A : Option Addr) (c : Nat) (xs : List Int) (v : Int) (w : World) (h : Ints w w.heap.size A xs) (hm : xs.length ≤ 9223372036854775807) :
    Calls Try.prog 79 #[.slice A xs.length c, .int .i64 v] w fun e w' => e = .returned (.bool (xs.contains v)) ∧ w' = w := by
  go_enter Try.func79, Try.ntmps79
  go_wp2
  go_loopw [5] (fun i wr => ∃ k : Nat, k ≤ xs.length ∧ i = .int .i64 k ∧ (xs.take k).contains v = false ∧ wr = w) (fun i _ => xs.length - (intOf i).toNat)
  case atStart => exact ⟨0, Nat.zero_le _, rfl, by simp, rfl⟩
  case round =>
    obtain ⟨k, hk, rfl, hno, rfl⟩ := hrel
    have Hno := bx hno
    clear hno
    by_cases hlt : k < xs.length
    · obtain ⟨b, off, rfl, hb, c1⟩ := h.at_ k hlt
      have Hs := bx (show (xs.take (k + 1)).contains v = ((xs.take k).contains v || v == xs[k]) by
        rw [List.take_succ_eq_append_getElem hlt]; simp only [List.contains_append, List.contains_cons, List.contains_nil, Bool.or_false])
      have Hm := bx (fun hv : v = xs[k] => show xs.contains v = true by rw [hv]; simp)
      generalize xs[k] = y at *
      by_cases hv : v = y
      · subst hv
        have Ht := bx (Hm.out rfl)
        go_wp2
        go_ret
        exact ⟨ret_bool (by rw [← Ht.out]; simp), rfl⟩
      · have Hv := bx (show (v == y) = false by simp [hv])
        have hv' : ¬ y = v := fun e => hv e.symm
        go_wp2
        go_roundw
        case rel => exact ⟨k + 1, by omega, by go_num, by rw [Hs.out, Hno.out, Hv.out]; rfl, trivial⟩
        case measure => simp [intOf]; omega
    · obtain rfl : k = xs.length := by omega
      have Hc := bx (show xs.contains v = false by have := Hno.out; rwa [List.take_of_length_le (Nat.le_refl _)] at this)
      go_wp2
      go_ret
      exact ⟨ret_bool (by rw [Hc.out]), rfl⟩
end Go.Proofs.Ytlogokjjphlkkaa.Dg
namespace Go.Proofs.Ytlogokjjphlkkaa.Dg
open Go.RowKit

/-- the positions below n of the bits of a number that are 1 -/
def bitsN (x : Int) (n : Nat) : List Int := (units n).filter fun s => decide (x / 2 ^ s.toNat % 2 = 1)
theorem bitsN_succ (x : Int) (k : Nat) : bitsN x (k + 1) = if x / 2 ^ k % 2 = 1 then bitsN x k ++ [(k : Int)] else bitsN x k := by
  rw [bitsN, units_succ, List.filter_append]
  by_cases h : x / 2 ^ k % 2 = 1
  · rw [if_pos h]; simp [bitsN, h]
  · rw [if_neg h]; simp [bitsN, h]
theorem bitsN_le (x : Int) (k : Nat) : (bitsN x k).length ≤ k := by
  have := List.length_filter_le (fun s : Int => decide (x / 2 ^ s.toNat % 2 = 1)) (units k)
  simpa [bitsN, units] using this
theorem half_succ (x : Int) (k : Nat) : x / 2 ^ k / 2 = x / 2 ^ (k + 1) := by
  rw [Int.ediv_ediv_of_nonneg (by exact Int.pow_nonneg (by decide)), Int.pow_succ]
theorem half_nonneg {x : Int} (h : 0 ≤ x) (k : Nat) : 0 ≤ x / 2 ^ k := Int.ediv_nonneg h (Int.pow_nonneg (by decide))
/-- what holds at the head of each round of Bits -/
def BitsAt (x : Int) (n : Nat) (w : World) (y v i : Value) (wr : World) : Prop :=
  ∃ k : Nat, k ≤ n ∧ i = .int .i64 k ∧ y = .int .i64 (x / 2 ^ k) ∧ wr.ownsRow w.heap.size 3 1 v (bitsN x k).length (ic (bitsN x k)) ∧ Below w.heap.size w wr
set_option maxRecDepth 100000 in
theorem bits_calls (x : Int) (n : Nat) (w : World) (h0 : 0 ≤ x) (h1 : x ≤ 65535) (hn : n ≤ 1000) :
    Calls Try.prog 77 #[.int .i64 x, .int .i64 n] w (RowPost w (bitsN x n)) := by
  obtain ⟨i0, hi, hz0, hz1, hz2⟩ := info_parts Try.infoInt
  go_enter Try.func77, Try.ntmps77
  go_wp2
  go_loopw [0, 5, 6] (fun y v i wr => BitsAt x n w y v i wr) (fun _ _ i _ => n - (intOf i).toNat)
  case atStart => exact ⟨0, Nat.zero_le _, rfl, by simp, World.ownsRow_nil _ _ _ _, Below.refl _ _⟩
  case round =>
    obtain ⟨k, hk, rfl, rfl, hown, hbw⟩ := hrel
    have hy0 := half_nonneg h0 k
    have hy1 : x / 2 ^ k ≤ x := Int.ediv_le_self _ h0
    have hs := half_succ x k
    have hLe := bitsN_le x k
    have hB := bitsN_succ x k
    by_cases hlt : k < n
    · generalize x / 2 ^ k = y at *
      have t1 : y.tmod 2 = y % 2 := Int.tmod_eq_emod_of_nonneg hy0
      have t2 : y.tdiv 2 = y / 2 := Int.tdiv_eq_ediv_of_nonneg hy0
      have hsz := hbw.size
      by_cases hbit : y % 2 = 1
      · rw [if_pos hbit] at hB
        have HB := bx hB
        clear hB
        go_wp2_with (at_builtin; refine wpList_append_own _ rfl _ _ 22 rfl w.heap.size 3 i0 (.int .i64 0) 1 8 Try.underlying22 hi hz0 hz1 hz2 rfl (by decide) _ _ _ rfl (hown.alloc _) ⟨wr.heap.size, 0, none⟩ 1 1 [.int .i64 k] rfl rfl (cell_one_new _ _ _) (by simp [Value.oneCell']) (by unfold maxLen; omega) (by omega) (by simp; omega) ?_; intro v' w5 o5 g5 _)
        have hb5 : Below w.heap.size w w5 := (hbw.alloc hsz _).grown g5 (by simp; omega) (fun g hg => (hown.lt g hg).1)
        refine ⟨⟨k + 1, by omega, by go_num, rfl, by rw [HB.out, ic_append, List.length_append]; exact o5, hb5⟩, by simp [intOf]; omega⟩
      · rw [if_neg hbit] at hB
        have HB := bx hB
        clear hB
        go_wp2
        exact ⟨⟨k + 1, by omega, by go_num, rfl, by rw [HB.out]; exact hown, hbw⟩, by simp [intOf]; omega⟩
    · obtain rfl : k = n := by omega
      obtain ⟨A', c', rfl⟩ := slice_form hown
      go_wp2
      go_ret
      exact ⟨A', c', rfl, hown, hbw⟩
end Go.Proofs.Ytlogokjjphlkkaa.Dg
namespace Go.Proofs.Ytlogokjjphlkkaa.Dg
open Go.RowKit

set_option maxRecDepth 100000 in
theorem lists_of_own {Y : World} {base c : Nat} {A : Option Addr} {ys : List Slc} (h : Y.ownsRow base 22 1 (.slice A ys.length c) ys.length (ys.map Slc.v)) (ho : ∀ y ∈ ys, Y.ownsRow base 3 1 y.v y.s.length (ic y.s)) :
    Lists Y Y.heap.size A (ys.map (·.s)) := by
  refine ⟨fun k hk => ?_⟩
  have hk' : k < ys.length := by simpa using hk
  obtain ⟨g, cap, hv, _, hlt⟩ := h.form (by omega)
  have hA : A = some ⟨g, 0, none⟩ := by injection hv
  subst hA
  have c1 := h.cells (g := g) rfl k ys[k].v (by simp [hk'])
  have hy := ho ys[k] (List.getElem_mem hk')
  refine ⟨g, 0, ys[k].A, ys[k].c, rfl, hlt, ?_, ?_, ?_⟩
  · rw [List.getElem_map]
    rw [show (Value.slice ys[k].A ys[k].s.length ys[k].c) = ys[k].v from rfl, ← c1]
    unfold Addr.add
    split
    · rename_i h0; rw [h0]
    · rfl
  · rw [List.getElem_map]
    exact ints_of_own (show Y.ownsRow base 3 1 (.slice ys[k].A ys[k].s.length ys[k].c) ys[k].s.length (ic ys[k].s) from hy)
  · rw [List.getElem_map]
    exact own_len hy
end Go.Proofs.Ytlogokjjphlkkaa.Dg
