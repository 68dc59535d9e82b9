/-
  Diagnose, walked and in plain Lean, joined from the texts K13, K14, K15, K16, K17, N3, N4, N5, K18, K19, K20, K21, K22, K23, K24, K25, K26, K27, K28, N6, K30.
-/
import Derived.Test.YtlogokjjphlkkaaDA
import Derived.IntWalk
import Derived.Lib.AppendZeros
import Derived.Lib.Buffer
import Derived.Laws.OwnMore
namespace Go.Proofs.Ytlogokjjphlkkaa.Dg
open Go.RowKit

theorem take_eqL {xs ys : List (List Int)} {k : Nat} (h1 : k < xs.length) (h2 : k < ys.length) : (xs.take (k + 1) = ys.take (k + 1)) ↔ (xs.take k = ys.take k ∧ xs[k] = ys[k]) := by
  rw [List.take_succ_eq_append_getElem h1, List.take_succ_eq_append_getElem h2]
  constructor
  · intro h
    have := List.append_inj h (by simp; omega)
    exact ⟨this.1, by simpa using this.2⟩
  · rintro ⟨h, e⟩
    rw [h, e]
theorem same_val (A B : Option Addr) (c d : Nat) (xs ys : List Int) (w : World) (h1 : Ints w w.heap.size A xs) (h2 : Ints w w.heap.size B ys) (hm : xs.length ≤ 9223372036854775807) (t : Bool) (ht : decide (xs = ys) = t) :
    Calls Try.prog 22 #[.slice A xs.length c, .slice B ys.length d] w fun e w' => e = .returned (.bool t) ∧ ∃ m, w' = w.drewN m := by
  have := same_calls A B c d xs ys w h1 h2 hm
  unfold SamePost at this
  rwa [ht] at this
/-- what Same answers -/
def SamePostL (xs ys : List (List Int)) (w : World) (e : Ending) (w' : World) : Prop := e = .returned (.bool (decide (xs = ys))) ∧ ∃ m, w' = w.drewN m
set_option maxRecDepth 100000 in
theorem sameL_calls (A B : Option Addr) (c d : Nat) (xs ys : List (List Int)) (w : World) (h1 : Lists w w.heap.size A xs) (h2 : Lists w w.heap.size B ys) (hm : xs.length ≤ 9223372036854775807) :
    Calls Try.prog 125 #[.slice A xs.length c, .slice B ys.length d] w (SamePostL xs ys w) := by
  by_cases hl : xs.length = ys.length
  case neg =>
    have hd : decide (xs = ys) = false := decide_eq_false (fun e => hl (by rw [e]))
    have hi : ((xs.length : Int) != (ys.length : Int)) = true := by simp; omega
    have HD := bx hd
    clear hd
    go_enter Try.func125, Try.ntmps125
    go_wp2
    go_ret
    exact ⟨ret_bool HD.out.symm, 0, rfl⟩
  have hi : ((xs.length : Int) != (ys.length : Int)) = false := by simp; omega
  have HL := bx hl
  clear hl
  go_enter Try.func125, Try.ntmps125
  go_wp2
  go_loopw [5] (fun i wr => ∃ k : Nat, k ≤ xs.length ∧ i = .int .i64 k ∧ xs.take k = ys.take k ∧ ∃ m, wr = w.drewN m) (fun i _ => xs.length - (intOf i).toNat)
  case atStart => exact ⟨0, Nat.zero_le _, rfl, by simp, 0, rfl⟩
  case round =>
    obtain ⟨k, hk, rfl, hno, m, hm'⟩ := hrel
    have hbw : Below w.heap.size w wr := by rw [hm']; exact below_drewN (Below.refl _ _) m
    have HM := bx hm'
    have Hno := bx hno
    clear hno hm'
    by_cases hlt : k < xs.length
    · obtain ⟨b, off, A1, c1, rfl, hb, g1, i1, l1⟩ := ((h1.below hbw).more hbw.size).at_ k hlt
      obtain ⟨b', off', A2, c2, rfl, hb', g2, i2, l2⟩ := ((h2.below hbw).more hbw.size).at_ k (by have := HL.out; omega)
      have Ht := bx (@take_eqL xs ys k hlt (by have := HL.out; omega))
      have z1 : (0 : Int) ≤ (k : Int) := by omega
      have z2 : (k : Int) < (xs.length : Int) := by omega
      have z3 : (k : Int) < (ys.length : Int) := by have := HL.out; omega
      generalize xs[k] = x at *
      generalize ys[k]'(by have := HL.out; omega) = y at *
      cases hd : decide (x = y)
      · have hxy : ¬ x = y := of_decide_eq_false hd
        have HD2 := bx hd
        clear hd
        have HD := bx (show decide (xs = ys) = false from decide_eq_false (fun e => hxy (Ht.out.1 (by rw [e])).2))
        clear hxy
        go_wp2_with fail
        go_quiet ((go_at_call 22; exact Calls.quiet_of (same_val _ _ _ _ x y _ (by rw [size_drewN]; exact i1.drewN _) (by rw [size_drewN]; exact i2.drewN _) l1 false HD2.out)))
        go_wp2
        go_ret
        exact ⟨ret_bool HD.out.symm, m + nq, by rw [HM.out, drewN_add]⟩
      · have HD2 := bx hd
        clear hd
        go_wp2_with fail
        go_quiet ((go_at_call 22; exact Calls.quiet_of (same_val _ _ _ _ x y _ (by rw [size_drewN]; exact i1.drewN _) (by rw [size_drewN]; exact i2.drewN _) l1 true HD2.out)))
        go_wp2
        go_roundw
        case rel => exact ⟨k + 1, by omega, by go_num, Ht.out.2 ⟨Hno.out, of_decide_eq_true HD2.out⟩, m + nq, by rw [HM.out, drewN_add]⟩
        case measure => simp [intOf]; omega
    · obtain rfl : k = xs.length := by omega
      have HD := bx (show decide (xs = ys) = true from decide_eq_true (by have := Hno.out; rwa [List.take_of_length_le (Nat.le_refl _), List.take_of_length_le (by have := HL.out; omega)] at this))
      go_wp2
      go_ret
      exact ⟨ret_bool HD.out.symm, m, HM.out⟩
end Go.Proofs.Ytlogokjjphlkkaa.Dg
namespace Go.Proofs.Ytlogokjjphlkkaa.Dg
open Go.RowKit

theorem has_val (A : Option Addr) (c : Nat) (xs : List Int) (v : Int) (w : World) (h : Ints w w.heap.size A xs) (hm : xs.length ≤ 9223372036854775807) (t : Bool) (ht : xs.contains v = t) :
    Calls Try.prog 79 #[.slice A xs.length c, .int .i64 v] w fun e w' => e = .returned (.bool t) ∧ w' = w := by
  have := has_calls A c xs v w h hm
  rwa [ht] at this
set_option maxRecDepth 100000 in
theorem refCaused_calls (n : Int) (AG : Option Addr) (cG : Nat) (sh : List (List Int)) (A : Option Addr) (c : Nat) (us : List Int) (s : Int) (w : World) (hl : Lists w w.heap.size AG sh) (hn : sh.length ≤ 9223372036854775807)
    (h : Ints w w.heap.size A us) (hm : us.length ≤ 9223372036854775807) :
    Calls Try.prog 117 #[.agg #[.int .i64 n, .slice AG sh.length cG], .slice A us.length c, .int .i64 s] w fun e w' => e = .returned (.bool (cau sh us s)) ∧ Below w.heap.size w w' := by
  obtain ⟨W1, hW1⟩ : ∃ W1, w.alloc (.cells #[.int .i64 n, .slice AG sh.length cG] 108) = W1 := ⟨_, rfl⟩
  have s1 : W1.heap.size = w.heap.size + 1 := by rw [← hW1]; simp
  have hb1 : Below w.heap.size w W1 := by rw [← hW1]; exact (Below.refl _ _).alloc (Nat.le_refl _) _
  have hG1 : GBox W1 W1.heap.size w.heap.size n sh := by rw [s1, ← hW1]; exact gbox_new w n AG cG sh hl hn
  have hI1 := (h.below hb1).more hb1.size
  go_enter Try.func117, Try.ntmps117
  go_wp2
  clear hW1
  go_loopw [7, 8] (fun i _ wr => ∃ k : Nat, k ≤ us.length ∧ i = .int .i64 k ∧ (us.take k).any (cau1 sh s) = false ∧ wr = W1) (fun i _ _ => us.length - (intOf i).toNat)
  case atStart => exact ⟨0, Nat.zero_le _, rfl, rfl, rfl⟩
  case round =>
    obtain ⟨k, hk, rfl, hno, rfl⟩ := hrel
    have Hno := bx hno
    clear hno
    obtain ⟨_, l1, g0, AG', cG', gg1, hlX⟩ := hG1
    by_cases hlt : k < us.length
    · obtain ⟨b, off, rfl, hb, g1⟩ := hI1.at_ k hlt
      have Hs := bx (show (us.take (k + 1)).any (cau1 sh s) = ((us.take k).any (cau1 sh s) || cau1 sh s us[k]) by
        rw [List.take_succ_eq_append_getElem hlt, List.any_append]; simp)
      have Hm := bx (fun hb : cau1 sh s us[k] = true => show cau sh us s = true from List.any_eq_true.2 ⟨_, List.getElem_mem hlt, hb⟩)
      generalize us[k] = u at *
      by_cases h0 : 0 ≤ u
      · by_cases h1 : u < sh.length
        · obtain ⟨j, rfl⟩ : ∃ j : Nat, u = j := ⟨u.toNat, by omega⟩
          obtain ⟨b', off', A', c', rfl, hb', q1, q2, q3⟩ := hlX.at_ j (by omega)
          have He := bx (show (sh[j]'(by omega)).contains s = cau1 sh s j by
            unfold cau1
            rw [show decide ((0 : Int) ≤ j) = true by simp, show decide ((j : Int) < sh.length) = true by simpa using h1]
            simp only [Bool.true_and, Int.toNat_natCast]
            rw [List.getD_eq_getElem?_getD, List.getElem?_eq_getElem (by omega)]; rfl)
          have hj : j < sh.length := by omega
          generalize sh[j] = l at *
          cases hc : l.contains s
          · have HC := bx hc
            have HE := bx (He.out.symm.trans hc)
            clear hc
            go_wp2_with (go_at_call 79; refine (has_val _ _ l _ _ q2 q3 false HC.out).mono ?_; rintro e w' ⟨rfl, rfl⟩)
            go_roundw
            case rel => exact ⟨k + 1, by omega, by go_num, by rw [Hs.out, Hno.out, HE.out]; rfl, trivial⟩
            case measure => simp [intOf]; omega
          · have HC := bx hc
            have HT := bx (Hm.out (He.out.symm.trans hc))
            clear hc
            go_wp2_with (go_at_call 79; refine (has_val _ _ l _ _ q2 q3 true HC.out).mono ?_; rintro e w' ⟨rfl, rfl⟩)
            go_ret
            exact ⟨ret_bool HT.out.symm, hb1⟩
        · have HE := bx (show cau1 sh s u = false by unfold cau1; rw [show decide (u < sh.length) = false by simpa using h1]; simp)
          have hd : decide (u < (sh.length : Int)) = false := by simpa using h1
          go_wp2
          go_roundw
          case rel => exact ⟨k + 1, by omega, by go_num, by rw [Hs.out, Hno.out, HE.out]; rfl, trivial⟩
          case measure => simp [intOf]; omega
      · have HE := bx (show cau1 sh s u = false by unfold cau1; rw [show decide (0 ≤ u) = false by simpa using h0]; simp)
        have hd : decide ((0 : Int) ≤ u) = false := by simpa using h0
        go_wp2
        go_roundw
        case rel => exact ⟨k + 1, by omega, by go_num, by rw [Hs.out, Hno.out, HE.out]; rfl, trivial⟩
        case measure => simp [intOf]; omega
    · obtain rfl : k = us.length := by omega
      have Hc := bx (show cau sh us s = false by have := Hno.out; rwa [List.take_of_length_le (Nat.le_refl _)] at this)
      go_wp2
      go_ret
      exact ⟨ret_bool Hc.out.symm, hb1⟩
end Go.Proofs.Ytlogokjjphlkkaa.Dg
namespace Go.Proofs.Ytlogokjjphlkkaa.Dg
open Go.RowKit

theorem refCaused_val (n : Int) (AG : Option Addr) (cG : Nat) (sh : List (List Int)) (A : Option Addr) (c : Nat) (us : List Int) (s : Int) (w : World) (hl : Lists w w.heap.size AG sh) (hn : sh.length ≤ 9223372036854775807)
    (h : Ints w w.heap.size A us) (hm : us.length ≤ 9223372036854775807) (t : Bool) (ht : cau sh us s = t) :
    Calls Try.prog 117 #[.agg #[.int .i64 n, .slice AG sh.length cG], .slice A us.length c, .int .i64 s] w fun e w' => e = .returned (.bool t) ∧ Below w.heap.size w w' := by
  have := refCaused_calls n AG cG sh A c us s w hl hn h hm
  rwa [ht] at this
end Go.Proofs.Ytlogokjjphlkkaa.Dg
namespace Go.Proofs.Ytlogokjjphlkkaa.Dg
open Go.RowKit

/-- the symptoms that units cause -/
def shown (sh : List (List Int)) (us : List Int) (n : Nat) : List Int := (units n).filter fun s => cau sh us s
theorem shown_succ (sh : List (List Int)) (us : List Int) (k : Nat) : shown sh us (k + 1) = if cau sh us k then shown sh us k ++ [(k : Int)] else shown sh us k := by
  rw [shown, units_succ, List.filter_append]
  by_cases h : cau sh us k = true
  · rw [if_pos h]; simp [shown, h]
  · rw [if_neg h]; simp [shown, h]
theorem shown_le (sh : List (List Int)) (us : List Int) (k : Nat) : (shown sh us k).length ≤ k := by
  have := List.length_filter_le (fun s => cau sh us s) (units k)
  simpa [shown, units] using this
set_option maxRecDepth 10000 in
theorem shown_calls (n : Nat) (AG : Option Addr) (cG : Nat) (sh : List (List Int)) (A : Option Addr) (c : Nat) (us : List Int) (w : World)
    (hl : Lists w w.heap.size AG sh) (hn : sh.length ≤ 9223372036854775807) (h : Ints w w.heap.size A us) (hm : us.length ≤ 9223372036854775807) (hn' : n ≤ 1000) :
    Calls Try.prog 78 #[.agg #[.int .i64 n, .slice AG sh.length cG], .slice A us.length c] w (RowPost w (shown sh us n)) := by
  obtain ⟨i0, hi, hz0, hz1, hz2⟩ := info_parts Try.infoInt
  obtain ⟨W1, hW1⟩ : ∃ W1, w.alloc (.cells #[.int .i64 n, .slice AG sh.length cG] 108) = W1 := ⟨_, rfl⟩
  have s1 : W1.heap.size = w.heap.size + 1 := by rw [← hW1]; simp
  have hb1 : Below w.heap.size w W1 := by rw [← hW1]; exact (Below.refl _ _).alloc (Nat.le_refl _) _
  have hG1 : GBox W1 W1.heap.size w.heap.size n sh := by rw [s1, ← hW1]; exact gbox_new w n AG cG sh hl hn
  have hI1 := (h.below hb1).more hb1.size
  go_enter Try.func78, Try.ntmps78
  go_wp2
  clear hW1 hl h
  go_loopw [5, 6] (fun v i wr => ∃ k : Nat, k ≤ n ∧ i = .int .i64 k ∧ wr.ownsRow W1.heap.size 3 1 v (shown sh us k).length (ic (shown sh us k)) ∧ Below W1.heap.size W1 wr) (fun _ i _ => n - (intOf i).toNat)
  case atStart => exact ⟨0, Nat.zero_le _, rfl, World.ownsRow_nil _ _ _ _, Below.refl _ _⟩
  case round =>
    obtain ⟨k, hk, rfl, hown, hbw⟩ := hrel
    have hsz := hbw.size
    obtain ⟨hq, l1, g0, AG', cG', gg1, hlX⟩ := (hG1.below hbw).more hsz
    have HI := bx ((hI1.below hbw).more hsz)
    have HLX := bx hlX
    clear hlX
    have hLe := shown_le sh us k
    have hB := shown_succ sh us k
    by_cases hlt : k < n
    · cases hc : cau sh us k
      · rw [hc] at hB
        have HC := bx hc
        have HB := bx (show shown sh us (k + 1) = shown sh us k from hB)
        clear hc hB
        go_wp2_with fail
        refine (refCaused_val n AG' cG' sh A c us k wr HLX.out l1 HI.out hm false HC.out).mono ?_
        rintro e w3 ⟨rfl, hb3⟩
        have ho3 := hown.kept (grown_of_below hb3 none) (by cases u5.ownBlock <;> simp)
        go_wp2
        go_roundw
        case rel => exact ⟨k + 1, by omega, by go_num, by rw [HB.out]; exact ho3, hbw.trans (hb3.mono hsz)⟩
        case measure => simp [intOf]; omega
      · rw [hc] at hB
        have HC := bx hc
        have HB := bx (show shown sh us (k + 1) = shown sh us k ++ [(k : Int)] from hB)
        clear hc hB
        go_wp2_with fail
        refine (refCaused_val n AG' cG' sh A c us k wr HLX.out l1 HI.out hm true HC.out).mono ?_
        rintro e w3 ⟨rfl, hb3⟩
        have ho3 := hown.kept (grown_of_below hb3 none) (by cases u5.ownBlock <;> simp)
        have hb13 := hbw.trans (hb3.mono hsz)
        have hs13 := hb13.size
        go_wp2_with (at_builtin; refine wpList_append_own _ rfl _ _ 22 rfl W1.heap.size 3 i0 (.int .i64 0) 1 8 Try.underlying22 hi hz0 hz1 hz2 rfl (by decide) _ _ _ rfl (ho3.alloc _) ⟨w3.heap.size, 0, none⟩ 1 1 [.int .i64 k] rfl rfl (cell_one_new _ _ _) (by simp [Value.oneCell']) (by unfold maxLen; omega) (by omega) (by simp; omega) ?_; intro v' w5 o5 g5 _)
        have hb15 : Below W1.heap.size W1 w5 := (hb13.alloc hs13 _).grown g5 (by simp; omega) (fun g hg => (hown.lt g hg).1)
        go_roundw
        case rel => exact ⟨k + 1, by omega, by go_num, by rw [HB.out, ic_append, List.length_append]; exact o5, hb15⟩
        case measure => simp [intOf]; omega
    · obtain rfl : k = n := by omega
      obtain ⟨A', c', rfl⟩ := slice_form hown
      go_wp2
      go_ret
      exact ⟨A', c', rfl, own_base hown hb1.size, hb1.trans (hbw.mono hb1.size)⟩
end Go.Proofs.Ytlogokjjphlkkaa.Dg
namespace Go.Proofs.Ytlogokjjphlkkaa.Dg
open Go.RowKit

/-- the slice at A holds the bytes xs, below block B -/
structure Byts (w : World) (B : Nat) (A : Option Addr) (xs : List Int) : Prop where
  at_ : ∀ k (hk : k < xs.length), ∃ b off, A = some ⟨b, off, none⟩ ∧ b < B ∧ w.cell? ⟨b, off + k, none⟩ = some (.int .u8 xs[k]) ∧ 0 ≤ xs[k] ∧ xs[k] ≤ 255
theorem Byts.below {w w' : World} {B : Nat} {A : Option Addr} {xs : List Int} (h : Byts w B A xs) (hb : Below B w w') : Byts w' B A xs :=
  ⟨fun k hk => by
    obtain ⟨b, off, e, hlt, c, r⟩ := h.at_ k hk
    exact ⟨b, off, e, hlt, (hb.cell (p := ⟨b, off + k, none⟩) hlt).trans c, r⟩⟩
theorem Byts.more {w : World} {B B' : Nat} {A : Option Addr} {xs : List Int} (h : Byts w B A xs) (hB : B ≤ B') : Byts w B' A xs :=
  ⟨fun k hk => by
    obtain ⟨b, off, e, hlt, c⟩ := h.at_ k hk
    exact ⟨b, off, e, by omega, c⟩⟩
theorem frozen_alloc_lt {w : World} {a : Addr} (o : Obj) (h : a.block < w.heap.size) : (w.alloc o).frozen? a = w.frozen? a := ((Below.refl w.heap.size w).alloc (Nat.le_refl _) o).frozen h
theorem cell_alloc_lt {w : World} {a : Addr} (o : Obj) (h : a.block < w.heap.size) : (w.alloc o).cell? a = w.cell? a := ((Below.refl w.heap.size w).alloc (Nat.le_refl _) o).cell h
/-- the lists of a made graph -/
def madeL (l : List Int) (n : Nat) : List (List Int) := l.map fun x => bitsN x n
/-- what Made answers -/
def GraphPost (w : World) (n : Nat) (sh : List (List Int)) (e : Ending) (Y : World) : Prop :=
  ∃ (A : Option Addr) (c : Nat), e = .returned (.agg #[.int .i64 n, .slice A sh.length c]) ∧ Lists Y Y.heap.size A sh ∧ Below w.heap.size w Y
/-- what holds at the head of each round of Made -/
def MadeAt (l : List Int) (n most : Nat) (w : World) (i : Value) (wr : World) : Prop :=
  ∃ (k : Nat) (ys : List Slc) (v : Value), i = .int .i64 k ∧ k ≤ l.length ∧ k ≤ most ∧ ys.map (·.s) = madeL (l.take k) n ∧ wr.heap[w.heap.size + 1]? = some (.cells #[.int .i64 n, v] 108 (0, 0)) ∧
    wr.heap[w.heap.size]? = some (.cells #[.int .i64 0, .slice none 0 0] 108 (0, 0)) ∧ wr.ownsRow (w.heap.size + 2) 22 1 v ys.length (ys.map Slc.v) ∧ (∀ y ∈ ys, wr.ownsRow (w.heap.size + 2) 3 1 y.v y.s.length (ic y.s)) ∧ Below w.heap.size w wr ∧ w.heap.size + 2 ≤ wr.heap.size
theorem madeL_len (l : List Int) (n : Nat) : (madeL l n).length = l.length := by simp [madeL]
theorem madeL_succ {l : List Int} {k : Nat} (n : Nat) (hk : k < l.length) : madeL (l.take (k + 1)) n = madeL (l.take k) n ++ [bitsN l[k] n] := by
  rw [List.take_succ_eq_append_getElem hk, madeL, madeL, List.map_append]; rfl
theorem own_setCell {w : World} {base size n : Nat} {e : TypeId} {v : Value} {xs : List Value} (h : w.ownsRow base e size v n xs) {a : Addr} (ha : a.block < base) (u : Value) : (w.setCell a u).ownsRow base e size v n xs := ownsRow_setCell_below h ha u
set_option maxRecDepth 100000 in
theorem own_apart {W w1 : World} {B n size B' n' size' : Nat} {e e' : TypeId} {v v' : Value} {xs xs' : List Value} (h : W.ownsRow B e size v n xs) (h' : W.ownsRow B' e' size' v' n' xs') (hne : e ≠ e') (hg : W.grownBy w1 v'.ownBlock) : w1.ownsRow B e size v n xs := by
  refine h.kept hg ?_
  rcases h.2 with ⟨rfl, _⟩ | ⟨g, cap, cur, rfl, _, hh, _⟩
  · exact .inl rfl
  · refine .inr fun e0 => ?_
    rcases h'.2 with ⟨rfl, _⟩ | ⟨g', cap', cur', rfl, _, hh', _⟩
    · simp [Value.ownBlock] at e0
    · have : g = g' := by simpa [Value.ownBlock] using e0
      subst this
      rw [hh] at hh'
      injection hh' with hh'
      injection hh' with _ h2 _
      exact hne h2
theorem size_drew' (w : World) : w.drew.heap.size = w.heap.size := rfl
theorem own_call {W W' : World} {B n size : Nat} {e : TypeId} {v : Value} {xs : List Value} (h : W.ownsRow B e size v n xs) (hb : Below W.heap.size W W') : W'.ownsRow B e size v n xs := h.kept (grown_of_below hb none) (by cases v.ownBlock <;> simp)
set_option maxRecDepth 100000 in
/-- one round of Made -/
theorem made_next {l : List Int} {n most k : Nat} {w wr w5 w7 : World} {ys : List Slc} {v : Value} {x : Int} {A2 : Option Addr} {c2 g cap : Nat}
    (hkl : k < l.length) (hkm : k < most) (hys : ys.map (·.s) = madeL (l.take k) n) (Hms : madeL (l.take (k + 1)) n = madeL (l.take k) n ++ [bitsN x n])
    (g1 : wr.heap[w.heap.size + 1]? = some (.cells #[.int .i64 n, v] 108 (0, 0))) (g0 : wr.heap[w.heap.size]? = some (.cells #[.int .i64 0, .slice none 0 0] 108 (0, 0)))
    (hrow : wr.ownsRow (w.heap.size + 2) 22 1 v ys.length (ys.map Slc.v)) (hown : ∀ y ∈ ys, wr.ownsRow (w.heap.size + 2) 3 1 y.v y.s.length (ic y.s)) (hbw : Below w.heap.size w wr) (hsz : w.heap.size + 2 ≤ wr.heap.size)
    (o2 : w5.ownsRow wr.drew.heap.size 3 1 (.slice A2 (bitsN x n).length c2) (bitsN x n).length (ic (bitsN x n))) (hb5 : Below wr.drew.heap.size wr.drew w5)
    (o7 : w7.ownsRow (w.heap.size + 2) 22 1 (.slice (some ⟨g, 0, none⟩) (ys.length + 1) cap) (ys.length + 1) (ys.map Slc.v ++ [.slice A2 (bitsN x n).length c2]))
    (g7 : (w5.alloc (.cells #[.slice A2 (bitsN x n).length c2] 22)).grownBy w7 v.ownBlock) :
    MadeAt l n most w (.int .i64 (k + 1 : Nat)) (w7.setCell ⟨w.heap.size + 1, 1, none⟩ (.slice (some ⟨g, 0, none⟩) (ys.length + 1) cap)) := by
  have hs5 := hb5.size
  simp only [size_drew'] at hs5
  have hs7 := g7.size
  rw [World.size_alloc] at hs7
  have hvb : ∀ r, v.ownBlock = some r → w.heap.size + 2 ≤ r := fun r e => (own_lt hrow e).1
  have blk : ∀ b, b < w.heap.size + 2 → w7.heap[b]? = wr.heap[b]? := fun b hb =>
    (g7.block b (by rw [World.size_alloc]; omega) (fun e => by have := hvb b e.symm; omega)).trans ((Below.heap_alloc _ _ _ (by omega)).trans (hb5.block b (by simp only [size_drew']; omega)))
  have hb7 : Below (w.heap.size + 2) wr w7 := (((Below.refl _ wr).drew.trans (hb5.mono (by simp only [size_drew']; omega))).alloc (by omega) _).grown g7 (by rw [World.size_alloc]; omega) hvb
  have hbd : Below wr.heap.size wr w5 := (Below.refl _ wr).drew.trans hb5
  have hr5 := (own_call hrow hbd).alloc (.cells #[.slice A2 (bitsN x n).length c2] 22)
  have oy : ∀ y ∈ ys, w7.ownsRow (w.heap.size + 2) 3 1 y.v y.s.length (ic y.s) := by
    intro y hy
    exact own_apart (own_call (hown y hy) hbd |>.alloc _) hr5 (by decide) g7
  refine ⟨k + 1, ys ++ [⟨A2, c2, bitsN x n⟩], .slice (some ⟨g, 0, none⟩) (ys.length + 1) cap, rfl, by omega, by omega, by rw [List.map_append, hys, Hms]; rfl, ?_, ?_, ?_, ?_, ?_, by rw [World.size_setCell]; omega⟩
  · rw [heap_setCell_same _ _ _ _ _ _ ((blk _ (by omega)).trans g1)]; rfl
  · rw [heap_setCell_other _ _ _ _ (by simp)]; exact (blk _ (by omega)).trans g0
  · rw [List.length_append, List.map_append]; exact own_setCell o7 (by simp) _
  · intro y hy
    refine own_setCell ?_ (by simp) _
    rcases List.mem_append.1 hy with hy | hy
    · exact oy y hy
    · obtain rfl := List.mem_singleton.1 hy
      exact own_apart ((own_base o2 (by simp only [size_drew']; omega)).alloc _) hr5 (by decide) g7
  · exact (hbw.trans (hb7.mono (by omega))).setCell (by simp) _
set_option maxRecDepth 10000 in
set_option maxHeartbeats 1600000 in
theorem madeG_calls (q : Int) (A : Option Addr) (c : Nat) (l : List Int) (most : Nat) (w : World) (h : Byts w w.heap.size A l) (hm : l.length ≤ 9223372036854775807) (hq0 : 0 ≤ q) (hq1 : q ≤ 255) (hmost : most ≤ 100) :
    Calls Try.prog 76 #[.int .u8 q, .slice A l.length c, .int .i64 most] w (GraphPost w (q % 9).toNat (madeL (l.take most) (q % 9).toNat)) := by
  obtain ⟨i0, hi, hz0, hz1, hz2⟩ := info_parts Try.infoInts
  go_enter Try.func76, Try.ntmps76
  go_wp2
  obtain ⟨W0, hW0⟩ : ∃ W0, (w.alloc (.cells #[.int .i64 0, .slice none 0 0] 108)).alloc (.cells #[.int .i64 (q % 9), .slice none 0 0] 108) = W0 := ⟨_, rfl⟩
  have s0 : W0.heap.size = w.heap.size + 2 := by rw [← hW0]; simp
  have hB0 : Below w.heap.size w W0 := by rw [← hW0]; exact ((Below.refl _ w).alloc (Nat.le_refl _) _).alloc (by simp) _
  have hn : ((q % 9).toNat : Int) = q % 9 := by omega
  have e0 : W0.heap[w.heap.size]? = some (.cells #[.int .i64 0, .slice none 0 0] 108 (0, 0)) := by rw [← hW0]; exact (Below.heap_alloc _ _ _ (by simp)).trans (heap_alloc_new w _)
  have e1 : W0.heap[w.heap.size + 1]? = some (.cells #[.int .i64 (q % 9), .slice none 0 0] 108 (0, 0)) := by rw [← hW0]; have := heap_alloc_new (w.alloc (.cells #[.int .i64 0, .slice none 0 0] 108)) (.cells #[.int .i64 (q % 9), .slice none 0 0] 108); rwa [World.size_alloc] at this
  rw [hW0]
  clear hW0
  go_loopw [8] (fun i wr => MadeAt l (q % 9).toNat most w i wr) (fun i _ => l.length - (intOf i).toNat)
  case atStart => exact ⟨0, [], .slice none 0 0, rfl, by omega, by omega, by simp [madeL], by rw [hn]; exact e1, e0, World.ownsRow_nil _ _ _ _, by simp, hB0, by omega⟩
  case round =>
    obtain ⟨k, ys, v, rfl, hk1, hk2, hys, g1, g0, hrow, hown, hbw, hsz⟩ := hrel
    have q0 : wr.cell? ⟨w.heap.size + 1, 0, none⟩ = some (.int .i64 (q % 9).toNat) := by rw [cell_of_row _ _ _ _ _ _ g1]; rfl
    have q1 : wr.cell? ⟨w.heap.size + 1, 1, none⟩ = some v := by rw [cell_of_row _ _ _ _ _ _ g1]; rfl
    have q2 : wr.frozen? ⟨w.heap.size + 1, 1, none⟩ = false := by simp [World.frozen?, g1]
    by_cases hlt : k < l.length ∧ k < most
    · obtain ⟨b, off, rfl, hb, cb, x0, x1⟩ := (h.below hbw).at_ k hlt.1
      have t1 : (k : Int) < (l.length : Int) := by omega
      have t2 : (k : Int) < (most : Int) := by omega
      have t3 : (0 : Int) ≤ (k : Int) := by omega
      have Hms := bx (madeL_succ (q % 9).toNat hlt.1)
      generalize l[k]'(hlt.1) = x at *
      have hn9 : (q % 9).toNat ≤ 8 := by omega
      have HN := bx hn
      clear hn
      generalize (q % 9).toNat = n at *
      have hwx : IntKind.i64.wrap x = x := IntWalk.i64_in _ (by omega)
      have hyl : ys.length ≤ most := by have := congrArg List.length hys; rw [madeL_len, List.length_map, List.length_take] at this; omega
      have hv1 : v.ownBlock ≠ some (w.heap.size + 1) := fun e => by have := (own_lt hrow e).1; omega
      have hv2 : v.ownBlock ≠ some b := fun e => by have := (own_lt hrow e).1; omega
      go_wp2_with fail
      go_region_law (first | (refine step_append_lies _ (by rfl) _ _ _ (by rfl) (w.heap.size + 2) 22 i0 (.slice none 0 0) 1 24 Try.underlying69 hi hz0 hz1 hz2 rfl (by decide) v ys.length (ys.map Slc.v) (by rfl) (((hrow.kept (grown_of_below ((Below.refl _ _).drew) none) (by cases v.ownBlock <;> simp)).kept (grown_of_below hb5 none) (by cases v.ownBlock <;> simp)).alloc _) ⟨w5.heap.size, 0, none⟩ 1 1 [.slice A2 (bitsN x n).length c2] (by rfl) (by rfl) (cell_one_new _ _ _) (by simp [Value.oneCell']) (by omega) (by unfold maxLen; omega) (by omega) (by have := hb5.size; simp at this; simp; omega) (w5.heap.size + 1) (by simp) ?_; intro g cap w7 o7 g7 hat hlt7; have hs5 := hb5.size; have c7 : w7.cell? ⟨w.heap.size + 1, 1, none⟩ = some v := (g7.cell_far _ (by simp at hs5; simp; omega) (Ne.symm hv1)).trans ((cell_alloc_lt _ (by simp at hs5; simp; omega)).trans ((hb5.cell (by simp; omega)).trans q1)); have f7 : w7.frozen? ⟨w.heap.size + 1, 1, none⟩ = false := (g7.frozen_far _ (by simp at hs5; simp; omega) (Ne.symm hv1)).trans ((frozen_alloc_lt _ (by simp at hs5; simp; omega)).trans ((hb5.frozen (by simp; omega)).trans q2))) | (go_simp; go_at_call 77; refine (bits_calls x n _ x0 (by omega) (by omega)).mono ?_; rintro e w5 ⟨A2, c2, rfl, o2, hb5⟩; have c5 : w5.cell? ⟨w.heap.size + 1, 1, none⟩ = some v := (hb5.cell (by simp; omega)).trans q1; have n5 : ∀ o, (w5.alloc o).cell? ⟨w.heap.size + 1, 1, none⟩ = some v := fun o => (cell_alloc_lt o (by have := hb5.size; simp at this; simp; omega)).trans c5))
      all_goals
        have HN2 := made_next hlt.1 hlt.2 hys Hms.out g1 g0 hrow hown hbw hsz o2 hb5 o7 g7
        clear g1 g0 hrow hown hbw hsz o2 hb5 o7 g7 hys
        go_wp2
        exact ⟨HN2, by simp [intOf]; omega⟩
    · obtain ⟨A', c', rfl⟩ := slice_form hrow
      have Htk := bx (show madeL (l.take k) (q % 9).toNat = madeL (l.take most) (q % 9).toNat by
        congr 1
        by_cases h0 : k = most
        · rw [h0]
        · rw [List.take_of_length_le (by omega), List.take_of_length_le (by omega)])
      have p0 : wr.cell? ⟨w.heap.size, 0, none⟩ = some (.int .i64 0) := by rw [cell_of_row _ _ _ _ _ _ g0]; rfl
      have p1 : wr.cell? ⟨w.heap.size, 1, none⟩ = some (.slice none 0 0) := by rw [cell_of_row _ _ _ _ _ _ g0]; rfl
      have p2 : wr.frozen? ⟨w.heap.size, 1, none⟩ = false := by simp [World.frozen?, g0]
      have p3 : wr.frozen? ⟨w.heap.size, 0, none⟩ = false := by simp [World.frozen?, g0]
      have HYS := bx hys
      have HN := bx hn
      clear g0 g1 hys hn
      generalize (q % 9).toNat = n at *
      have HLn := bx (show ys.length = (madeL (l.take most) n).length by rw [← Htk.out, ← HYS.out, List.length_map])
      by_cases h0 : k < l.length
      · have t1 : (k : Int) < (l.length : Int) := by omega
        have t2 : ¬ (k : Int) < (most : Int) := by omega
        clear hlt
        go_wp2
        refine bodyPost_ret (v := .agg #[.int .i64 n, .slice A' ys.length c']) (by simp [results, Try.results76, go_sem, p0, p1]) rfl ⟨A', c', by rw [← HLn.out], ?_, ?_⟩
        · exact by rw [← Htk.out, ← HYS.out]; exact lists_of_own (own_setCell (own_setCell hrow (by simp) _) (by simp) _) (fun y hy => own_setCell (own_setCell (hown y hy) (by simp) _) (by simp) _)
        · exact (hbw.setCell (p := ⟨w.heap.size, 0, none⟩) (by simp) _).setCell (p := ⟨w.heap.size, 1, none⟩) (by simp) _
      · have t1 : ¬ (k : Int) < (l.length : Int) := by omega
        clear hlt
        go_wp2
        refine bodyPost_ret (v := .agg #[.int .i64 n, .slice A' ys.length c']) (by simp [results, Try.results76, go_sem, p0, p1]) rfl ⟨A', c', by rw [← HLn.out], ?_, ?_⟩
        · exact by rw [← Htk.out, ← HYS.out]; exact lists_of_own (own_setCell (own_setCell hrow (by simp) _) (by simp) _) (fun y hy => own_setCell (own_setCell (hown y hy) (by simp) _) (by simp) _)
        · exact (hbw.setCell (p := ⟨w.heap.size, 0, none⟩) (by simp) _).setCell (p := ⟨w.heap.size, 1, none⟩) (by simp) _
end Go.Proofs.Ytlogokjjphlkkaa.Dg
namespace Go.Proofs.Ytlogokjjphlkkaa.Dg

/-- the answer of the code after k rounds, l the candidates -/
def certN (sh : List (List Int)) (seen l : List Int) : Nat → List Int
  | 0 => []
  | k + 1 => if expl sh (l.take k ++ l.drop (k + 1)) seen [] then certN sh seen l k else certN sh seen l k ++ [l.getD k 0]
def certOf (sh : List (List Int)) (seen clear : List Int) : List Int := if expl sh (cand sh clear) seen [] then certN sh seen (cand sh clear) (cand sh clear).length else []
theorem certN_le (sh : List (List Int)) (seen l : List Int) : ∀ k, (certN sh seen l k).length ≤ k := by
  intro k
  induction k with
  | zero => simp [certN]
  | succ k ih => rw [certN]; split
                 · omega
                 · simp; omega
set_option maxRecDepth 100000 in
theorem without_eq : ∀ (l : List Int) (k : Nat) (hk : k < l.length), l.Nodup → l.take k ++ l.drop (k + 1) = l.filter (fun x => x != l[k]) := by
  intro l
  induction l with
  | nil => intro k hk; simp at hk
  | cons x xs ih =>
    intro k hk hn
    obtain ⟨h1, h2⟩ := List.nodup_cons.1 hn
    cases k with
    | zero =>
      simp only [List.take_zero, List.nil_append, List.getElem_cons_zero]
      rw [List.filter_cons_of_neg (by simp)]
      simp only [Nat.zero_add, List.drop_succ_cons, List.drop_zero]
      refine (List.filter_eq_self.2 fun y hy => ?_).symm
      simp only [bne_iff_ne, ne_eq]
      rintro rfl; exact h1 hy
    | succ k =>
      have hk' : k < xs.length := by simpa using hk
      simp only [List.take_succ_cons, List.drop_succ_cons, List.getElem_cons_succ, List.cons_append]
      rw [ih k hk' h2, List.filter_cons_of_pos]
      simp only [bne_iff_ne, ne_eq]
      intro e; exact h1 (e ▸ List.getElem_mem hk')
theorem certN_eq (sh : List (List Int)) (seen l : List Int) (hn : l.Nodup) : ∀ k, k ≤ l.length → certN sh seen l k = (l.take k).filter fun u => !expl sh (l.filter (fun x => x != u)) seen [] := by
  intro k
  induction k with
  | zero => intro _; rfl
  | succ k ih =>
    intro hk
    rw [certN, ih (by omega), List.take_succ_eq_append_getElem (by omega), List.filter_append, without_eq l k (by omega) hn]
    rw [List.getD_eq_getElem?_getD, List.getElem?_eq_getElem (by omega), Option.getD_some]
    cases h : expl sh (l.filter fun x => x != l[k]) seen [] <;> simp [h]
theorem units_nodup (n : Nat) : (units n).Nodup := by
  unfold units
  refine List.Pairwise.map _ ?_ (List.nodup_range (n := n))
  intro a b h e
  exact h (Int.ofNat.inj e)
theorem cand_nodup (sh : List (List Int)) (clear : List Int) : (cand sh clear).Nodup := List.Pairwise.filter _ (units_nodup _)
theorem certOf_eq (sh : List (List Int)) (seen clear : List Int) :
    certOf sh seen clear = if expl sh (cand sh clear) seen [] then (cand sh clear).filter (fun u => !expl sh ((cand sh clear).filter (fun x => x != u)) seen []) else [] := by
  rw [certOf, certN_eq _ _ _ (cand_nodup _ _) _ (Nat.le_refl _), List.take_of_length_le (Nat.le_refl _)]
/-- more units explain more symptoms -/
theorem cau_mono {sh : List (List Int)} {a b : List Int} (h : ∀ u ∈ a, u ∈ b) {s : Int} (hs : cau sh a s = true) : cau sh b s = true := by
  obtain ⟨u, hu, hc⟩ := (cau_iff sh a s).1 hs
  exact (cau_iff sh b s).2 ⟨u, h u hu, hc⟩
theorem expl_mono {sh : List (List Int)} {a b seen : List Int} (h : ∀ u ∈ a, u ∈ b) (hs : expl sh a seen [] = true) : expl sh b seen [] = true := by
  rw [expl_iff] at hs ⊢
  exact ⟨fun s hm => cau_mono h (hs.1 s hm), fun s hm => by cases hm⟩
/-- all explanations, over all sizes -/
def explsOf (sh : List (List Int)) (seen clear : List Int) : List (List Int) := (List.range (sh.length + 1)).flatMap fun k => (subs (units sh.length) k).filter fun s => expl sh s seen clear
set_option maxRecDepth 100000 in
theorem mem_expls {sh : List (List Int)} {seen clear s : List Int} : s ∈ explsOf sh seen clear ↔ s.Sublist (units sh.length) ∧ expl sh s seen clear = true := by
  unfold explsOf
  simp only [List.mem_flatMap, List.mem_range, List.mem_filter]
  constructor
  · rintro ⟨k, hk, hs, he⟩
    exact ⟨(mem_subs _ _ _ hs).1, he⟩
  · rintro ⟨hs, he⟩
    refine ⟨s.length, ?_, sub_mem _ _ hs, he⟩
    have := hs.length_le
    simp [units] at this; omega
/-- the answer of the document -/
def refCert (sh : List (List Int)) (seen clear : List Int) : List Int := (units sh.length).filter fun u => !(explsOf sh seen clear).isEmpty && (explsOf sh seen clear).all fun s => s.contains u
theorem mem_cand {sh : List (List Int)} {clear : List Int} {u : Int} : u ∈ cand sh clear ↔ u ∈ units sh.length ∧ expl sh [u] [] clear = true := by simp [cand]
theorem expl_cand (sh : List (List Int)) (seen clear : List Int) {s : List Int} (h : ∀ u ∈ s, u ∈ cand sh clear) (he : expl sh s seen [] = true) : expl sh s seen clear = true := by
  rw [expl_split, he, Bool.true_and, List.all_eq_true]
  intro u hu
  exact (mem_cand.1 (h u hu)).2
theorem cand_of_expl {sh : List (List Int)} {seen clear s : List Int} (hs : ∀ u ∈ s, u ∈ units sh.length) (he : expl sh s seen clear = true) : (∀ u ∈ s, u ∈ cand sh clear) ∧ expl sh s seen [] = true := by
  rw [expl_split, Bool.and_eq_true, List.all_eq_true] at he
  exact ⟨fun u hu => mem_cand.2 ⟨hs u hu, he.2 u hu⟩, he.1⟩
set_option maxRecDepth 100000 in
theorem certOf_ref (sh : List (List Int)) (seen clear : List Int) : refCert sh seen clear = certOf sh seen clear := by
  rw [certOf_eq]
  cases hc : expl sh (cand sh clear) seen []
  · have he : explsOf sh seen clear = [] := by
      cases h : explsOf sh seen clear with
      | nil => rfl
      | cons s t =>
        exfalso
        have hm : s ∈ explsOf sh seen clear := by rw [h]; simp
        obtain ⟨h1, h2⟩ := mem_expls.1 hm
        obtain ⟨h3, h4⟩ := cand_of_expl (fun u hu => h1.subset hu) h2
        rw [expl_mono h3 h4] at hc; cases hc
    rw [refCert, he]
    simp
  · rw [if_pos rfl, refCert]
    have hcm : cand sh clear ∈ explsOf sh seen clear := mem_expls.2 ⟨List.filter_sublist, expl_cand _ _ _ (fun _ h => h) hc⟩
    have hne : (explsOf sh seen clear).isEmpty = false := by
      cases h : explsOf sh seen clear with
      | nil => rw [h] at hcm; cases hcm
      | cons _ _ => rfl
    rw [hne]
    simp only [Bool.not_false, Bool.true_and]
    rw [cand, List.filter_filter]
    refine List.filter_congr fun u hu => ?_
    rw [Bool.eq_iff_iff, List.all_eq_true, Bool.and_eq_true, Bool.not_eq_true', ← cand]
    constructor
    · intro h
      have hu' : u ∈ cand sh clear := by simpa using h _ hcm
      refine ⟨?_, (mem_cand.1 hu').2⟩
      cases hx : expl sh ((cand sh clear).filter fun x => x != u) seen []
      · rfl
      · exfalso
        have hm : (cand sh clear).filter (fun x => x != u) ∈ explsOf sh seen clear :=
          mem_expls.2 ⟨List.filter_sublist.trans List.filter_sublist, expl_cand _ _ _ (fun v hv => (List.mem_filter.1 hv).1) hx⟩
        have := h _ hm
        simp at this
    · rintro ⟨h1, h2⟩ s hs
      obtain ⟨h3, h4⟩ := mem_expls.1 hs
      obtain ⟨h5, h6⟩ := cand_of_expl (fun u hu => h3.subset hu) h4
      rw [List.contains_iff_mem]
      refine Classical.byContradiction fun hn => ?_
      have : expl sh ((cand sh clear).filter fun x => x != u) seen [] = true := expl_mono (fun v hv => by
        refine List.mem_filter.2 ⟨h5 v hv, ?_⟩
        simp only [bne_iff_ne, ne_eq]
        rintro rfl; exact hn hv) h6
      rw [this] at h1; cases h1
end Go.Proofs.Ytlogokjjphlkkaa.Dg
namespace Go.Proofs.Ytlogokjjphlkkaa.Dg

set_option maxRecDepth 100000 in
theorem firstOf_cases (f : Nat → List (List Int)) : ∀ n, (firstOf f n = [] ∧ ∀ j, j < n → f j = []) ∨ ∃ k, k < n ∧ (∀ j, j < k → f j = []) ∧ firstOf f n = f k ∧ f k ≠ [] := by
  intro n
  induction n with
  | zero => exact .inl ⟨rfl, fun j hj => absurd hj (by omega)⟩
  | succ n ih =>
    rcases ih with ⟨h1, h2⟩ | ⟨k, h1, h2, h3, h4⟩
    · rw [firstOf, if_pos h1]
      by_cases h : f n = []
      · refine .inl ⟨h, fun j hj => ?_⟩
        by_cases e : j = n
        · rw [e]; exact h
        · exact h2 j (by omega)
      · exact .inr ⟨n, by omega, h2, rfl, h⟩
    · refine .inr ⟨k, by omega, h2, ?_, h4⟩
      rw [firstOf, h3, if_neg h4]
theorem noneAt_of {sh : List (List Int)} {seen l : List Int} {k : Nat} (h : (subs l k).filter (fun s => expl sh s seen []) = []) : noneAt sh seen l k := by
  intro s hs
  have := List.filter_eq_nil_iff.1 h s hs
  simpa using this
/-- no explanation by fewer units -/
theorem allOf_cases (sh : List (List Int)) (seen clear : List Int) :
    (allOf sh seen clear = [] ∧ ∀ j, j < (cand sh clear).length + 1 → noneAt sh seen (cand sh clear) j) ∨
    ∃ k, k < (cand sh clear).length + 1 ∧ (∀ j, j < k → noneAt sh seen (cand sh clear) j) ∧ allOf sh seen clear = (subs (cand sh clear) k).filter (fun s => expl sh s seen []) ∧ allOf sh seen clear ≠ [] := by
  rcases firstOf_cases (fun k => (subs (cand sh clear) k).filter fun s => expl sh s seen []) ((cand sh clear).length + 1) with ⟨h1, h2⟩ | ⟨k, h1, h2, h3, h4⟩
  · exact .inl ⟨h1, fun j hj => noneAt_of (h2 j hj)⟩
  · exact .inr ⟨k, h1, fun j hj => noneAt_of (h2 j hj), h3, by unfold allOf; rw [h3]; exact h4⟩
/-- an explanation is one of the sets of candidates -/
theorem expl_sub {sh : List (List Int)} {seen clear t : List Int} (ht : t.Sublist (units sh.length)) (he : expl sh t seen clear = true) : t ∈ subs (cand sh clear) t.length ∧ expl sh t seen [] = true := by
  obtain ⟨h1, h2⟩ := cand_of_expl (fun u hu => ht.subset hu) he
  refine ⟨sub_mem _ _ ?_, h2⟩
  have := ht.filter (fun u => expl sh [u] [] clear)
  rwa [List.filter_eq_self.2 (fun u hu => (mem_cand.1 (h1 u hu)).2)] at this
theorem sub_len {l t : List Int} (h : t.Sublist l) : t.length ≤ l.length := h.length_le
set_option maxRecDepth 100000 in
/-- nothing explains if there is no smallest explanation -/
theorem none_expl {sh : List (List Int)} {seen clear t : List Int} (h : allOf sh seen clear = []) (ht : t.Sublist (units sh.length)) : expl sh t seen clear = false := by
  cases he : expl sh t seen clear
  · rfl
  · exfalso
    obtain ⟨h1, h2⟩ := expl_sub ht he
    rcases allOf_cases sh seen clear with ⟨_, h3⟩ | ⟨k, _, _, _, h4⟩
    · have := h3 t.length (by have := (mem_subs _ _ _ h1).1.length_le; omega) t h1
      rw [this] at h2; cases h2
    · exact h4 h
/-- what is known of each smallest explanation -/
structure Smallest (sh : List (List Int)) (seen clear : List Int) (k : Nat) (s : List Int) : Prop where
  len : s.length = k
  sub : s.Sublist (units sh.length)
  ex : expl sh s seen clear = true
  fewer : ∀ t : List Int, t.Sublist (units sh.length) → t.length < k → expl sh t seen clear = false
set_option maxRecDepth 100000 in
theorem smallest_of {sh : List (List Int)} {seen clear : List Int} (h : allOf sh seen clear ≠ []) : ∃ k, k ≤ sh.length ∧ ∀ s ∈ allOf sh seen clear, Smallest sh seen clear k s := by
  rcases allOf_cases sh seen clear with ⟨h1, _⟩ | ⟨k, h1, h2, h3, h4⟩
  · exact absurd h1 h
  · refine ⟨k, by have := cand_len sh clear; omega, fun s hs => ?_⟩
    rw [h3] at hs
    obtain ⟨hs1, hs2⟩ := List.mem_filter.1 hs
    obtain ⟨hs3, hs4⟩ := mem_subs _ _ _ hs1
    refine ⟨hs4, hs3.trans List.filter_sublist, expl_cand _ _ _ (fun u hu => hs3.subset hu) hs2, fun t ht htl => ?_⟩
    cases he : expl sh t seen clear
    · rfl
    · obtain ⟨g1, g2⟩ := expl_sub ht he
      rw [h2 t.length htl t g1] at g2; cases g2
theorem units_lt (n : Nat) : (units n).Pairwise (· < ·) := by
  unfold units
  refine List.Pairwise.map _ ?_ (List.pairwise_lt_range (n := n))
  intro a b h
  exact Int.ofNat_lt.2 h
theorem Smallest.pair {sh : List (List Int)} {seen clear : List Int} {k : Nat} {s : List Int} (h : Smallest sh seen clear k s) : s.Pairwise (· < ·) := List.Pairwise.sublist h.sub (units_lt _)
set_option maxRecDepth 100000 in
theorem Smallest.without {sh : List (List Int)} {seen clear : List Int} {k : Nat} {s : List Int} (h : Smallest sh seen clear k s) {i : Nat} (hi : i < s.length) : expl sh (s.take i ++ s.drop (i + 1)) seen clear = false := by
  refine h.fewer _ (List.Sublist.trans ?_ h.sub) ?_
  · have : s = s.take i ++ s.drop i := (List.take_append_drop i s).symm
    conv => rhs; rw [this]
    refine List.Sublist.append (List.Sublist.refl _) ?_
    rw [show i + 1 = i + 1 from rfl, ← List.drop_drop]
    exact List.drop_sublist _ _
  · have := h.len
    rw [List.length_append, List.length_take, List.length_drop]
    omega
set_option maxRecDepth 100000 in
theorem least_cases (sh : List (List Int)) (seen clear : List Int) :
    (leastOf sh seen clear = none ∧ allOf sh seen clear = [] ∧ ∀ t : List Int, t.Sublist (units sh.length) → expl sh t seen clear = false) ∨
    ∃ (a : List Int) (r : List (List Int)), leastOf sh seen clear = some a ∧ allOf sh seen clear = a :: r ∧ a.length ≤ sh.length ∧ ∀ s ∈ a :: r, Smallest sh seen clear a.length s := by
  cases h : allOf sh seen clear with
  | nil => exact .inl ⟨by rw [leastOf, h]; rfl, rfl, fun t ht => none_expl h ht⟩
  | cons a r =>
    obtain ⟨k, hk, hs⟩ := smallest_of (sh := sh) (seen := seen) (clear := clear) (by rw [h]; simp)
    rw [h] at hs
    obtain rfl := (hs a (by simp)).len
    exact .inr ⟨a, r, by rw [leastOf, h]; rfl, rfl, hk, hs⟩
end Go.Proofs.Ytlogokjjphlkkaa.Dg
namespace Go.Proofs.Ytlogokjjphlkkaa.Dg

def outB (n s : Int) : Bool := decide (s < 0) || decide (n ≤ s)
def ordAt (l : List Int) (i : Nat) : Bool := decide (0 < i) && decide (l.getD i 0 ≤ l.getD (i - 1) 0)
def ordUpto (l : List Int) (k : Nat) : Bool := (List.range k).any (ordAt l)
def badOrd (l : List Int) : Bool := ordUpto l l.length
def badRng (n : Int) (l : List Int) : Bool := l.any (outB n)
def checkG (n : Int) (sh : List (List Int)) : Int :=
  if n < 0 then 2 else if 24 < n then 2 else if 16 < sh.length then 2 else if sh.any (badRng n) then 5 else if sh.any badOrd then 23 else 0
theorem ordUpto_succ (l : List Int) (k : Nat) : ordUpto l (k + 1) = (ordUpto l k || ordAt l k) := by simp [ordUpto, List.range_succ]
theorem ordUpto_one (l : List Int) : ordUpto l 1 = false := by simp [ordUpto, List.range_succ, ordAt]
theorem ordAt_eq {l : List Int} {i : Nat} (h0 : 0 < i) (hi : i < l.length) : ordAt l i = decide (l[i] ≤ l[i - 1]) := by
  unfold ordAt
  rw [List.getD_eq_getElem?_getD, List.getD_eq_getElem?_getD, List.getElem?_eq_getElem hi, List.getElem?_eq_getElem (show i - 1 < l.length by omega)]
  simp [h0]
theorem ordUpto_mono {l : List Int} {k m : Nat} (hk : k ≤ m) (h : ordUpto l k = true) : ordUpto l m = true := by
  unfold ordUpto at *
  obtain ⟨i, hi, ho⟩ := List.any_eq_true.1 h
  exact List.any_eq_true.2 ⟨i, List.mem_range.2 (by have := List.mem_range.1 hi; omega), ho⟩
theorem any_take_succ {α : Type} (p : α → Bool) {l : List α} {k : Nat} (h : k < l.length) : (l.take (k + 1)).any p = ((l.take k).any p || p l[k]) := by
  rw [List.take_succ_eq_append_getElem h, List.any_append]; simp
theorem any_at {α : Type} {p : α → Bool} {l : List α} {k : Nat} (h : k < l.length) (hp : p l[k] = true) : l.any p = true := List.any_eq_true.2 ⟨_, List.getElem_mem h, hp⟩
theorem check_lim {n : Int} {sh : List (List Int)} (h : n < 0 ∨ 24 < n ∨ 16 < sh.length) : checkG n sh = 2 := by
  unfold checkG; split
  · rfl
  · split
    · rfl
    · rw [if_pos (by omega)]
theorem check_rng {n : Int} {sh : List (List Int)} (h : ¬ (n < 0 ∨ 24 < n ∨ 16 < sh.length)) (hr : sh.any (badRng n) = true) : checkG n sh = 5 := by
  unfold checkG; rw [if_neg (by omega), if_neg (by omega), if_neg (by omega), if_pos hr]
theorem check_ord {n : Int} {sh : List (List Int)} (h : ¬ (n < 0 ∨ 24 < n ∨ 16 < sh.length)) (hr : sh.any (badRng n) = false) (ho : sh.any badOrd = true) : checkG n sh = 23 := by
  unfold checkG; rw [if_neg (by omega), if_neg (by omega), if_neg (by omega), if_neg (by simp [hr]), if_pos ho]
theorem check_fine {n : Int} {sh : List (List Int)} (h : ¬ (n < 0 ∨ 24 < n ∨ 16 < sh.length)) (hr : sh.any (badRng n) = false) (ho : sh.any badOrd = false) : checkG n sh = 0 := by
  unfold checkG; rw [if_neg (by omega), if_neg (by omega), if_neg (by omega), if_neg (by simp [hr]), if_neg (by simp [ho])]
theorem check_len {n : Int} {sh : List (List Int)} (h : checkG n sh = 0) : sh.length ≤ 16 := by
  refine Classical.byContradiction fun hc => ?_
  rw [check_lim (.inr (.inr (by omega)))] at h; cases h
end Go.Proofs.Ytlogokjjphlkkaa.Dg
namespace Go.Proofs.Ytlogokjjphlkkaa.Dg
open Go.RowKit

set_option maxRecDepth 100000 in
theorem check1 (n s : Int) (bg : Nat) (w : World) (hg : w.cell? ⟨bg, 0, none⟩ = some (.int .i64 n)) :
    Calls Try.prog 157 #[.int .i64 s, .pointer (some ⟨bg, 0, none⟩)] w fun e w' => e = .returned (.bool (outB n s)) ∧ Below w.heap.size w w' := by
  by_cases h0 : s < 0
  · have He := bx (show true = outB n s by unfold outB; rw [show decide (s < 0) = true by simpa using h0]; rfl)
    go_enter Try.func157, Try.ntmps157
    go_wp2
    go_ret
    exact ⟨ret_bool He.out, Below.refl _ _⟩
  · have He := bx (show decide (n ≤ s) = outB n s by unfold outB; rw [show decide (s < 0) = false by simpa using h0]; rfl)
    go_enter Try.func157, Try.ntmps157
    go_wp2
    go_ret
    exact ⟨ret_bool He.out, Below.refl _ _⟩
set_option maxRecDepth 100000 in
/-- slices.IndexFunc at the closure chk -/
theorem indexFunc_chk (A : Option Addr) (c : Nat) (us : List Int) (n : Int) (bg : Nat) (w : World) (h : Ints w w.heap.size A us) (hm : us.length ≤ 9223372036854775807) (hs : w.cell? ⟨bg, 0, none⟩ = some (.int .i64 n)) :
    Calls Try.prog 138 #[.slice A us.length c, .func (.func 157) #[] #[.pointer (some ⟨bg, 0, none⟩)]] w (AnyPost us (outB n) w) := by
  go_enter Try.func138, Try.ntmps138
  go_wp2
  go_loopw [5, 8] (fun _ i wr => ∃ k : Nat, k ≤ us.length ∧ i = .int .i64 k ∧ (us.take k).any (outB n) = false ∧ Below w.heap.size w wr) (fun _ i _ => us.length - (intOf i).toNat)
  case atStart => exact ⟨0, Nat.zero_le _, rfl, rfl, Below.refl _ _⟩
  case round =>
    obtain ⟨k, hk, rfl, hno, hbw⟩ := hrel
    have Hno := bx hno
    clear hno
    have hw := h.below hbw
    have hS := (hbw.cell (p := ⟨bg, 0, none⟩) (World.block_lt_of_cell? w _ hs)).trans hs
    by_cases hlt : k < us.length
    · obtain ⟨b, off, rfl, hb, g1⟩ := hw.at_ k hlt
      have Hs := bx (show (us.take (k + 1)).any (outB n) = ((us.take k).any (outB n) || (outB n) us[k]) by
        rw [List.take_succ_eq_append_getElem hlt, List.any_append]; simp)
      have Hm := bx (fun hb : (outB n) us[k] = true => show us.any (outB n) = true from List.any_eq_true.2 ⟨_, List.getElem_mem hlt, hb⟩)
      generalize us[k] = u at *
      cases hi : (outB n) u
      · have Hi := bx hi
        clear hi
        go_wp2_with fail
        refine (check1 n u bg wr hS).mono ?_
        rintro e w' ⟨rfl, hb'⟩
        rw [Hi.out]
        go_wp2
        go_roundw
        case rel => exact ⟨k + 1, by omega, by go_num, by rw [Hs.out, Hno.out, Hi.out]; rfl, hbw.trans (hb'.mono hbw.size)⟩
        case measure => simp [intOf]; omega
      · have Hi := bx hi
        have Ht := bx (Hm.out hi)
        clear hi
        go_wp2_with fail
        refine (check1 n u bg wr hS).mono ?_
        rintro e w' ⟨rfl, hb'⟩
        rw [Hi.out]
        go_wp2
        go_ret
        exact ⟨⟨k, rfl, by rw [Ht.out]; simp⟩, hbw.trans (hb'.mono hbw.size)⟩
    · obtain rfl : k = us.length := by omega
      have Hc := bx (show us.any (outB n) = false by have := Hno.out; rwa [List.take_of_length_le (Nat.le_refl _)] at this)
      go_wp2
      go_ret
      exact ⟨⟨-1, rfl, by rw [Hc.out]; rfl⟩, hbw⟩
set_option maxRecDepth 100000 in
/-- slices.ContainsFunc at the closure chk -/
theorem containsFunc_chk (A : Option Addr) (c : Nat) (us : List Int) (n : Int) (bg : Nat) (w : World) (h : Ints w w.heap.size A us) (hm : us.length ≤ 9223372036854775807) (hs : w.cell? ⟨bg, 0, none⟩ = some (.int .i64 n)) (x : Bool) (hx : us.any (outB n) = x) :
    Calls Try.prog 96 #[.slice A us.length c, .func (.func 157) #[] #[.pointer (some ⟨bg, 0, none⟩)]] w fun e w' => e = .returned (.bool x) ∧ Below w.heap.size w w' := by
  go_enter Try.func96, Try.ntmps96
  go_wp2_with fail
  refine (indexFunc_chk A c us n bg w h hm hs).mono ?_
  rintro e w' ⟨⟨i, rfl, hi⟩, hb⟩
  rw [hx] at hi
  have Hi := bx hi
  clear hi
  go_wp2
  go_ret
  exact ⟨ret_bool Hi.out, hb⟩
set_option maxRecDepth 10000 in
theorem check_calls (n : Int) (AG : Option Addr) (cG : Nat) (sh : List (List Int)) (w : World) (hl : Lists w w.heap.size AG sh) (hn : sh.length ≤ 9223372036854775807) (x : Int) (hx : checkG n sh = x) :
    Calls Try.prog 126 #[.agg #[.int .i64 n, .slice AG sh.length cG]] w fun e w' => e = .returned (.int .i64 x) ∧ Below w.heap.size w w' := by
  obtain ⟨W1, hW1⟩ : ∃ W1, w.alloc (.cells #[.int .i64 n, .slice AG sh.length cG] 108) = W1 := ⟨_, rfl⟩
  have s1 : W1.heap.size = w.heap.size + 1 := by rw [← hW1]; simp
  have hb1 : Below w.heap.size w W1 := by rw [← hW1]; exact (Below.refl _ _).alloc (Nat.le_refl _) _
  have hG1 : GBox W1 W1.heap.size w.heap.size n sh := by rw [s1, ← hW1]; exact gbox_new w n AG cG sh hl hn
  have HX := bx hx
  clear hx
  obtain ⟨_, _, gi0, AGi, cGi, gi1, hlG⟩ := hG1
  by_cases h1 : n < 0
  · have HV := bx (HX.out.symm.trans (check_lim (.inl h1)))
    go_enter Try.func126, Try.ntmps126
    go_wp2
    go_ret
    exact ⟨ret_int HV.out.symm, by assumption⟩
  by_cases h2 : 24 < n
  · have HV := bx (HX.out.symm.trans (check_lim (.inr (.inl h2))))
    go_enter Try.func126, Try.ntmps126
    go_wp2
    go_ret
    exact ⟨ret_int HV.out.symm, by assumption⟩
  by_cases h3 : 16 < sh.length
  · have HV := bx (HX.out.symm.trans (check_lim (.inr (.inr h3))))
    go_enter Try.func126, Try.ntmps126
    go_wp2
    go_ret
    exact ⟨ret_int HV.out.symm, by assumption⟩
  have HD := bx (show ¬ (n < 0 ∨ 24 < n ∨ 16 < sh.length) by omega)
  go_enter Try.func126, Try.ntmps126
  go_wp2
  clear hW1 hl
  go_loopw [4, 25] (fun _ i wr => ∃ k : Nat, k ≤ sh.length ∧ i = .int .i64 k ∧ (sh.take k).any (badRng n) = false ∧ Below W1.heap.size W1 wr) (fun _ i _ => sh.length - (intOf i).toNat)
  case atStart => exact ⟨0, Nat.zero_le _, rfl, rfl, Below.refl _ _⟩
  case round =>
    obtain ⟨k, hk, rfl, hno, hbw⟩ := hrel
    have HNO := bx hno
    clear hno
    have hsz := hbw.size
    have c0 : wr.cell? ⟨w.heap.size, 0, none⟩ = some (.int .i64 n) := (hbw.cell (by omega)).trans gi0
    have c1 : wr.cell? ⟨w.heap.size, 1, none⟩ = some (.slice AGi sh.length cGi) := (hbw.cell (by omega)).trans gi1
    by_cases hlt : k < sh.length
    · obtain ⟨b, off, A', c', rfl, hb, g1, g2, g3⟩ := (hlG.below hbw).at_ k hlt
      have HI := bx (g2.more hsz)
      have Hs := bx (any_take_succ (badRng n) hlt)
      have Ha := bx (@any_at _ (badRng n) sh k hlt)
      clear g2
      cases hv : badRng n sh[k]
      · have HV := bx hv
        clear hv
        generalize sh[k] = l at *
        go_wp2_with fail
        refine (containsFunc_chk A' c' l n w.heap.size wr HI.out g3 c0 false HV.out).mono ?_
        rintro e w3 ⟨rfl, hb3⟩
        go_wp2
        go_roundw
        case rel => exact ⟨k + 1, by omega, by go_num, by rw [Hs.out, HNO.out, HV.out]; rfl, hbw.trans (hb3.mono hsz)⟩
        case measure => simp [intOf]; omega
      · have HV := bx hv
        have HX2 := bx (HX.out.symm.trans (check_rng HD.out (Ha.out hv)))
        clear hv
        generalize sh[k] = l at *
        go_wp2_with fail
        refine (containsFunc_chk A' c' l n w.heap.size wr HI.out g3 c0 true HV.out).mono ?_
        rintro e w3 ⟨rfl, hb3⟩
        go_wp2
        go_ret
        exact ⟨ret_int HX2.out.symm, hb1.trans ((hbw.trans (hb3.mono hsz)).mono hb1.size)⟩
    · obtain rfl : k = sh.length := by omega
      have HR := bx (show sh.any (badRng n) = false by have := HNO.out; rwa [List.take_of_length_le (Nat.le_refl _)] at this)
      go_wp2
      obtain ⟨W3, hW3⟩ : ∃ W3, wr = W3 := ⟨_, rfl⟩
      rw [hW3] at hbw ⊢
      clear hW3
      go_loopw [6, 7, 36] (fun _ _ i wr => ∃ k : Nat, k ≤ sh.length ∧ i = .int .i64 k ∧ (sh.take k).any badOrd = false ∧ Below W1.heap.size W1 wr) (fun _ _ i _ => sh.length - (intOf i).toNat)
      case atStart => exact ⟨0, Nat.zero_le _, rfl, rfl, hbw⟩
      case round =>
        obtain ⟨k, hk, rfl, hno, hbr⟩ := hrel
        have HNO2 := bx hno
        clear hno
        have hsz := hbr.size
        by_cases hlt : k < sh.length
        · obtain ⟨b, off, A', c', rfl, hb, g1, g2, g3⟩ := (hlG.below hbr).at_ k hlt
          have Hs := bx (any_take_succ badOrd hlt)
          have Ha := bx (@any_at _ badOrd sh k hlt)
          generalize sh[k] = l at *
          go_wp2
          obtain ⟨wo, hwo⟩ : ∃ wo, wr = wo := ⟨_, rfl⟩
          rw [hwo] at hbr hsz g1 g2 ⊢
          clear hwo
          go_loopw [7] (fun j wr => ∃ m : Nat, m ≤ l.length ∧ j = .int .i64 ((m : Int) + 1) ∧ ordUpto l (m + 1) = false ∧ Below wo.heap.size wo wr) (fun j _ => l.length + 1 - (intOf j).toNat)
          case atStart => exact ⟨0, by omega, rfl, ordUpto_one l, Below.refl _ _⟩
          case round =>
            obtain ⟨m, hm, rfl, hno, hbo⟩ := hrel
            have HNO3 := bx hno
            clear hno
            have hbW := hbr.trans (hbo.mono hsz)
            by_cases hil : m + 1 < l.length
            · obtain ⟨bl, ol, rfl, hbl, e1⟩ := (g2.below (hbo.mono hsz)).at_ (m + 1) hil
              obtain ⟨b3, o3, er, _, e2⟩ := (g2.below (hbo.mono hsz)).at_ m (by omega)
              obtain ⟨rfl, rfl⟩ : bl = b3 ∧ ol = o3 := by injection er with er; injection er with h1 h2 _; exact ⟨h1, h2⟩
              have z1 : (m : Int) + 1 < (l.length : Int) := by omega
              have z2 : (m : Int) < (l.length : Int) := by omega
              have z3 : (0 : Int) ≤ (m : Int) := by omega
              have z4 : (0 : Int) ≤ (m : Int) + 1 := by omega
              have Hu := bx (show ordUpto l (m + 1 + 1) = decide (l[m + 1] ≤ l[m]) by rw [ordUpto_succ, HNO3.out, ordAt_eq (by omega) hil]; rfl)
              have Hb := bx (fun hb : ordUpto l (m + 1 + 1) = true => show badOrd l = true from ordUpto_mono (by omega) hb)
              clear er
              generalize l[m + 1] = y at *
              generalize l[m]'(by omega) = z at *
              by_cases hyz : y ≤ z
              · have HX2 := bx (HX.out.symm.trans (check_ord HD.out HR.out (Ha.out (Hb.out (by rw [Hu.out]; simpa using hyz)))))
                go_wp2_with fail
                go_quiet (fail)
                go_wp2
                go_ret
                exact ⟨ret_int HX2.out.symm, hb1.trans ((below_drewN hbW _).mono hb1.size)⟩
              · have HU2 := bx (show ordUpto l (m + 1 + 1) = false by rw [Hu.out]; simpa using hyz)
                go_wp2_with fail
                go_quiet (fail)
                go_wp2
                go_roundw
                case rel => exact ⟨m + 1, by omega, by go_num, HU2.out, below_drewN hbo _⟩
                case measure => simp [intOf]; omega
            · have Hbad := bx (show badOrd l = false by
                cases h : badOrd l
                · rfl
                · have := ordUpto_mono (k := l.length) (m := m + 1) (by omega) h
                  rw [HNO3.out] at this; cases this)
              go_wp2
              go_roundw
              case rel => exact ⟨k + 1, by omega, by go_num, by rw [Hs.out, HNO2.out, Hbad.out]; rfl, hbW⟩
              case measure => simp [intOf]; omega
        · obtain rfl : k = sh.length := by omega
          have HR2 := bx (show sh.any badOrd = false by have := HNO2.out; rwa [List.take_of_length_le (Nat.le_refl _)] at this)
          have HX2 := bx (HX.out.symm.trans (check_fine HD.out HR.out HR2.out))
          go_wp2
          go_ret
          exact ⟨ret_int HX2.out.symm, hb1.trans (hbr.mono hb1.size)⟩
end Go.Proofs.Ytlogokjjphlkkaa.Dg
namespace Go.Proofs.Ytlogokjjphlkkaa.Dg
open Go.RowKit

theorem outB_lt {n s : Int} (h : s < 0) : outB n s = true := by unfold outB; rw [decide_eq_true h]; rfl
theorem outB_ge {n s : Int} (h : n ≤ s) : outB n s = true := by unfold outB; rw [decide_eq_true h]; simp
theorem outB_in {n s : Int} (h : ¬ s < 0) (h' : ¬ n ≤ s) : outB n s = false := by unfold outB; rw [decide_eq_false h, decide_eq_false h']; rfl
end Go.Proofs.Ytlogokjjphlkkaa.Dg
namespace Go.Proofs.Ytlogokjjphlkkaa.Dg
open Go.RowKit

/-- the slice u of numbers xs, wherever it lies below block B -/
structure Src (w : World) (B : Nat) (u : Value) (xs : List Int) : Prop where
  out : (u = .slice none 0 0 ∧ xs = []) ∨ ∃ b off c, u = .slice (some ⟨b, off, none⟩) xs.length c ∧ ∀ k (hk : k < xs.length), b < B ∧ w.cell? ⟨b, off + k, none⟩ = some (.int .i64 xs[k])
theorem Src.below {w w' : World} {B : Nat} {u : Value} {xs : List Int} (h : Src w B u xs) (hb : Below B w w') : Src w' B u xs := by
  rcases h.out with h | ⟨b, off, c, e, h⟩
  · exact ⟨.inl h⟩
  · exact ⟨.inr ⟨b, off, c, e, fun k hk => ⟨(h k hk).1, (hb.cell (p := ⟨b, off + k, none⟩) (h k hk).1).trans (h k hk).2⟩⟩⟩
theorem Src.more {w : World} {B B' : Nat} {u : Value} {xs : List Int} (h : Src w B u xs) (hB : B ≤ B') : Src w B' u xs := by
  rcases h.out with h | ⟨b, off, c, e, h⟩
  · exact ⟨.inl h⟩
  · exact ⟨.inr ⟨b, off, c, e, fun k hk => ⟨by have := (h k hk).1; omega, (h k hk).2⟩⟩⟩
theorem Src.form {w : World} {B : Nat} {u : Value} {xs : List Int} (h : Src w B u xs) : ∃ A c, u = .slice A xs.length c := by
  rcases h.out with ⟨rfl, rfl⟩ | ⟨b, off, c, rfl, h⟩
  · exact ⟨_, _, rfl⟩
  · exact ⟨_, _, rfl⟩
set_option maxRecDepth 100000 in
theorem src_of_own {w : World} {base n : Nat} {u : Value} {l : List Int} (h : w.ownsRow base 3 1 u n (ic l)) : Src w w.heap.size u l := by
  have hn : l.length = n := by have := h.1; rw [ic_len] at this; omega
  subst hn
  rcases h.2 with ⟨rfl, h0⟩ | ⟨g, cap, cur, rfl, hg, hh, _⟩
  · exact ⟨.inl ⟨rfl, List.eq_nil_of_length_eq_zero h0⟩⟩
  · refine ⟨.inr ⟨g, 0, cap, rfl, fun k hk => ⟨(Array.getElem?_eq_some_iff.1 hh).1, ?_⟩⟩⟩
    have c1 := h.cells (g := g) rfl k (.int .i64 l[k]) (by simp [ic, hk])
    rw [← c1]
    unfold Addr.add
    split
    · rename_i h0; rw [h0]
    · rfl
set_option maxRecDepth 100000 in
theorem append_src {P : Program} {w : World} {ops : Array Oper} {rest : List Oper} {o : Oper} {a : Act} {Q : Exit → Act → World → Prop} (hgd : o.guard = none) (s x : Operand) (t : TypeId)
    (ho : o.op = .call { callee := .builtin .append, args := #[s, x], argTypes := #[t, t] })
    (base : Nat) (e : TypeId) (i : TypeInfo) (z : Value) (bytes : Nat) (ht : P.underlying t = some (.slice e)) (hi : P.info? e = some i) (hz : i.zero = some z)
    (hsize : i.size = 1) (hby : i.bytes = bytes) (hzs : z.cells.size = 1)
    (v : Value) (n : Nat) (xs : List Int) (hs : a.eval s = v) (hown : w.ownsRow base e 1 v n (ic xs))
    (B : Nat) (u : Value) (ys : List Int) (hx : a.eval x = u) (hsrc : Src w B u ys)
    (h63 : n + ys.length ≤ maxLen) (hbytes : (n + ys.length) * bytes ≤ 140737488355328) (hbase : base ≤ w.heap.size)
    (h : ∀ v' w', w'.ownsRow base e 1 v' (n + ys.length) (ic (xs ++ ys)) → w.grownBy w' v.ownBlock → wpList P ops Q rest (a.put o.dst v') w') : wpList P ops Q (o :: rest) a w := by
  rcases hsrc.out with ⟨hu, rfl⟩ | ⟨b, off, c, hu, hc⟩
  · refine wpList_append_own_none hgd s x t ho base e i 1 ht hi v n (ic xs) hs hown (hx.trans hu) (h v w ?_ (World.grownBy.refl w _))
    simpa using hown
  · refine wpList_append_own w hgd s x t ho base e i z 1 bytes ht hi hz hsize hby hzs (by decide) v n (ic xs) hs hown ⟨b, off, none⟩ ys.length c (ic ys) (hx.trans hu) (by simp [ic]) ?_ (ic_one _) h63 hbytes hbase fun v' w' k1 k2 _ => h v' w' (by rw [ic_append]; exact k1) k2
    intro j u hj
    have hjl : j < ys.length := by
      have := (List.getElem?_eq_some_iff.1 hj).1
      simpa [ic] using this
    have e1 := (hc j hjl).2
    rw [show (⟨b, off, none⟩ : Addr).add j = ⟨b, off + j, none⟩ from Addr.add_mid b off j, e1]
    simpa [ic, hjl] using hj
/-- what slices.Grow of nil answers -/
def GrowPost (w : World) (e : Ending) (w' : World) : Prop := ∃ v, e = .returned v ∧ w'.ownsRow w.heap.size 3 1 v 0 [] ∧ Below w.heap.size w w'
set_option maxRecDepth 100000 in
theorem grow_calls (n : Nat) (w : World) (hn : n ≤ 1000) : Calls Try.prog 174 #[.slice none 0 0, .int .i64 n] w (GrowPost w) := by
  obtain ⟨i0, hi, hz0, hz1, hz2⟩ := info_parts Try.infoInt
  by_cases h0 : n = 0
  · subst h0
    go_enter Try.func174, Try.ntmps174
    go_wp2
    go_ret
    exact ⟨_, rfl, World.ownsRow_nil _ _ _ _, Below.refl _ _⟩
  · have hp : 0 < n := by omega
    have happ := Lib.run_append_nil_zeros (P := Try.prog) w 22 3 22 3 i0 (.int .i64 0) .i64 .i64 Try.underlying22 Try.underlying3 hi hz0 n hp (by omega) (by omega) (by rw [hz2]; omega)
    have hge := grownCap_ge w n 0 3
    have hle := grownCap_le_maxLen w n 0 3 (by unfold maxLen; omega)
    generalize grownCap w n 0 3 = cap at *
    have hZs : (Builtin.zeroCells (Value.int .i64 0).cells n ++ Builtin.zeroCells (Value.int .i64 0).cells (cap - n)).size = cap := by simp [size_zeroCells, Value.cells]; omega
    generalize Builtin.zeroCells (Value.int .i64 0).cells n ++ Builtin.zeroCells (Value.int .i64 0).cells (cap - n) = Z at *
    clear h0
    go_enter Try.func174, Try.ntmps174
    go_wp2_with (at_builtin; refine Lib.wpList_append_run _ rfl _ _ _ _ rfl _ _ rfl rfl _ _ happ ?_)
    go_ret
    refine ⟨_, rfl, ⟨rfl, .inr ⟨w.heap.size, cap, Z, rfl, Nat.le_refl _, ?_, Nat.zero_le _, hle, by omega, rfl⟩⟩, ?_⟩
    · exact heap_alloc_new w _
    · exact ((Below.refl _ w).alloc (Nat.le_refl _) _).drew
set_option maxRecDepth 100000 in
theorem concat_calls (b : Nat) (u v : Value) (xs ys : List Int) (w : World) (hb : b < w.heap.size) (c0 : w.cell? ⟨b, 0, none⟩ = some u) (c1 : w.cell? ⟨b, 1, none⟩ = some v) (h0 : Src w w.heap.size u xs) (h1 : Src w w.heap.size v ys) (hx : xs.length ≤ 400) (hy : ys.length ≤ 400) :
    Calls Try.prog 156 #[.slice (some ⟨b, 0, none⟩) 2 2] w (RowPost w (xs ++ ys)) := by
  obtain ⟨i0, hi, hz0, hz1, hz2⟩ := info_parts Try.infoInt
  obtain ⟨AX, cx, rfl⟩ := h0.form
  obtain ⟨AY, cy, rfl⟩ := h1.form
  have Hx := bx h0
  have Hy := bx h1
  clear h0 h1
  go_enter Try.func156, Try.ntmps156
  go_wp2
  go_loopw [3, 5, 11] (fun t _ i wr => wr = w ∧ ((i = .int .i64 0 ∧ t = .int .i64 0) ∨ (i = .int .i64 1 ∧ t = .int .i64 (xs.length : Nat)) ∨ (i = .int .i64 2 ∧ t = .int .i64 (xs.length + ys.length : Nat)))) (fun _ _ i _ => 2 - (intOf i).toNat)
  case atStart => exact ⟨rfl, .inl ⟨rfl, rfl⟩⟩
  case round =>
    obtain ⟨rfl, (⟨rfl, rfl⟩ | ⟨rfl, rfl⟩ | ⟨rfl, rfl⟩)⟩ := hrel
    · go_wp2
      go_roundw
      case rel => exact ⟨trivial, .inr (.inl ⟨rfl, by go_num⟩)⟩
      case measure => simp [intOf]
    · go_wp2
      go_roundw
      case rel => exact ⟨trivial, .inr (.inr ⟨rfl, by go_num⟩)⟩
      case measure => simp [intOf]
    · go_wp2_with fail
      refine (grow_calls (xs.length + ys.length) wr (by omega)).mono ?_
      rintro e w1 ⟨v0, rfl, o0, hb0⟩
      have HO := bx o0
      clear o0
      obtain ⟨W, rfl⟩ : ∃ W : World, W = wr := ⟨_, rfl⟩
      have H0 := bx HO.out
      have hsz0 := hb0.size
      clear HO
      go_wp2
      go_loopw [6, 8, 27] (fun s _ i wr => ∃ zs : List Int, ((i = .int .i64 0 ∧ zs = []) ∨ (i = .int .i64 1 ∧ zs = xs) ∨ (i = .int .i64 2 ∧ zs = xs ++ ys)) ∧ wr.ownsRow W.heap.size 3 1 s zs.length (ic zs) ∧ Below W.heap.size W wr) (fun _ _ i _ => 2 - (intOf i).toNat)
      case atStart => exact ⟨[], .inl ⟨rfl, rfl⟩, H0.out, hb0⟩
      case round =>
        obtain ⟨zs, hz, hown, hbw⟩ := hrel
        have hsz := hbw.size
        have d0 := (hbw.cell (p := ⟨b, 0, none⟩) hb).trans c0
        have d1 := (hbw.cell (p := ⟨b, 1, none⟩) hb).trans c1
        rcases hz with (⟨rfl, rfl⟩ | ⟨rfl, rfl⟩ | ⟨rfl, rfl⟩)
        · have H1 := bx ((Hx.out.below hbw).more hsz)
          clear H0
          go_wp2_with (at_builtin; refine append_src rfl _ _ 22 rfl W.heap.size 3 i0 (.int .i64 0) 8 Try.underlying22 hi hz0 hz1 hz2 rfl _ _ [] rfl hown wr.heap.size _ xs rfl H1.out (by unfold maxLen; (try simp only [List.length_nil]); omega) (by (try simp only [List.length_nil]); omega) hsz ?_; intro v' w5 o5 g5)
          have hb5 : Below W.heap.size W w5 := hbw.grown g5 hsz (fun g hg => (hown.lt g hg).1)
          go_roundw
          case rel => exact ⟨_, .inr (.inl ⟨rfl, rfl⟩), by simpa using o5, hb5⟩
          case measure => simp [intOf]
        · have H1 := bx ((Hy.out.below hbw).more hsz)
          clear H0
          go_wp2_with (at_builtin; refine append_src rfl _ _ 22 rfl W.heap.size 3 i0 (.int .i64 0) 8 Try.underlying22 hi hz0 hz1 hz2 rfl _ _ zs rfl hown wr.heap.size _ ys rfl H1.out (by unfold maxLen; (try simp only [List.length_nil]); omega) (by (try simp only [List.length_nil]); omega) hsz ?_; intro v' w5 o5 g5)
          have hb5 : Below W.heap.size W w5 := hbw.grown g5 hsz (fun g hg => (hown.lt g hg).1)
          go_roundw
          case rel => exact ⟨_, .inr (.inr ⟨rfl, rfl⟩), by simpa using o5, hb5⟩
          case measure => simp [intOf]
        · obtain ⟨A', c', rfl⟩ := slice_form hown
          go_wp2
          go_ret
          exact ⟨A', c', rfl, hown, hbw⟩
end Go.Proofs.Ytlogokjjphlkkaa.Dg
namespace Go.Proofs.Ytlogokjjphlkkaa.Dg
open Go.RowKit

theorem src_take {w : World} {B g c : Nat} {l : List Int} {k : Nat} (h : ∀ j (hj : j < l.length), g < B ∧ w.cell? ⟨g, j, none⟩ = some (.int .i64 l[j])) (hk : k ≤ l.length) : Src w B (.slice (some ⟨g, 0, none⟩) k c) (l.take k) := by
  refine ⟨.inr ⟨g, 0, c, by rw [List.length_take, Nat.min_eq_left hk], fun j hj => ?_⟩⟩
  have hj' : j < l.length := by rw [List.length_take] at hj; omega
  rw [Nat.zero_add, List.getElem_take]
  exact h j hj'
set_option maxRecDepth 100000 in
theorem src_drop {w : World} {B g c : Nat} {l : List Int} {k : Nat} (h : ∀ j (hj : j < l.length), g < B ∧ w.cell? ⟨g, j, none⟩ = some (.int .i64 l[j])) (hk : k < l.length) (c' : Nat) (hc : l.length ≤ c) :
    Src w B (.slice (if c = k + 1 then some ⟨g, 0, none⟩ else some ⟨g, k + 1, none⟩) (l.length - (k + 1)) c') (l.drop (k + 1)) := by
  by_cases hcc : c = k + 1
  · have : l.drop (k + 1) = [] := List.drop_eq_nil_of_le (by omega)
    rw [if_pos hcc, this]
    exact ⟨.inr ⟨g, 0, c', by rw [show l.length - (k + 1) = 0 by omega]; rfl, fun j hj => by simp at hj⟩⟩
  · rw [if_neg hcc]
    refine ⟨.inr ⟨g, k + 1, c', by rw [List.length_drop], fun j hj => ?_⟩⟩
    have hj' : k + 1 + j < l.length := by rw [List.length_drop] at hj; omega
    rw [List.getElem_drop]
    exact h (k + 1 + j) hj'
set_option maxRecDepth 100000 in
theorem own_at {w : World} {base c n : Nat} {l : List Int} {g : Nat} (h : w.ownsRow base 3 1 (.slice (some ⟨g, 0, none⟩) n c) n (ic l)) : (∀ j (hj : j < l.length), g < w.heap.size ∧ w.cell? ⟨g, j, none⟩ = some (.int .i64 l[j])) ∧ n ≤ c := by
  have hn : l.length = n := by have := h.1; rw [ic_len] at this; omega
  rcases h.2 with ⟨h0, _⟩ | ⟨g', cap, cur, hv, hg, hh, hc, _⟩
  · cases h0
  · injection hv with h1 h2 h3
    injection h1 with h1
    injection h1 with h1
    subst h1 h3
    refine ⟨fun j hj => ⟨(Array.getElem?_eq_some_iff.1 hh).1, ?_⟩, hc⟩
    have c1 := h.cells (g := g) rfl j (.int .i64 l[j]) (by simp [ic, hj])
    rw [← c1]
    unfold Addr.add
    split
    · rename_i h0; rw [h0]
    · simp
theorem certOf_eq' (sh : List (List Int)) (seen clear : List Int) : certOf sh seen clear = if expl sh (cand sh clear) seen [] then certN sh seen (cand sh clear) (cand sh clear).length else [] := rfl
set_option maxRecDepth 100000 in
set_option maxHeartbeats 1600000 in
theorem certain_calls (n : Int) (AG : Option Addr) (cG : Nat) (sh : List (List Int)) (AS : Option Addr) (cS : Nat) (seen : List Int) (AC : Option Addr) (cC : Nat) (clear : List Int) (w : World)
    (hl : Lists w w.heap.size AG sh) (hn : sh.length ≤ 90) (h1 : Ints w w.heap.size AS seen) (hm1 : seen.length ≤ 9223372036854775807) (h2 : Ints w w.heap.size AC clear) (hm2 : clear.length ≤ 9223372036854775807) :
    Calls Try.prog 124 #[.agg #[.int .i64 n, .slice AG sh.length cG], .slice AS seen.length cS, .slice AC clear.length cC] w (RowPost w (certOf sh seen clear)) := by
  obtain ⟨i0, hi, hz0, hz1, hz2⟩ := info_parts Try.infoInt
  obtain ⟨W1, hW1⟩ : ∃ W1, w.alloc (.cells #[.int .i64 n, .slice AG sh.length cG] 108) = W1 := ⟨_, rfl⟩
  have s1 : W1.heap.size = w.heap.size + 1 := by rw [← hW1]; simp
  have hb1 : Below w.heap.size w W1 := by rw [← hW1]; exact (Below.refl _ _).alloc (Nat.le_refl _) _
  have hG1 : GBox W1 W1.heap.size w.heap.size n sh := by rw [s1, ← hW1]; exact gbox_new w n AG cG sh hl (by omega)
  have hS1 := (h1.below hb1).more hb1.size
  have hC1 := (h2.below hb1).more hb1.size
  obtain ⟨_, _, gi0, AGi, cGi, gi1, hlG⟩ := hG1
  have hcl := cand_len sh clear
  have hce := certOf_eq' sh seen clear
  obtain ⟨l, hcand⟩ : ∃ l, cand sh clear = l := ⟨_, rfl⟩
  rw [hcand] at hcl hce
  have HC := bx hcand
  have HCE := bx hce
  clear hcand hce
  go_enter Try.func124, Try.ntmps124
  go_wp2_with fail
  clear hW1 hl h1 h2
  refine (cand_calls n AGi cGi sh AC cC clear W1 hlG (by omega) hC1 hm2).mono ?_
  rintro e W2 ⟨A8, c8, rfl, o8, hb2⟩
  rw [HC.out] at o8 ⊢
  have hs2 := hb2.size
  have c0 : W2.cell? ⟨w.heap.size, 0, none⟩ = some (.int .i64 n) := (hb2.cell (by omega)).trans gi0
  have c1 : W2.cell? ⟨w.heap.size, 1, none⟩ = some (.slice AGi sh.length cGi) := (hb2.cell (by omega)).trans gi1
  have hl2 := (hlG.below hb2).more hs2
  have hS2 := (hS1.below hb2).more hs2
  have hI2 := ints_of_own o8
  cases hv : expl sh l seen []
  · have HV := bx hv
    have HE := bx (show certOf sh seen clear = [] by rw [HCE.out, hv]; rfl)
    clear hv
    go_wp2_with fail
    refine (explains_calls n AGi cGi sh A8 c8 l AS cS seen none 0 [] W2 hl2 (by omega) hI2 (by omega) hS2 hm1 Ints.nil (by simp) false HV.out).mono ?_
    rintro e W3 ⟨rfl, hb3⟩
    go_wp2
    go_ret
    exact ⟨none, 0, by rw [HE.out]; rfl, by rw [HE.out]; exact World.ownsRow_nil _ _ _ _, hb1.trans ((hb2.trans (hb3.mono hs2)).mono hb1.size)⟩
  · have HV := bx hv
    have HE := bx (show certOf sh seen clear = certN sh seen l l.length by rw [HCE.out, hv]; rfl)
    clear hv
    go_wp2_with fail
    refine (explains_calls n AGi cGi sh A8 c8 l AS cS seen none 0 [] W2 hl2 (by omega) hI2 (by omega) hS2 hm1 Ints.nil (by simp) true HV.out).mono ?_
    rintro e W3 ⟨rfl, hb3⟩
    have hb23 := hb2.trans (hb3.mono hs2)
    have hs3 := hb3.size
    have o83 := own_call o8 hb3
    clear c0 c1 hl2 hS2 hI2
    go_wp2
    go_loopw [8, 9, 10, 21] (fun v _ _ i wr => ∃ k : Nat, k ≤ l.length ∧ i = .int .i64 k ∧ wr.ownsRow W3.heap.size 3 1 v (certN sh seen l k).length (ic (certN sh seen l k)) ∧ Below W3.heap.size W3 wr) (fun _ _ _ i _ => l.length - (intOf i).toNat)
    case atStart => exact ⟨0, Nat.zero_le _, rfl, World.ownsRow_nil _ _ _ _, Below.refl _ _⟩
    case round =>
      obtain ⟨k, hk, rfl, hown, hbw⟩ := hrel
      have hsz := hbw.size
      have hbW1 := hb23.trans (hbw.mono (by omega))
      have c0 : wr.cell? ⟨w.heap.size, 0, none⟩ = some (.int .i64 n) := (hbW1.cell (by omega)).trans gi0
      have c1 : wr.cell? ⟨w.heap.size, 1, none⟩ = some (.slice AGi sh.length cGi) := (hbW1.cell (by omega)).trans gi1
      have o8w := o83.kept (row := none) ⟨hbw.os, hbw.tape, hbw.output, hbw.size, fun i hi _ => hbw.block i hi⟩ (by cases (Value.slice A8 l.length c8).ownBlock <;> simp)
      by_cases hlt : k < l.length
      · obtain ⟨g, cap, hv, _, _⟩ := o8w.form (by omega)
        obtain ⟨rfl, rfl⟩ : A8 = some ⟨g, 0, none⟩ ∧ c8 = cap := by injection hv with h1 h2 h3; exact ⟨h1, h3⟩
        obtain ⟨hat, hcap⟩ := own_at o8w
        have hx := (hat k hlt).2
        have SA := bx (src_take (c := c8) hat (show k ≤ l.length by omega))
        have SB0 := src_drop (c := c8) hat hlt (c8 - (k + 1)) hcap
        obtain ⟨o2, ho2⟩ : ∃ o2, (if c8 = k + 1 then some (⟨g, 0, none⟩ : Addr) else some ⟨g, k + 1, none⟩) = some ⟨g, o2, none⟩ := by
          by_cases h : c8 = k + 1
          · exact ⟨0, if_pos h⟩
          · exact ⟨k + 1, if_neg h⟩
        rw [ho2] at SB0
        have SB := bx SB0
        clear SB0
        have z1 : (k : Int) < (l.length : Int) := by omega
        have z2 : (0 : Int) ≤ (k : Int) := by omega
        have z3 : (k : Int) ≤ (c8 : Int) := by omega
        have z4 : (k : Int) + 1 ≤ (l.length : Int) := by omega
        have z5 : (0 : Int) ≤ (k : Int) + 1 := by omega
        have z6 : (l.length : Int) ≤ (c8 : Int) := by omega
        have e1 : IntKind.i64.wrap ((k : Int) + 1) = (k : Int) + 1 := IntWalk.i64_in _ (by omega)
        have e2 : ((k : Int) + 1).toNat = k + 1 := by omega
        clear hat hv
        have hLe := certN_le sh seen l k
        have hlw := bx ((hlG.below hbW1).more (by have := hbW1.size; omega))
        have hSw := bx ((hS1.below hbW1).more (by have := hbW1.size; omega))
        obtain ⟨t, ht⟩ : ∃ t, l.take k ++ l.drop (k + 1) = t := ⟨_, rfl⟩
        have HT := bx ht
        have hlt' : t.length ≤ 9223372036854775807 := by rw [← ht, List.length_append, List.length_take, List.length_drop]; omega
        have hbD := bx (show Below wr.heap.size wr (wr.alloc (.cells #[.slice (some ⟨g, 0, none⟩) k c8, .slice (some ⟨g, o2, none⟩) (l.length - (k + 1)) (c8 - (k + 1))] 22)).drew from ((Below.refl _ wr).alloc (Nat.le_refl _) _).drew)
        have HCC := bx (concat_calls wr.heap.size _ _ (l.take k) (l.drop (k + 1)) (wr.alloc (.cells #[.slice (some ⟨g, 0, none⟩) k c8, .slice (some ⟨g, o2, none⟩) (l.length - (k + 1)) (c8 - (k + 1))] 22)).drew
          (by simp) (by rw [World.cell?_drew, World.cell?_alloc_new]; rfl) (by rw [World.cell?_drew, World.cell?_alloc_new]; rfl) ((SA.out.below hbD.out).more hbD.out.size) ((SB.out.below hbD.out).more hbD.out.size) (by rw [List.length_take]; omega) (by rw [List.length_drop]; omega))
        rw [ht] at HCC
        clear ht SA SB
        cases hv2 : expl sh t seen []
        · have HV2 := bx hv2
          have hbe : ∀ W5 : World, Below (wr.alloc (.cells #[.slice (some ⟨g, 0, none⟩) k c8, .slice (some ⟨g, o2, none⟩) (l.length - (k + 1)) (c8 - (k + 1))] 22)).drew.heap.size (wr.alloc (.cells #[.slice (some ⟨g, 0, none⟩) k c8, .slice (some ⟨g, o2, none⟩) (l.length - (k + 1)) (c8 - (k + 1))] 22)).drew W5 → Below wr.heap.size wr W5 := fun W5 h => hbD.out.trans (h.mono (by simp))
          have HBE := bx hbe
          clear hv2 hbe
          go_wp2_with fail
          go_region_held3 (fun w' => w'.cell? ⟨w.heap.size, 0, none⟩ = some (.int .i64 n) ∧ w'.cell? ⟨w.heap.size, 1, none⟩ = some (.slice AGi sh.length cGi)) (first | go_keep | (go_split_ands; refine ⟨?_, ?_⟩ <;> ((rw [(HBE.out _ hb9).cell (by simp; omega)]; assumption))) | (go_split_ands; refine ⟨?_, ?_⟩ <;> ((rw [hb10.cell (by have := (HBE.out _ hb9).size; simp; omega)]; assumption))))
            (first | (go_at_call 156; refine HCC.out.mono ?_; rintro e w5 ⟨A9, c9, rfl, o9, hb9⟩) | (go_at_call 81; refine (explains_calls n AGi cGi sh A9 c9 t AS cS seen none 0 [] w5 ((hlw.out.below (HBE.out _ hb9)).more (HBE.out _ hb9).size) (by omega) (ints_of_own o9) hlt' ((hSw.out.below (HBE.out _ hb9)).more (HBE.out _ hb9).size) hm1 Ints.nil (by simp) false HV2.out).mono ?_; rintro e w7 ⟨rfl, hb10⟩))
          have hb7 : Below wr.heap.size wr w7 := (HBE.out _ hb9).trans (hb10.mono (HBE.out _ hb9).size)
          have hs7 := hb7.size
          have own7 := own_call hown hb7
          have Hs := bx (show certN sh seen l (k + 1) = certN sh seen l k ++ [l[k]] by rw [certN, HT.out, HV2.out, List.getD_eq_getElem?_getD, List.getElem?_eq_getElem hlt]; rfl)
          generalize l[k] = y at *
          have hb17 : Below W3.heap.size W3 w7 := hbw.trans (hb7.mono hsz)
          go_wp2_with (at_builtin; refine wpList_append_own _ rfl _ _ 22 rfl W3.heap.size 3 i0 (.int .i64 0) 1 8 Try.underlying22 hi hz0 hz1 hz2 rfl (by decide) _ _ _ rfl (own7.alloc _) ⟨w7.heap.size, 0, none⟩ 1 1 [.int .i64 y] rfl rfl (cell_one_new _ _ _) (by simp [Value.oneCell']) (by unfold maxLen; omega) (by omega) (by simp; omega) ?_; intro v' w8 o8' g8 _)
          have hb8 : Below W3.heap.size W3 w8 := (hb17.alloc (by omega) _).grown g8 (by simp; omega) (fun g hg => (hown.lt g hg).1)
          go_roundw
          case rel => exact ⟨k + 1, by omega, by go_num, by rw [Hs.out, ic_append, List.length_append]; exact o8', hb8⟩
          case measure => simp [intOf]; omega
        · have HV2 := bx hv2
          have hbe : ∀ W5 : World, Below (wr.alloc (.cells #[.slice (some ⟨g, 0, none⟩) k c8, .slice (some ⟨g, o2, none⟩) (l.length - (k + 1)) (c8 - (k + 1))] 22)).drew.heap.size (wr.alloc (.cells #[.slice (some ⟨g, 0, none⟩) k c8, .slice (some ⟨g, o2, none⟩) (l.length - (k + 1)) (c8 - (k + 1))] 22)).drew W5 → Below wr.heap.size wr W5 := fun W5 h => hbD.out.trans (h.mono (by simp))
          have HBE := bx hbe
          clear hv2 hbe
          go_wp2_with fail
          go_region_held3 (fun w' => w'.cell? ⟨w.heap.size, 0, none⟩ = some (.int .i64 n) ∧ w'.cell? ⟨w.heap.size, 1, none⟩ = some (.slice AGi sh.length cGi)) (first | go_keep | (go_split_ands; refine ⟨?_, ?_⟩ <;> ((rw [(HBE.out _ hb9).cell (by simp; omega)]; assumption))) | (go_split_ands; refine ⟨?_, ?_⟩ <;> ((rw [hb10.cell (by have := (HBE.out _ hb9).size; simp; omega)]; assumption))))
            (first | (go_at_call 156; refine HCC.out.mono ?_; rintro e w5 ⟨A9, c9, rfl, o9, hb9⟩) | (go_at_call 81; refine (explains_calls n AGi cGi sh A9 c9 t AS cS seen none 0 [] w5 ((hlw.out.below (HBE.out _ hb9)).more (HBE.out _ hb9).size) (by omega) (ints_of_own o9) hlt' ((hSw.out.below (HBE.out _ hb9)).more (HBE.out _ hb9).size) hm1 Ints.nil (by simp) true HV2.out).mono ?_; rintro e w7 ⟨rfl, hb10⟩))
          have hb7 : Below wr.heap.size wr w7 := (HBE.out _ hb9).trans (hb10.mono (HBE.out _ hb9).size)
          have hs7 := hb7.size
          have own7 := own_call hown hb7
          have Hs := bx (show certN sh seen l (k + 1) = certN sh seen l k by rw [certN, HT.out, HV2.out]; rfl)
          go_wp2
          go_roundw
          case rel => exact ⟨k + 1, by omega, by go_num, by rw [Hs.out]; exact own7, hbw.trans (hb7.mono hsz)⟩
          case measure => simp [intOf]; omega
      · obtain rfl : k = l.length := by omega
        obtain ⟨A', c', rfl⟩ := slice_form hown
        go_wp2
        go_ret
        exact ⟨A', c', ret_slice (by rw [HE.out]), by rw [HE.out]; exact own_base hown (by omega), hb1.trans ((hb23.trans (hbw.mono (by omega))).mono hb1.size)⟩
end Go.Proofs.Ytlogokjjphlkkaa.Dg
namespace Go.Proofs.Ytlogokjjphlkkaa.Dg
open Go.RowKit

theorem own_one {X : World} {base : Nat} (hb : base ≤ X.heap.size) (u : Value) (t : TypeId) : (X.alloc (.cells #[u] t)).ownsRow base t 1 (.slice (some ⟨X.heap.size, 0, none⟩) 1 1) 1 [u] :=
  ⟨rfl, .inr ⟨X.heap.size, 1, #[u], rfl, hb, heap_alloc_new X _, Nat.le_refl _, by decide, rfl, rfl⟩⟩
theorem units_at {n m : Nat} (h : m < n) : (units n)[m]'(by simpa [units] using h) = (m : Int) := by simp [units]
theorem units_len (n : Nat) : (units n).length = n := by simp [units]
theorem sets_round {n k m : Nat} (h : m < n) : subs ((units n).drop m) (k + 1) = (subs ((units n).drop (m + 1)) k).map ((m : Int) :: ·) ++ subs ((units n).drop (m + 1)) (k + 1) := by
  rw [subs_round (units n) k m (by rw [units_len]; exact h), units_at h]
theorem sets_end {n k m : Nat} (h : n < m + (k + 1)) : subs ((units n).drop m) (k + 1) = [] := subs_short _ _ (by rw [List.length_drop, units_len]; omega)
/-- what holds at the head of each round of Sets -/
def SetsAt (n k : Nat) (w : World) (T : List (List Int)) (v i : Value) (wr : World) : Prop :=
  ∃ (m : Nat) (ys : List Slc), i = .int .i64 m ∧ m ≤ n + 1 ∧ ys.map (·.s) ++ subs ((units n).drop m) (k + 1) = T ∧ wr.ownsRow w.heap.size 22 1 v ys.length (ys.map Slc.v) ∧ (∀ y ∈ ys, wr.ownsRow w.heap.size 3 1 y.v y.s.length (ic y.s)) ∧ Below w.heap.size w wr
def RestAt (m : Nat) (w wo : World) (ys ys2 : List Slc) (rv v j : Value) (wr : World) : Prop :=
  ∃ (q : Nat) (zs : List Slc), j = .int .i64 q ∧ q ≤ ys2.length ∧ zs.map (·.s) = ys.map (·.s) ++ (ys2.take q).map (fun y => (m : Int) :: y.s) ∧ wr.ownsRow w.heap.size 22 1 v zs.length (zs.map Slc.v) ∧ (∀ y ∈ zs, wr.ownsRow w.heap.size 3 1 y.v y.s.length (ic y.s)) ∧
    Below w.heap.size w wr ∧ wr.ownsRow wo.heap.size 22 1 rv ys2.length (ys2.map Slc.v) ∧ (∀ y ∈ ys2, wr.ownsRow wo.heap.size 3 1 y.v y.s.length (ic y.s)) ∧ (∀ r, v.ownBlock = some r → rv.ownBlock ≠ some r)
set_option maxRecDepth 100000 in
theorem cell_row {w : World} {base n c : Nat} {A : Option Addr} {xs : List Value} {e : TypeId} (h : w.ownsRow base e 1 (.slice A n c) n xs) {q : Nat} (hq : q < n) (v : Value) (hv : xs[q]? = some v) :
    ∃ g, A = some ⟨g, 0, none⟩ ∧ base ≤ g ∧ g < w.heap.size ∧ w.cell? ⟨g, q, none⟩ = some v := by
  obtain ⟨g, cap, e0, hb, hlt⟩ := h.form (by omega)
  injection e0 with e1 _ _
  subst e1
  refine ⟨g, rfl, hb, hlt, ?_⟩
  rw [← h.cells (g := g) rfl q v hv]
  unfold Addr.add
  split
  · rename_i h0; rw [h0]
  · simp
set_option maxRecDepth 100000 in
theorem rest_next {m q : Nat} {w wo wr w5 w7 : World} {ys ys2 zs : List Slc} {rv v : Value} {A5 : Option Addr} {c5 g cap : Nat} {yl : List Int} {hq : q < ys2.length}
    (hy : (ys2[q]).s = yl) (hzs : zs.map (·.s) = ys.map (·.s) ++ (ys2.take q).map (fun y => (m : Int) :: y.s)) (zrow : wr.ownsRow w.heap.size 22 1 v zs.length (zs.map Slc.v)) (zown : ∀ y ∈ zs, wr.ownsRow w.heap.size 3 1 y.v y.s.length (ic y.s))
    (zbw : Below w.heap.size w wr) (rrow : wr.ownsRow wo.heap.size 22 1 rv ys2.length (ys2.map Slc.v)) (rown : ∀ y ∈ ys2, wr.ownsRow wo.heap.size 3 1 y.v y.s.length (ic y.s)) (rne : ∀ r, v.ownBlock = some r → rv.ownBlock ≠ some r)
    (o5 : w5.ownsRow wr.heap.size 3 1 (.slice A5 (yl.length + 1) c5) (yl.length + 1) (ic ((m : Int) :: yl))) (g5 : (wr.alloc (.cells #[.int .i64 m] 3)).grownBy w5 (some wr.heap.size))
    (o7 : w7.ownsRow w.heap.size 22 1 (.slice (some ⟨g, 0, none⟩) (zs.length + 1) cap) (zs.length + 1) (zs.map Slc.v ++ [.slice A5 (yl.length + 1) c5])) (g7 : (w5.alloc (.cells #[.slice A5 (yl.length + 1) c5] 22)).grownBy w7 v.ownBlock)
    (hat : v.ownBlock = some g ∨ g = w5.heap.size + 1) :
    RestAt m w wo ys ys2 rv (.slice (some ⟨g, 0, none⟩) (zs.length + 1) cap) (.int .i64 (q + 1 : Nat)) w7 := by
  have zsz := zbw.size
  have s5 := g5.size
  rw [World.size_alloc] at s5
  have s7 := g7.size
  rw [World.size_alloc] at s7
  have hb5 : Below wr.heap.size wr w5 := ((Below.refl _ wr).alloc (Nat.le_refl _) _).grown g5 (by simp) (fun r e => by cases e; exact Nat.le_refl _)
  have zr5 := (own_call zrow hb5).alloc (.cells #[.slice A5 (yl.length + 1) c5] 22)
  have keep : ∀ {B n : Nat} {u : Value} {xs : List Value}, wr.ownsRow B 3 1 u n xs → w7.ownsRow B 3 1 u n xs := fun h => own_apart ((own_call h hb5).alloc _) zr5 (by decide) g7
  refine ⟨q + 1, zs ++ [⟨A5, c5, (m : Int) :: yl⟩], rfl, hq, ?_, ?_, ?_, ?_, ?_, fun y hy => keep (rown y hy), ?_⟩
  · rw [List.map_append, hzs, List.take_succ_eq_append_getElem hq, List.map_append, List.append_assoc]
    simp only [List.map_cons, List.map_nil, hy]
  · rw [List.length_append, List.map_append]; exact o7
  · intro y hy
    rcases List.mem_append.1 hy with hy | hy
    · exact keep (zown y hy)
    · obtain rfl := List.mem_singleton.1 hy
      exact own_apart ((own_base o5 zsz).alloc _) zr5 (by decide) g7
  · exact (((zbw.trans (hb5.mono zsz)).alloc (by omega) _)).grown g7 (by rw [World.size_alloc]; omega) (fun r e => (own_lt zrow e).1)
  · refine ((own_call rrow hb5).alloc _).kept g7 ?_
    by_cases h : rv.ownBlock = none
    · exact .inl h
    · exact .inr fun e => by
        cases hr : rv.ownBlock with
        | none => exact h hr
        | some r => exact rne r (by first | rw [← e, hr] | rw [e, hr]) hr
  · intro r e e'
    have e : g = r := by simpa [Value.ownBlock] using e
    subst e
    rcases hat with h | h
    · exact rne _ h e'
    · have := (own_lt rrow e').2
      omega
end Go.Proofs.Ytlogokjjphlkkaa.Dg
namespace Go.Proofs.Ytlogokjjphlkkaa.Dg
open Go.RowKit

/-- the explanations of one size -/
def exps (sh : List (List Int)) (seen clear : List Int) (k : Nat) : List (List Int) := (subs (units sh.length) k).filter fun s => expl sh s seen clear
theorem exps_all {sh : List (List Int)} {seen clear : List Int} {k : Nat} (hk : k ≤ sh.length) (h : ∀ j, j < k → exps sh seen clear j = []) (hne : exps sh seen clear k ≠ []) : allOf sh seen clear = exps sh seen clear k := by
  rw [← allOf_ref]; exact firstOf_eq (exps sh seen clear) k h hne _ (by omega)
theorem exps_none {sh : List (List Int)} {seen clear : List Int} (h : ∀ j, j < sh.length + 1 → exps sh seen clear j = []) : allOf sh seen clear = [] := by
  rw [← allOf_ref]; exact firstOf_nil (exps sh seen clear) _ h
theorem exps_take {sh : List (List Int)} {seen clear : List Int} {ys : List Slc} {q : Nat} (hq : q < ys.length) :
    ((ys.take (q + 1)).map (·.s)).filter (fun s => expl sh s seen clear) = if expl sh (ys[q]).s seen clear then ((ys.take q).map (·.s)).filter (fun s => expl sh s seen clear) ++ [(ys[q]).s] else ((ys.take q).map (·.s)).filter (fun s => expl sh s seen clear) := by
  rw [List.take_succ_eq_append_getElem hq, List.map_append, List.filter_append]
  cases h : expl sh (ys[q]).s seen clear <;> simp [h]
/-- what holds at the head of each inner round of All -/
def PickAt (sh : List (List Int)) (seen clear : List Int) (w3 : World) (ys : List Slc) (v j : Value) (wr : World) : Prop :=
  ∃ (q : Nat) (zs : List Slc), j = .int .i64 q ∧ q ≤ ys.length ∧ zs.map (·.s) = ((ys.take q).map (·.s)).filter (fun s => expl sh s seen clear) ∧ (∀ z ∈ zs, z ∈ ys) ∧ zs.length ≤ q ∧ wr.ownsRow w3.heap.size 22 1 v zs.length (zs.map Slc.v) ∧ Below w3.heap.size w3 wr
end Go.Proofs.Ytlogokjjphlkkaa.Dg
namespace Go.Proofs.Ytlogokjjphlkkaa.Dg
open Go.RowKit

end Go.Proofs.Ytlogokjjphlkkaa.Dg
namespace Go.Proofs.Ytlogokjjphlkkaa.Dg
open Go.RowKit

/-- the explanations of the sizes below k -/
def expsBelow (sh : List (List Int)) (seen clear : List Int) (k : Nat) : List (List Int) := (List.range k).flatMap fun j => exps sh seen clear j
theorem expsBelow_succ (sh : List (List Int)) (seen clear : List Int) (k : Nat) : expsBelow sh seen clear (k + 1) = expsBelow sh seen clear k ++ exps sh seen clear k := by
  simp [expsBelow, List.range_succ]
theorem explsOf_eq (sh : List (List Int)) (seen clear : List Int) : explsOf sh seen clear = expsBelow sh seen clear (sh.length + 1) := rfl
def sureB (E : List (List Int)) (u : Int) : Bool := !E.isEmpty && E.all fun s => s.contains u
/-- the answer of the specification after u units -/
def refCertN (sh : List (List Int)) (seen clear : List Int) (k : Nat) : List Int := (units k).filter fun u => sureB (explsOf sh seen clear) u
theorem refCertN_succ (sh : List (List Int)) (seen clear : List Int) (k : Nat) : refCertN sh seen clear (k + 1) = if sureB (explsOf sh seen clear) k then refCertN sh seen clear k ++ [(k : Int)] else refCertN sh seen clear k := by
  rw [refCertN, units_succ, List.filter_append]
  by_cases h : sureB (explsOf sh seen clear) k = true
  · rw [if_pos h]; simp [refCertN, h]
  · rw [if_neg h]; simp [refCertN, h]
theorem refCertN_le (sh : List (List Int)) (seen clear : List Int) (k : Nat) : (refCertN sh seen clear k).length ≤ k := by
  have := List.length_filter_le (fun u => sureB (explsOf sh seen clear) u) (units k)
  simpa [refCertN, units] using this
theorem refCertN_eq (sh : List (List Int)) (seen clear : List Int) : refCertN sh seen clear sh.length = certOf sh seen clear := by
  rw [← certOf_ref]; rfl
/-- some and always, of the explanations seen -/
def SureAt (E : List (List Int)) (u : Int) (a b : Value) : Prop := ∃ x y : Bool, a = .bool x ∧ b = .bool y ∧ x = !E.isEmpty ∧ y = E.all fun s => s.contains u
theorem SureAt.take {E : List (List Int)} {u : Int} {y : Bool} {s : List Int} (hy : y = E.all fun s => s.contains u) : SureAt (E ++ [s]) u (.bool true) (.bool (y && s.contains u)) :=
  ⟨_, _, rfl, rfl, by simp, by rw [List.all_append, ← hy]; simp⟩
end Go.Proofs.Ytlogokjjphlkkaa.Dg
namespace Go.Proofs.Ytlogokjjphlkkaa.Dg
open Go.RowKit

theorem ints_step (X : World) (cs : Array Value) (t : TypeId) (l : List Int) (h : cs.toList = ic l) : Ints (X.alloc (.cells cs t)) (X.heap.size + 1) (some ⟨X.heap.size, 0, none⟩) l := by
  refine ⟨fun k hk => ⟨X.heap.size, 0, rfl, by omega, ?_⟩⟩
  rw [World.cell?_alloc_new, Nat.zero_add, ← Array.getElem?_toList, h]
  simp [ic, hk]
theorem Ints.al {X : World} {B : Nat} {A : Option Addr} {l : List Int} (h : Ints X B A l) (hB : B ≤ X.heap.size) (o : Obj) : Ints (X.alloc o) B A l := h.below (((Below.refl _ _).alloc (Nat.le_refl _) o).mono hB)
theorem Lists.al {X : World} {B : Nat} {A : Option Addr} {l : List (List Int)} (h : Lists X B A l) (hB : B ≤ X.heap.size) (o : Obj) : Lists (X.alloc o) B A l := h.below (((Below.refl _ _).alloc (Nat.le_refl _) o).mono hB)
/-- a literal list of lists: each element lies somewhere below -/
theorem lists_step (X : World) (cs : Array Value) (t : TypeId) (sh : List (List Int)) (h : ∀ k (hk : k < sh.length), ∃ A' c', cs[k]? = some (.slice A' sh[k].length c') ∧ Ints X X.heap.size A' sh[k] ∧ sh[k].length ≤ 9223372036854775807) :
    Lists (X.alloc (.cells cs t)) (X.heap.size + 1) (some ⟨X.heap.size, 0, none⟩) sh := by
  refine ⟨fun k hk => ?_⟩
  obtain ⟨A', c', h1, h2, h3⟩ := h k hk
  refine ⟨X.heap.size, 0, A', c', rfl, by omega, ?_, (h2.al (Nat.le_refl _) _).more (by omega), h3⟩
  rw [World.cell?_alloc_new, Nat.zero_add, h1]
def ringL : List (List Int) := [[0, 1], [1, 2], [2, 3], [0, 3]]
def i64c (n : Int) : Value := .int .i64 n
set_option maxRecDepth 100000 in
theorem ring_lists (X : World) : Lists (((((X.alloc (.cells #[.int .i64 0, .int .i64 1] 3)).alloc (.cells #[.int .i64 1, .int .i64 2] 3)).alloc (.cells #[.int .i64 2, .int .i64 3] 3)).alloc (.cells #[.int .i64 0, .int .i64 3] 3)).alloc
      (.cells #[.slice (some ⟨X.heap.size, 0, none⟩) 2 2, .slice (some ⟨X.heap.size + 1, 0, none⟩) 2 2, .slice (some ⟨X.heap.size + 1 + 1, 0, none⟩) 2 2, .slice (some ⟨X.heap.size + 1 + 1 + 1, 0, none⟩) 2 2] 22)) (X.heap.size + 1 + 1 + 1 + 1 + 1) (some ⟨X.heap.size + 1 + 1 + 1 + 1, 0, none⟩) ringL := by
  obtain ⟨X1, h1⟩ : ∃ X1, X.alloc (.cells #[.int .i64 0, .int .i64 1] 3) = X1 := ⟨_, rfl⟩
  obtain ⟨X2, h2⟩ : ∃ X2, X1.alloc (.cells #[.int .i64 1, .int .i64 2] 3) = X2 := ⟨_, rfl⟩
  obtain ⟨X3, h3⟩ : ∃ X3, X2.alloc (.cells #[.int .i64 2, .int .i64 3] 3) = X3 := ⟨_, rfl⟩
  obtain ⟨X4, h4⟩ : ∃ X4, X3.alloc (.cells #[.int .i64 0, .int .i64 3] 3) = X4 := ⟨_, rfl⟩
  have z1 : X1.heap.size = X.heap.size + 1 := by rw [← h1]; simp
  have z2 : X2.heap.size = X.heap.size + 1 + 1 := by rw [← h2]; simp [z1]
  have z3 : X3.heap.size = X.heap.size + 1 + 1 + 1 := by rw [← h3]; simp [z2]
  have z4 : X4.heap.size = X.heap.size + 1 + 1 + 1 + 1 := by rw [← h4]; simp [z3]
  have i1 := ints_step X #[.int .i64 0, .int .i64 1] 3 [0, 1] rfl
  have i2 := ints_step X1 #[.int .i64 1, .int .i64 2] 3 [1, 2] rfl
  have i3 := ints_step X2 #[.int .i64 2, .int .i64 3] 3 [2, 3] rfl
  have i4 := ints_step X3 #[.int .i64 0, .int .i64 3] 3 [0, 3] rfl
  rw [h1] at i1
  rw [h2, z1] at i2
  rw [h3, z2] at i3
  rw [h4, z3] at i4
  have j1 := i1.al (by omega) (.cells #[.int .i64 1, .int .i64 2] 3)
  rw [h2] at j1
  have j2 := j1.al (by omega) (.cells #[.int .i64 2, .int .i64 3] 3)
  rw [h3] at j2
  have j3 := (j2.al (by omega) (.cells #[.int .i64 0, .int .i64 3] 3)).more (B' := X4.heap.size) (by omega)
  rw [h4] at j3
  have k1 := i2.al (by omega) (.cells #[.int .i64 2, .int .i64 3] 3)
  rw [h3] at k1
  have k2 := (k1.al (by omega) (.cells #[.int .i64 0, .int .i64 3] 3)).more (B' := X4.heap.size) (by omega)
  rw [h4] at k2
  have l1 := (i3.al (by omega) (.cells #[.int .i64 0, .int .i64 3] 3)).more (B' := X4.heap.size) (by omega)
  rw [h4] at l1
  have m1 := i4.more (B' := X4.heap.size) (by omega)
  rw [h1, h2, h3, h4, ← z4]
  refine lists_step X4 _ _ ringL fun k hk => ?_
  match k, hk with
  | 0, _ => exact ⟨_, _, rfl, j3, by simp [ringL]⟩
  | 1, _ => exact ⟨_, _, rfl, k2, by simp [ringL]⟩
  | 2, _ => exact ⟨_, _, rfl, l1, by simp [ringL]⟩
  | 3, _ => exact ⟨_, _, rfl, m1, by simp [ringL]⟩
theorem ring_calls (w : World) : Calls Try.prog 122 #[] w (GraphPost w 4 ringL) := by
  go_enter Try.func122, Try.ntmps122
  go_wp2
  refine bodyPost_ret (v := .agg #[.int .i64 4, .slice (some ⟨w.heap.size + 1 + 1 + 1 + 1 + 1, 0, none⟩) 4 4]) (by simp [results, Try.results122, go_sem]) rfl ⟨some ⟨w.heap.size + 1 + 1 + 1 + 1 + 1, 0, none⟩, 4, rfl, ?_, ?_⟩
  · have h := ring_lists (w.alloc (.cells #[.int .i64 4, .slice (some ⟨w.heap.size + 1 + 1 + 1 + 1 + 1, 0, none⟩) 4 4] 108))
    simp only [World.size_alloc] at h ⊢
    exact h
  · exact ((((((Below.refl _ w).alloc (Nat.le_refl _) _).alloc (by simp) _).alloc (by simp; omega) _).alloc (by simp; omega) _).alloc (by simp; omega) _).alloc (by simp; omega) _
end Go.Proofs.Ytlogokjjphlkkaa.Dg
namespace Go.Proofs.Ytlogokjjphlkkaa.Dg
open Go.RowKit

/-- a list of numbers that a call answers -/
def IntsPost (w : World) (l : List Int) (e : Ending) (Y : World) : Prop := ∃ (A : Option Addr) (c : Nat), e = .returned (.slice A l.length c) ∧ Ints Y Y.heap.size A l ∧ Below w.heap.size w Y
def LPost (w : World) (T : List (List Int)) (e : Ending) (Y : World) : Prop := ∃ (A : Option Addr) (c : Nat), e = .returned (.slice A T.length c) ∧ Lists Y Y.heap.size A T ∧ Below w.heap.size w Y
def SomePost (w : World) (s : List Int) (e : Ending) (Y : World) : Prop := ∃ (A : Option Addr) (c : Nat), e = .returned (.tuple #[.slice A s.length c, .bool true]) ∧ Ints Y Y.heap.size A s ∧ Below w.heap.size w Y
theorem row_ints {w : World} {l m : List Int} (hm : l = m) {e : Ending} {Y : World} (h : RowPost w l e Y) : IntsPost w m e Y := by
  subst hm
  obtain ⟨A, c, rfl, h1, h2⟩ := h
  exact ⟨A, c, rfl, ints_of_own h1, h2⟩
theorem rows_lists {w : World} {T U : List (List Int)} (hT : T = U) {e : Ending} {Y : World} (h : ListsPost w T e Y) : LPost w U e Y := by
  subst hT
  obtain ⟨ys, A, c, rfl, rfl, h1, h2, h3⟩ := h
  exact ⟨A, c, by rw [List.length_map], lists_of_own h1 h2, h3⟩
section
variable (n : Int) (AG : Option Addr) (cG : Nat) (sh : List (List Int)) (AS : Option Addr) (cS : Nat) (seen : List Int) (AC : Option Addr) (cC : Nat) (clear : List Int) (w : World)
    (hl : Lists w w.heap.size AG sh) (hn : sh.length ≤ 20) (h1 : Ints w w.heap.size AS seen) (hm1 : seen.length ≤ 9223372036854775807) (h2 : Ints w w.heap.size AC clear) (hm2 : clear.length ≤ 9223372036854775807)
include hl hn h1 hm1 h2 hm2
theorem least_some (s : List Int) (hs : leastOf sh seen clear = some s) : Calls Try.prog 80 #[.agg #[.int .i64 n, .slice AG sh.length cG], .slice AS seen.length cS, .slice AC clear.length cC] w (SomePost w s) := by
  refine (least_calls n AG cG sh AS cS seen AC cC clear w hl (by omega) h1 hm1 h2 hm2).mono ?_
  rintro e Y (⟨t, A, c, ht, rfl, ho, hb⟩ | ⟨ht, rfl, hb⟩)
  · rw [hs] at ht; cases ht; exact ⟨A, c, rfl, ints_of_own ho, hb⟩
  · rw [hs] at ht; cases ht
theorem least_no (hs : leastOf sh seen clear = none) : Calls Try.prog 80 #[.agg #[.int .i64 n, .slice AG sh.length cG], .slice AS seen.length cS, .slice AC clear.length cC] w fun e Y => e = .returned (.tuple #[.slice none 0 0, .bool false]) ∧ Below w.heap.size w Y := by
  refine (least_calls n AG cG sh AS cS seen AC cC clear w hl (by omega) h1 hm1 h2 hm2).mono ?_
  rintro e Y (⟨t, A, c, ht, rfl, ho, hb⟩ | ⟨ht, rfl, hb⟩)
  · rw [hs] at ht; cases ht
  · exact ⟨rfl, hb⟩
theorem all_val (T : List (List Int)) (hT : allOf sh seen clear = T) : Calls Try.prog 123 #[.agg #[.int .i64 n, .slice AG sh.length cG], .slice AS seen.length cS, .slice AC clear.length cC] w (LPost w T) :=
  (all_calls n AG cG sh AS cS seen AC cC clear w hl hn h1 hm1 h2 hm2).mono fun _ _ h => rows_lists hT h
theorem certain_val (l : List Int) (hT : certOf sh seen clear = l) : Calls Try.prog 124 #[.agg #[.int .i64 n, .slice AG sh.length cG], .slice AS seen.length cS, .slice AC clear.length cC] w (IntsPost w l) :=
  (certain_calls n AG cG sh AS cS seen AC cC clear w hl (by omega) h1 hm1 h2 hm2).mono fun _ _ h => row_ints hT h
end
theorem sameI_val (A B : Option Addr) (c d : Nat) (xs ys : List Int) (w : World) (h1 : Ints w w.heap.size A xs) (h2 : Ints w w.heap.size B ys) (hm : xs.length ≤ 9223372036854775807) (x : Bool) (hx : decide (xs = ys) = x) :
    Calls Try.prog 22 #[.slice A xs.length c, .slice B ys.length d] w fun e Y => e = .returned (.bool x) ∧ Below w.heap.size w Y := by
  refine (same_calls A B c d xs ys w h1 h2 hm).mono ?_
  rintro e Y ⟨rfl, m, rfl⟩
  exact ⟨by rw [hx], below_drewN (Below.refl _ _) m⟩
theorem sameL_val (A B : Option Addr) (c d : Nat) (xs ys : List (List Int)) (w : World) (h1 : Lists w w.heap.size A xs) (h2 : Lists w w.heap.size B ys) (hm : xs.length ≤ 9223372036854775807) (x : Bool) (hx : decide (xs = ys) = x) :
    Calls Try.prog 125 #[.slice A xs.length c, .slice B ys.length d] w fun e Y => e = .returned (.bool x) ∧ Below w.heap.size w Y := by
  refine (sameL_calls A B c d xs ys w h1 h2 hm).mono ?_
  rintro e Y ⟨rfl, m, rfl⟩
  exact ⟨by rw [hx], below_drewN (Below.refl _ _) m⟩
set_option maxRecDepth 100000 in
set_option maxHeartbeats 4000000 in
theorem lives_calls (w : World) : Calls Try.prog 82 #[] w fun e w' => e = .returned (.bool true) ∧ Below w.heap.size w w' := by
  go_enter Try.func82, Try.ntmps82
  go_wp2_with fail
  refine (ring_calls w).mono ?_
  rintro e X0 ⟨AR, cR, rfl, hRL, hb⟩
  go_wp2_with fail
  obtain ⟨Z0, hZ0⟩ : ∃ V, X0.alloc (.cells #[.int .i64 0, .int .i64 1, .int .i64 2, .int .i64 3] 3) = V := ⟨_, rfl⟩
  have sZ0 : Z0.heap.size = X0.heap.size + 1 := by rw [← hZ0]; simp
  have bZ0 : Below X0.heap.size X0 Z0 := by rw [← hZ0]; exact (Below.refl _ _).alloc (Nat.le_refl _) _
  have HS := ints_step X0 #[.int .i64 0, .int .i64 1, .int .i64 2, .int .i64 3] 3 [0, 1, 2, 3] rfl
  rw [hZ0] at HS
  obtain ⟨Z1, hZ1⟩ : ∃ V, Z0.alloc (.cells #[.int .i64 4, .slice AR ringL.length cR] 108) = V := ⟨_, rfl⟩
  have sZ1 : Z1.heap.size = X0.heap.size + 1 + 1 := by rw [← hZ1]; simp [sZ0]
  have bZ1 : Below Z0.heap.size Z0 Z1 := by rw [← hZ1]; exact (Below.refl _ _).alloc (Nat.le_refl _) _
  replace HS := bx ((HS.below (bZ1.mono (by omega))).more (B' := Z1.heap.size) (by omega))
  have hby := bZ0.trans (bZ1.mono (by omega))
  have HG := bx ((hRL.below hby).more hby.size)
  have c0 : Z1.cell? ⟨X0.heap.size + 1, 0, none⟩ = some (.int .i64 4) := by rw [← hZ1, ← sZ0, World.cell?_alloc_new]; rfl
  have c1 : Z1.cell? ⟨X0.heap.size + 1, 1, none⟩ = some (.slice AR ringL.length cR) := by rw [← hZ1, ← sZ0, World.cell?_alloc_new]; rfl
  have hbG : X0.heap.size + 1 < Z1.heap.size := by omega
  rw [hZ0, hZ1]
  replace hb := hb.trans (hby.mono hb.size)
  clear hZ0 hZ1 hRL bZ0 bZ1 hby
  refine (least_some 4 AR cR ringL (some ⟨X0.heap.size, 0, none⟩) 4 [0, 1, 2, 3] none 0 [] Z1 HG.out (by decide) HS.out (by simp) Ints.nil (by simp) [0, 2] (by decide +kernel)).mono ?_
  rintro e X1 ⟨Aa, ca, rfl, Ha, hx⟩
  replace HG := bx ((HG.out.below hx).more hx.size)
  replace HS := bx ((HS.out.below hx).more hx.size)
  replace c0 := (hx.cell (p := ⟨X0.heap.size + 1, 0, none⟩) hbG).trans c0
  replace c1 := (hx.cell (p := ⟨X0.heap.size + 1, 1, none⟩) hbG).trans c1
  replace hbG := Nat.lt_of_lt_of_le hbG hx.size
  replace hb := hb.trans (hx.mono hb.size)
  clear hx
  have Ha := bx Ha
  go_wp2_with fail
  refine (all_val 4 AR cR ringL (some ⟨X0.heap.size, 0, none⟩) 4 [0, 1, 2, 3] none 0 [] X1 HG.out (by decide) HS.out (by simp) Ints.nil (by simp) [[0, 2], [1, 3]] (by decide +kernel)).mono ?_
  rintro e X2 ⟨Al, cl, rfl, Hall, hx⟩
  replace HG := bx ((HG.out.below hx).more hx.size)
  replace HS := bx ((HS.out.below hx).more hx.size)
  replace Ha := bx ((Ha.out.below hx).more hx.size)
  replace c0 := (hx.cell (p := ⟨X0.heap.size + 1, 0, none⟩) hbG).trans c0
  replace c1 := (hx.cell (p := ⟨X0.heap.size + 1, 1, none⟩) hbG).trans c1
  replace hbG := Nat.lt_of_lt_of_le hbG hx.size
  replace hb := hb.trans (hx.mono hb.size)
  clear hx
  have Hall := bx Hall
  go_wp2_with fail
  obtain ⟨Z3_0, hZ3_0⟩ : ∃ V, X2.alloc (.cells #[.int .i64 1] 3) = V := ⟨_, rfl⟩
  have sZ3_0 : Z3_0.heap.size = X2.heap.size + 1 := by rw [← hZ3_0]; simp
  have bZ3_0 : Below X2.heap.size X2 Z3_0 := by rw [← hZ3_0]; exact (Below.refl _ _).alloc (Nat.le_refl _) _
  have IZ3_0 := ints_step X2 #[.int .i64 1] 3 [1] rfl
  rw [hZ3_0] at IZ3_0
  replace IZ3_0 := bx (IZ3_0.more (B' := Z3_0.heap.size) (by omega))
  obtain ⟨Z3_1, hZ3_1⟩ : ∃ V, Z3_0.alloc (.cells #[.int .i64 0] 3) = V := ⟨_, rfl⟩
  have sZ3_1 : Z3_1.heap.size = X2.heap.size + 1 + 1 := by rw [← hZ3_1]; simp [sZ3_0]
  have bZ3_1 : Below Z3_0.heap.size Z3_0 Z3_1 := by rw [← hZ3_1]; exact (Below.refl _ _).alloc (Nat.le_refl _) _
  have IZ3_1 := ints_step Z3_0 #[.int .i64 0] 3 [0] rfl
  rw [hZ3_1, sZ3_0] at IZ3_1
  replace IZ3_1 := bx (IZ3_1.more (B' := Z3_1.heap.size) (by omega))
  replace IZ3_0 := bx ((IZ3_0.out.below bZ3_1).more bZ3_1.size)
  rw [hZ3_0, hZ3_1]
  have hy3 : Below X2.heap.size X2 Z3_1 := (bZ3_0.trans (bZ3_1.mono (by omega)))
  clear hZ3_0 hZ3_1
  replace HG := bx ((HG.out.below hy3).more hy3.size)
  replace HS := bx ((HS.out.below hy3).more hy3.size)
  replace Ha := bx ((Ha.out.below hy3).more hy3.size)
  replace Hall := bx ((Hall.out.below hy3).more hy3.size)
  replace c0 := (hy3.cell (p := ⟨X0.heap.size + 1, 0, none⟩) hbG).trans c0
  replace c1 := (hy3.cell (p := ⟨X0.heap.size + 1, 1, none⟩) hbG).trans c1
  replace hbG := Nat.lt_of_lt_of_le hbG hy3.size
  replace hb := hb.trans (hy3.mono hb.size)
  refine (least_some 4 AR cR ringL (some ⟨X2.heap.size, 0, none⟩) 1 [1] (some ⟨X2.heap.size + 1, 0, none⟩) 1 [0] Z3_1 HG.out (by decide) IZ3_0.out (by simp) IZ3_1.out (by simp) [1] (by decide +kernel)).mono ?_
  rintro e X4 ⟨Ab, cb, rfl, Hb, hx⟩
  replace HG := bx ((HG.out.below hx).more hx.size)
  replace HS := bx ((HS.out.below hx).more hx.size)
  replace Ha := bx ((Ha.out.below hx).more hx.size)
  replace Hall := bx ((Hall.out.below hx).more hx.size)
  replace c0 := (hx.cell (p := ⟨X0.heap.size + 1, 0, none⟩) hbG).trans c0
  replace c1 := (hx.cell (p := ⟨X0.heap.size + 1, 1, none⟩) hbG).trans c1
  replace hbG := Nat.lt_of_lt_of_le hbG hx.size
  replace hb := hb.trans (hx.mono hb.size)
  clear hx
  have Hb := bx Hb
  go_wp2_with fail
  obtain ⟨Z5_0, hZ5_0⟩ : ∃ V, X4.alloc (.cells #[.int .i64 1] 3) = V := ⟨_, rfl⟩
  have sZ5_0 : Z5_0.heap.size = X4.heap.size + 1 := by rw [← hZ5_0]; simp
  have bZ5_0 : Below X4.heap.size X4 Z5_0 := by rw [← hZ5_0]; exact (Below.refl _ _).alloc (Nat.le_refl _) _
  have IZ5_0 := ints_step X4 #[.int .i64 1] 3 [1] rfl
  rw [hZ5_0] at IZ5_0
  replace IZ5_0 := bx (IZ5_0.more (B' := Z5_0.heap.size) (by omega))
  obtain ⟨Z5_1, hZ5_1⟩ : ∃ V, Z5_0.alloc (.cells #[.int .i64 0, .int .i64 2] 3) = V := ⟨_, rfl⟩
  have sZ5_1 : Z5_1.heap.size = X4.heap.size + 1 + 1 := by rw [← hZ5_1]; simp [sZ5_0]
  have bZ5_1 : Below Z5_0.heap.size Z5_0 Z5_1 := by rw [← hZ5_1]; exact (Below.refl _ _).alloc (Nat.le_refl _) _
  have IZ5_1 := ints_step Z5_0 #[.int .i64 0, .int .i64 2] 3 [0, 2] rfl
  rw [hZ5_1, sZ5_0] at IZ5_1
  replace IZ5_1 := bx (IZ5_1.more (B' := Z5_1.heap.size) (by omega))
  replace IZ5_0 := bx ((IZ5_0.out.below bZ5_1).more bZ5_1.size)
  rw [hZ5_0, hZ5_1]
  have hy5 : Below X4.heap.size X4 Z5_1 := (bZ5_0.trans (bZ5_1.mono (by omega)))
  clear hZ5_0 hZ5_1
  replace HG := bx ((HG.out.below hy5).more hy5.size)
  replace HS := bx ((HS.out.below hy5).more hy5.size)
  replace Ha := bx ((Ha.out.below hy5).more hy5.size)
  replace Hall := bx ((Hall.out.below hy5).more hy5.size)
  replace Hb := bx ((Hb.out.below hy5).more hy5.size)
  replace c0 := (hy5.cell (p := ⟨X0.heap.size + 1, 0, none⟩) hbG).trans c0
  replace c1 := (hy5.cell (p := ⟨X0.heap.size + 1, 1, none⟩) hbG).trans c1
  replace hbG := Nat.lt_of_lt_of_le hbG hy5.size
  replace hb := hb.trans (hy5.mono hb.size)
  refine (least_no 4 AR cR ringL (some ⟨X4.heap.size, 0, none⟩) 1 [1] (some ⟨X4.heap.size + 1, 0, none⟩) 2 [0, 2] Z5_1 HG.out (by decide) IZ5_0.out (by simp) IZ5_1.out (by simp) (by decide +kernel)).mono ?_
  rintro e X6 ⟨rfl, hx⟩
  replace HG := bx ((HG.out.below hx).more hx.size)
  replace HS := bx ((HS.out.below hx).more hx.size)
  replace Ha := bx ((Ha.out.below hx).more hx.size)
  replace Hall := bx ((Hall.out.below hx).more hx.size)
  replace Hb := bx ((Hb.out.below hx).more hx.size)
  replace c0 := (hx.cell (p := ⟨X0.heap.size + 1, 0, none⟩) hbG).trans c0
  replace c1 := (hx.cell (p := ⟨X0.heap.size + 1, 1, none⟩) hbG).trans c1
  replace hbG := Nat.lt_of_lt_of_le hbG hx.size
  replace hb := hb.trans (hx.mono hb.size)
  clear hx
  go_wp2_with fail
  refine (least_some 4 AR cR ringL none 0 [] none 0 [] X6 HG.out (by decide) Ints.nil (by simp) Ints.nil (by simp) [] (by decide +kernel)).mono ?_
  rintro e X7 ⟨Ac, cc, rfl, Hc, hx⟩
  replace HG := bx ((HG.out.below hx).more hx.size)
  replace HS := bx ((HS.out.below hx).more hx.size)
  replace Ha := bx ((Ha.out.below hx).more hx.size)
  replace Hall := bx ((Hall.out.below hx).more hx.size)
  replace Hb := bx ((Hb.out.below hx).more hx.size)
  replace c0 := (hx.cell (p := ⟨X0.heap.size + 1, 0, none⟩) hbG).trans c0
  replace c1 := (hx.cell (p := ⟨X0.heap.size + 1, 1, none⟩) hbG).trans c1
  replace hbG := Nat.lt_of_lt_of_le hbG hx.size
  replace hb := hb.trans (hx.mono hb.size)
  clear hx
  go_wp2_with fail
  refine (certain_val 4 AR cR ringL (some ⟨X0.heap.size, 0, none⟩) 4 [0, 1, 2, 3] none 0 [] X7 HG.out (by decide) HS.out (by simp) Ints.nil (by simp) [] (by decide +kernel)).mono ?_
  rintro e X8 ⟨Ad, cd, rfl, Hd, hx⟩
  replace HG := bx ((HG.out.below hx).more hx.size)
  replace HS := bx ((HS.out.below hx).more hx.size)
  replace Ha := bx ((Ha.out.below hx).more hx.size)
  replace Hall := bx ((Hall.out.below hx).more hx.size)
  replace Hb := bx ((Hb.out.below hx).more hx.size)
  replace c0 := (hx.cell (p := ⟨X0.heap.size + 1, 0, none⟩) hbG).trans c0
  replace c1 := (hx.cell (p := ⟨X0.heap.size + 1, 1, none⟩) hbG).trans c1
  replace hbG := Nat.lt_of_lt_of_le hbG hx.size
  replace hb := hb.trans (hx.mono hb.size)
  clear hx
  go_wp2_with fail
  obtain ⟨Z9_0, hZ9_0⟩ : ∃ V, X8.alloc (.cells #[.int .i64 0, .int .i64 2] 3) = V := ⟨_, rfl⟩
  have sZ9_0 : Z9_0.heap.size = X8.heap.size + 1 := by rw [← hZ9_0]; simp
  have bZ9_0 : Below X8.heap.size X8 Z9_0 := by rw [← hZ9_0]; exact (Below.refl _ _).alloc (Nat.le_refl _) _
  have IZ9_0 := ints_step X8 #[.int .i64 0, .int .i64 2] 3 [0, 2] rfl
  rw [hZ9_0] at IZ9_0
  replace IZ9_0 := bx (IZ9_0.more (B' := Z9_0.heap.size) (by omega))
  rw [hZ9_0]
  have hy9 : Below X8.heap.size X8 Z9_0 := bZ9_0
  clear hZ9_0
  replace HG := bx ((HG.out.below hy9).more hy9.size)
  replace HS := bx ((HS.out.below hy9).more hy9.size)
  replace Ha := bx ((Ha.out.below hy9).more hy9.size)
  replace Hall := bx ((Hall.out.below hy9).more hy9.size)
  replace Hb := bx ((Hb.out.below hy9).more hy9.size)
  replace c0 := (hy9.cell (p := ⟨X0.heap.size + 1, 0, none⟩) hbG).trans c0
  replace c1 := (hy9.cell (p := ⟨X0.heap.size + 1, 1, none⟩) hbG).trans c1
  replace hbG := Nat.lt_of_lt_of_le hbG hy9.size
  replace hb := hb.trans (hy9.mono hb.size)
  refine (sameI_val Aa (some ⟨X8.heap.size, 0, none⟩) ca 2 [0, 2] [0, 2] Z9_0 Ha.out IZ9_0.out (by simp) true (by decide +kernel)).mono ?_
  rintro e X10 ⟨rfl, hx⟩
  replace HG := bx ((HG.out.below hx).more hx.size)
  replace HS := bx ((HS.out.below hx).more hx.size)
  replace Ha := bx ((Ha.out.below hx).more hx.size)
  replace Hall := bx ((Hall.out.below hx).more hx.size)
  replace Hb := bx ((Hb.out.below hx).more hx.size)
  replace c0 := (hx.cell (p := ⟨X0.heap.size + 1, 0, none⟩) hbG).trans c0
  replace c1 := (hx.cell (p := ⟨X0.heap.size + 1, 1, none⟩) hbG).trans c1
  replace hbG := Nat.lt_of_lt_of_le hbG hx.size
  replace hb := hb.trans (hx.mono hb.size)
  clear hx
  go_wp2_with fail
  obtain ⟨Z11_0, hZ11_0⟩ : ∃ V, X10.alloc (.cells #[.int .i64 0, .int .i64 2] 3) = V := ⟨_, rfl⟩
  have sZ11_0 : Z11_0.heap.size = X10.heap.size + 1 := by rw [← hZ11_0]; simp
  have bZ11_0 : Below X10.heap.size X10 Z11_0 := by rw [← hZ11_0]; exact (Below.refl _ _).alloc (Nat.le_refl _) _
  have IZ11_0 := ints_step X10 #[.int .i64 0, .int .i64 2] 3 [0, 2] rfl
  rw [hZ11_0] at IZ11_0
  replace IZ11_0 := bx (IZ11_0.more (B' := Z11_0.heap.size) (by omega))
  obtain ⟨Z11_1, hZ11_1⟩ : ∃ V, Z11_0.alloc (.cells #[.int .i64 1, .int .i64 3] 3) = V := ⟨_, rfl⟩
  have sZ11_1 : Z11_1.heap.size = X10.heap.size + 1 + 1 := by rw [← hZ11_1]; simp [sZ11_0]
  have bZ11_1 : Below Z11_0.heap.size Z11_0 Z11_1 := by rw [← hZ11_1]; exact (Below.refl _ _).alloc (Nat.le_refl _) _
  have IZ11_1 := ints_step Z11_0 #[.int .i64 1, .int .i64 3] 3 [1, 3] rfl
  rw [hZ11_1, sZ11_0] at IZ11_1
  replace IZ11_1 := bx (IZ11_1.more (B' := Z11_1.heap.size) (by omega))
  replace IZ11_0 := bx ((IZ11_0.out.below bZ11_1).more bZ11_1.size)
  obtain ⟨Z11_n, hZ11_n⟩ : ∃ V, Z11_1.alloc (.cells #[.slice (some ⟨X10.heap.size, 0, none⟩) 2 2, .slice (some ⟨X10.heap.size + 1, 0, none⟩) 2 2] 22) = V := ⟨_, rfl⟩
  have sZ11_n : Z11_n.heap.size = X10.heap.size + 1 + 1 + 1 := by rw [← hZ11_n]; simp [sZ11_1]
  have bZ11_n : Below Z11_1.heap.size Z11_1 Z11_n := by rw [← hZ11_n]; exact (Below.refl _ _).alloc (Nat.le_refl _) _
  have JZ11_n := lists_step Z11_1 #[.slice (some ⟨X10.heap.size, 0, none⟩) 2 2, .slice (some ⟨X10.heap.size + 1, 0, none⟩) 2 2] 22 [[0, 2], [1, 3]] (fun k hk => by
    match k, hk with
    | 0, _ => exact ⟨_, _, rfl, IZ11_0.out, by simp⟩
    | 1, _ => exact ⟨_, _, rfl, IZ11_1.out, by simp⟩
    )
  rw [hZ11_n, sZ11_1] at JZ11_n
  replace JZ11_n := bx (JZ11_n.more (B' := Z11_n.heap.size) (by omega))
  rw [hZ11_0, hZ11_1, hZ11_n]
  have hy11 : Below X10.heap.size X10 Z11_n := ((bZ11_0.trans (bZ11_1.mono (by omega))).trans (bZ11_n.mono (by omega)))
  clear hZ11_0 hZ11_1 hZ11_n
  replace HG := bx ((HG.out.below hy11).more hy11.size)
  replace HS := bx ((HS.out.below hy11).more hy11.size)
  replace Ha := bx ((Ha.out.below hy11).more hy11.size)
  replace Hall := bx ((Hall.out.below hy11).more hy11.size)
  replace Hb := bx ((Hb.out.below hy11).more hy11.size)
  replace c0 := (hy11.cell (p := ⟨X0.heap.size + 1, 0, none⟩) hbG).trans c0
  replace c1 := (hy11.cell (p := ⟨X0.heap.size + 1, 1, none⟩) hbG).trans c1
  replace hbG := Nat.lt_of_lt_of_le hbG hy11.size
  replace hb := hb.trans (hy11.mono hb.size)
  refine (sameL_val Al (some ⟨X10.heap.size + 1 + 1, 0, none⟩) cl 2 [[0, 2], [1, 3]] [[0, 2], [1, 3]] Z11_n Hall.out JZ11_n.out (by simp) true (by decide +kernel)).mono ?_
  rintro e X12 ⟨rfl, hx⟩
  replace HG := bx ((HG.out.below hx).more hx.size)
  replace HS := bx ((HS.out.below hx).more hx.size)
  replace Ha := bx ((Ha.out.below hx).more hx.size)
  replace Hall := bx ((Hall.out.below hx).more hx.size)
  replace Hb := bx ((Hb.out.below hx).more hx.size)
  replace c0 := (hx.cell (p := ⟨X0.heap.size + 1, 0, none⟩) hbG).trans c0
  replace c1 := (hx.cell (p := ⟨X0.heap.size + 1, 1, none⟩) hbG).trans c1
  replace hbG := Nat.lt_of_lt_of_le hbG hx.size
  replace hb := hb.trans (hx.mono hb.size)
  clear hx
  go_wp2_with fail
  obtain ⟨Z13_0, hZ13_0⟩ : ∃ V, X12.alloc (.cells #[.int .i64 1] 3) = V := ⟨_, rfl⟩
  have sZ13_0 : Z13_0.heap.size = X12.heap.size + 1 := by rw [← hZ13_0]; simp
  have bZ13_0 : Below X12.heap.size X12 Z13_0 := by rw [← hZ13_0]; exact (Below.refl _ _).alloc (Nat.le_refl _) _
  have IZ13_0 := ints_step X12 #[.int .i64 1] 3 [1] rfl
  rw [hZ13_0] at IZ13_0
  replace IZ13_0 := bx (IZ13_0.more (B' := Z13_0.heap.size) (by omega))
  rw [hZ13_0]
  have hy13 : Below X12.heap.size X12 Z13_0 := bZ13_0
  clear hZ13_0
  replace HG := bx ((HG.out.below hy13).more hy13.size)
  replace HS := bx ((HS.out.below hy13).more hy13.size)
  replace Ha := bx ((Ha.out.below hy13).more hy13.size)
  replace Hall := bx ((Hall.out.below hy13).more hy13.size)
  replace Hb := bx ((Hb.out.below hy13).more hy13.size)
  replace c0 := (hy13.cell (p := ⟨X0.heap.size + 1, 0, none⟩) hbG).trans c0
  replace c1 := (hy13.cell (p := ⟨X0.heap.size + 1, 1, none⟩) hbG).trans c1
  replace hbG := Nat.lt_of_lt_of_le hbG hy13.size
  replace hb := hb.trans (hy13.mono hb.size)
  refine (sameI_val Ab (some ⟨X12.heap.size, 0, none⟩) cb 1 [1] [1] Z13_0 Hb.out IZ13_0.out (by simp) true (by decide +kernel)).mono ?_
  rintro e X14 ⟨rfl, hx⟩
  replace HG := bx ((HG.out.below hx).more hx.size)
  replace HS := bx ((HS.out.below hx).more hx.size)
  replace Ha := bx ((Ha.out.below hx).more hx.size)
  replace Hall := bx ((Hall.out.below hx).more hx.size)
  replace Hb := bx ((Hb.out.below hx).more hx.size)
  replace c0 := (hx.cell (p := ⟨X0.heap.size + 1, 0, none⟩) hbG).trans c0
  replace c1 := (hx.cell (p := ⟨X0.heap.size + 1, 1, none⟩) hbG).trans c1
  replace hbG := Nat.lt_of_lt_of_le hbG hx.size
  replace hb := hb.trans (hx.mono hb.size)
  clear hx
  go_wp2_with fail
  obtain ⟨Z15_0, hZ15_0⟩ : ∃ V, X14.alloc (.cells #[.int .i64 1] 3) = V := ⟨_, rfl⟩
  have sZ15_0 : Z15_0.heap.size = X14.heap.size + 1 := by rw [← hZ15_0]; simp
  have bZ15_0 : Below X14.heap.size X14 Z15_0 := by rw [← hZ15_0]; exact (Below.refl _ _).alloc (Nat.le_refl _) _
  have IZ15_0 := ints_step X14 #[.int .i64 1] 3 [1] rfl
  rw [hZ15_0] at IZ15_0
  replace IZ15_0 := bx (IZ15_0.more (B' := Z15_0.heap.size) (by omega))
  obtain ⟨Z15_1, hZ15_1⟩ : ∃ V, Z15_0.alloc (.cells #[.int .i64 0] 3) = V := ⟨_, rfl⟩
  have sZ15_1 : Z15_1.heap.size = X14.heap.size + 1 + 1 := by rw [← hZ15_1]; simp [sZ15_0]
  have bZ15_1 : Below Z15_0.heap.size Z15_0 Z15_1 := by rw [← hZ15_1]; exact (Below.refl _ _).alloc (Nat.le_refl _) _
  have IZ15_1 := ints_step Z15_0 #[.int .i64 0] 3 [0] rfl
  rw [hZ15_1, sZ15_0] at IZ15_1
  replace IZ15_1 := bx (IZ15_1.more (B' := Z15_1.heap.size) (by omega))
  replace IZ15_0 := bx ((IZ15_0.out.below bZ15_1).more bZ15_1.size)
  rw [hZ15_0, hZ15_1]
  have hy15 : Below X14.heap.size X14 Z15_1 := (bZ15_0.trans (bZ15_1.mono (by omega)))
  clear hZ15_0 hZ15_1
  replace HG := bx ((HG.out.below hy15).more hy15.size)
  replace HS := bx ((HS.out.below hy15).more hy15.size)
  replace Ha := bx ((Ha.out.below hy15).more hy15.size)
  replace Hall := bx ((Hall.out.below hy15).more hy15.size)
  replace Hb := bx ((Hb.out.below hy15).more hy15.size)
  replace c0 := (hy15.cell (p := ⟨X0.heap.size + 1, 0, none⟩) hbG).trans c0
  replace c1 := (hy15.cell (p := ⟨X0.heap.size + 1, 1, none⟩) hbG).trans c1
  replace hbG := Nat.lt_of_lt_of_le hbG hy15.size
  replace hb := hb.trans (hy15.mono hb.size)
  refine (certain_val 4 AR cR ringL (some ⟨X14.heap.size, 0, none⟩) 1 [1] (some ⟨X14.heap.size + 1, 0, none⟩) 1 [0] Z15_1 HG.out (by decide) IZ15_0.out (by simp) IZ15_1.out (by simp) [1] (by decide +kernel)).mono ?_
  rintro e X16 ⟨Af, cf, rfl, Hf, hx⟩
  replace HG := bx ((HG.out.below hx).more hx.size)
  replace HS := bx ((HS.out.below hx).more hx.size)
  replace Ha := bx ((Ha.out.below hx).more hx.size)
  replace Hall := bx ((Hall.out.below hx).more hx.size)
  replace Hb := bx ((Hb.out.below hx).more hx.size)
  replace c0 := (hx.cell (p := ⟨X0.heap.size + 1, 0, none⟩) hbG).trans c0
  replace c1 := (hx.cell (p := ⟨X0.heap.size + 1, 1, none⟩) hbG).trans c1
  replace hbG := Nat.lt_of_lt_of_le hbG hx.size
  replace hb := hb.trans (hx.mono hb.size)
  clear hx
  have Hf := bx Hf
  go_wp2_with fail
  obtain ⟨Z17_0, hZ17_0⟩ : ∃ V, X16.alloc (.cells #[.int .i64 1] 3) = V := ⟨_, rfl⟩
  have sZ17_0 : Z17_0.heap.size = X16.heap.size + 1 := by rw [← hZ17_0]; simp
  have bZ17_0 : Below X16.heap.size X16 Z17_0 := by rw [← hZ17_0]; exact (Below.refl _ _).alloc (Nat.le_refl _) _
  have IZ17_0 := ints_step X16 #[.int .i64 1] 3 [1] rfl
  rw [hZ17_0] at IZ17_0
  replace IZ17_0 := bx (IZ17_0.more (B' := Z17_0.heap.size) (by omega))
  rw [hZ17_0]
  have hy17 : Below X16.heap.size X16 Z17_0 := bZ17_0
  clear hZ17_0
  replace HG := bx ((HG.out.below hy17).more hy17.size)
  replace HS := bx ((HS.out.below hy17).more hy17.size)
  replace Ha := bx ((Ha.out.below hy17).more hy17.size)
  replace Hall := bx ((Hall.out.below hy17).more hy17.size)
  replace Hb := bx ((Hb.out.below hy17).more hy17.size)
  replace Hf := bx ((Hf.out.below hy17).more hy17.size)
  replace c0 := (hy17.cell (p := ⟨X0.heap.size + 1, 0, none⟩) hbG).trans c0
  replace c1 := (hy17.cell (p := ⟨X0.heap.size + 1, 1, none⟩) hbG).trans c1
  replace hbG := Nat.lt_of_lt_of_le hbG hy17.size
  replace hb := hb.trans (hy17.mono hb.size)
  refine (sameI_val Af (some ⟨X16.heap.size, 0, none⟩) cf 1 [1] [1] Z17_0 Hf.out IZ17_0.out (by simp) true (by decide +kernel)).mono ?_
  rintro e X18 ⟨rfl, hx⟩
  replace HG := bx ((HG.out.below hx).more hx.size)
  replace HS := bx ((HS.out.below hx).more hx.size)
  replace Ha := bx ((Ha.out.below hx).more hx.size)
  replace Hall := bx ((Hall.out.below hx).more hx.size)
  replace Hb := bx ((Hb.out.below hx).more hx.size)
  replace Hf := bx ((Hf.out.below hx).more hx.size)
  replace c0 := (hx.cell (p := ⟨X0.heap.size + 1, 0, none⟩) hbG).trans c0
  replace c1 := (hx.cell (p := ⟨X0.heap.size + 1, 1, none⟩) hbG).trans c1
  replace hbG := Nat.lt_of_lt_of_le hbG hx.size
  replace hb := hb.trans (hx.mono hb.size)
  clear hx
  go_wp2_with fail
  refine (check_calls 4 AR cR ringL X18 HG.out (by decide) 0 (by decide +kernel)).mono ?_
  rintro e X19 ⟨rfl, hx⟩
  replace HG := bx ((HG.out.below hx).more hx.size)
  replace HS := bx ((HS.out.below hx).more hx.size)
  replace Ha := bx ((Ha.out.below hx).more hx.size)
  replace Hall := bx ((Hall.out.below hx).more hx.size)
  replace Hb := bx ((Hb.out.below hx).more hx.size)
  replace Hf := bx ((Hf.out.below hx).more hx.size)
  replace c0 := (hx.cell (p := ⟨X0.heap.size + 1, 0, none⟩) hbG).trans c0
  replace c1 := (hx.cell (p := ⟨X0.heap.size + 1, 1, none⟩) hbG).trans c1
  replace hbG := Nat.lt_of_lt_of_le hbG hx.size
  replace hb := hb.trans (hx.mono hb.size)
  clear hx
  go_wp2_with fail
  refine (check_calls 25 none 0 [] X19 ⟨fun k hk => absurd hk (by simp)⟩ (by decide) 2 (by decide +kernel)).mono ?_
  rintro e X20 ⟨rfl, hx⟩
  replace HG := bx ((HG.out.below hx).more hx.size)
  replace HS := bx ((HS.out.below hx).more hx.size)
  replace Ha := bx ((Ha.out.below hx).more hx.size)
  replace Hall := bx ((Hall.out.below hx).more hx.size)
  replace Hb := bx ((Hb.out.below hx).more hx.size)
  replace Hf := bx ((Hf.out.below hx).more hx.size)
  replace c0 := (hx.cell (p := ⟨X0.heap.size + 1, 0, none⟩) hbG).trans c0
  replace c1 := (hx.cell (p := ⟨X0.heap.size + 1, 1, none⟩) hbG).trans c1
  replace hbG := Nat.lt_of_lt_of_le hbG hx.size
  replace hb := hb.trans (hx.mono hb.size)
  clear hx
  go_wp2_with fail
  obtain ⟨Z21_0, hZ21_0⟩ : ∃ V, X20.alloc (.cells #[.int .i64 1] 3) = V := ⟨_, rfl⟩
  have sZ21_0 : Z21_0.heap.size = X20.heap.size + 1 := by rw [← hZ21_0]; simp
  have bZ21_0 : Below X20.heap.size X20 Z21_0 := by rw [← hZ21_0]; exact (Below.refl _ _).alloc (Nat.le_refl _) _
  have IZ21_0 := ints_step X20 #[.int .i64 1] 3 [1] rfl
  rw [hZ21_0] at IZ21_0
  replace IZ21_0 := bx (IZ21_0.more (B' := Z21_0.heap.size) (by omega))
  obtain ⟨Z21_n, hZ21_n⟩ : ∃ V, Z21_0.alloc (.cells #[.slice (some ⟨X20.heap.size, 0, none⟩) 1 1] 22) = V := ⟨_, rfl⟩
  have sZ21_n : Z21_n.heap.size = X20.heap.size + 1 + 1 := by rw [← hZ21_n]; simp [sZ21_0]
  have bZ21_n : Below Z21_0.heap.size Z21_0 Z21_n := by rw [← hZ21_n]; exact (Below.refl _ _).alloc (Nat.le_refl _) _
  have JZ21_n := lists_step Z21_0 #[.slice (some ⟨X20.heap.size, 0, none⟩) 1 1] 22 [[1]] (fun k hk => by
    match k, hk with
    | 0, _ => exact ⟨_, _, rfl, IZ21_0.out, by simp⟩
    )
  rw [hZ21_n, sZ21_0] at JZ21_n
  replace JZ21_n := bx (JZ21_n.more (B' := Z21_n.heap.size) (by omega))
  rw [hZ21_0, hZ21_n]
  have hy21 : Below X20.heap.size X20 Z21_n := (bZ21_0.trans (bZ21_n.mono (by omega)))
  clear hZ21_0 hZ21_n
  replace HG := bx ((HG.out.below hy21).more hy21.size)
  replace HS := bx ((HS.out.below hy21).more hy21.size)
  replace Ha := bx ((Ha.out.below hy21).more hy21.size)
  replace Hall := bx ((Hall.out.below hy21).more hy21.size)
  replace Hb := bx ((Hb.out.below hy21).more hy21.size)
  replace Hf := bx ((Hf.out.below hy21).more hy21.size)
  replace c0 := (hy21.cell (p := ⟨X0.heap.size + 1, 0, none⟩) hbG).trans c0
  replace c1 := (hy21.cell (p := ⟨X0.heap.size + 1, 1, none⟩) hbG).trans c1
  replace hbG := Nat.lt_of_lt_of_le hbG hy21.size
  replace hb := hb.trans (hy21.mono hb.size)
  refine (check_calls 1 (some ⟨X20.heap.size + 1, 0, none⟩) 1 [[1]] Z21_n JZ21_n.out (by decide) 5 (by decide +kernel)).mono ?_
  rintro e X22 ⟨rfl, hx⟩
  replace HG := bx ((HG.out.below hx).more hx.size)
  replace HS := bx ((HS.out.below hx).more hx.size)
  replace Ha := bx ((Ha.out.below hx).more hx.size)
  replace Hall := bx ((Hall.out.below hx).more hx.size)
  replace Hb := bx ((Hb.out.below hx).more hx.size)
  replace Hf := bx ((Hf.out.below hx).more hx.size)
  replace c0 := (hx.cell (p := ⟨X0.heap.size + 1, 0, none⟩) hbG).trans c0
  replace c1 := (hx.cell (p := ⟨X0.heap.size + 1, 1, none⟩) hbG).trans c1
  replace hbG := Nat.lt_of_lt_of_le hbG hx.size
  replace hb := hb.trans (hx.mono hb.size)
  clear hx
  go_wp2_with fail
  obtain ⟨Z23_0, hZ23_0⟩ : ∃ V, X22.alloc (.cells #[.int .i64 1, .int .i64 0] 3) = V := ⟨_, rfl⟩
  have sZ23_0 : Z23_0.heap.size = X22.heap.size + 1 := by rw [← hZ23_0]; simp
  have bZ23_0 : Below X22.heap.size X22 Z23_0 := by rw [← hZ23_0]; exact (Below.refl _ _).alloc (Nat.le_refl _) _
  have IZ23_0 := ints_step X22 #[.int .i64 1, .int .i64 0] 3 [1, 0] rfl
  rw [hZ23_0] at IZ23_0
  replace IZ23_0 := bx (IZ23_0.more (B' := Z23_0.heap.size) (by omega))
  obtain ⟨Z23_n, hZ23_n⟩ : ∃ V, Z23_0.alloc (.cells #[.slice (some ⟨X22.heap.size, 0, none⟩) 2 2] 22) = V := ⟨_, rfl⟩
  have sZ23_n : Z23_n.heap.size = X22.heap.size + 1 + 1 := by rw [← hZ23_n]; simp [sZ23_0]
  have bZ23_n : Below Z23_0.heap.size Z23_0 Z23_n := by rw [← hZ23_n]; exact (Below.refl _ _).alloc (Nat.le_refl _) _
  have JZ23_n := lists_step Z23_0 #[.slice (some ⟨X22.heap.size, 0, none⟩) 2 2] 22 [[1, 0]] (fun k hk => by
    match k, hk with
    | 0, _ => exact ⟨_, _, rfl, IZ23_0.out, by simp⟩
    )
  rw [hZ23_n, sZ23_0] at JZ23_n
  replace JZ23_n := bx (JZ23_n.more (B' := Z23_n.heap.size) (by omega))
  rw [hZ23_0, hZ23_n]
  have hy23 : Below X22.heap.size X22 Z23_n := (bZ23_0.trans (bZ23_n.mono (by omega)))
  clear hZ23_0 hZ23_n
  replace HG := bx ((HG.out.below hy23).more hy23.size)
  replace HS := bx ((HS.out.below hy23).more hy23.size)
  replace Ha := bx ((Ha.out.below hy23).more hy23.size)
  replace Hall := bx ((Hall.out.below hy23).more hy23.size)
  replace Hb := bx ((Hb.out.below hy23).more hy23.size)
  replace Hf := bx ((Hf.out.below hy23).more hy23.size)
  replace c0 := (hy23.cell (p := ⟨X0.heap.size + 1, 0, none⟩) hbG).trans c0
  replace c1 := (hy23.cell (p := ⟨X0.heap.size + 1, 1, none⟩) hbG).trans c1
  replace hbG := Nat.lt_of_lt_of_le hbG hy23.size
  replace hb := hb.trans (hy23.mono hb.size)
  refine (check_calls 2 (some ⟨X22.heap.size + 1, 0, none⟩) 1 [[1, 0]] Z23_n JZ23_n.out (by decide) 23 (by decide +kernel)).mono ?_
  rintro e X24 ⟨rfl, hx⟩
  replace HG := bx ((HG.out.below hx).more hx.size)
  replace HS := bx ((HS.out.below hx).more hx.size)
  replace Ha := bx ((Ha.out.below hx).more hx.size)
  replace Hall := bx ((Hall.out.below hx).more hx.size)
  replace Hb := bx ((Hb.out.below hx).more hx.size)
  replace Hf := bx ((Hf.out.below hx).more hx.size)
  replace c0 := (hx.cell (p := ⟨X0.heap.size + 1, 0, none⟩) hbG).trans c0
  replace c1 := (hx.cell (p := ⟨X0.heap.size + 1, 1, none⟩) hbG).trans c1
  replace hbG := Nat.lt_of_lt_of_le hbG hx.size
  replace hb := hb.trans (hx.mono hb.size)
  clear hx
  go_wp2_with fail
  obtain ⟨Z25_0, hZ25_0⟩ : ∃ V, X24.alloc (.cells #[.int .i64 1, .int .i64 3] 3) = V := ⟨_, rfl⟩
  have sZ25_0 : Z25_0.heap.size = X24.heap.size + 1 := by rw [← hZ25_0]; simp
  have bZ25_0 : Below X24.heap.size X24 Z25_0 := by rw [← hZ25_0]; exact (Below.refl _ _).alloc (Nat.le_refl _) _
  have IZ25_0 := ints_step X24 #[.int .i64 1, .int .i64 3] 3 [1, 3] rfl
  rw [hZ25_0] at IZ25_0
  replace IZ25_0 := bx (IZ25_0.more (B' := Z25_0.heap.size) (by omega))
  rw [hZ25_0]
  have hy25 : Below X24.heap.size X24 Z25_0 := bZ25_0
  clear hZ25_0
  replace HG := bx ((HG.out.below hy25).more hy25.size)
  replace HS := bx ((HS.out.below hy25).more hy25.size)
  replace Ha := bx ((Ha.out.below hy25).more hy25.size)
  replace Hall := bx ((Hall.out.below hy25).more hy25.size)
  replace Hb := bx ((Hb.out.below hy25).more hy25.size)
  replace Hf := bx ((Hf.out.below hy25).more hy25.size)
  replace c0 := (hy25.cell (p := ⟨X0.heap.size + 1, 0, none⟩) hbG).trans c0
  replace c1 := (hy25.cell (p := ⟨X0.heap.size + 1, 1, none⟩) hbG).trans c1
  replace hbG := Nat.lt_of_lt_of_le hbG hy25.size
  replace hb := hb.trans (hy25.mono hb.size)
  refine (explains_calls 4 AR cR ringL (some ⟨X24.heap.size, 0, none⟩) 2 [1, 3] (some ⟨X0.heap.size, 0, none⟩) 4 [0, 1, 2, 3] none 0 [] Z25_0 HG.out (by decide) IZ25_0.out (by simp) HS.out (by simp) Ints.nil (by simp) true (by decide +kernel)).mono ?_
  rintro e X26 ⟨rfl, hx⟩
  replace HG := bx ((HG.out.below hx).more hx.size)
  replace HS := bx ((HS.out.below hx).more hx.size)
  replace Ha := bx ((Ha.out.below hx).more hx.size)
  replace Hall := bx ((Hall.out.below hx).more hx.size)
  replace Hb := bx ((Hb.out.below hx).more hx.size)
  replace Hf := bx ((Hf.out.below hx).more hx.size)
  replace c0 := (hx.cell (p := ⟨X0.heap.size + 1, 0, none⟩) hbG).trans c0
  replace c1 := (hx.cell (p := ⟨X0.heap.size + 1, 1, none⟩) hbG).trans c1
  replace hbG := Nat.lt_of_lt_of_le hbG hx.size
  replace hb := hb.trans (hx.mono hb.size)
  clear hx
  go_wp2_with fail
  obtain ⟨Z27_0, hZ27_0⟩ : ∃ V, X26.alloc (.cells #[.int .i64 1, .int .i64 2] 3) = V := ⟨_, rfl⟩
  have sZ27_0 : Z27_0.heap.size = X26.heap.size + 1 := by rw [← hZ27_0]; simp
  have bZ27_0 : Below X26.heap.size X26 Z27_0 := by rw [← hZ27_0]; exact (Below.refl _ _).alloc (Nat.le_refl _) _
  have IZ27_0 := ints_step X26 #[.int .i64 1, .int .i64 2] 3 [1, 2] rfl
  rw [hZ27_0] at IZ27_0
  replace IZ27_0 := bx (IZ27_0.more (B' := Z27_0.heap.size) (by omega))
  rw [hZ27_0]
  have hy27 : Below X26.heap.size X26 Z27_0 := bZ27_0
  clear hZ27_0
  replace HG := bx ((HG.out.below hy27).more hy27.size)
  replace HS := bx ((HS.out.below hy27).more hy27.size)
  replace Ha := bx ((Ha.out.below hy27).more hy27.size)
  replace Hall := bx ((Hall.out.below hy27).more hy27.size)
  replace Hb := bx ((Hb.out.below hy27).more hy27.size)
  replace Hf := bx ((Hf.out.below hy27).more hy27.size)
  replace c0 := (hy27.cell (p := ⟨X0.heap.size + 1, 0, none⟩) hbG).trans c0
  replace c1 := (hy27.cell (p := ⟨X0.heap.size + 1, 1, none⟩) hbG).trans c1
  replace hbG := Nat.lt_of_lt_of_le hbG hy27.size
  replace hb := hb.trans (hy27.mono hb.size)
  refine (explains_calls 4 AR cR ringL (some ⟨X26.heap.size, 0, none⟩) 2 [1, 2] (some ⟨X0.heap.size, 0, none⟩) 4 [0, 1, 2, 3] none 0 [] Z27_0 HG.out (by decide) IZ27_0.out (by simp) HS.out (by simp) Ints.nil (by simp) false (by decide +kernel)).mono ?_
  rintro e X28 ⟨rfl, hx⟩
  replace HG := bx ((HG.out.below hx).more hx.size)
  replace HS := bx ((HS.out.below hx).more hx.size)
  replace Ha := bx ((Ha.out.below hx).more hx.size)
  replace Hall := bx ((Hall.out.below hx).more hx.size)
  replace Hb := bx ((Hb.out.below hx).more hx.size)
  replace Hf := bx ((Hf.out.below hx).more hx.size)
  replace c0 := (hx.cell (p := ⟨X0.heap.size + 1, 0, none⟩) hbG).trans c0
  replace c1 := (hx.cell (p := ⟨X0.heap.size + 1, 1, none⟩) hbG).trans c1
  replace hbG := Nat.lt_of_lt_of_le hbG hx.size
  replace hb := hb.trans (hx.mono hb.size)
  clear hx
  go_wp2
  go_ret
  exact ⟨rfl, hb⟩
end Go.Proofs.Ytlogokjjphlkkaa.Dg
namespace Go.Proofs.Ytlogokjjphlkkaa.Dg
open Go.RowKit

/-- the world has grown from W0 -/
abbrev From (W0 W : World) : Prop := Below W0.heap.size W0 W
theorem From.ints {W0 W : World} (h : From W0 W) {A : Option Addr} {l : List Int} (hi : Ints W0 W0.heap.size A l) : Ints W W.heap.size A l := (hi.below h).more h.size
theorem From.lists {W0 W : World} (h : From W0 W) {A : Option Addr} {l : List (List Int)} (hi : Lists W0 W0.heap.size A l) : Lists W W.heap.size A l := (hi.below h).more h.size
theorem From.trans {W0 W W' : World} (h : From W0 W) (k : From W W') : From W0 W' := Below.trans h (k.mono h.size)
theorem From.drew {W0 W : World} (h : From W0 W) : From W0 W.drew := Below.drew h
theorem From.alloc {W0 W : World} (h : From W0 W) (o : Obj) : From W0 (W.alloc o) := Below.alloc h h.size o
theorem From.drewN {W0 W : World} (h : From W0 W) (m : Nat) : From W0 (W.drewN m) := below_drewN h m
/-- a graph in a box of its own, at the world W -/
structure GAt (W : World) (b : Nat) (n : Int) (A : Option Addr) (c : Nat) (sh : List (List Int)) : Prop where
  c0 : W.cell? ⟨b, 0, none⟩ = some (.int .i64 n)
  c1 : W.cell? ⟨b, 1, none⟩ = some (.slice A sh.length c)
theorem GAt.from {W W' : World} {b : Nat} {n : Int} {A : Option Addr} {c : Nat} {sh : List (List Int)} (h : GAt W b n A c sh) (k : From W W') : GAt W' b n A c sh :=
  ⟨(k.cell (p := ⟨b, 0, none⟩) (World.block_lt_of_cell? W _ h.c0)).trans h.c0, (k.cell (p := ⟨b, 1, none⟩) (World.block_lt_of_cell? W _ h.c1)).trans h.c1⟩
theorem GAt.keep {W0 W : World} {b : Nat} {n : Int} {A : Option Addr} {c : Nat} {sh : List (List Int)} (h : GAt W0 b n A c sh) (k : From W0 W) : From W0 W ∧ W.cell? ⟨b, 0, none⟩ = some (.int .i64 n) ∧ W.cell? ⟨b, 1, none⟩ = some (.slice A sh.length c) :=
  ⟨k, (h.from k).c0, (h.from k).c1⟩
theorem gat_new (X : World) (n : Int) (A : Option Addr) (c : Nat) (sh : List (List Int)) (t : TypeId) : GAt (X.alloc (.cells #[.int .i64 n, .slice A sh.length c] t)) X.heap.size n A c sh :=
  ⟨by rw [World.cell?_alloc_new]; rfl, by rw [World.cell?_alloc_new]; rfl⟩
theorem madeL_take_len (l : List Int) (n m : Nat) : (madeL (l.take m) n).length ≤ m := by rw [madeL_len, List.length_take]; omega
end Go.Proofs.Ytlogokjjphlkkaa.Dg
namespace Go.Proofs.Ytlogokjjphlkkaa.Dg

theorem bitsN_sub (x : Int) (n : Nat) : (bitsN x n).Sublist (units n) := List.filter_sublist
theorem mem_bitsN {x s : Int} {n : Nat} : s ∈ bitsN x n ↔ s ∈ units n ∧ x / 2 ^ s.toNat % 2 = 1 := by simp [bitsN]
/-- the symptoms that are clear -/
def clearOf (seen chk : List Int) (n : Nat) : List Int := (units n).filter fun s => !seen.contains s && chk.contains s
theorem clearOf_succ (seen chk : List Int) (k : Nat) : clearOf seen chk (k + 1) = if !seen.contains (k : Int) && chk.contains (k : Int) then clearOf seen chk k ++ [(k : Int)] else clearOf seen chk k := by
  rw [clearOf, units_succ, List.filter_append]
  by_cases h : (!seen.contains (k : Int) && chk.contains (k : Int)) = true
  · rw [if_pos h, List.filter_cons_of_pos (by exact h)]; rfl
  · rw [if_neg h, List.filter_cons_of_neg (by exact h), List.filter_nil, List.append_nil]; rfl
theorem clearOf_le (seen chk : List Int) (k : Nat) : (clearOf seen chk k).length ≤ k := by
  have := List.length_filter_le (fun s => !seen.contains s && chk.contains s) (units k)
  simpa [clearOf, units] using this
set_option maxRecDepth 100000 in
theorem shown_expl (sh : List (List Int)) (us chk : List Int) (n : Nat) : expl sh us (shown sh us n) (clearOf (shown sh us n) chk n) = true := by
  refine (expl_iff _ _ _ _).2 ⟨fun s hs => ?_, fun s hs => ?_⟩
  · exact (List.mem_filter.1 hs).2
  · obtain ⟨h1, h2⟩ := List.mem_filter.1 hs
    cases hc : cau sh us s
    · rfl
    · have : s ∈ shown sh us n := List.mem_filter.2 ⟨h1, hc⟩
      rw [Bool.and_eq_true, Bool.not_eq_true'] at h2
      have h3 := h2.1
      rw [← Bool.not_eq_true, List.contains_iff_mem] at h3
      exact absurd this h3
/-- a set that explains: there is a least one, not larger -/
theorem least_le {sh : List (List Int)} {us seen clear : List Int} (hs : us.Sublist (units sh.length)) (he : expl sh us seen clear = true) : ∃ a, leastOf sh seen clear = some a ∧ a.length ≤ us.length := by
  rcases least_cases sh seen clear with ⟨_, _, h⟩ | ⟨a, r, h1, h2, h3, h4⟩
  · rw [h us hs] at he; cases he
  · refine ⟨a, h1, ?_⟩
    by_cases h : us.length < a.length
    · have := (h4 a (by simp)).fewer us hs h
      rw [this] at he; cases he
    · omega
theorem cert_in {sh : List (List Int)} {us seen clear : List Int} (hs : us.Sublist (units sh.length)) (he : expl sh us seen clear = true) : ∀ u ∈ certOf sh seen clear, us.contains u = true := by
  intro u hu
  rw [← certOf_ref] at hu
  obtain ⟨_, h2⟩ := List.mem_filter.1 hu
  rw [Bool.and_eq_true] at h2
  exact List.all_eq_true.1 h2.2 us (mem_expls.2 ⟨hs, he⟩)
set_option maxRecDepth 100000 in
theorem none_cert {sh : List (List Int)} {seen clear : List Int} (h : leastOf sh seen clear = none) : certOf sh seen clear = [] := by
  rcases least_cases sh seen clear with ⟨_, _, h1⟩ | ⟨a, r, h1, _⟩
  · cases hc : certOf sh seen clear with
    | nil => rfl
    | cons u r =>
      have hu : u ∈ certOf sh seen clear := by rw [hc]; simp
      rw [← certOf_ref] at hu
      obtain ⟨_, h2⟩ := List.mem_filter.1 hu
      rw [Bool.and_eq_true, Bool.not_eq_true'] at h2
      obtain ⟨s, hs⟩ := List.exists_mem_of_ne_nil (explsOf sh seen clear) (by intro e; rw [e] at h2; simp at h2)
      obtain ⟨k1, k2⟩ := mem_expls.1 hs
      rw [h1 s k1] at k2; cases k2
  · rw [h] at h1; cases h1
theorem cand_sub (sh : List (List Int)) (clear : List Int) : (cand sh clear).Sublist (units sh.length) := List.filter_sublist
/-- there is an explanation if and only if all candidates are one -/
theorem least_is (sh : List (List Int)) (seen clear : List Int) : (leastOf sh seen clear).isSome = expl sh (cand sh clear) seen clear := by
  rcases least_cases sh seen clear with ⟨h0, _, h⟩ | ⟨a, r, h1, h2, h3, h4⟩
  · rw [h0, h _ (cand_sub sh clear)]; rfl
  · have hs := h4 a (by simp)
    obtain ⟨g1, g2⟩ := cand_of_expl (fun u hu => hs.sub.subset hu) hs.ex
    rw [h1, expl_cand sh seen clear (fun u hu => hu) (expl_mono g1 g2)]; rfl
/-- what the law Candidates gathers -/
def wantN (sh : List (List Int)) (seen clear l : List Int) : Nat → List Int
  | 0 => []
  | k + 1 => if expl sh (l.take k ++ l.drop (k + 1)) seen clear then wantN sh seen clear l k else wantN sh seen clear l k ++ [l.getD k 0]
theorem wantN_le (sh : List (List Int)) (seen clear l : List Int) : ∀ k, (wantN sh seen clear l k).length ≤ k := by
  intro k
  induction k with
  | zero => simp [wantN]
  | succ k ih => rw [wantN]; split
                 · omega
                 · simp; omega
theorem expl_same {sh : List (List Int)} {seen clear s : List Int} (h : ∀ u ∈ s, u ∈ cand sh clear) : expl sh s seen clear = expl sh s seen [] := by
  cases h1 : expl sh s seen []
  · cases h2 : expl sh s seen clear
    · rfl
    · have := (cand_of_expl (fun u hu => (mem_cand.1 (h u hu)).1) h2).2
      rw [this] at h1; cases h1
  · exact expl_cand sh seen clear h h1
theorem wantN_eq (sh : List (List Int)) (seen clear : List Int) : ∀ k, wantN sh seen clear (cand sh clear) k = certN sh seen (cand sh clear) k := by
  intro k
  induction k with
  | zero => rfl
  | succ k ih =>
    rw [wantN, certN, ih, expl_same (fun u hu => ?_)]
    rcases List.mem_append.1 hu with h | h
    · exact List.mem_of_mem_take h
    · exact List.mem_of_mem_drop h
theorem want_cert {sh : List (List Int)} {seen clear : List Int} (h : expl sh (cand sh clear) seen clear = true) : wantN sh seen clear (cand sh clear) (cand sh clear).length = certOf sh seen clear := by
  rw [expl_same (fun u hu => hu)] at h
  rw [certOf, if_pos h, wantN_eq]
theorem cert_all (sh : List (List Int)) (seen clear : List Int) : ∀ s ∈ allOf sh seen clear, ∀ u ∈ certOf sh seen clear, s.contains u = true := by
  intro s hs u hu
  rcases least_cases sh seen clear with ⟨_, h, _⟩ | ⟨a, r, _, h2, _, h4⟩
  · rw [h] at hs; simp at hs
  · rw [h2] at hs
    exact cert_in (h4 s hs).sub (h4 s hs).ex u hu
set_option maxRecDepth 100000 in
/-- further symptoms -/
theorem more_least {sh : List (List Int)} {s c m o b : List Int} (h : leastOf sh (s ++ m) (c ++ o) = some b) : (∃ a, leastOf sh s c = some a ∧ a.length ≤ b.length) ∧ expl sh b s c = true := by
  have he : expl sh b s c = true ∧ b.Sublist (units sh.length) := by
    rcases least_cases sh (s ++ m) (c ++ o) with ⟨h1, _⟩ | ⟨a, r, h1, h2, h3, h4⟩
    · rw [h] at h1; cases h1
    · rw [h] at h1; cases h1
      have hs := h4 b (by simp)
      obtain ⟨g1, g2⟩ := (expl_iff _ _ _ _).1 hs.ex
      exact ⟨(expl_iff _ _ _ _).2 ⟨fun x hx => g1 x (List.mem_append_left _ hx), fun x hx => g2 x (List.mem_append_left _ hx)⟩, hs.sub⟩
  exact ⟨least_le he.2 he.1, he.1⟩
theorem least_ex {sh : List (List Int)} {s c a : List Int} (h : leastOf sh s c = some a) : expl sh a s c = true ∧ a.length ≤ sh.length := by
  rcases least_cases sh s c with ⟨h1, _⟩ | ⟨a', r, h1, h2, h3, h4⟩
  · rw [h] at h1; cases h1
  · rw [h] at h1; cases h1
    exact ⟨(h4 a (by simp)).ex, h3⟩
theorem both_expl {sh : List (List Int)} {s m c a x : List Int} (h1 : leastOf sh s c = some a) (h2 : leastOf sh m c = some x) : expl sh (a ++ x) (s ++ m) c = true := by
  obtain ⟨g1, g2⟩ := (expl_iff _ _ _ _).1 (least_ex h1).1
  obtain ⟨k1, k2⟩ := (expl_iff _ _ _ _).1 (least_ex h2).1
  refine (expl_iff _ _ _ _).2 ⟨fun y hy => ?_, fun y hy => ?_⟩
  · rw [cau_append]
    rcases List.mem_append.1 hy with h | h
    · rw [g1 y h]; rfl
    · rw [k1 y h]; simp
  · rw [cau_append, g2 y hy, k2 y hy]; rfl
end Go.Proofs.Ytlogokjjphlkkaa.Dg
namespace Go.Proofs.Ytlogokjjphlkkaa.Dg
open Go.RowKit

theorem bits_val (x : Int) (n : Nat) (w : World) (h0 : 0 ≤ x) (h1 : x ≤ 65535) (hn : n ≤ 1000) (l : List Int) (hl : bitsN x n = l) : Calls Try.prog 77 #[.int .i64 x, .int .i64 n] w (IntsPost w l) :=
  (bits_calls x n w h0 h1 hn).mono fun _ _ h => row_ints hl h
theorem shown_val (n : Nat) (AG : Option Addr) (cG : Nat) (sh : List (List Int)) (A : Option Addr) (c : Nat) (us : List Int) (w : World)
    (hl : Lists w w.heap.size AG sh) (hn : sh.length ≤ 9223372036854775807) (h : Ints w w.heap.size A us) (hm : us.length ≤ 9223372036854775807) (hn' : n ≤ 1000) (l : List Int) (hl' : shown sh us n = l) :
    Calls Try.prog 78 #[.agg #[.int .i64 n, .slice AG sh.length cG], .slice A us.length c] w (IntsPost w l) :=
  (shown_calls n AG cG sh A c us w hl hn h hm hn').mono fun _ _ h => row_ints hl' h
set_option maxRecDepth 100000 in
/-- append(x, y...) of numbers, x a row of the call's own, y wherever it lies -/
theorem run_append_src {P : Program} {w : World} (t ty : TypeId) (base : Nat) (e : TypeId) (i : TypeInfo) (z : Value) (bytes : Nat) (ht : P.underlying t = some (.slice e)) (hi : P.info? e = some i) (hz : i.zero = some z)
    (hsize : i.size = 1) (hby : i.bytes = bytes) (hzs : z.cells.size = 1)
    (v : Value) (n : Nat) (xs : List Int) (hown : w.ownsRow base e 1 v n (ic xs)) (B : Nat) (u : Value) (ys : List Int) (hsrc : Src w B u ys)
    (h63 : n + ys.length ≤ maxLen) (hbytes : (n + ys.length) * bytes ≤ 140737488355328) (hbase : base ≤ w.heap.size) :
    ∃ v' w', (Builtin.append_ #[t, t] ty #[v, u]).run P w = .ok v' w' ∧ w'.ownsRow base e 1 v' (n + ys.length) (ic (xs ++ ys)) ∧ w.grownBy w' v.ownBlock := by
  rcases hsrc.out with ⟨hu, rfl⟩ | ⟨b, off, c, hu, hc⟩
  · subst hu
    exact ⟨v, w, run_append_owned_none (P := P) (w := w) base t ty e i 1 ht hi v n (ic xs) hown, by simpa using hown, World.grownBy.refl w _⟩
  · subst hu
    obtain ⟨v', w', hr, h2, h3, _⟩ := run_append_own (P := P) (w := w) base t ty e i z 1 bytes ht hi hz hsize hby hzs (by decide) v n (ic xs) hown ⟨b, off, none⟩ ys.length c (ic ys) (by simp [ic]) (by
      intro j u hj
      have hjl : j < ys.length := by
        have := (List.getElem?_eq_some_iff.1 hj).1
        simpa [ic] using this
      have e1 := (hc j hjl).2
      rw [show (⟨b, off, none⟩ : Addr).add j = ⟨b, off + j, none⟩ from Addr.add_mid b off j, e1]
      simpa [ic, hjl] using hj) (ic_one _) h63 hbytes hbase
    exact ⟨v', w', hr, by rw [ic_append]; exact h2, h3⟩
set_option maxRecDepth 100000 in
/-- the same, at a step of a region that draws its order -/
theorem step_append_src {P : Program} {ops : Array Oper} {o : Oper} {a : Act} {w : World} {K : Act → World → Prop} {Q : Exit → Act → World → Prop} {E : Prop} (hgd : o.guard = none) (s x : Operand) (t : TypeId)
    (ho : o.op = .call { callee := .builtin .append, args := #[s, x], argTypes := #[t, t] })
    (base : Nat) (e : TypeId) (i : TypeInfo) (z : Value) (bytes : Nat) (ht : P.underlying t = some (.slice e)) (hi : P.info? e = some i) (hz : i.zero = some z)
    (hsize : i.size = 1) (hby : i.bytes = bytes) (hzs : z.cells.size = 1) (v : Value) (n : Nat) (xs : List Int) (hs : a.eval s = v) (hown : w.ownsRow base e 1 v n (ic xs))
    (B : Nat) (u : Value) (ys : List Int) (hx : a.eval x = u) (hsrc : Src w B u ys) (h63 : n + ys.length ≤ maxLen) (hbytes : (n + ys.length) * bytes ≤ 140737488355328) (hbase : base ≤ w.heap.size)
    (h : ∀ v' w', w'.ownsRow base e 1 v' (n + ys.length) (ic (xs ++ ys)) → w.grownBy w' v.ownBlock → K (a.put o.dst v') w') :
    if Region.wanted o (yielded ops a.tmps) = true then Oper.wp P o a w K Q else E := by
  have hw : Region.wanted o (yielded ops a.tmps) = true := by simp [Region.wanted, hgd]
  rw [if_pos hw]
  obtain ⟨v', w', hr, h1, h2⟩ := run_append_src (P := P) t o.type base e i z bytes ht hi hz hsize hby hzs v n xs hown B u ys hsrc h63 hbytes hbase
  unfold Oper.wp execOp
  simp only [ho, resolve, invoke, builtin, Sem.run_bind, Sem.run_pure, Result.andThen_ok, List.map_toArray, List.map_cons, List.map_nil, hs, hx, hr]
  exact h v' w' h1 h2
theorem owns_empty_at {X : World} {base r : Nat} (w : World) (hX : w.alloc (.cells #[] 3) = X) (hr : w.heap.size = r) (hb : base ≤ w.heap.size) : X.ownsRow base 3 1 (.slice (some ⟨r, 0, none⟩) 0 0) 0 (ic []) := by
  subst hX; subst hr
  exact ⟨rfl, .inr ⟨w.heap.size, 0, #[], rfl, hb, heap_alloc_new w _, Nat.le_refl _, Nat.zero_le _, rfl, rfl⟩⟩
end Go.Proofs.Ytlogokjjphlkkaa.Dg
