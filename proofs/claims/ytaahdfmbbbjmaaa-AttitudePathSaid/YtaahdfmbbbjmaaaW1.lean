/-
  Walks of layer 12: the small functions and the specification's functions over lists of arcs.
-/
import Derived.Test.YtaahdfmbbbjmaaaProg
import Derived.Test.YtaahdfmbbbjmaaaM3
import Derived.WalkKit
import Derived.Outline
import Derived.WalkLawsBesides
import Derived.BigQuiet
import Derived.Deep.QuietTactic
import Derived.Deep.RegionHeld3
namespace Go.Proofs.Ytaahdfmbbbjmaaa
open Go.RowKit

/-- a fact hidden from the walk -/
structure Bx (p : Prop) : Prop where
  out : p
theorem bx {p : Prop} (h : p) : Bx p := ⟨h⟩
theorem retv {a b : Value} (h : a = b) : Ending.returned a = Ending.returned b := by rw [h]
theorem ret_int {k : IntKind} {a b : Int} (h : a = b) : Ending.returned (.int k a) = Ending.returned (.int k b) := by rw [h]
theorem ret_bool {a b : Bool} (h : a = b) : Ending.returned (.bool a) = Ending.returned (.bool b) := by rw [h]

/-- the slice at A holds the arcs l, below block B -/
structure Arcs (w : World) (B : Nat) (A : Option Addr) (l : ArcL) : Prop where
  at_ : ∀ k (hk : k < l.length), ∃ b off, A = some ⟨b, off, none⟩ ∧ b < B ∧ w.cell? ⟨b, off + k * 2, none⟩ = some (.int .i64 l[k].1) ∧ w.cell? ⟨b, off + k * 2 + 1, none⟩ = some (.int .i64 l[k].2)
theorem Arcs.keep {w w' : World} {B : Nat} {A : Option Addr} {l : ArcL} (h : Arcs w B A l) (hk : ∀ p : Addr, p.block < B → w'.cell? p = w.cell? p) : Arcs w' B A l :=
  ⟨fun k hkl => by
    obtain ⟨b, off, e, hb, c1, c2⟩ := h.at_ k hkl
    exact ⟨b, off, e, hb, (hk ⟨b, _, none⟩ hb).trans c1, (hk ⟨b, _, none⟩ hb).trans c2⟩⟩
theorem Arcs.below {w w' : World} {B : Nat} {A : Option Addr} {l : ArcL} (h : Arcs w B A l) (hb : Below B w w') : Arcs w' B A l := h.keep fun _ hp => hb.cell hp
theorem Arcs.more {w : World} {B B' : Nat} {A : Option Addr} {l : ArcL} (h : Arcs w B A l) (hB : B ≤ B') : Arcs w B' A l :=
  ⟨fun k hkl => by
    obtain ⟨b, off, e, hb, c⟩ := h.at_ k hkl
    exact ⟨b, off, e, by omega, c⟩⟩
theorem Arcs.nil {w : World} {B : Nat} {A : Option Addr} : Arcs w B A [] := ⟨fun k hk => absurd hk (by simp)⟩

theorem tmod360 (a : Int) : -360 < a.tmod 360 ∧ a.tmod 360 < 360 ∧ (a.tmod 360 < 0 → a.tmod 360 + 360 = a % 360) ∧ (0 ≤ a.tmod 360 → a.tmod 360 = a % 360) ∧ (a.tmod 360 + 360) % 360 = a % 360 := by
  have := Int.tmod_eq_emod (a := a) (b := 360)
  split at this <;> omega

theorem refNormal (a : Int) (w : World) :
    Calls Try.prog 16 #[.int .i64 a] w fun e w' => e = .returned (.int .i64 (a % 360)) ∧ w = w' := by
  obtain ⟨h1, h2, h3, h4, h5⟩ := tmod360 a
  by_cases h : a.tmod 360 < 0
  · have H := bx (h3 h)
    clear h3 h4 h5
    go_enter Try.func16, Try.ntmps16
    go_wp2
    go_ret
    exact ⟨ret_int H.out, rfl⟩
  · have H := bx (h4 (by omega))
    clear h3 h4 h5
    go_enter Try.func16, Try.ntmps16
    go_wp2
    go_ret
    exact ⟨ret_int H.out, rfl⟩
theorem attNormal (a : Int) (w : World) :
    Calls Try.prog 15 #[.int .i64 a] w fun e w' => e = .returned (.int .i64 (a % 360)) ∧ w = w' := by
  obtain ⟨h1, h2, h3, h4, h5⟩ := tmod360 a
  have H := bx h5
  clear h3 h4 h5
  go_enter Try.func15, Try.ntmps15
  go_wp2
  go_ret
  exact ⟨ret_int H.out, rfl⟩
theorem attAbs (n : Int) (w : World) (h1 : -9223372036854775807 ≤ n) (h2 : n ≤ 9223372036854775807) :
    Calls Try.prog 41 #[.int .i64 n] w fun e w' => e = .returned (.int .i64 n.natAbs) ∧ w = w' := by
  by_cases h : n < 0
  · go_enter Try.func41, Try.ntmps41
    go_wp2
    all_goals (first | (exfalso; omega) | (go_ret; exact ⟨ret_int (by omega), rfl⟩))
  · go_enter Try.func41, Try.ntmps41
    go_wp2
    all_goals (first | (exfalso; omega) | (go_ret; exact ⟨ret_int (by omega), rfl⟩))
theorem contains_any (f t d : Int) (w : World) (h1 : 0 ≤ f) (h2 : f ≤ 359) (h3 : 0 ≤ t) (h4 : t ≤ 359) (h5 : 0 ≤ d) (h6 : d ≤ 359) :
    Calls Try.prog 34 #[.agg #[.int .i64 f, .int .i64 t], .int .i64 d] w fun e w' => e = .returned (.bool (inArc (f, t) d)) ∧ Below w.heap.size w w' := by
  have e1 : IntKind.i64.wrap (d - f) = d - f := IntWalk.i64_in _ (by omega)
  have e2 : IntKind.i64.wrap (t - f) = t - f := IntWalk.i64_in _ (by omega)
  go_enter Try.func34, Try.ntmps34
  go_wp2_with fail
  go_quiet ((go_at_call 16; exact Calls.quiet_of_same ((refNormal _ _).mono fun e w' ⟨a, b⟩ => ⟨a, b.symm⟩)))
  go_wp2
  go_ret
  exact ⟨rfl, below_drewN ((Below.refl _ _).alloc (Nat.le_refl _) _) _⟩
theorem ref_check (A : Option Addr) (c : Nat) (l : ArcL) (w : World) (h : Arcs w w.heap.size A l) (hm : l.length ≤ 9223372036854775807) :
    Calls Try.prog 13 #[.slice A l.length c] w fun e w' => e = .returned (.int .i64 (checkN l)) ∧ w = w' := by
  by_cases hl : 16 < l.length
  · have E := bx (show checkN l = 2 by unfold checkN; rw [if_pos hl])
    go_enter Try.func13, Try.ntmps13
    go_wp2
    go_ret
    exact ⟨ret_int E.out.symm, rfl⟩
  go_enter Try.func13, Try.ntmps13
  go_wp2
  go_loop [3] (fun i => ∃ k : Nat, k ≤ l.length ∧ i = .int .i64 k ∧ (l.take k).any badArc = false) (fun i => l.length - (intOf i).toNat)
  case atStart => exact ⟨0, Nat.zero_le _, rfl, rfl⟩
  case round =>
    obtain ⟨k, hk, rfl, hno⟩ := hrel
    have Hno := bx hno
    clear hno
    by_cases hlt : k < l.length
    · obtain ⟨b, off, rfl, hb, c1, c2⟩ := h.at_ k hlt
      have Hs := bx (show (l.take (k + 1)).any badArc = ((l.take k).any badArc || badArc l[k]) by
        rw [List.take_succ_eq_append_getElem hlt, List.any_append]; simp)
      have Hm := bx (fun hb : badArc l[k] = true => show l.any badArc = true from List.any_eq_true.2 ⟨_, List.getElem_mem hlt, hb⟩)
      have Hd := bx (show badArc l[k] = decide (l[k].1 < 0 ∨ 359 < l[k].1 ∨ l[k].2 < 0 ∨ 359 < l[k].2) from rfl)
      generalize l[k].1 = f at *
      generalize l[k].2 = t at *
      by_cases hb : f < 0 ∨ 359 < f ∨ t < 0 ∨ 359 < t
      · have Hc := bx (show checkN l = 5 by
          unfold checkN
          rw [if_neg hl, if_pos (Hm.out (by rw [Hd.out]; simpa using hb))])
        by_cases b1 : f < 0
        · clear hb
          go_wp2
          go_ret
          exact ⟨ret_int Hc.out.symm, rfl⟩
        by_cases b2 : 359 < f
        · clear hb
          go_wp2
          go_ret
          exact ⟨ret_int Hc.out.symm, rfl⟩
        by_cases b3 : t < 0
        · clear hb
          go_wp2
          go_ret
          exact ⟨ret_int Hc.out.symm, rfl⟩
        have b4 : 359 < t := by omega
        clear hb
        go_wp2
        go_ret
        exact ⟨ret_int Hc.out.symm, rfl⟩
      · have b1 : 0 ≤ f := by omega
        have b2 : f ≤ 359 := by omega
        have b3 : 0 ≤ t := by omega
        have b4 : t ≤ 359 := by omega
        clear hb
        go_wp2
        go_round
        case rel => exact ⟨k + 1, by omega, by go_num, by rw [Hs.out, Hno.out, Hd.out]; simp; omega⟩
        case measure => simp [intOf]; omega
    · have Hc := bx (show checkN l = 0 by
        unfold checkN
        have := Hno.out
        rw [List.take_of_length_le (by omega)] at this
        rw [if_neg hl, this]; simp)
      go_wp2
      go_ret
      exact ⟨ret_int Hc.out.symm, rfl⟩
end Go.Proofs.Ytaahdfmbbbjmaaa
