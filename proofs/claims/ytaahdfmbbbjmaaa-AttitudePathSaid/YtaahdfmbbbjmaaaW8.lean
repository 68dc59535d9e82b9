/-
  Walks of layer 12: the choice among the turns (slices.DeleteFunc, slices.MinFunc at its two closures).
-/
import Derived.Test.YtaahdfmbbbjmaaaW7
namespace Go.Proofs.Ytaahdfmbbbjmaaa
open Go.RowKit Go.Shelf

/-- what Turn's closures see: the closure 'free' in a box, the box of 'from', the marks -/
structure TurnEnv (w : World) (B : Nat) (l : ArcL) (a : Int) (B9 Bf Bb : Nat) : Prop where
  c9 : w.cell? ⟨B9, 0, none⟩ = some (.func (.func 35) #[] #[.pointer (some ⟨Bf, 0, none⟩), .pointer (some ⟨Bb, 0, none⟩)])
  cf : w.cell? ⟨Bf, 0, none⟩ = some (.int .i64 a)
  mm : Marked w Bb l
  b9 : B9 < B
  bf : Bf < B
  bb : Bb < B
theorem TurnEnv.below {w w' : World} {B : Nat} {l : ArcL} {a : Int} {B9 Bf Bb : Nat} (h : TurnEnv w B l a B9 Bf Bb) (hb : Below B w w') : TurnEnv w' B l a B9 Bf Bb :=
  ⟨(hb.cell (p := ⟨B9, 0, none⟩) h.b9).trans h.c9, (hb.cell (p := ⟨Bf, 0, none⟩) h.bf).trans h.cf, fun i i0 i1 => (hb.cell (p := ⟨Bb, i.toNat, none⟩) h.bb).trans (h.mm i i0 i1), h.b9, h.bf, h.bb⟩
theorem TurnEnv.more {w : World} {B B' : Nat} {l : ArcL} {a : Int} {B9 Bf Bb : Nat} (h : TurnEnv w B l a B9 Bf Bb) (hB : B ≤ B') : TurnEnv w B' l a B9 Bf Bb :=
  ⟨h.c9, h.cf, h.mm, Nat.lt_of_lt_of_le h.b9 hB, Nat.lt_of_lt_of_le h.bf hB, Nat.lt_of_lt_of_le h.bb hB⟩
theorem turn2 (l : ArcL) (a d : Int) (B9 Bf Bb : Nat) (w : World) (h : TurnEnv w w.heap.size l a B9 Bf Bb) (hd1 : -360 ≤ d) (hd2 : d ≤ 360) :
    Calls Try.prog 38 #[.int .i64 d, .pointer (some ⟨B9, 0, none⟩)] w fun e w' => e = .returned (.bool (!fr l a d)) ∧ Below w.heap.size w w' := by
  have hc := h.c9
  go_enter Try.func38, Try.ntmps38
  go_wp2_with (go_at_call 35; refine (free_calls l a d Bf Bb w h.cf h.mm hd1 hd2 h.bb).mono ?_; rintro e w' ⟨rfl, hb⟩)
  go_ret
  exact ⟨rfl, hb⟩
/-- the slice at A holds the numbers xs, below block B -/
structure Ints (w : World) (B : Nat) (A : Option Addr) (xs : List Int) : Prop where
  at_ : ∀ k (hk : k < xs.length), ∃ b off, A = some ⟨b, off, none⟩ ∧ b < B ∧ w.cell? ⟨b, off + k, none⟩ = some (.int .i64 xs[k])
theorem Ints.below {w w' : World} {B : Nat} {A : Option Addr} {xs : List Int} (h : Ints w B A xs) (hb : Below B w w') : Ints w' B A xs :=
  ⟨fun k hk => by
    obtain ⟨b, off, e, hlt, c⟩ := h.at_ k hk
    exact ⟨b, off, e, hlt, (hb.cell (p := ⟨b, off + k, none⟩) hlt).trans c⟩⟩
/-- the first index at which p holds, or -1 -/
def idxOf (p : Int → Bool) (xs : List Int) : Int := if xs.any p then (xs.findIdx p : Nat) else -1
theorem indexFunc_turn (A : Option Addr) (c : Nat) (xs : List Int) (l : ArcL) (a : Int) (B9 Bf Bb : Nat) (w : World) (hx : Ints w w.heap.size A xs) (hm : xs.length ≤ 100) (hd : ∀ d ∈ xs, -360 ≤ d ∧ d ≤ 360) (h : TurnEnv w w.heap.size l a B9 Bf Bb) :
    Calls Try.prog 45 #[.slice A xs.length c, .func (.func 38) #[] #[.pointer (some ⟨B9, 0, none⟩)]] w fun e w' => e = .returned (.int .i64 (idxOf (fun d => !fr l a d) xs)) ∧ Below w.heap.size w w' := by
  go_enter Try.func45, Try.ntmps45
  go_wp2
  go_loopw [8] (fun i wr => ∃ k : Nat, k ≤ xs.length ∧ i = .int .i64 k ∧ (xs.take k).any (fun d => !fr l a d) = false ∧ Below w.heap.size w wr) (fun i _ => xs.length - (intOf i).toNat)
  case atStart => exact ⟨0, Nat.zero_le _, rfl, rfl, Below.refl _ _⟩
  case round =>
    obtain ⟨k, hk, rfl, hno, hbw⟩ := hrel
    have Hno := bx hno
    clear hno
    have hw := hx.below hbw
    have hT := bx ((h.below hbw).more hbw.size)
    by_cases hlt : k < xs.length
    · obtain ⟨b, off, rfl, hb, c1⟩ := hw.at_ k hlt
      obtain ⟨d1, d2⟩ := hd _ (List.getElem_mem hlt)
      have Hs := bx (show (xs.take (k + 1)).any (fun d => !fr l a d) = ((xs.take k).any (fun d => !fr l a d) || !fr l a xs[k]) by
        rw [List.take_succ_eq_append_getElem hlt, List.any_append]; simp)
      have Hm := bx (fun hb : fr l a xs[k] = false => show idxOf (fun d => !fr l a d) xs = k by
        unfold idxOf
        have hf : xs.findIdx (fun d => !fr l a d) = k := by
          rw [List.findIdx_eq hlt]
          refine ⟨by simp [hb], fun j hj => ?_⟩
          have := List.any_eq_false.1 Hno.out xs[j] (by
            rw [List.mem_take_iff_getElem]
            exact ⟨j, by omega, rfl⟩)
          simpa using this
        rw [if_pos (List.any_eq_true.2 ⟨xs[k], List.getElem_mem hlt, by simp [hb]⟩), hf])
      generalize xs[k] = d at *
      cases hi : fr l a d
      · have Hi := bx hi
        clear hi
        go_wp2_with (go_at_call 38; refine (turn2 _ _ _ _ _ _ _ hT.out d1 d2).mono ?_; rintro e w' ⟨rfl, hb'⟩; rw [Hi.out])
        go_ret
        exact ⟨ret_int (Hm.out Hi.out).symm, hbw.trans (hb'.mono hbw.size)⟩
      · have Hi := bx hi
        clear hi
        go_wp2_with (go_at_call 38; refine (turn2 _ _ _ _ _ _ _ hT.out d1 d2).mono ?_; rintro e w' ⟨rfl, hb'⟩; rw [Hi.out])
        go_roundw
        case rel => exact ⟨k + 1, by omega, by go_num, by rw [Hs.out, Hno.out, Hi.out]; rfl, hbw.trans (hb'.mono hbw.size)⟩
        case measure => simp [intOf]; omega
    · have Hc := bx (show idxOf (fun d => !fr l a d) xs = -1 by
        have := Hno.out
        rw [List.take_of_length_le (by omega)] at this
        unfold idxOf
        rw [this]; rfl)
      go_wp2
      go_ret
      exact ⟨ret_int Hc.out.symm, hbw⟩
/-- Turn's way to compare two turns -/
theorem turn3 (x y : Int) (w : World) (hx : -360 ≤ x ∧ x ≤ 360) (hy : -360 ≤ y ∧ y ≤ 360) :
    Calls Try.prog 40 #[.int .i64 x, .int .i64 y] w fun e w' => e = .returned (.int .i64 ((x.natAbs : Int) - y.natAbs)) ∧ w = w' := by
  go_enter Try.func40, Try.ntmps40
  go_wp2_with (go_at_call 41; refine (attAbs _ _ (by omega) (by omega)).mono ?_; rintro e w' ⟨rfl, rfl⟩)
  go_ret
  exact ⟨rfl, rfl⟩
end Go.Proofs.Ytaahdfmbbbjmaaa
