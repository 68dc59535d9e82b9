/-
  Walks of layer 30: diagnose.caused, diagnose.Explains.
-/
import Derived.Test.YtgfmnolghbiedaaDoorK1
namespace Go.Proofs.YtgfmnolghbiedaaDoor
open Go.RowKit

/-- what slices.IndexFunc answers -/
def AnyPost (us : List Int) (p : Int → Bool) (w : World) (e : Ending) (w' : World) : Prop := (∃ i : Int, e = .returned (.int .i64 i) ∧ decide (0 ≤ i) = us.any p) ∧ Below w.heap.size w w'
/-- slices.IndexFunc at the closure cau -/
theorem indexFunc_cau (A : Option Addr) (c : Nat) (us : List Int) (n : Int) (sh : List (List Int)) (s : Int) (bg bs : Nat) (w : World) (h : Ints w w.heap.size A us) (hm : us.length ≤ 9223372036854775807) (hg : GBox w w.heap.size bg n sh) (hs : w.cell? ⟨bs, 0, none⟩ = some (.int .i64 s)) :
    Calls Tryd.prog 64 #[.slice A us.length c, .func (.func 62) #[] #[.pointer (some ⟨bg, 0, none⟩), .pointer (some ⟨bs, 0, none⟩)]] w (AnyPost us (cau1 sh s) w) := by
  go_enter Tryd.func64, Tryd.ntmps64
  go_wp2
  go_loopw [5, 8] (fun _ i wr => ∃ k : Nat, k ≤ us.length ∧ i = .int .i64 k ∧ (us.take k).any (cau1 sh s) = false ∧ Below w.heap.size w wr) (fun _ i _ => us.length - (intOf i).toNat)
  case atStart => exact ⟨0, Nat.zero_le _, rfl, rfl, Below.refl _ _⟩
  case round =>
    obtain ⟨k, hk, rfl, hno, hbw⟩ := hrel
    have Hno := bx hno
    clear hno
    have hw := h.below hbw
    have hG := bx ((hg.below hbw).more hbw.size)
    have hS := (hbw.cell (p := ⟨bs, 0, none⟩) (World.block_lt_of_cell? w _ hs)).trans hs
    by_cases hlt : k < us.length
    · obtain ⟨b, off, rfl, hb, g1⟩ := hw.at_ k hlt
      have Hs := bx (show (us.take (k + 1)).any (cau1 sh s) = ((us.take k).any (cau1 sh s) || (cau1 sh s) us[k]) by
        rw [List.take_succ_eq_append_getElem hlt, List.any_append]; simp)
      have Hm := bx (fun hb : (cau1 sh s) us[k] = true => show us.any (cau1 sh s) = true from List.any_eq_true.2 ⟨_, List.getElem_mem hlt, hb⟩)
      generalize us[k] = u at *
      cases hi : (cau1 sh s) u
      · have Hi := bx hi
        clear hi
        go_wp2_with fail
        refine (caused1 n sh s u bg bs wr hG.out hS).mono ?_
        rintro e w' ⟨rfl, hb'⟩
        rw [Hi.out]
        go_wp2
        go_roundw
        case rel => exact ⟨k + 1, by omega, by go_num, by rw [Hs.out, Hno.out, Hi.out]; rfl, hbw.trans (hb'.mono hbw.size)⟩
        case measure => simp [intOf]; omega
      · have Hi := bx hi
        have Ht := bx (Hm.out hi)
        clear hi
        go_wp2_with fail
        refine (caused1 n sh s u bg bs wr hG.out hS).mono ?_
        rintro e w' ⟨rfl, hb'⟩
        rw [Hi.out]
        go_wp2
        go_ret
        exact ⟨⟨k, rfl, by rw [Ht.out]; simp⟩, hbw.trans (hb'.mono hbw.size)⟩
    · obtain rfl : k = us.length := by omega
      have Hc := bx (show us.any (cau1 sh s) = false by have := Hno.out; rwa [List.take_of_length_le (Nat.le_refl _)] at this)
      go_wp2
      go_ret
      exact ⟨⟨-1, rfl, by rw [Hc.out]; rfl⟩, hbw⟩
/-- slices.ContainsFunc at the closure cau -/
theorem containsFunc_cau (A : Option Addr) (c : Nat) (us : List Int) (n : Int) (sh : List (List Int)) (s : Int) (bg bs : Nat) (w : World) (h : Ints w w.heap.size A us) (hm : us.length ≤ 9223372036854775807) (hg : GBox w w.heap.size bg n sh) (hs : w.cell? ⟨bs, 0, none⟩ = some (.int .i64 s)) (x : Bool) (hx : us.any (cau1 sh s) = x) :
    Calls Tryd.prog 57 #[.slice A us.length c, .func (.func 62) #[] #[.pointer (some ⟨bg, 0, none⟩), .pointer (some ⟨bs, 0, none⟩)]] w fun e w' => e = .returned (.bool x) ∧ Below w.heap.size w w' := by
  go_enter Tryd.func57, Tryd.ntmps57
  go_wp2_with fail
  refine (indexFunc_cau A c us n sh s bg bs w h hm hg hs).mono ?_
  rintro e w' ⟨⟨i, rfl, hi⟩, hb⟩
  rw [hx] at hi
  have Hi := bx hi
  clear hi
  go_wp2
  go_ret
  exact ⟨ret_bool Hi.out, hb⟩

theorem gbox_new (w : World) (n : Int) (A : Option Addr) (c : Nat) (sh : List (List Int)) (hl : Lists w w.heap.size A sh) (hn : sh.length ≤ 9223372036854775807) :
    GBox (w.alloc (.cells #[.int .i64 n, .slice A sh.length c] 35)) (w.heap.size + 1) w.heap.size n sh :=
  ⟨by omega, hn, by rw [World.cell?_alloc_new]; rfl, A, c, by rw [World.cell?_alloc_new]; rfl, (hl.below ((Below.refl _ _).alloc (Nat.le_refl _) _)).more (by omega)⟩
theorem caused_calls (n : Int) (AG : Option Addr) (cG : Nat) (sh : List (List Int)) (A : Option Addr) (c : Nat) (us : List Int) (s : Int) (w : World) (hl : Lists w w.heap.size AG sh) (hn : sh.length ≤ 9223372036854775807)
    (h : Ints w w.heap.size A us) (hm : us.length ≤ 9223372036854775807) (x : Bool) (hx : cau sh us s = x) :
    Calls Tryd.prog 56 #[.agg #[.int .i64 n, .slice AG sh.length cG], .slice A us.length c, .int .i64 s] w fun e w' => e = .returned (.bool x) ∧ Below w.heap.size w w' := by
  have hb0 : Below w.heap.size w ((w.alloc (.cells #[.int .i64 n, .slice AG sh.length cG] 35)).alloc (.cells #[.int .i64 s] 3)) := ((Below.refl _ _).alloc (Nat.le_refl _) _).alloc (by simp) _
  have hG := bx ((gbox_new w n AG cG sh hl hn).below (w' := (w.alloc (.cells #[.int .i64 n, .slice AG sh.length cG] 35)).alloc (.cells #[.int .i64 s] 3)) ((Below.refl _ _).alloc (by simp) _))
  go_enter Tryd.func56, Tryd.ntmps56
  go_wp2_with fail
  refine (containsFunc_cau A c us n sh s w.heap.size (w.heap.size + 1) _ ((h.below hb0).more hb0.size) hm (hG.out.more (by simp)) (by have e := World.cell?_alloc_new (w.alloc (.cells #[.int .i64 n, .slice AG sh.length cG] 35)) #[.int .i64 s] 3 0; rw [World.size_alloc] at e; exact e) x hx).mono ?_
  rintro e w' ⟨rfl, hb⟩
  go_wp2
  go_ret
  exact ⟨rfl, hb0.trans (hb.mono hb0.size)⟩
/-- a slice of numbers in a box -/
structure UBox (w : World) (B b : Nat) (us : List Int) : Prop where
  lt : b < B
  len : us.length ≤ 9223372036854775807
  c0 : ∃ A c, w.cell? ⟨b, 0, none⟩ = some (.slice A us.length c) ∧ Ints w B A us
theorem UBox.below {w w' : World} {B b : Nat} {us : List Int} (h : UBox w B b us) (hb : Below B w w') : UBox w' B b us := by
  obtain ⟨lt, len, A, c, c0, hi⟩ := h
  exact ⟨lt, len, A, c, (hb.cell (p := ⟨b, 0, none⟩) lt).trans c0, hi.below hb⟩
theorem UBox.more {w : World} {B B' b : Nat} {us : List Int} (h : UBox w B b us) (hB : B ≤ B') : UBox w B' b us := by
  obtain ⟨lt, len, A, c, c0, hi⟩ := h
  exact ⟨by omega, len, A, c, c0, hi.more hB⟩
theorem ubox_new (w : World) (A : Option Addr) (c : Nat) (us : List Int) (h : Ints w w.heap.size A us) (hn : us.length ≤ 9223372036854775807) (t : TypeId) :
    UBox (w.alloc (.cells #[.slice A us.length c] t)) (w.heap.size + 1) w.heap.size us :=
  ⟨by omega, hn, A, c, by rw [World.cell?_alloc_new]; rfl, (h.below ((Below.refl _ _).alloc (Nat.le_refl _) _)).more (by omega)⟩
theorem explains1 (n : Int) (sh : List (List Int)) (us : List Int) (s : Int) (bg bu : Nat) (w : World) (hg : GBox w w.heap.size bg n sh) (hu : UBox w w.heap.size bu us) :
    Calls Tryd.prog 58 #[.int .i64 s, .pointer (some ⟨bg, 0, none⟩), .pointer (some ⟨bu, 0, none⟩)] w fun e w' => e = .returned (.bool (cau sh us s)) ∧ Below w.heap.size w w' := by
  obtain ⟨_, l1, g0, AG, cG, g1, hl⟩ := hg
  obtain ⟨_, l2, AU, cU, u0, hi⟩ := hu
  go_enter Tryd.func58, Tryd.ntmps58
  go_wp2_with fail
  refine (caused_calls n AG cG sh AU cU us s w hl l1 hi l2 _ rfl).mono ?_
  rintro e w' ⟨rfl, hb⟩
  go_wp2
  go_ret
  exact ⟨rfl, hb⟩
/-- slices.IndexFunc at the closure expl -/
theorem indexFunc_expl (A : Option Addr) (c : Nat) (us : List Int) (n : Int) (sh : List (List Int)) (vs : List Int) (bg bu : Nat) (w : World) (h : Ints w w.heap.size A us) (hm : us.length ≤ 9223372036854775807) (hg : GBox w w.heap.size bg n sh) (hu : UBox w w.heap.size bu vs) :
    Calls Tryd.prog 64 #[.slice A us.length c, .func (.func 58) #[] #[.pointer (some ⟨bg, 0, none⟩), .pointer (some ⟨bu, 0, none⟩)]] w (AnyPost us (cau sh vs) w) := by
  go_enter Tryd.func64, Tryd.ntmps64
  go_wp2
  go_loopw [5, 8] (fun _ i wr => ∃ k : Nat, k ≤ us.length ∧ i = .int .i64 k ∧ (us.take k).any (cau sh vs) = false ∧ Below w.heap.size w wr) (fun _ i _ => us.length - (intOf i).toNat)
  case atStart => exact ⟨0, Nat.zero_le _, rfl, rfl, Below.refl _ _⟩
  case round =>
    obtain ⟨k, hk, rfl, hno, hbw⟩ := hrel
    have Hno := bx hno
    clear hno
    have hw := h.below hbw
    have hG := bx ((hg.below hbw).more hbw.size)
    have hU := bx ((hu.below hbw).more hbw.size)
    by_cases hlt : k < us.length
    · obtain ⟨b, off, rfl, hb, g1⟩ := hw.at_ k hlt
      have Hs := bx (show (us.take (k + 1)).any (cau sh vs) = ((us.take k).any (cau sh vs) || (cau sh vs) us[k]) by
        rw [List.take_succ_eq_append_getElem hlt, List.any_append]; simp)
      have Hm := bx (fun hb : (cau sh vs) us[k] = true => show us.any (cau sh vs) = true from List.any_eq_true.2 ⟨_, List.getElem_mem hlt, hb⟩)
      generalize us[k] = u at *
      cases hi : (cau sh vs) u
      · have Hi := bx hi
        clear hi
        go_wp2_with fail
        refine (explains1 n sh vs u bg bu wr hG.out hU.out).mono ?_
        rintro e w' ⟨rfl, hb'⟩
        rw [Hi.out]
        go_wp2
        go_roundw
        case rel => exact ⟨k + 1, by omega, by go_num, by rw [Hs.out, Hno.out, Hi.out]; rfl, hbw.trans (hb'.mono hbw.size)⟩
        case measure => simp [intOf]; omega
      · have Hi := bx hi
        have Ht := bx (Hm.out hi)
        clear hi
        go_wp2_with fail
        refine (explains1 n sh vs u bg bu wr hG.out hU.out).mono ?_
        rintro e w' ⟨rfl, hb'⟩
        rw [Hi.out]
        go_wp2
        go_ret
        exact ⟨⟨k, rfl, by rw [Ht.out]; simp⟩, hbw.trans (hb'.mono hbw.size)⟩
    · obtain rfl : k = us.length := by omega
      have Hc := bx (show us.any (cau sh vs) = false by have := Hno.out; rwa [List.take_of_length_le (Nat.le_refl _)] at this)
      go_wp2
      go_ret
      exact ⟨⟨-1, rfl, by rw [Hc.out]; rfl⟩, hbw⟩
/-- slices.ContainsFunc at the closure expl -/
theorem containsFunc_expl (A : Option Addr) (c : Nat) (us : List Int) (n : Int) (sh : List (List Int)) (vs : List Int) (bg bu : Nat) (w : World) (h : Ints w w.heap.size A us) (hm : us.length ≤ 9223372036854775807) (hg : GBox w w.heap.size bg n sh) (hu : UBox w w.heap.size bu vs) (x : Bool) (hx : us.any (cau sh vs) = x) :
    Calls Tryd.prog 57 #[.slice A us.length c, .func (.func 58) #[] #[.pointer (some ⟨bg, 0, none⟩), .pointer (some ⟨bu, 0, none⟩)]] w fun e w' => e = .returned (.bool x) ∧ Below w.heap.size w w' := by
  go_enter Tryd.func57, Tryd.ntmps57
  go_wp2_with fail
  refine (indexFunc_expl A c us n sh vs bg bu w h hm hg hu).mono ?_
  rintro e w' ⟨⟨i, rfl, hi⟩, hb⟩
  rw [hx] at hi
  have Hi := bx hi
  clear hi
  go_wp2
  go_ret
  exact ⟨ret_bool Hi.out, hb⟩

theorem explains_calls (n : Int) (AG : Option Addr) (cG : Nat) (sh : List (List Int)) (A : Option Addr) (c : Nat) (us : List Int) (AS : Option Addr) (cS : Nat) (seen : List Int) (AC : Option Addr) (cC : Nat) (clear : List Int) (w : World)
    (hl : Lists w w.heap.size AG sh) (hn : sh.length ≤ 9223372036854775807) (h : Ints w w.heap.size A us) (hm : us.length ≤ 9223372036854775807)
    (h1 : Ints w w.heap.size AS seen) (hm1 : seen.length ≤ 9223372036854775807) (h2 : Ints w w.heap.size AC clear) (hm2 : clear.length ≤ 9223372036854775807) (x : Bool) (hx : expl sh us seen clear = x) :
    Calls Tryd.prog 52 #[.agg #[.int .i64 n, .slice AG sh.length cG], .slice A us.length c, .slice AS seen.length cS, .slice AC clear.length cC] w fun e w' => e = .returned (.bool x) ∧ Below w.heap.size w w' := by
  obtain ⟨W1, hW1⟩ : ∃ W1, w.alloc (.cells #[.int .i64 n, .slice AG sh.length cG] 35) = W1 := ⟨_, rfl⟩
  obtain ⟨W0, hW0⟩ : ∃ W0, W1.alloc (.cells #[.slice A us.length c] 32) = W0 := ⟨_, rfl⟩
  have s1 : W1.heap.size = w.heap.size + 1 := by rw [← hW1]; simp
  have s0 : W0.heap.size = w.heap.size + 2 := by rw [← hW0]; simp [s1]
  have hb1 : Below w.heap.size w W1 := by rw [← hW1]; exact (Below.refl _ _).alloc (Nat.le_refl _) _
  have hb01 : Below W1.heap.size W1 W0 := by rw [← hW0]; exact (Below.refl _ _).alloc (Nat.le_refl _) _
  have hb0 : Below w.heap.size w W0 := hb1.trans (hb01.mono hb1.size)
  have hG1 : GBox W1 W1.heap.size w.heap.size n sh := by rw [s1, ← hW1]; exact gbox_new w n AG cG sh hl hn
  have hG0 := (hG1.below hb01).more hb01.size
  have hU0 : UBox W0 W0.heap.size (w.heap.size + 1) us := by
    have := ubox_new W1 A c us ((h.below hb1).more hb1.size) hm 32
    rw [hW0, s1] at this
    rw [s0]; exact this
  go_enter Tryd.func52, Tryd.ntmps52
  go_wp2_with fail
  have hS0 := (h1.below hb0).more hb0.size
  have hC0 := (h2.below hb0).more hb0.size
  have HX := bx hx
  clear hx hW1 hW0 hG1 hb1 hb01 hl h h1 h2
  go_loopw [10, 13] (fun _ i wr => ∃ k : Nat, k ≤ seen.length ∧ i = .int .i64 k ∧ (seen.take k).all (cau sh us) = true ∧ Below W0.heap.size W0 wr) (fun _ i _ => seen.length - (intOf i).toNat)
  case atStart => exact ⟨0, Nat.zero_le _, rfl, rfl, Below.refl _ _⟩
  case round =>
    obtain ⟨k, hk, rfl, hno, hbw⟩ := hrel
    have Hno := bx hno
    clear hno
    have hG := bx ((hG0.below hbw).more hbw.size)
    have hU := bx ((hU0.below hbw).more hbw.size)
    have hC := bx ((hC0.below hbw).more hbw.size)
    by_cases hlt : k < seen.length
    · obtain ⟨b, off, rfl, hb, g1⟩ := (hS0.below hbw).at_ k hlt
      obtain ⟨_, l1, g0, AG', cG', gg1, hl⟩ := hG.out
      obtain ⟨_, l2, AU, cU, u0, hi⟩ := hU.out
      have Hs := bx (show (seen.take (k + 1)).all (cau sh us) = ((seen.take k).all (cau sh us) && cau sh us seen[k]) by
        rw [List.take_succ_eq_append_getElem hlt, List.all_append]; simp)
      have Hm := bx (fun hb : cau sh us seen[k] = false => show x = false by
        rw [← HX.out, expl, show seen.all (cau sh us) = false from List.all_eq_false.2 ⟨_, List.getElem_mem hlt, by simp [hb]⟩]; rfl)
      generalize seen[k] = s at *
      cases hi' : cau sh us s
      · obtain rfl := Hm.out hi'
        have Hi := bx hi'
        clear hi'
        go_wp2_with fail
        refine (caused_calls n AG' cG' sh AU cU us s wr hl l1 hi l2 _ Hi.out).mono ?_
        rintro e w' ⟨rfl, hb'⟩
        go_wp2
        go_ret
        exact ⟨rfl, hb0.trans ((hbw.trans (hb'.mono hbw.size)).mono hb0.size)⟩
      · have Hi := bx hi'
        clear hi'
        go_wp2_with fail
        refine (caused_calls n AG' cG' sh AU cU us s wr hl l1 hi l2 _ Hi.out).mono ?_
        rintro e w' ⟨rfl, hb'⟩
        go_wp2
        go_roundw
        case rel => exact ⟨k + 1, by omega, by go_num, by rw [Hs.out, Hno.out, Hi.out]; rfl, hbw.trans (hb'.mono hbw.size)⟩
        case measure => simp [intOf]; omega
    · obtain rfl : k = seen.length := by omega
      have He := bx (show (!clear.any (cau sh us)) = x by
        have := Hno.out
        rw [List.take_of_length_le (Nat.le_refl _)] at this
        rw [← HX.out, expl, this]; rfl)
      clear HX
      obtain ⟨y, hy⟩ : ∃ y, clear.any (cau sh us) = y := ⟨_, rfl⟩
      have HY := bx hy
      rw [hy] at He
      clear hy
      go_wp2_with fail
      refine (containsFunc_expl AC cC clear n sh us w.heap.size (w.heap.size + 1) wr hC.out hm2 hG.out hU.out y HY.out).mono ?_
      rintro e w' ⟨rfl, hb'⟩
      go_wp2
      go_ret
      exact ⟨ret_bool He.out, hb0.trans ((hbw.trans (hb'.mono hbw.size)).mono hb0.size)⟩
end Go.Proofs.YtgfmnolghbiedaaDoor
