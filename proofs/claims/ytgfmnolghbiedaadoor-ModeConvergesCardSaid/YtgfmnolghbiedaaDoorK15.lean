/-
  Walks of layer 30: perigeeref30.Explains.
-/
import Derived.Test.YtgfmnolghbiedaaDoorK14
namespace Go.Proofs.YtgfmnolghbiedaaDoor
open Go.RowKit

theorem refCaused_val (n : Int) (AG : Option Addr) (cG : Nat) (sh : List (List Int)) (A : Option Addr) (c : Nat) (us : List Int) (s : Int) (w : World) (hl : Lists w w.heap.size AG sh) (hn : sh.length ≤ 9223372036854775807)
    (h : Ints w w.heap.size A us) (hm : us.length ≤ 9223372036854775807) (t : Bool) (ht : cau sh us s = t) :
    Calls Tryd.prog 45 #[.agg #[.int .i64 n, .slice AG sh.length cG], .slice A us.length c, .int .i64 s] w fun e w' => e = .returned (.bool t) ∧ Below w.heap.size w w' := by
  have := refCaused_calls n AG cG sh A c us s w hl hn h hm
  rwa [ht] at this
theorem refExplains_calls (n : Int) (AG : Option Addr) (cG : Nat) (sh : List (List Int)) (A : Option Addr) (c : Nat) (us : List Int) (AS : Option Addr) (cS : Nat) (seen : List Int) (AC : Option Addr) (cC : Nat) (clear : List Int) (w : World)
    (hl : Lists w w.heap.size AG sh) (hn : sh.length ≤ 9223372036854775807) (h : Ints w w.heap.size A us) (hm : us.length ≤ 9223372036854775807)
    (h1 : Ints w w.heap.size AS seen) (hm1 : seen.length ≤ 9223372036854775807) (h2 : Ints w w.heap.size AC clear) (hm2 : clear.length ≤ 9223372036854775807) (x : Bool) (hx : expl sh us seen clear = x) :
    Calls Tryd.prog 60 #[.agg #[.int .i64 n, .slice AG sh.length cG], .slice A us.length c, .slice AS seen.length cS, .slice AC clear.length cC] w fun e w' => e = .returned (.bool x) ∧ Below w.heap.size w w' := by
  obtain ⟨W1, hW1⟩ : ∃ W1, w.alloc (.cells #[.int .i64 n, .slice AG sh.length cG] 35) = W1 := ⟨_, rfl⟩
  have s1 : W1.heap.size = w.heap.size + 1 := by rw [← hW1]; simp
  have hb1 : Below w.heap.size w W1 := by rw [← hW1]; exact (Below.refl _ _).alloc (Nat.le_refl _) _
  have hG1 : GBox W1 W1.heap.size w.heap.size n sh := by rw [s1, ← hW1]; exact gbox_new w n AG cG sh hl hn
  have hI1 := (h.below hb1).more hb1.size
  have hS1 := (h1.below hb1).more hb1.size
  have hC1 := (h2.below hb1).more hb1.size
  have HX := bx hx
  clear hx
  go_enter Tryd.func60, Tryd.ntmps60
  go_wp2
  clear hW1 hl h h1 h2
  go_loopw [9] (fun i wr => ∃ k : Nat, k ≤ seen.length ∧ i = .int .i64 k ∧ (seen.take k).all (cau sh us) = true ∧ Below W1.heap.size W1 wr) (fun i _ => seen.length - (intOf i).toNat)
  case atStart => exact ⟨0, Nat.zero_le _, rfl, rfl, Below.refl _ _⟩
  case round =>
    obtain ⟨k, hk, rfl, hno, hbw⟩ := hrel
    have Hno := bx hno
    clear hno
    have hsz := hbw.size
    by_cases hlt : k < seen.length
    · obtain ⟨hq, l1, g0, AG', cG', gg1, hlX⟩ := (hG1.below hbw).more hsz
      obtain ⟨b, off, rfl, hb, g1⟩ := ((hS1.below hbw).more hsz).at_ k hlt
      have HI := bx ((hI1.below hbw).more hsz)
      have HLX := bx hlX
      clear hlX
      have Hs := bx (show (seen.take (k + 1)).all (cau sh us) = ((seen.take k).all (cau sh us) && cau sh us seen[k]) by
        rw [List.take_succ_eq_append_getElem hlt, List.all_append]; simp)
      have Hm := bx (fun hb : cau sh us seen[k] = false => show x = false by
        rw [← HX.out, expl, show seen.all (cau sh us) = false from List.all_eq_false.2 ⟨_, List.getElem_mem hlt, by simp [hb]⟩]; rfl)
      have z1 : (0 : Int) ≤ (k : Int) := by omega
      have z2 : (k : Int) < (seen.length : Int) := by omega
      generalize seen[k] = s at *
      cases hi' : cau sh us s
      · obtain rfl := Hm.out hi'
        have Hi := bx hi'
        clear hi'
        go_wp2_with fail
        go_region_held3 (fun w' => w'.cell? ⟨w.heap.size, 0, none⟩ = some (.int .i64 n) ∧ w'.cell? ⟨w.heap.size, 1, none⟩ = some (.slice AG' sh.length cG') ∧ w'.cell? ⟨b, off + k, none⟩ = some (.int .i64 s))
          (first | go_keep | (go_split_ands; refine ⟨(hb5.cell (p := ⟨w.heap.size, 0, none⟩) hq).trans (by go_keep), (hb5.cell (p := ⟨w.heap.size, 1, none⟩) hq).trans (by go_keep), (hb5.cell (p := ⟨b, off + k, none⟩) hb).trans (by go_keep)⟩))
          (first | (go_at_call 45; refine (refCaused_val n AG' cG' sh A c us s wr.drew (HLX.out.below (Below.refl _ _).drew) l1 (HI.out.below (Below.refl _ _).drew) hm false Hi.out).mono ?_; rintro e w5 ⟨rfl, hb5⟩))
        go_wp2
        go_ret
        exact ⟨rfl, hb1.trans ((hbw.trans (((Below.refl _ wr).drew.trans hb5).mono hsz)).mono hb1.size)⟩
      · have Hi := bx hi'
        clear hi'
        go_wp2_with fail
        go_region_held3 (fun w' => w'.cell? ⟨w.heap.size, 0, none⟩ = some (.int .i64 n) ∧ w'.cell? ⟨w.heap.size, 1, none⟩ = some (.slice AG' sh.length cG') ∧ w'.cell? ⟨b, off + k, none⟩ = some (.int .i64 s))
          (first | go_keep | (go_split_ands; refine ⟨(hb5.cell (p := ⟨w.heap.size, 0, none⟩) hq).trans (by go_keep), (hb5.cell (p := ⟨w.heap.size, 1, none⟩) hq).trans (by go_keep), (hb5.cell (p := ⟨b, off + k, none⟩) hb).trans (by go_keep)⟩))
          (first | (go_at_call 45; refine (refCaused_val n AG' cG' sh A c us s wr.drew (HLX.out.below (Below.refl _ _).drew) l1 (HI.out.below (Below.refl _ _).drew) hm true Hi.out).mono ?_; rintro e w5 ⟨rfl, hb5⟩))
        go_wp2
        go_roundw
        case rel => exact ⟨k + 1, by omega, by go_num, by rw [Hs.out, Hno.out, Hi.out]; rfl, hbw.trans (((Below.refl _ wr).drew.trans hb5).mono hsz)⟩
        case measure => simp [intOf]; omega
    · obtain rfl : k = seen.length := by omega
      have He := bx (show (!clear.any (cau sh us)) = x by
        have := Hno.out
        rw [List.take_of_length_le (Nat.le_refl _)] at this
        rw [← HX.out, expl, this]; rfl)
      clear HX Hno
      go_wp2
      have hbs := hbw
      clear hbw hsz
      go_loopw [10] (fun i wi => ∃ j : Nat, j ≤ clear.length ∧ i = .int .i64 j ∧ (clear.take j).any (cau sh us) = false ∧ Below W1.heap.size W1 wi) (fun i _ => clear.length - (intOf i).toNat)
      case atStart => exact ⟨0, Nat.zero_le _, rfl, rfl, hbs⟩
      case round =>
        obtain ⟨j, hj, rfl, hno, hbw⟩ := hrel
        have Hno := bx hno
        clear hno hbs
        have hsz := hbw.size
        by_cases hlt : j < clear.length
        · obtain ⟨hq, l1, g0, AG', cG', gg1, hlX⟩ := (hG1.below hbw).more hsz
          obtain ⟨b, off, rfl, hb, g1⟩ := ((hC1.below hbw).more hsz).at_ j hlt
          have HI := bx ((hI1.below hbw).more hsz)
          have HLX := bx hlX
          clear hlX
          have Hs := bx (show (clear.take (j + 1)).any (cau sh us) = ((clear.take j).any (cau sh us) || cau sh us clear[j]) by
            rw [List.take_succ_eq_append_getElem hlt, List.any_append]; simp)
          have Hm := bx (fun hb : cau sh us clear[j] = true => show x = false by
            rw [← He.out, show clear.any (cau sh us) = true from List.any_eq_true.2 ⟨_, List.getElem_mem hlt, hb⟩]; rfl)
          have z1 : (0 : Int) ≤ (j : Int) := by omega
          have z2 : (j : Int) < (clear.length : Int) := by omega
          generalize clear[j] = s at *
          cases hi' : cau sh us s
          · have Hi := bx hi'
            clear hi'
            go_wp2_with fail
            go_region_held3 (fun w' => w'.cell? ⟨w.heap.size, 0, none⟩ = some (.int .i64 n) ∧ w'.cell? ⟨w.heap.size, 1, none⟩ = some (.slice AG' sh.length cG') ∧ w'.cell? ⟨b, off + j, none⟩ = some (.int .i64 s))
              (first | go_keep | (go_split_ands; refine ⟨(hb5.cell (p := ⟨w.heap.size, 0, none⟩) hq).trans (by go_keep), (hb5.cell (p := ⟨w.heap.size, 1, none⟩) hq).trans (by go_keep), (hb5.cell (p := ⟨b, off + j, none⟩) hb).trans (by go_keep)⟩))
              (first | (go_at_call 45; refine (refCaused_val n AG' cG' sh A c us s wr.drew (HLX.out.below (Below.refl _ _).drew) l1 (HI.out.below (Below.refl _ _).drew) hm false Hi.out).mono ?_; rintro e w5 ⟨rfl, hb5⟩))
            go_wp2
            go_roundw
            case rel => exact ⟨j + 1, by omega, by go_num, by rw [Hs.out, Hno.out, Hi.out]; rfl, hbw.trans (((Below.refl _ wr).drew.trans hb5).mono hsz)⟩
            case measure => simp [intOf]; omega
          · obtain rfl := Hm.out hi'
            have Hi := bx hi'
            clear hi'
            go_wp2_with fail
            go_region_held3 (fun w' => w'.cell? ⟨w.heap.size, 0, none⟩ = some (.int .i64 n) ∧ w'.cell? ⟨w.heap.size, 1, none⟩ = some (.slice AG' sh.length cG') ∧ w'.cell? ⟨b, off + j, none⟩ = some (.int .i64 s))
              (first | go_keep | (go_split_ands; refine ⟨(hb5.cell (p := ⟨w.heap.size, 0, none⟩) hq).trans (by go_keep), (hb5.cell (p := ⟨w.heap.size, 1, none⟩) hq).trans (by go_keep), (hb5.cell (p := ⟨b, off + j, none⟩) hb).trans (by go_keep)⟩))
              (first | (go_at_call 45; refine (refCaused_val n AG' cG' sh A c us s wr.drew (HLX.out.below (Below.refl _ _).drew) l1 (HI.out.below (Below.refl _ _).drew) hm true Hi.out).mono ?_; rintro e w5 ⟨rfl, hb5⟩))
            go_wp2
            go_ret
            exact ⟨rfl, hb1.trans ((hbw.trans (((Below.refl _ wr).drew.trans hb5).mono hsz)).mono hb1.size)⟩
        · obtain rfl : j = clear.length := by omega
          have Hx := bx (show true = x by
            have := Hno.out
            rw [List.take_of_length_le (Nat.le_refl _)] at this
            rw [← He.out, this]; rfl)
          go_wp2
          go_ret
          exact ⟨ret_bool Hx.out, hb1.trans (hbw.mono hb1.size)⟩
end Go.Proofs.YtgfmnolghbiedaaDoor
