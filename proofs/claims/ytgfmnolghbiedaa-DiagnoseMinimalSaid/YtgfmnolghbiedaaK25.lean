/-
  Walks of layer 30: perigeeref30.Certain.
-/
import Derived.Test.YtgfmnolghbiedaaK24
namespace Go.Proofs.Ytgfmnolghbiedaa
open Go.RowKit

/-- the explanations of the sizes below k -/
def expsBelow (sh : List (List Int)) (seen clear : List Int) (k : Nat) : List (List Int) := (List.range k).flatMap fun j => exps sh seen clear j
theorem expsBelow_succ (sh : List (List Int)) (seen clear : List Int) (k : Nat) : expsBelow sh seen clear (k + 1) = expsBelow sh seen clear k ++ exps sh seen clear k := by
  simp [expsBelow, List.range_succ]
theorem explsOf_eq (sh : List (List Int)) (seen clear : List Int) : explsOf sh seen clear = expsBelow sh seen clear (sh.length + 1) := rfl
def sureB (E : List (List Int)) (u : Int) : Bool := !E.isEmpty && E.all fun s => s.contains u
/-- the answer of the specification after u units -/
def refCertN (sh : List (List Int)) (seen clear : List Int) (k : Nat) : List Int := (units k).filter fun u => sureB (explsOf sh seen clear) u
theorem refCertN_succ (sh : List (List Int)) (seen clear : List Int) (k : Nat) : refCertN sh seen clear (k + 1) = if sureB (explsOf sh seen clear) k then refCertN sh seen clear k ++ [(k : Int)] else refCertN sh seen clear k := by
  rw [refCertN, units_succ, List.filter_append]
  by_cases h : sureB (explsOf sh seen clear) k = true
  · rw [if_pos h]; simp [refCertN, h]
  · rw [if_neg h]; simp [refCertN, h]
theorem refCertN_le (sh : List (List Int)) (seen clear : List Int) (k : Nat) : (refCertN sh seen clear k).length ≤ k := by
  have := List.length_filter_le (fun u => sureB (explsOf sh seen clear) u) (units k)
  simpa [refCertN, units] using this
theorem refCertN_eq (sh : List (List Int)) (seen clear : List Int) : refCertN sh seen clear sh.length = certOf sh seen clear := by
  rw [← certOf_ref]; rfl
/-- some and always, of the explanations seen -/
def SureAt (E : List (List Int)) (u : Int) (a b : Value) : Prop := ∃ x y : Bool, a = .bool x ∧ b = .bool y ∧ x = !E.isEmpty ∧ y = E.all fun s => s.contains u
theorem SureAt.take {E : List (List Int)} {u : Int} {y : Bool} {s : List Int} (hy : y = E.all fun s => s.contains u) : SureAt (E ++ [s]) u (.bool true) (.bool (y && s.contains u)) :=
  ⟨_, _, rfl, rfl, by simp, by rw [List.all_append, ← hy]; simp⟩
set_option maxRecDepth 100000 in
set_option maxHeartbeats 1600000 in
theorem refCertain_calls (n : Int) (AG : Option Addr) (cG : Nat) (sh : List (List Int)) (AS : Option Addr) (cS : Nat) (seen : List Int) (AC : Option Addr) (cC : Nat) (clear : List Int) (w : World)
    (hl : Lists w w.heap.size AG sh) (hn : sh.length ≤ 20) (h1 : Ints w w.heap.size AS seen) (hm1 : seen.length ≤ 9223372036854775807) (h2 : Ints w w.heap.size AC clear) (hm2 : clear.length ≤ 9223372036854775807) :
    Calls Try.prog 24 #[.agg #[.int .i64 n, .slice AG sh.length cG], .slice AS seen.length cS, .slice AC clear.length cC] w (RowPost w (certOf sh seen clear)) := by
  obtain ⟨i0, hi, hz0, hz1, hz2⟩ := info_parts Try.infoInt
  obtain ⟨W1, hW1⟩ : ∃ W1, w.alloc (.cells #[.int .i64 n, .slice AG sh.length cG] 24) = W1 := ⟨_, rfl⟩
  have s1 : W1.heap.size = w.heap.size + 1 := by rw [← hW1]; simp
  have hb1 : Below w.heap.size w W1 := by rw [← hW1]; exact (Below.refl _ _).alloc (Nat.le_refl _) _
  have hG1 : GBox W1 W1.heap.size w.heap.size n sh := by rw [s1, ← hW1]; exact gbox_new w n AG cG sh hl (by omega)
  have hS1 := (h1.below hb1).more hb1.size
  have hC1 := (h2.below hb1).more hb1.size
  obtain ⟨_, _, gi0, AGi, cGi, gi1, hlG⟩ := hG1
  go_enter Try.func24, Try.ntmps24
  go_wp2
  clear hW1 hl h1 h2
  go_loopw [7, 8, 9, 10, 11, 12, 13] (fun v i _ _ _ _ _ wr => ∃ k : Nat, k ≤ sh.length ∧ i = .int .i64 k ∧ wr.ownsRow W1.heap.size 3 1 v (refCertN sh seen clear k).length (ic (refCertN sh seen clear k)) ∧ Below W1.heap.size W1 wr) (fun _ i _ _ _ _ _ _ => sh.length - (intOf i).toNat)
  case atStart => exact ⟨0, Nat.zero_le _, rfl, World.ownsRow_nil _ _ _ _, Below.refl _ _⟩
  case round =>
    obtain ⟨u, hu, rfl, hown, hbw⟩ := hrel
    have hsz := hbw.size
    have c1 : wr.cell? ⟨w.heap.size, 1, none⟩ = some (.slice AGi sh.length cGi) := (hbw.cell (by omega)).trans gi1
    by_cases hlt : u < sh.length
    · have HR := bx (refCertN_succ sh seen clear u)
      have hRl := refCertN_le sh seen clear u
      go_wp2
      obtain ⟨wo, rfl⟩ : ∃ wo : World, wo = wr := ⟨_, rfl⟩
      clear c1
      go_loopw [9, 10, 11, 12, 13] (fun a b i _ _ wr => ∃ k : Nat, k ≤ sh.length + 1 ∧ i = .int .i64 k ∧ SureAt (expsBelow sh seen clear k) u a b ∧ Below wo.heap.size wo wr) (fun _ _ i _ _ _ => sh.length + 1 - (intOf i).toNat)
      case atStart => exact ⟨0, Nat.zero_le _, rfl, ⟨_, _, rfl, rfl, rfl, rfl⟩, Below.refl _ _⟩
      case round =>
        obtain ⟨k, hk, rfl, hsure, hbk⟩ := hrel
        have hszk := hbk.size
        have hbK := hbw.trans (hbk.mono hsz)
        have c1 : wr.cell? ⟨w.heap.size, 1, none⟩ = some (.slice AGi sh.length cGi) := (hbK.cell (by omega)).trans gi1
        by_cases hkl : k ≤ sh.length
        · have t1 : (k : Int) ≤ (sh.length : Int) := by omega
          obtain ⟨T2, hT2⟩ : ∃ T2, subs (units sh.length) k = T2 := ⟨_, rfl⟩
          have hT2l : T2.length ≤ 1048576 := by
            rw [← hT2]
            have h1 := subs_len (units sh.length) k
            have h2 : 2 ^ (units sh.length).length ≤ 2 ^ 20 := Nat.pow_le_pow_right (by decide) (by rw [units_len]; omega)
            omega
          have HS := sets_calls sh.length hn k (by omega) 0 wr (by omega)
          rw [List.drop_zero, hT2] at HS
          have HS := bx (show Calls Try.prog 38 #[.int .i64 0, .int .i64 sh.length, .int .i64 k] wr (ListsPost wr T2) from HS)
          have HE := bx (show expsBelow sh seen clear (k + 1) = expsBelow sh seen clear k ++ T2.filter (fun s => expl sh s seen clear) by rw [expsBelow_succ, ← hT2]; rfl)
          have HSU := bx hsure
          clear hT2 hsure
          go_wp2_with fail
          refine HS.out.mono ?_
          rintro e w3 ⟨ys, A2, c2, hm2', rfl, row2, own2, hb3⟩
          have hyl : ys.length ≤ 1048576 := by
            have : ys.length = T2.length := by rw [← hm2', List.length_map]
            omega
          have HM2 := bx hm2'
          have hs3 := hb3.size
          have hbo3 := hbk.trans (hb3.mono hszk)
          clear hm2' c1
          go_wp2
          obtain ⟨wk, rfl⟩ : ∃ wk : World, wk = wr := ⟨_, rfl⟩
          go_loopw [9, 10, 13] (fun a b j wr => ∃ q : Nat, q ≤ ys.length ∧ j = .int .i64 q ∧ SureAt (expsBelow sh seen clear k ++ ((ys.take q).map (·.s)).filter (fun s => expl sh s seen clear)) u a b ∧ Below w3.heap.size w3 wr) (fun _ _ j _ => ys.length - (intOf j).toNat)
          case atStart => exact ⟨0, Nat.zero_le _, rfl, by simpa using HSU.out, Below.refl _ _⟩
          case round =>
            obtain ⟨q, hq, rfl, hsu, zbw⟩ := hrel
            have zsz := zbw.size
            have hbX0 := hbo3.trans (zbw.mono (by omega))
            have hbX := hbw.trans (hbX0.mono hsz)
            have hsX := hbX.size
            have c0 : wr.cell? ⟨w.heap.size, 0, none⟩ = some (.int .i64 n) := (hbX.cell (by omega)).trans gi0
            have c1 : wr.cell? ⟨w.heap.size, 1, none⟩ = some (.slice AGi sh.length cGi) := (hbX.cell (by omega)).trans gi1
            have row2X := own_call row2 zbw
            by_cases hql : q < ys.length
            · obtain ⟨x, y0, rfl, rfl, hx0, hy0⟩ := hsu
              obtain ⟨y, hy⟩ : ∃ y, ys[q] = y := ⟨_, rfl⟩
              have hyo := own_call (own2 y (by rw [← hy]; exact List.getElem_mem hql)) zbw
              obtain ⟨g2, rfl, hg2a, hg2, hcell⟩ := cell_row row2X hql y.v (by rw [List.getElem?_map, List.getElem?_eq_getElem hql, hy]; rfl)
              have HTK := exps_take (sh := sh) (seen := seen) (clear := clear) hql
              rw [hy] at HTK
              have HTK := bx HTK
              have HX0 := bx hx0
              have HY0 := bx hy0
              clear hy hx0 hy0
              obtain ⟨yA, yc, yl⟩ := y
              simp only [Slc.v] at hyo hcell
              have hylen := own_len hyo
              have hyI := bx (ints_of_own hyo)
              have q1 : (0 : Int) ≤ (q : Int) := by omega
              have q2 : (q : Int) < (ys.length : Int) := by omega
              have hlX := bx ((hlG.below hbX).more hsX)
              have hSX := bx ((hS1.below hbX).more hsX)
              have hCX := bx ((hC1.below hbX).more hsX)
              cases hv : expl sh yl seen clear
              · have HV := bx hv
                clear hv
                go_wp2_with fail
                go_region_held3 (fun w' => w'.cell? ⟨w.heap.size, 0, none⟩ = some (.int .i64 n) ∧ w'.cell? ⟨w.heap.size, 1, none⟩ = some (.slice AGi sh.length cGi) ∧ w'.cell? ⟨g2, q, none⟩ = some (.slice yA yl.length yc)) (first | go_keep | (go_split_ands; refine ⟨?_, ?_, ?_⟩ <;> ((rw [hb5.cell (by simp; omega)]; assumption))))
                  (first | (go_at_call 15; refine (refExplains_calls n AGi cGi sh yA yc yl AS cS seen AC cC clear wr.drew (hlX.out.below ((Below.refl _ wr).drew)) (by omega) (hyI.out.below ((Below.refl _ wr).drew)) hylen (hSX.out.below ((Below.refl _ wr).drew)) hm1 (hCX.out.below ((Below.refl _ wr).drew)) hm2 false HV.out).mono ?_; rintro e w5 ⟨rfl, hb5⟩))
                have hb5' : Below wr.heap.size wr w5 := (Below.refl _ wr).drew.trans hb5
                have HN := bx (show SureAt (expsBelow sh seen clear k ++ ((ys.take (q + 1)).map (·.s)).filter (fun s => expl sh s seen clear)) u (.bool x) (.bool y0) by rw [HTK.out, HV.out]; exact ⟨_, _, rfl, rfl, HX0.out, HY0.out⟩)
                go_wp2
                go_roundw
                case rel => exact ⟨q + 1, by omega, by go_num, HN.out, zbw.trans (hb5'.mono zsz)⟩
                case measure => simp [intOf]; omega
              · have HV := bx hv
                clear hv
                go_wp2_with fail
                go_region_held3 (fun w' => w'.cell? ⟨w.heap.size, 0, none⟩ = some (.int .i64 n) ∧ w'.cell? ⟨w.heap.size, 1, none⟩ = some (.slice AGi sh.length cGi) ∧ w'.cell? ⟨g2, q, none⟩ = some (.slice yA yl.length yc)) (first | go_keep | (go_split_ands; refine ⟨?_, ?_, ?_⟩ <;> ((rw [hb5.cell (by simp; omega)]; assumption))))
                  (first | (go_at_call 15; refine (refExplains_calls n AGi cGi sh yA yc yl AS cS seen AC cC clear wr.drew (hlX.out.below ((Below.refl _ wr).drew)) (by omega) (hyI.out.below ((Below.refl _ wr).drew)) hylen (hSX.out.below ((Below.refl _ wr).drew)) hm1 (hCX.out.below ((Below.refl _ wr).drew)) hm2 true HV.out).mono ?_; rintro e w5 ⟨rfl, hb5⟩))
                have hb5' : Below wr.heap.size wr w5 := (Below.refl _ wr).drew.trans hb5
                have hs5 := hb5'.size
                have HN := bx (show SureAt (expsBelow sh seen clear k ++ ((ys.take (q + 1)).map (·.s)).filter (fun s => expl sh s seen clear)) u (.bool true) (.bool (y0 && yl.contains (u : Int))) by rw [HTK.out, HV.out, if_pos rfl, ← List.append_assoc]; exact SureAt.take HY0.out)
                have hcell5 : w5.cell? ⟨g2, q, none⟩ = some (.slice yA yl.length yc) := (hb5'.cell hg2).trans hcell
                have hyI5 := bx ((hyI.out.below hb5').more hs5)
                cases y0
                · go_wp2
                  go_roundw
                  case rel => exact ⟨q + 1, by omega, by go_num, HN.out, zbw.trans (hb5'.mono zsz)⟩
                  case measure => simp [intOf]; omega
                · cases hc : yl.contains (u : Int)
                  · rw [hc] at HN
                    have HC := bx hc
                    clear hc
                    go_wp2_with (go_at_call 28; refine (has_calls yA yc yl u w5 hyI5.out hylen).mono ?_; rintro e w6 ⟨rfl, rfl⟩; rw [HC.out])
                    go_roundw
                    case rel => exact ⟨q + 1, by omega, by go_num, HN.out, zbw.trans (hb5'.mono zsz)⟩
                    case measure => simp [intOf]; omega
                  · rw [hc] at HN
                    have HC := bx hc
                    clear hc
                    go_wp2_with (go_at_call 28; refine (has_calls yA yc yl u w5 hyI5.out hylen).mono ?_; rintro e w6 ⟨rfl, rfl⟩; rw [HC.out])
                    go_roundw
                    case rel => exact ⟨q + 1, by omega, by go_num, HN.out, zbw.trans (hb5'.mono zsz)⟩
                    case measure => simp [intOf]; omega
            · obtain rfl : q = ys.length := by omega
              have HSK := bx (show SureAt (expsBelow sh seen clear (k + 1)) u u9 u10 by rw [HE.out, ← HM2.out]; rwa [List.take_of_length_le (Nat.le_refl _)] at hsu)
              clear hsu
              go_wp2
              go_roundw
              case rel => exact ⟨k + 1, by omega, by go_num, HSK.out, hbX0⟩
              case measure => simp [intOf]; omega
        · have t1 : ¬ (k : Int) ≤ (sh.length : Int) := by omega
          obtain rfl : k = sh.length + 1 := by omega
          rw [← explsOf_eq] at hsure
          obtain ⟨x, y, rfl, rfl, hx, hy⟩ := hsure
          have hs : sureB (explsOf sh seen clear) u = (x && y) := by rw [hx, hy]; rfl
          have ownK := own_call hown (hbk.mono (Nat.le_refl _))
          rw [hs] at HR
          clear hx hy hs
          have hsK := hbK.size
          cases x
          · rw [Bool.false_and] at HR
            have HR2 := bx (show refCertN sh seen clear (u + 1) = refCertN sh seen clear u from HR.out)
            go_wp2
            go_roundw
            case rel => exact ⟨u + 1, by omega, by go_num, by rw [HR2.out]; exact ownK, hbK⟩
            case measure => simp [intOf]; omega
          · cases y
            · rw [Bool.and_false] at HR
              have HR2 := bx (show refCertN sh seen clear (u + 1) = refCertN sh seen clear u from HR.out)
              go_wp2
              go_roundw
              case rel => exact ⟨u + 1, by omega, by go_num, by rw [HR2.out]; exact ownK, hbK⟩
              case measure => simp [intOf]; omega
            · rw [Bool.and_self] at HR
              have HR2 := bx (show refCertN sh seen clear (u + 1) = refCertN sh seen clear u ++ [(u : Int)] from HR.out)
              go_wp2_with (at_builtin; refine wpList_append_own _ rfl _ _ 25 rfl W1.heap.size 3 i0 (.int .i64 0) 1 8 Try.underlying25 hi hz0 hz1 hz2 rfl (by decide) _ _ _ rfl (ownK.alloc _) ⟨wr.heap.size, 0, none⟩ 1 1 [.int .i64 u] rfl rfl (cell_one_new _ _ _) (by simp [Value.oneCell']) (by unfold maxLen; omega) (by omega) (by simp; omega) ?_; intro v' w8 o8' g8 _)
              have hb8 : Below W1.heap.size W1 w8 := (hbK.alloc hsK _).grown g8 (by simp; omega) (fun g hg => (hown.lt g hg).1)
              go_roundw
              case rel => exact ⟨u + 1, by omega, by go_num, by rw [HR2.out, ic_append, List.length_append]; exact o8', hb8⟩
              case measure => simp [intOf]; omega
    · obtain rfl : u = sh.length := by omega
      have HF := bx (refCertN_eq sh seen clear)
      obtain ⟨A', c', rfl⟩ := slice_form hown
      go_wp2
      go_ret
      exact ⟨A', c', ret_slice (by rw [HF.out]), by rw [← HF.out]; exact own_base hown hb1.size, hb1.trans (hbw.mono hb1.size)⟩
end Go.Proofs.Ytgfmnolghbiedaa
