/-
  Walks of layer 30: perigeeref30.All, perigeeref30.Least.
-/
import Derived.Test.YtgfmnolghbiedaaDoorK22
namespace Go.Proofs.YtgfmnolghbiedaaDoor
open Go.RowKit

/-- the explanations of one size -/
def exps (sh : List (List Int)) (seen clear : List Int) (k : Nat) : List (List Int) := (subs (units sh.length) k).filter fun s => expl sh s seen clear
theorem exps_all {sh : List (List Int)} {seen clear : List Int} {k : Nat} (hk : k ≤ sh.length) (h : ∀ j, j < k → exps sh seen clear j = []) (hne : exps sh seen clear k ≠ []) : allOf sh seen clear = exps sh seen clear k := by
  rw [← allOf_ref]; exact firstOf_eq (exps sh seen clear) k h hne _ (by omega)
theorem exps_none {sh : List (List Int)} {seen clear : List Int} (h : ∀ j, j < sh.length + 1 → exps sh seen clear j = []) : allOf sh seen clear = [] := by
  rw [← allOf_ref]; exact firstOf_nil (exps sh seen clear) _ h
theorem exps_take {sh : List (List Int)} {seen clear : List Int} {ys : List Slc} {q : Nat} (hq : q < ys.length) :
    ((ys.take (q + 1)).map (·.s)).filter (fun s => expl sh s seen clear) = if expl sh (ys[q]).s seen clear then ((ys.take q).map (·.s)).filter (fun s => expl sh s seen clear) ++ [(ys[q]).s] else ((ys.take q).map (·.s)).filter (fun s => expl sh s seen clear) := by
  rw [List.take_succ_eq_append_getElem hq, List.map_append, List.filter_append]
  cases h : expl sh (ys[q]).s seen clear <;> simp [h]
/-- what holds at the head of each inner round of All -/
def PickAt (sh : List (List Int)) (seen clear : List Int) (w3 : World) (ys : List Slc) (v j : Value) (wr : World) : Prop :=
  ∃ (q : Nat) (zs : List Slc), j = .int .i64 q ∧ q ≤ ys.length ∧ zs.map (·.s) = ((ys.take q).map (·.s)).filter (fun s => expl sh s seen clear) ∧ (∀ z ∈ zs, z ∈ ys) ∧ zs.length ≤ q ∧ wr.ownsRow w3.heap.size 32 1 v zs.length (zs.map Slc.v) ∧ Below w3.heap.size w3 wr
set_option maxRecDepth 100000 in
set_option maxHeartbeats 1600000 in
theorem refAll_calls (n : Int) (AG : Option Addr) (cG : Nat) (sh : List (List Int)) (AS : Option Addr) (cS : Nat) (seen : List Int) (AC : Option Addr) (cC : Nat) (clear : List Int) (w : World)
    (hl : Lists w w.heap.size AG sh) (hn : sh.length ≤ 20) (h1 : Ints w w.heap.size AS seen) (hm1 : seen.length ≤ 9223372036854775807) (h2 : Ints w w.heap.size AC clear) (hm2 : clear.length ≤ 9223372036854775807) :
    Calls Tryd.prog 53 #[.agg #[.int .i64 n, .slice AG sh.length cG], .slice AS seen.length cS, .slice AC clear.length cC] w (ListsPost w (allOf sh seen clear)) := by
  obtain ⟨j0, hj, hy0, hy1, hy2⟩ := info_parts Tryd.infoInts
  obtain ⟨W1, hW1⟩ : ∃ W1, w.alloc (.cells #[.int .i64 n, .slice AG sh.length cG] 35) = W1 := ⟨_, rfl⟩
  have s1 : W1.heap.size = w.heap.size + 1 := by rw [← hW1]; simp
  have hb1 : Below w.heap.size w W1 := by rw [← hW1]; exact (Below.refl _ _).alloc (Nat.le_refl _) _
  have hG1 : GBox W1 W1.heap.size w.heap.size n sh := by rw [s1, ← hW1]; exact gbox_new w n AG cG sh hl (by omega)
  have hS1 := (h1.below hb1).more hb1.size
  have hC1 := (h2.below hb1).more hb1.size
  obtain ⟨_, _, gi0, AGi, cGi, gi1, hlG⟩ := hG1
  go_enter Tryd.func53, Tryd.ntmps53
  go_wp2
  clear hW1 hl h1 h2
  go_loopw [7, 8, 9, 10] (fun i _ _ _ wr => ∃ k : Nat, k ≤ sh.length + 1 ∧ i = .int .i64 k ∧ (∀ j, j < k → exps sh seen clear j = []) ∧ Below W1.heap.size W1 wr) (fun i _ _ _ _ => sh.length + 1 - (intOf i).toNat)
  case atStart => exact ⟨0, Nat.zero_le _, rfl, fun j hj => absurd hj (by omega), Below.refl _ _⟩
  case round =>
    obtain ⟨k, hk, rfl, hno, hbw⟩ := hrel
    have HNO := bx hno
    clear hno
    have hsz := hbw.size
    have c0 : wr.cell? ⟨w.heap.size, 0, none⟩ = some (.int .i64 n) := (hbw.cell (by omega)).trans gi0
    have c1 : wr.cell? ⟨w.heap.size, 1, none⟩ = some (.slice AGi sh.length cGi) := (hbw.cell (by omega)).trans gi1
    by_cases hlt : k ≤ sh.length
    · have t1 : (k : Int) ≤ (sh.length : Int) := by omega
      obtain ⟨T2, hT2⟩ : ∃ T2, subs (units sh.length) k = T2 := ⟨_, rfl⟩
      have hT2l : T2.length ≤ 1048576 := by
        rw [← hT2]
        have h1 := subs_len (units sh.length) k
        have h2 : 2 ^ (units sh.length).length ≤ 2 ^ 20 := Nat.pow_le_pow_right (by decide) (by rw [units_len]; omega)
        omega
      have HS := sets_calls sh.length hn k (by omega) 0 wr (by omega)
      rw [List.drop_zero, hT2] at HS
      have HS := bx (show Calls Tryd.prog 59 #[.int .i64 0, .int .i64 sh.length, .int .i64 k] wr (ListsPost wr T2) from HS)
      have HE := bx (show exps sh seen clear k = T2.filter (fun s => expl sh s seen clear) by rw [← hT2]; rfl)
      have HT2 := bx hT2
      clear hT2
      go_wp2_with fail
      refine HS.out.mono ?_
      rintro e w3 ⟨ys, A2, c2, hm2', rfl, row2, own2, hb3⟩
      have hyl : ys.length ≤ 1048576 := by have : ys.length = T2.length := by rw [← hm2', List.length_map]
                                           omega
      have HM2 := bx hm2'
      have hs3 := hb3.size
      have hbW3 := hbw.trans (hb3.mono hsz)
      clear hm2' c0 c1
      go_wp2
      obtain ⟨wo, rfl⟩ : ∃ wo : World, wo = wr := ⟨_, rfl⟩
      go_loopw [8, 10] (fun v j wr => PickAt sh seen clear w3 ys v j wr) (fun _ j _ => ys.length - (intOf j).toNat)
      case atStart => exact ⟨0, [], rfl, Nat.zero_le _, rfl, by simp, Nat.le_refl _, World.ownsRow_nil _ _ _ _, Below.refl _ _⟩
      case round =>
        obtain ⟨q, zs, rfl, hq, hzs, hin, hzl, zrow, zbw⟩ := hrel
        have HZS := bx hzs
        have HIN := bx hin
        clear hzs hin
        have zsz := zbw.size
        have hbX := hbW3.trans (zbw.mono (by omega))
        have hsX := hbX.size
        have c0 : wr.cell? ⟨w.heap.size, 0, none⟩ = some (.int .i64 n) := (hbX.cell (by omega)).trans gi0
        have c1 : wr.cell? ⟨w.heap.size, 1, none⟩ = some (.slice AGi sh.length cGi) := (hbX.cell (by omega)).trans gi1
        have row2X := own_call row2 zbw
        by_cases hql : q < ys.length
        · obtain ⟨y, hy⟩ : ∃ y, ys[q] = y := ⟨_, rfl⟩
          have hyo := own_call (own2 y (by rw [← hy]; exact List.getElem_mem hql)) zbw
          have hym : y ∈ ys := by rw [← hy]; exact List.getElem_mem hql
          obtain ⟨g2, rfl, hg2a, hg2, hcell⟩ := cell_row row2X hql y.v (by rw [List.getElem?_map, List.getElem?_eq_getElem hql, hy]; rfl)
          have HTK := exps_take (sh := sh) (seen := seen) (clear := clear) hql
          rw [hy] at HTK
          have HTK := bx HTK
          clear hy
          obtain ⟨yA, yc, yl⟩ := y
          simp only [Slc.v] at hyo hcell
          have hylen := own_len hyo
          have hyI := bx (ints_of_own hyo)
          have q1 : (0 : Int) ≤ (q : Int) := by omega
          have q2 : (q : Int) < (ys.length : Int) := by omega
          have hlX := bx ((hlG.below hbX).more hsX)
          have hSX := bx ((hS1.below hbX).more hsX)
          have hCX := bx ((hC1.below hbX).more hsX)
          cases hv : expl sh yl seen clear
          · have HV := bx hv
            clear hv
            go_wp2_with fail
            go_region_held3 (fun w' => w'.cell? ⟨w.heap.size, 0, none⟩ = some (.int .i64 n) ∧ w'.cell? ⟨w.heap.size, 1, none⟩ = some (.slice AGi sh.length cGi) ∧ w'.cell? ⟨g2, q, none⟩ = some (.slice yA yl.length yc)) (first | go_keep | (go_split_ands; refine ⟨?_, ?_, ?_⟩ <;> ((rw [hb5.cell (by simp; omega)]; assumption))))
              (first | (go_at_call 60; refine (refExplains_calls n AGi cGi sh yA yc yl AS cS seen AC cC clear wr.drew (hlX.out.below ((Below.refl _ wr).drew)) (by omega) (hyI.out.below ((Below.refl _ wr).drew)) hylen (hSX.out.below ((Below.refl _ wr).drew)) hm1 (hCX.out.below ((Below.refl _ wr).drew)) hm2 false HV.out).mono ?_; rintro e w5 ⟨rfl, hb5⟩))
            have hb5' : Below wr.heap.size wr w5 := (Below.refl _ wr).drew.trans hb5
            have hs5 := hb5'.size
            have zrow5 := own_call zrow hb5'
            have HN := bx (show zs.map (·.s) = ((ys.take (q + 1)).map (·.s)).filter (fun s => expl sh s seen clear) by rw [HTK.out, HZS.out, HV.out]; rfl)
            go_wp2
            exact ⟨⟨q + 1, zs, by go_num, by omega, HN.out, HIN.out, by omega, zrow5, zbw.trans (hb5'.mono zsz)⟩, by simp [intOf]; omega⟩
          · have HV := bx hv
            clear hv
            go_wp2_with fail
            go_region_held3 (fun w' => w'.cell? ⟨w.heap.size, 0, none⟩ = some (.int .i64 n) ∧ w'.cell? ⟨w.heap.size, 1, none⟩ = some (.slice AGi sh.length cGi) ∧ w'.cell? ⟨g2, q, none⟩ = some (.slice yA yl.length yc)) (first | go_keep | (go_split_ands; refine ⟨?_, ?_, ?_⟩ <;> ((rw [hb5.cell (by simp; omega)]; assumption))))
              (first | (go_at_call 60; refine (refExplains_calls n AGi cGi sh yA yc yl AS cS seen AC cC clear wr.drew (hlX.out.below ((Below.refl _ wr).drew)) (by omega) (hyI.out.below ((Below.refl _ wr).drew)) hylen (hSX.out.below ((Below.refl _ wr).drew)) hm1 (hCX.out.below ((Below.refl _ wr).drew)) hm2 true HV.out).mono ?_; rintro e w5 ⟨rfl, hb5⟩))
            have hb5' : Below wr.heap.size wr w5 := (Below.refl _ wr).drew.trans hb5
            have hs5 := hb5'.size
            have zrow5 := own_call zrow hb5'
            have HN := bx (show (zs ++ [(⟨yA, yc, yl⟩ : Slc)]).map (·.s) = ((ys.take (q + 1)).map (·.s)).filter (fun s => expl sh s seen clear) by rw [HTK.out, HV.out, List.map_append, HZS.out]; rfl)
            have HIN2 := bx (show ∀ z ∈ zs ++ [(⟨yA, yc, yl⟩ : Slc)], z ∈ ys by
              intro z hz
              rcases List.mem_append.1 hz with hz | hz
              · exact HIN.out z hz
              · obtain rfl := List.mem_singleton.1 hz; exact hym)
            have hcell5 : w5.cell? ⟨g2, q, none⟩ = some (.slice yA yl.length yc) := (hb5'.cell hg2).trans hcell
            clear hym
            go_wp2_with (at_builtin; refine wpList_append_own _ rfl _ _ 33 rfl w3.heap.size 32 j0 (.slice none 0 0) 1 24 Tryd.underlying33 hj hy0 hy1 hy2 rfl (by decide) _ _ _ rfl (zrow5.alloc _) ⟨w5.heap.size, 0, none⟩ 1 1 [.slice yA yl.length yc] rfl rfl (cell_one_new _ _ _) (by simp [Value.oneCell']) (by unfold maxLen; omega) (by omega) (by simp; omega) ?_; intro v' w7 o7 g7 _)
            have hb7 : Below w3.heap.size w3 w7 := ((zbw.trans (hb5'.mono zsz)).alloc (by omega) _).grown g7 (by simp; omega) (fun r e => (own_lt zrow e).1)
            exact ⟨⟨q + 1, zs ++ [⟨yA, yc, yl⟩], by go_num, by omega, HN.out, HIN2.out, by simp; omega, by rw [List.length_append, List.map_append]; exact o7, hb7⟩, by simp [intOf]; omega⟩
        · obtain rfl : q = ys.length := by omega
          have HF := bx (show zs.map (·.s) = exps sh seen clear k by rw [HZS.out, List.take_of_length_le (Nat.le_refl _), HE.out, HM2.out])
          by_cases hz : zs = []
          · subst hz
            have HK := bx (show ∀ j, j < k + 1 → exps sh seen clear j = [] by
              intro j hj
              by_cases e : j = k
              · rw [e, ← HF.out]; rfl
              · exact HNO.out j (by omega))
            obtain ⟨A', c', rfl⟩ := slice_form zrow
            go_wp2
            go_roundw
            case rel => exact ⟨k + 1, by omega, by go_num, HK.out, hbX⟩
            case measure => simp [intOf]; omega
          · have hz1 : 0 < zs.length := by cases zs with | nil => exact absurd rfl hz | cons _ _ => simp
            have HA := bx (exps_all hlt HNO.out (by rw [← HF.out]; simpa using hz))
            obtain ⟨A', c', rfl⟩ := slice_form zrow
            clear hz
            go_wp2
            go_ret
            exact ⟨zs, A', c', by rw [HA.out, HF.out], rfl, own_base zrow (by omega), fun y hy => own_base (own_call (own2 y (HIN.out y hy)) zbw) (by omega), hb1.trans (hbX.mono hb1.size)⟩
    · have t1 : ¬ (k : Int) ≤ (sh.length : Int) := by omega
      obtain rfl : k = sh.length + 1 := by omega
      have HA := bx (exps_none HNO.out)
      go_wp2
      go_ret
      exact ⟨[], none, 0, HA.out.symm, rfl, World.ownsRow_nil _ _ _ _, by simp, hb1.trans (hbw.mono hb1.size)⟩
end Go.Proofs.YtgfmnolghbiedaaDoor
