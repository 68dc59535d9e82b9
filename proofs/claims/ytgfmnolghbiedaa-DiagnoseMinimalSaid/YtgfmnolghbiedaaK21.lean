/-
  Walks of layer 30: diagnose.Certain.
-/
import Derived.Test.YtgfmnolghbiedaaK20
import Derived.IntWalk
namespace Go.Proofs.Ytgfmnolghbiedaa
open Go.RowKit

theorem src_take {w : World} {B g c : Nat} {l : List Int} {k : Nat} (h : ∀ j (hj : j < l.length), g < B ∧ w.cell? ⟨g, j, none⟩ = some (.int .i64 l[j])) (hk : k ≤ l.length) : Src w B (.slice (some ⟨g, 0, none⟩) k c) (l.take k) := by
  refine ⟨.inr ⟨g, 0, c, by rw [List.length_take, Nat.min_eq_left hk], fun j hj => ?_⟩⟩
  have hj' : j < l.length := by rw [List.length_take] at hj; omega
  rw [Nat.zero_add, List.getElem_take]
  exact h j hj'
theorem src_drop {w : World} {B g c : Nat} {l : List Int} {k : Nat} (h : ∀ j (hj : j < l.length), g < B ∧ w.cell? ⟨g, j, none⟩ = some (.int .i64 l[j])) (hk : k < l.length) (c' : Nat) (hc : l.length ≤ c) :
    Src w B (.slice (if c = k + 1 then some ⟨g, 0, none⟩ else some ⟨g, k + 1, none⟩) (l.length - (k + 1)) c') (l.drop (k + 1)) := by
  by_cases hcc : c = k + 1
  · have : l.drop (k + 1) = [] := List.drop_eq_nil_of_le (by omega)
    rw [if_pos hcc, this]
    exact ⟨.inr ⟨g, 0, c', by rw [show l.length - (k + 1) = 0 by omega]; rfl, fun j hj => by simp at hj⟩⟩
  · rw [if_neg hcc]
    refine ⟨.inr ⟨g, k + 1, c', by rw [List.length_drop], fun j hj => ?_⟩⟩
    have hj' : k + 1 + j < l.length := by rw [List.length_drop] at hj; omega
    rw [List.getElem_drop]
    exact h (k + 1 + j) hj'
theorem own_at {w : World} {base c n : Nat} {l : List Int} {g : Nat} (h : w.ownsRow base 3 1 (.slice (some ⟨g, 0, none⟩) n c) n (ic l)) : (∀ j (hj : j < l.length), g < w.heap.size ∧ w.cell? ⟨g, j, none⟩ = some (.int .i64 l[j])) ∧ n ≤ c := by
  have hn : l.length = n := by have := h.1; rw [ic_len] at this; omega
  rcases h.2 with ⟨h0, _⟩ | ⟨g', cap, cur, hv, hg, hh, hc, _⟩
  · cases h0
  · injection hv with h1 h2 h3
    injection h1 with h1
    injection h1 with h1
    subst h1 h3
    refine ⟨fun j hj => ⟨(Array.getElem?_eq_some_iff.1 hh).1, ?_⟩, hc⟩
    have c1 := h.cells (g := g) rfl j (.int .i64 l[j]) (by simp [ic, hj])
    rw [← c1]
    unfold Addr.add
    split
    · rename_i h0; rw [h0]
    · simp
theorem certOf_eq' (sh : List (List Int)) (seen clear : List Int) : certOf sh seen clear = if expl sh (cand sh clear) seen [] then certN sh seen (cand sh clear) (cand sh clear).length else [] := rfl
set_option maxRecDepth 100000 in
set_option maxHeartbeats 1600000 in
theorem certain_calls (n : Int) (AG : Option Addr) (cG : Nat) (sh : List (List Int)) (AS : Option Addr) (cS : Nat) (seen : List Int) (AC : Option Addr) (cC : Nat) (clear : List Int) (w : World)
    (hl : Lists w w.heap.size AG sh) (hn : sh.length ≤ 90) (h1 : Ints w w.heap.size AS seen) (hm1 : seen.length ≤ 9223372036854775807) (h2 : Ints w w.heap.size AC clear) (hm2 : clear.length ≤ 9223372036854775807) :
    Calls Try.prog 23 #[.agg #[.int .i64 n, .slice AG sh.length cG], .slice AS seen.length cS, .slice AC clear.length cC] w (RowPost w (certOf sh seen clear)) := by
  obtain ⟨i0, hi, hz0, hz1, hz2⟩ := info_parts Try.infoInt
  obtain ⟨W1, hW1⟩ : ∃ W1, w.alloc (.cells #[.int .i64 n, .slice AG sh.length cG] 24) = W1 := ⟨_, rfl⟩
  have s1 : W1.heap.size = w.heap.size + 1 := by rw [← hW1]; simp
  have hb1 : Below w.heap.size w W1 := by rw [← hW1]; exact (Below.refl _ _).alloc (Nat.le_refl _) _
  have hG1 : GBox W1 W1.heap.size w.heap.size n sh := by rw [s1, ← hW1]; exact gbox_new w n AG cG sh hl (by omega)
  have hS1 := (h1.below hb1).more hb1.size
  have hC1 := (h2.below hb1).more hb1.size
  obtain ⟨_, _, gi0, AGi, cGi, gi1, hlG⟩ := hG1
  have hcl := cand_len sh clear
  have hce := certOf_eq' sh seen clear
  obtain ⟨l, hcand⟩ : ∃ l, cand sh clear = l := ⟨_, rfl⟩
  rw [hcand] at hcl hce
  have HC := bx hcand
  have HCE := bx hce
  clear hcand hce
  go_enter Try.func23, Try.ntmps23
  go_wp2_with fail
  clear hW1 hl h1 h2
  refine (cand_calls n AGi cGi sh AC cC clear W1 hlG (by omega) hC1 hm2).mono ?_
  rintro e W2 ⟨A8, c8, rfl, o8, hb2⟩
  rw [HC.out] at o8 ⊢
  have hs2 := hb2.size
  have c0 : W2.cell? ⟨w.heap.size, 0, none⟩ = some (.int .i64 n) := (hb2.cell (by omega)).trans gi0
  have c1 : W2.cell? ⟨w.heap.size, 1, none⟩ = some (.slice AGi sh.length cGi) := (hb2.cell (by omega)).trans gi1
  have hl2 := (hlG.below hb2).more hs2
  have hS2 := (hS1.below hb2).more hs2
  have hI2 := ints_of_own o8
  cases hv : expl sh l seen []
  · have HV := bx hv
    have HE := bx (show certOf sh seen clear = [] by rw [HCE.out, hv]; rfl)
    clear hv
    go_wp2_with fail
    refine (explains_calls n AGi cGi sh A8 c8 l AS cS seen none 0 [] W2 hl2 (by omega) hI2 (by omega) hS2 hm1 Ints.nil (by simp) false HV.out).mono ?_
    rintro e W3 ⟨rfl, hb3⟩
    go_wp2
    go_ret
    exact ⟨none, 0, by rw [HE.out]; rfl, by rw [HE.out]; exact World.ownsRow_nil _ _ _ _, hb1.trans ((hb2.trans (hb3.mono hs2)).mono hb1.size)⟩
  · have HV := bx hv
    have HE := bx (show certOf sh seen clear = certN sh seen l l.length by rw [HCE.out, hv]; rfl)
    clear hv
    go_wp2_with fail
    refine (explains_calls n AGi cGi sh A8 c8 l AS cS seen none 0 [] W2 hl2 (by omega) hI2 (by omega) hS2 hm1 Ints.nil (by simp) true HV.out).mono ?_
    rintro e W3 ⟨rfl, hb3⟩
    have hb23 := hb2.trans (hb3.mono hs2)
    have hs3 := hb3.size
    have o83 := own_call o8 hb3
    clear c0 c1 hl2 hS2 hI2
    go_wp2
    go_loopw [8, 9, 10, 21] (fun v _ _ i wr => ∃ k : Nat, k ≤ l.length ∧ i = .int .i64 k ∧ wr.ownsRow W3.heap.size 3 1 v (certN sh seen l k).length (ic (certN sh seen l k)) ∧ Below W3.heap.size W3 wr) (fun _ _ _ i _ => l.length - (intOf i).toNat)
    case atStart => exact ⟨0, Nat.zero_le _, rfl, World.ownsRow_nil _ _ _ _, Below.refl _ _⟩
    case round =>
      obtain ⟨k, hk, rfl, hown, hbw⟩ := hrel
      have hsz := hbw.size
      have hbW1 := hb23.trans (hbw.mono (by omega))
      have c0 : wr.cell? ⟨w.heap.size, 0, none⟩ = some (.int .i64 n) := (hbW1.cell (by omega)).trans gi0
      have c1 : wr.cell? ⟨w.heap.size, 1, none⟩ = some (.slice AGi sh.length cGi) := (hbW1.cell (by omega)).trans gi1
      have o8w := o83.kept (row := none) ⟨hbw.os, hbw.tape, hbw.output, hbw.size, fun i hi _ => hbw.block i hi⟩ (by cases (Value.slice A8 l.length c8).ownBlock <;> simp)
      by_cases hlt : k < l.length
      · obtain ⟨g, cap, hv, _, _⟩ := o8w.form (by omega)
        obtain ⟨rfl, rfl⟩ : A8 = some ⟨g, 0, none⟩ ∧ c8 = cap := by injection hv with h1 h2 h3; exact ⟨h1, h3⟩
        obtain ⟨hat, hcap⟩ := own_at o8w
        have hx := (hat k hlt).2
        have SA := bx (src_take (c := c8) hat (show k ≤ l.length by omega))
        have SB0 := src_drop (c := c8) hat hlt (c8 - (k + 1)) hcap
        obtain ⟨o2, ho2⟩ : ∃ o2, (if c8 = k + 1 then some (⟨g, 0, none⟩ : Addr) else some ⟨g, k + 1, none⟩) = some ⟨g, o2, none⟩ := by
          by_cases h : c8 = k + 1
          · exact ⟨0, if_pos h⟩
          · exact ⟨k + 1, if_neg h⟩
        rw [ho2] at SB0
        have SB := bx SB0
        clear SB0
        have z1 : (k : Int) < (l.length : Int) := by omega
        have z2 : (0 : Int) ≤ (k : Int) := by omega
        have z3 : (k : Int) ≤ (c8 : Int) := by omega
        have z4 : (k : Int) + 1 ≤ (l.length : Int) := by omega
        have z5 : (0 : Int) ≤ (k : Int) + 1 := by omega
        have z6 : (l.length : Int) ≤ (c8 : Int) := by omega
        have e1 : IntKind.i64.wrap ((k : Int) + 1) = (k : Int) + 1 := IntWalk.i64_in _ (by omega)
        have e2 : ((k : Int) + 1).toNat = k + 1 := by omega
        clear hat hv
        have hLe := certN_le sh seen l k
        have hlw := bx ((hlG.below hbW1).more (by have := hbW1.size; omega))
        have hSw := bx ((hS1.below hbW1).more (by have := hbW1.size; omega))
        obtain ⟨t, ht⟩ : ∃ t, l.take k ++ l.drop (k + 1) = t := ⟨_, rfl⟩
        have HT := bx ht
        have hlt' : t.length ≤ 9223372036854775807 := by rw [← ht, List.length_append, List.length_take, List.length_drop]; omega
        have hbD := bx (show Below wr.heap.size wr (wr.alloc (.cells #[.slice (some ⟨g, 0, none⟩) k c8, .slice (some ⟨g, o2, none⟩) (l.length - (k + 1)) (c8 - (k + 1))] 25)).drew from ((Below.refl _ wr).alloc (Nat.le_refl _) _).drew)
        have HCC := bx (concat_calls wr.heap.size _ _ (l.take k) (l.drop (k + 1)) (wr.alloc (.cells #[.slice (some ⟨g, 0, none⟩) k c8, .slice (some ⟨g, o2, none⟩) (l.length - (k + 1)) (c8 - (k + 1))] 25)).drew
          (by simp) (by rw [World.cell?_drew, World.cell?_alloc_new]; rfl) (by rw [World.cell?_drew, World.cell?_alloc_new]; rfl) ((SA.out.below hbD.out).more hbD.out.size) ((SB.out.below hbD.out).more hbD.out.size) (by rw [List.length_take]; omega) (by rw [List.length_drop]; omega))
        rw [ht] at HCC
        clear ht SA SB
        cases hv2 : expl sh t seen []
        · have HV2 := bx hv2
          have hbe : ∀ W5 : World, Below (wr.alloc (.cells #[.slice (some ⟨g, 0, none⟩) k c8, .slice (some ⟨g, o2, none⟩) (l.length - (k + 1)) (c8 - (k + 1))] 25)).drew.heap.size (wr.alloc (.cells #[.slice (some ⟨g, 0, none⟩) k c8, .slice (some ⟨g, o2, none⟩) (l.length - (k + 1)) (c8 - (k + 1))] 25)).drew W5 → Below wr.heap.size wr W5 := fun W5 h => hbD.out.trans (h.mono (by simp))
          have HBE := bx hbe
          clear hv2 hbe
          go_wp2_with fail
          go_region_held3 (fun w' => w'.cell? ⟨w.heap.size, 0, none⟩ = some (.int .i64 n) ∧ w'.cell? ⟨w.heap.size, 1, none⟩ = some (.slice AGi sh.length cGi)) (first | go_keep | (go_split_ands; refine ⟨?_, ?_⟩ <;> ((rw [(HBE.out _ hb9).cell (by simp; omega)]; assumption))) | (go_split_ands; refine ⟨?_, ?_⟩ <;> ((rw [hb10.cell (by have := (HBE.out _ hb9).size; simp; omega)]; assumption))))
            (first | (go_at_call 39; refine HCC.out.mono ?_; rintro e w5 ⟨A9, c9, rfl, o9, hb9⟩) | (go_at_call 14; refine (explains_calls n AGi cGi sh A9 c9 t AS cS seen none 0 [] w5 ((hlw.out.below (HBE.out _ hb9)).more (HBE.out _ hb9).size) (by omega) (ints_of_own o9) hlt' ((hSw.out.below (HBE.out _ hb9)).more (HBE.out _ hb9).size) hm1 Ints.nil (by simp) false HV2.out).mono ?_; rintro e w7 ⟨rfl, hb10⟩))
          have hb7 : Below wr.heap.size wr w7 := (HBE.out _ hb9).trans (hb10.mono (HBE.out _ hb9).size)
          have hs7 := hb7.size
          have own7 := own_call hown hb7
          have Hs := bx (show certN sh seen l (k + 1) = certN sh seen l k ++ [l[k]] by rw [certN, HT.out, HV2.out, List.getD_eq_getElem?_getD, List.getElem?_eq_getElem hlt]; rfl)
          generalize l[k] = y at *
          have hb17 : Below W3.heap.size W3 w7 := hbw.trans (hb7.mono hsz)
          go_wp2_with (at_builtin; refine wpList_append_own _ rfl _ _ 25 rfl W3.heap.size 3 i0 (.int .i64 0) 1 8 Try.underlying25 hi hz0 hz1 hz2 rfl (by decide) _ _ _ rfl (own7.alloc _) ⟨w7.heap.size, 0, none⟩ 1 1 [.int .i64 y] rfl rfl (cell_one_new _ _ _) (by simp [Value.oneCell']) (by unfold maxLen; omega) (by omega) (by simp; omega) ?_; intro v' w8 o8' g8 _)
          have hb8 : Below W3.heap.size W3 w8 := (hb17.alloc (by omega) _).grown g8 (by simp; omega) (fun g hg => (hown.lt g hg).1)
          go_roundw
          case rel => exact ⟨k + 1, by omega, by go_num, by rw [Hs.out, ic_append, List.length_append]; exact o8', hb8⟩
          case measure => simp [intOf]; omega
        · have HV2 := bx hv2
          have hbe : ∀ W5 : World, Below (wr.alloc (.cells #[.slice (some ⟨g, 0, none⟩) k c8, .slice (some ⟨g, o2, none⟩) (l.length - (k + 1)) (c8 - (k + 1))] 25)).drew.heap.size (wr.alloc (.cells #[.slice (some ⟨g, 0, none⟩) k c8, .slice (some ⟨g, o2, none⟩) (l.length - (k + 1)) (c8 - (k + 1))] 25)).drew W5 → Below wr.heap.size wr W5 := fun W5 h => hbD.out.trans (h.mono (by simp))
          have HBE := bx hbe
          clear hv2 hbe
          go_wp2_with fail
          go_region_held3 (fun w' => w'.cell? ⟨w.heap.size, 0, none⟩ = some (.int .i64 n) ∧ w'.cell? ⟨w.heap.size, 1, none⟩ = some (.slice AGi sh.length cGi)) (first | go_keep | (go_split_ands; refine ⟨?_, ?_⟩ <;> ((rw [(HBE.out _ hb9).cell (by simp; omega)]; assumption))) | (go_split_ands; refine ⟨?_, ?_⟩ <;> ((rw [hb10.cell (by have := (HBE.out _ hb9).size; simp; omega)]; assumption))))
            (first | (go_at_call 39; refine HCC.out.mono ?_; rintro e w5 ⟨A9, c9, rfl, o9, hb9⟩) | (go_at_call 14; refine (explains_calls n AGi cGi sh A9 c9 t AS cS seen none 0 [] w5 ((hlw.out.below (HBE.out _ hb9)).more (HBE.out _ hb9).size) (by omega) (ints_of_own o9) hlt' ((hSw.out.below (HBE.out _ hb9)).more (HBE.out _ hb9).size) hm1 Ints.nil (by simp) true HV2.out).mono ?_; rintro e w7 ⟨rfl, hb10⟩))
          have hb7 : Below wr.heap.size wr w7 := (HBE.out _ hb9).trans (hb10.mono (HBE.out _ hb9).size)
          have hs7 := hb7.size
          have own7 := own_call hown hb7
          have Hs := bx (show certN sh seen l (k + 1) = certN sh seen l k by rw [certN, HT.out, HV2.out]; rfl)
          go_wp2
          go_roundw
          case rel => exact ⟨k + 1, by omega, by go_num, by rw [Hs.out]; exact own7, hbw.trans (hb7.mono hsz)⟩
          case measure => simp [intOf]; omega
      · obtain rfl : k = l.length := by omega
        obtain ⟨A', c', rfl⟩ := slice_form hown
        go_wp2
        go_ret
        exact ⟨A', c', ret_slice (by rw [HE.out]), by rw [HE.out]; exact own_base hown (by omega), hb1.trans ((hb23.trans (hbw.mono (by omega))).mono hb1.size)⟩
end Go.Proofs.Ytgfmnolghbiedaa
