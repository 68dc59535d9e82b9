/-
  Walks of layer 30: calls by value that the laws Truth, Minimal, Candidates and More use; perigeelaw30.without, perigeelaw30.candidates.
-/
import Derived.Test.YtgfmnolghbiedaaK28
import Derived.Test.YtgfmnolghbiedaaN6
import Derived.Laws.OwnMore
namespace Go.Proofs.Ytgfmnolghbiedaa
open Go.RowKit

theorem bits_val (x : Int) (n : Nat) (w : World) (h0 : 0 ≤ x) (h1 : x ≤ 65535) (hn : n ≤ 1000) (l : List Int) (hl : bitsN x n = l) : Calls Try.prog 25 #[.int .i64 x, .int .i64 n] w (IntsPost w l) :=
  (bits_calls x n w h0 h1 hn).mono fun _ _ h => row_ints hl h
theorem shown_val (n : Nat) (AG : Option Addr) (cG : Nat) (sh : List (List Int)) (A : Option Addr) (c : Nat) (us : List Int) (w : World)
    (hl : Lists w w.heap.size AG sh) (hn : sh.length ≤ 9223372036854775807) (h : Ints w w.heap.size A us) (hm : us.length ≤ 9223372036854775807) (hn' : n ≤ 1000) (l : List Int) (hl' : shown sh us n = l) :
    Calls Try.prog 29 #[.agg #[.int .i64 n, .slice AG sh.length cG], .slice A us.length c] w (IntsPost w l) :=
  (shown_calls n AG cG sh A c us w hl hn h hm hn').mono fun _ _ h => row_ints hl' h
/-- append(x, y...) of numbers, x a row of the call's own, y wherever it lies -/
theorem run_append_src {P : Program} {w : World} (t ty : TypeId) (base : Nat) (e : TypeId) (i : TypeInfo) (z : Value) (bytes : Nat) (ht : P.underlying t = some (.slice e)) (hi : P.info? e = some i) (hz : i.zero = some z)
    (hsize : i.size = 1) (hby : i.bytes = bytes) (hzs : z.cells.size = 1)
    (v : Value) (n : Nat) (xs : List Int) (hown : w.ownsRow base e 1 v n (ic xs)) (B : Nat) (u : Value) (ys : List Int) (hsrc : Src w B u ys)
    (h63 : n + ys.length ≤ maxLen) (hbytes : (n + ys.length) * bytes ≤ 140737488355328) (hbase : base ≤ w.heap.size) :
    ∃ v' w', (Builtin.append_ #[t, t] ty #[v, u]).run P w = .ok v' w' ∧ w'.ownsRow base e 1 v' (n + ys.length) (ic (xs ++ ys)) ∧ w.grownBy w' v.ownBlock := by
  rcases hsrc.out with ⟨hu, rfl⟩ | ⟨b, off, c, hu, hc⟩
  · subst hu
    exact ⟨v, w, run_append_owned_none (P := P) (w := w) base t ty e i 1 ht hi v n (ic xs) hown, by simpa using hown, World.grownBy.refl w _⟩
  · subst hu
    obtain ⟨v', w', hr, h2, h3, _⟩ := run_append_own (P := P) (w := w) base t ty e i z 1 bytes ht hi hz hsize hby hzs (by decide) v n (ic xs) hown ⟨b, off, none⟩ ys.length c (ic ys) (by simp [ic]) (by
      intro j u hj
      have hjl : j < ys.length := by
        have := (List.getElem?_eq_some_iff.1 hj).1
        simpa [ic] using this
      have e1 := (hc j hjl).2
      rw [show (⟨b, off, none⟩ : Addr).add j = ⟨b, off + j, none⟩ from Addr.add_mid b off j, e1]
      simpa [ic, hjl] using hj) (ic_one _) h63 hbytes hbase
    exact ⟨v', w', hr, by rw [ic_append]; exact h2, h3⟩
/-- the same, at a step of a region that draws its order -/
theorem step_append_src {P : Program} {ops : Array Oper} {o : Oper} {a : Act} {w : World} {K : Act → World → Prop} {Q : Exit → Act → World → Prop} {E : Prop} (hgd : o.guard = none) (s x : Operand) (t : TypeId)
    (ho : o.op = .call { callee := .builtin .append, args := #[s, x], argTypes := #[t, t] })
    (base : Nat) (e : TypeId) (i : TypeInfo) (z : Value) (bytes : Nat) (ht : P.underlying t = some (.slice e)) (hi : P.info? e = some i) (hz : i.zero = some z)
    (hsize : i.size = 1) (hby : i.bytes = bytes) (hzs : z.cells.size = 1) (v : Value) (n : Nat) (xs : List Int) (hs : a.eval s = v) (hown : w.ownsRow base e 1 v n (ic xs))
    (B : Nat) (u : Value) (ys : List Int) (hx : a.eval x = u) (hsrc : Src w B u ys) (h63 : n + ys.length ≤ maxLen) (hbytes : (n + ys.length) * bytes ≤ 140737488355328) (hbase : base ≤ w.heap.size)
    (h : ∀ v' w', w'.ownsRow base e 1 v' (n + ys.length) (ic (xs ++ ys)) → w.grownBy w' v.ownBlock → K (a.put o.dst v') w') :
    if Region.wanted o (yielded ops a.tmps) = true then Oper.wp P o a w K Q else E := by
  have hw : Region.wanted o (yielded ops a.tmps) = true := by simp [Region.wanted, hgd]
  rw [if_pos hw]
  obtain ⟨v', w', hr, h1, h2⟩ := run_append_src (P := P) t o.type base e i z bytes ht hi hz hsize hby hzs v n xs hown B u ys hsrc h63 hbytes hbase
  unfold Oper.wp execOp
  simp only [ho, resolve, invoke, builtin, Sem.run_bind, Sem.run_pure, Result.andThen_ok, List.map_toArray, List.map_cons, List.map_nil, hs, hx, hr]
  exact h v' w' h1 h2
theorem owns_empty_at {X : World} {base r : Nat} (w : World) (hX : w.alloc (.cells #[] 3) = X) (hr : w.heap.size = r) (hb : base ≤ w.heap.size) : X.ownsRow base 3 1 (.slice (some ⟨r, 0, none⟩) 0 0) 0 (ic []) := by
  subst hX; subst hr
  exact ⟨rfl, .inr ⟨w.heap.size, 0, #[], rfl, hb, heap_alloc_new w _, Nat.le_refl _, Nat.zero_le _, rfl, rfl⟩⟩
set_option maxHeartbeats 1600000 in
theorem without_calls (A : Option Addr) (c : Nat) (l : List Int) (k B : Nat) (w : World) (h : w.ownsRow B 3 1 (.slice A l.length c) l.length (ic l)) (hk : k < l.length) (hm : l.length ≤ 400) :
    Calls Try.prog 26 #[.slice A l.length c, .int .i64 k] w (RowPost w (l.take k ++ l.drop (k + 1))) := by
  obtain ⟨i0, hi, hz0, hz1, hz2⟩ := info_parts Try.infoInt
  obtain ⟨g, cap, hv, _, _⟩ := h.form (by omega)
  obtain ⟨rfl, rfl⟩ : A = some ⟨g, 0, none⟩ ∧ c = cap := by injection hv with h1 h2 h3; exact ⟨h1, h3⟩
  obtain ⟨hat, hcap⟩ := own_at h
  have SA := bx (src_take (c := c) hat (show k ≤ l.length by omega))
  have SB0 := src_drop (c := c) hat hk (c - (k + 1)) hcap
  obtain ⟨o2, ho2⟩ : ∃ o2, (if c = k + 1 then some (⟨g, 0, none⟩ : Addr) else some ⟨g, k + 1, none⟩) = some ⟨g, o2, none⟩ := by
    by_cases h : c = k + 1
    · exact ⟨0, if_pos h⟩
    · exact ⟨k + 1, if_neg h⟩
  rw [ho2] at SB0
  have SB := bx SB0
  clear SB0
  have z1 : (k : Int) < (l.length : Int) := by omega
  have z2 : (0 : Int) ≤ (k : Int) := by omega
  have z3 : (k : Int) ≤ (c : Int) := by omega
  have z4 : (k : Int) + 1 ≤ (l.length : Int) := by omega
  have z5 : (0 : Int) ≤ (k : Int) + 1 := by omega
  have z6 : (l.length : Int) ≤ (c : Int) := by omega
  have e1 : IntKind.i64.wrap ((k : Int) + 1) = (k : Int) + 1 := IntWalk.i64_in _ (by omega)
  have e2 : ((k : Int) + 1).toNat = k + 1 := by omega
  clear hat hv h
  go_enter Try.func26, Try.ntmps26
  go_wp2_with fail
  have hb1 : From w (w.alloc (.cells #[] 3)).drew := From.drew (From.alloc (Below.refl _ _) _)
  have hE : (w.alloc (.cells #[] 3)).drew.ownsRow w.heap.size 3 1 (.slice (some ⟨w.heap.size, 0, none⟩) 0 0) 0 (ic []) := (owns_empty_at w rfl rfl (Nat.le_refl _)).drew
  have hSA : Src (w.alloc (.cells #[] 3)).drew (w.alloc (.cells #[] 3)).drew.heap.size (.slice (some ⟨g, 0, none⟩) k c) (l.take k) := (SA.out.below hb1).more hb1.size
  have hlt : (l.take k).length = k := by rw [List.length_take]; omega
  have hld : (l.drop (k + 1)).length = l.length - (k + 1) := List.length_drop
  go_region_law (first | (refine step_append_src (by rfl) (.tmp 5) (.tmp 8) 25 (by rfl) w.heap.size 3 i0 (.int .i64 0) 8 Try.underlying25 hi hz0 hz1 hz2 (by decide) _ 0 [] (by rfl) hE _ _ (l.take k) (by rfl) hSA (by unfold maxLen; omega) (by omega) (by simp) ?_; intro v1 w1 o1 g1; have hb2 : From w w1 := Below.grown hb1 g1 (by simp) (fun g hg => (hE.lt g hg).1)) | (refine step_append_src (by rfl) (.tmp 9) (.tmp 13) 25 (by rfl) w.heap.size 3 i0 (.int .i64 0) 8 Try.underlying25 hi hz0 hz1 hz2 (by decide) _ (0 + (l.take k).length) ([] ++ l.take k) (by rfl) o1 _ _ (l.drop (k + 1)) (by rfl) ((SB.out.below hb2).more hb2.size) (by unfold maxLen; omega) (by omega) (Below.size hb2) ?_; intro v2 w2 o2 g2; have hb3 : From w w2 := Below.grown hb2 g2 (Below.size hb2) (fun g hg => (o1.lt g hg).1)))
  all_goals
    obtain ⟨A', c', rfl⟩ := slice_form o2
    go_wp2
    go_ret
    rw [List.nil_append] at o2
    have hl2 : (l.take k ++ l.drop (k + 1)).length = 0 + (l.take k).length + (l.drop (k + 1)).length := by rw [List.length_append]; omega
    exact ⟨A', c', ret_slice hl2.symm, by rw [hl2]; exact o2, hb3⟩
set_option maxRecDepth 10000 in
theorem lcand_calls (n : Int) (AG : Option Addr) (cG : Nat) (sh : List (List Int)) (AC : Option Addr) (cC : Nat) (clear : List Int) (w : World)
    (hl : Lists w w.heap.size AG sh) (hn : sh.length ≤ 100) (h2 : Ints w w.heap.size AC clear) (hm2 : clear.length ≤ 9223372036854775807) :
    Calls Try.prog 27 #[.agg #[.int .i64 n, .slice AG sh.length cG], .slice AC clear.length cC] w (RowPost w (cand sh clear)) := by
  obtain ⟨i0, hi, hz0, hz1, hz2⟩ := info_parts Try.infoInt
  obtain ⟨W1, hW1⟩ : ∃ W1, w.alloc (.cells #[.int .i64 n, .slice AG sh.length cG] 24) = W1 := ⟨_, rfl⟩
  have s1 : W1.heap.size = w.heap.size + 1 := by rw [← hW1]; simp
  have hb1 : Below w.heap.size w W1 := by rw [← hW1]; exact (Below.refl _ _).alloc (Nat.le_refl _) _
  have hG1 : GBox W1 W1.heap.size w.heap.size n sh := by rw [s1, ← hW1]; exact gbox_new w n AG cG sh hl (by omega)
  have hC1 := (h2.below hb1).more hb1.size
  obtain ⟨_, _, gi0, AGi, cGi, gi1, _⟩ := hG1
  go_enter Try.func27, Try.ntmps27
  go_wp2_with fail
  have hG1 : GBox W1 W1.heap.size w.heap.size n sh := by rw [s1, ← hW1]; exact gbox_new w n AG cG sh hl (by omega)
  clear hW1 hl h2
  go_loopw [5, 6] (fun v i wr => ∃ k : Nat, k ≤ sh.length ∧ i = .int .i64 k ∧ wr.ownsRow W1.heap.size 3 1 v (candN sh clear k).length (ic (candN sh clear k)) ∧ Below W1.heap.size W1 wr) (fun _ i _ => sh.length - (intOf i).toNat)
  case atStart => exact ⟨0, Nat.zero_le _, rfl, World.ownsRow_nil _ _ _ _, Below.refl _ _⟩
  case round =>
    obtain ⟨k, hk, rfl, hown, hbw⟩ := hrel
    have hG := (hG1.below hbw).more hbw.size
    have hC := bx ((hC1.below hbw).more hbw.size)
    obtain ⟨_, l1, g0, AG', cG', gg1, hl⟩ := hG
    by_cases hlt : k < sh.length
    · have hLe := candN_le sh clear k
      have Hl := bx hl
      clear hl
      obtain ⟨W2, hW2⟩ : ∃ W2, wr.alloc (.cells #[.int .i64 k] 3) = W2 := ⟨_, rfl⟩
      have hb2 : Below wr.heap.size wr W2 := by rw [← hW2]; exact (Below.refl _ _).alloc (Nat.le_refl _) _
      have hU := bx (show Ints W2 W2.heap.size (some ⟨wr.heap.size, 0, none⟩) [(k : Int)] by rw [← hW2]; exact one_int wr k)
      have ho2 := (show W2.ownsRow W1.heap.size 3 1 u5 (candN sh clear k).length (ic (candN sh clear k)) by rw [← hW2]; exact hown.alloc _)
      cases he : expl sh [(k : Int)] [] clear
      · have He := bx he
        have Hs := bx (show candN sh clear (k + 1) = candN sh clear k by rw [candN_succ, he]; rfl)
        clear he
        go_wp2_with fail
        refine (explains_calls n AG' cG' sh _ 1 [(k : Int)] none 0 [] AC cC clear W2 ((Hl.out.below hb2).more hb2.size) l1 hU.out (by simp) Ints.nil (by simp) ((hC.out.below hb2).more hb2.size) hm2 false He.out).mono ?_
        rintro e w3 ⟨rfl, hb3⟩
        have ho3 := ho2.kept (grown_of_below hb3 none) (by cases u5.ownBlock <;> simp)
        go_wp2
        go_roundw
        case rel => exact ⟨k + 1, by omega, by go_num, by rw [Hs.out]; exact ho3, hbw.trans ((hb2.trans (hb3.mono hb2.size)).mono hbw.size)⟩
        case measure => simp [intOf]; omega
      · have He := bx he
        have Hs := bx (show candN sh clear (k + 1) = candN sh clear k ++ [(k : Int)] by rw [candN_succ, he]; rfl)
        clear he
        go_wp2_with fail
        refine (explains_calls n AG' cG' sh _ 1 [(k : Int)] none 0 [] AC cC clear W2 ((Hl.out.below hb2).more hb2.size) l1 hU.out (by simp) Ints.nil (by simp) ((hC.out.below hb2).more hb2.size) hm2 true He.out).mono ?_
        rintro e w3 ⟨rfl, hb3⟩
        have ho3 := ho2.kept (grown_of_below hb3 none) (by cases u5.ownBlock <;> simp)
        have hb13 := hbw.trans ((hb2.trans (hb3.mono hb2.size)).mono hbw.size)
        have hs13 := hb13.size
        go_wp2_with (at_builtin; refine wpList_append_own _ rfl _ _ 25 rfl W1.heap.size 3 i0 (.int .i64 0) 1 8 Try.underlying25 hi hz0 hz1 hz2 rfl (by decide) _ _ _ rfl (ho3.alloc _) ⟨w3.heap.size, 0, none⟩ 1 1 [.int .i64 k] rfl rfl (cell_one_new _ _ _) (by simp [Value.oneCell']) (by unfold maxLen; omega) (by omega) (by simp; omega) ?_; intro v' w5 o5 g5 _)
        have hb15 : Below W1.heap.size W1 w5 := (hb13.alloc hs13 _).grown g5 (by simp; omega) (fun g hg => by
          exact (hown.lt g hg).1)
        go_roundw
        case rel => exact ⟨k + 1, by omega, by go_num, by rw [Hs.out, ic_append, List.length_append]; exact o5, hb15⟩
        case measure => simp [intOf]; omega
    · obtain rfl : k = sh.length := by omega
      obtain ⟨A', c', rfl⟩ := slice_form hown
      go_wp2
      go_ret
      exact ⟨A', c', rfl, own_base hown hb1.size, hb1.trans (hbw.mono hb1.size)⟩
end Go.Proofs.Ytgfmnolghbiedaa
