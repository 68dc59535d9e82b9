/-
  For every two lists of arcs and every two numbers, the law AttitudeMoreArcs returns true, and its arguments read as before. No condition.
-/
import Derived.Test.YtaahdfmbbbjmaaaR1
import Derived.Test.YtaahdfmbbbjmaaaW12
import Derived.Laws.AppendOwnNone
namespace Go.Proofs.Ytaahdfmbbbjmaaa
open Go.ChangeShapes Go.WideShapes Go.ChangeAt Go.RowKit Go.Deep

theorem append_row {P : Program} {w : World} {ops : Array Oper} {rest : List Oper} {o : Oper} {a : Act} {Q : Exit → Act → World → Prop} (hgd : o.guard = none) (s x : Operand) (t : TypeId)
    (ho : o.op = .call { callee := .builtin .append, args := #[s, x], argTypes := #[t, t] })
    (base : Nat) (e : TypeId) (i : TypeInfo) (z : Value) (size bytes : Nat) (ht : P.underlying t = some (.slice e)) (hi : P.info? e = some i) (hz : i.zero = some z)
    (hsize : i.size = size) (hby : i.bytes = bytes) (hzs : z.cells.size = size) (hsz : 0 < size)
    (v : Value) (n : Nat) (xs : List Value) (hs : a.eval s = v) (hown : w.ownsRow base e size v n xs)
    (base' : Nat) (u : Value) (m : Nat) (ys : List Value) (hx : a.eval x = u) (hown' : w.ownsRow base' e size u m ys) (h1 : ∀ q ∈ ys, q.oneCell' = true)
    (h63 : n + m ≤ maxLen) (hbytes : (n + m) * bytes ≤ 140737488355328) (hbase : base ≤ w.heap.size)
    (h : ∀ v' w', w'.ownsRow base e size v' (n + m) (xs ++ ys) → w.grownBy w' v.ownBlock → wpList P ops Q rest (a.put o.dst v') w') : wpList P ops Q (o :: rest) a w := by
  rcases hown'.2 with ⟨hu, hm0⟩ | ⟨g, cap, _, hu, _⟩
  · subst hm0
    have hy : ys = [] := List.eq_nil_of_length_eq_zero (by have := hown'.1; omega)
    subst hy
    refine wpList_append_own_none hgd s x t ho base e i size ht hi v n xs hs hown (hx.trans hu) (h v w ?_ (World.grownBy.refl w _))
    simpa using hown
  · refine wpList_append_own w hgd s x t ho base e i z size bytes ht hi hz hsize hby hzs hsz v n xs hs hown ⟨g, 0, none⟩ m cap ys (hx.trans hu) hown'.1 (hown'.cells (by rw [hu]; rfl)) h1 h63 hbytes hbase fun v' w' k1 k2 _ => h v' w' k1 k2
theorem owns_empty (w : World) (base : Nat) (hb : base ≤ w.heap.size) : (w.alloc (.cells #[] 44)).ownsRow base 44 2 (.slice (some ⟨w.heap.size, 0, none⟩) 0 0) 0 [] :=
  ⟨rfl, .inr ⟨w.heap.size, 0, #[], rfl, hb, heap_alloc_new w _, Nat.le_refl _, Nat.zero_le _, rfl, rfl⟩⟩
theorem one_arcs (l : ArcL) : ∀ q ∈ arcCells l, q.oneCell' = true := by
  intro q hq
  simp only [arcCells, List.mem_flatMap, List.mem_cons, List.mem_nil_iff, or_false] at hq
  obtain ⟨a, _, rfl | rfl⟩ := hq <;> rfl
theorem turn_val9 (A : Option Addr) (c : Nat) (l : ArcL) (a b : Int) (w : World) (x e' : Int) (hv : turn l a b = (x, e')) (h : Arcs w w.heap.size A l) (hm : l.length ≤ 100) (ho : OkArcs l) :
    Calls Try.prog 19 #[.int .i64 a, .int .i64 b, .slice A l.length c] w fun e w' => e = .returned (.tuple #[.int .i64 x, .int .i64 e']) ∧ Below w.heap.size w w' := by
  have := att_turn A c l a b w h hm ho
  rwa [hv] at this
theorem turn_val9n (A : Option Addr) (c n : Nat) (l : ArcL) (hn : n = l.length) (a b : Int) (w : World) (x e' : Int) (hv : turn l a b = (x, e')) (h : Arcs w w.heap.size A l) (hm : l.length ≤ 100) (ho : OkArcs l) :
    Calls Try.prog 19 #[.int .i64 a, .int .i64 b, .slice A n c] w fun e w' => e = .returned (.tuple #[.int .i64 x, .int .i64 e']) ∧ Below w.heap.size w w' := by
  subst hn
  exact turn_val9 A c l a b w x e' hv h hm ho
theorem free_val9 (A : Option Addr) (c : Nat) (l : ArcL) (s deg : Int) (w : World) (x : Bool) (hv : fr l s deg = x) (h : Arcs w w.heap.size A l) (hm : l.length ≤ 100) (ho : OkArcs l) (hd1 : -1000 ≤ deg) (hd2 : deg ≤ 1000) :
    Calls Try.prog 29 #[.int .i64 s, .int .i64 deg, .slice A l.length c] w fun e w' => e = .returned (.bool x) ∧ Below w.heap.size w w' := by
  have := ref_free A c l s deg w h hm ho hd1 hd2
  rwa [hv] at this
theorem worst_val9 (w : World) : Calls Try.prog 25 #[.slice none 0 0] w fun e w' => e = .returned (.int .i64 180) ∧ Below w.heap.size w w' := by
  have := att_worst none 0 [] w Arcs.nil (by decide) (by intro q hq; simp at hq)
  rwa [show worstOf [] = 180 by decide +kernel] at this
set_option maxRecDepth 10000 in
theorem more_walk (A0 : Option Addr) (c0 : Nat) (l : ArcL) (A1 : Option Addr) (c1 : Nat) (m : ArcL) (a b : Int) (w : World) (h0 : Arcs w w.heap.size A0 l) (hm0 : l.length ≤ 9223372036854775807) (h1 : Arcs w w.heap.size A1 m) (hm1 : m.length ≤ 9223372036854775807) :
    Calls Try.prog 11 #[.slice A0 l.length c0, .slice A1 m.length c1, .int .i64 a, .int .i64 b] w fun e w' => e = .returned (.bool true) ∧ Below w.heap.size w w' := by
  obtain ⟨i0, hi, hz0, hz1, hz2⟩ := info_parts Try.info44
  have L1 := made_len l
  have L2 := made_len m
  have LA := bx (show (made l).length ≤ 100 by omega)
  have LB := bx (show (made l ++ made m).length ≤ 100 by simp; omega)
  have OA := bx (okArcs_made l)
  have OB := bx (okArcs_append (okArcs_made l) (okArcs_made m))
  obtain ⟨d, e1, hd⟩ : ∃ d e1, turn (made l) a b = (d, e1) := ⟨_, _, rfl⟩
  obtain ⟨x, f, hx⟩ : ∃ x f, turn (made l ++ made m) a b = (x, f) := ⟨_, _, rfl⟩
  obtain ⟨d1, d2⟩ := turn_bd (made l) a b
  obtain ⟨x1, x2⟩ := turn_bd (made l ++ made m) a b
  have hmore := @turn_more (made l) (made m) a b
  rw [hd] at d1 d2 hmore
  rw [hx] at x1 x2 hmore
  simp only at d1 d2 x1 x2 hmore
  have T1 := bx hd
  have T2 := bx hx
  have HM := bx hmore
  clear hd hx hmore
  go_enter Try.func11, Try.ntmps11
  go_wp2_with fail
  refine (ref_made_own A0 c0 l w h0 hm0).mono ?_
  rintro e w1 ⟨A0', c0', rfl, o1, hb1⟩
  have hr0 := bx (arcs_of_own o1)
  go_wp2_with (at_builtin; refine append_row rfl (.tmp 17) (.tmp 18) 22 rfl w1.heap.size 44 i0 _ 2 16 Try.underlying22 hi hz0 hz1 hz2 rfl (by decide) (.slice (some ⟨w1.heap.size, 0, none⟩) 0 0) 0 [] rfl (owns_empty w1 _ (Nat.le_refl _)) w.heap.size (.slice A0' (made l).length c0') (made l).length (arcCells (made l)) rfl (o1.alloc _) (one_arcs _) (by unfold maxLen; omega) (by omega) (by simp) ?_; intro v2 w2 o2 g2)
  have g12 := (World.grownBy_alloc w1 (.cells #[] 44) none).andThen g2 (by intro j hj; left; simp [Value.ownBlock] at hj; omega)
  have hb02 : Below w1.heap.size w1 w2 := ⟨g12.os, g12.tape, g12.output, g12.size, fun i hi => g12.block i hi (by simp)⟩
  clear g12 g2
  refine (ref_made_own A1 c1 m w2 (((h1.below hb1).below (hb02.mono hb1.size)).more (Nat.le_trans hb1.size hb02.size)) hm1).mono ?_
  rintro e w3 ⟨A3, c3, rfl, o3, hb3⟩
  have o23 := o2.kept (grown_of_below hb3 none) (by cases v2.ownBlock <;> simp)
  go_wp2_with (at_builtin; refine append_row rfl (.tmp 19) (.tmp 21) 22 rfl w1.heap.size 44 i0 _ 2 16 Try.underlying22 hi hz0 hz1 hz2 rfl (by decide) v2 (0 + (made l).length) ([] ++ arcCells (made l)) rfl o23 w2.heap.size (.slice A3 (made m).length c3) (made m).length (arcCells (made m)) rfl o3 (one_arcs _) (by unfold maxLen; omega) (by omega) (Nat.le_trans hb02.size hb3.size) ?_; intro v4 w4 o4 g4)
  have hb0 : Below w1.heap.size w1 w4 := by
    have hne : ∀ i, i < w1.heap.size → some i ≠ v2.ownBlock := by
      intro i hi
      rcases o2.2 with ⟨hv, _⟩ | ⟨g, cap, cur, hv, hg, _⟩
      · subst hv; simp [Value.ownBlock]
      · subst hv; simp [Value.ownBlock]; omega
    have s1 := hb02.size
    have s2 := hb3.size
    exact ⟨g4.os.trans (hb3.os.trans hb02.os), g4.tape.trans (hb3.tape.trans hb02.tape), g4.output.trans (hb3.output.trans hb02.output), Nat.le_trans (Nat.le_trans s1 s2) g4.size,
      fun i hi => (g4.block i (by omega) (hne i hi)).trans ((hb3.block i (by omega)).trans (hb02.block i hi))⟩
  clear hb02 hb3 g4 o23 o2 o3
  obtain ⟨A4, c4, rfl⟩ := slice_form o4
  rw [List.nil_append, ← arcCells_append] at o4
  have hr4 := bx (arcs_of_own o4)
  clear o4 o1
  have hb4 : Below w4.heap.size w4 w4 := Below.refl _ _
  refine (turn_val9 A0' c0' (made l) a b w4 d e1 T1.out ((hr0.out.below hb0).more hb0.size) LA.out OA.out).mono ?_
  rintro e w5 ⟨rfl, hx⟩
  replace hb0 := hb0.trans (hx.mono hb0.size)
  replace hb4 := hb4.trans (hx.mono hb4.size)
  clear hx
  go_wp2_with fail
  refine (turn_val9n A4 c4 _ (made l ++ made m) (by simp) a b w5 x f T2.out ((hr4.out.below hb4).more hb4.size) LB.out OB.out).mono ?_
  rintro e w6 ⟨rfl, hx⟩
  replace hb0 := hb0.trans (hx.mono hb0.size)
  clear hx hb4
  have hb := hb1
  clear hb1
  by_cases hf : f = 0
  case neg =>
    have t1 : (f != 0) = true := by simp [hf]
    clear hf
    go_wp2_with fail
    refine (lives_calls _).mono ?_
    rintro e w9 ⟨rfl, hx⟩
    go_wp2
    go_ret
    exact ⟨rfl, hb.trans ((hb0.trans (hx.mono hb0.size)).mono hb.size)⟩
  obtain ⟨k1, k2, k3⟩ := HM.out hf
  have t1 : (f != 0) = false := by simp [hf]
  subst k1
  have HF := bx k3
  clear hf k3
  by_cases hxn : x < 0 <;> by_cases hdn : d < 0
  all_goals
    have hge : (if d < 0 then -d else d) ≤ (if x < 0 then -x else x) := by simp only [hxn, hdn, if_true, if_false]; omega
    simp only [hxn, hdn, if_true, if_false] at hge
    clear k2
    go_wp2_with fail
    refine (free_val9 A0' c0' (made l) a x w6 true HF.out ((hr0.out.below hb0).more hb0.size) LA.out OA.out (by omega) (by omega)).mono ?_
    rintro e w7 ⟨rfl, hx⟩
    replace hb0 := hb0.trans (hx.mono hb0.size)
    clear hx
    go_wp2_with fail
    refine (worst_val9 w7).mono ?_
    rintro e w8 ⟨rfl, hx⟩
    replace hb0 := hb0.trans (hx.mono hb0.size)
    clear hx
    go_wp2_with fail
    refine (lives_calls _).mono ?_
    rintro e w9 ⟨rfl, hx⟩
    go_wp2
    go_ret
    exact ⟨rfl, hb.trans ((hb0.trans (hx.mono hb0.size)).mono hb.size)⟩

set_option maxRecDepth 100000 in
theorem more_lifted (os : Os) (started : os.Started) (H : Type) (enc : TypeId × Value → H) :
    ReturnsInHanded {} Try.checked os 11 .any (Rows.attitudeMoreArcsSpec.pre6 enc Try.prog Try.f11 Rows.attitudeMoreArcsRow.domain false) (Rows.attitudeMoreArcsSpec.post enc Try.prog Try.f11 false true false false) := by
  refine returnsInHanded_of_change (C := Try.checked) own started (by kernel_rfl) Try.func11
    (ChangeSpec.witness6 (enc := enc) (C := Try.checked) false ⟨#[], #[.slice none 0 0, .slice none 0 0, .int .i64 0, .int .i64 0], []⟩ 8 (by kernel_rfl) (by kernel_rfl) (by kernel_rfl) (by kernel_rfl)) ?_
  intro W base args ds gs before hval0 hW hcnd _
  have hval : ∀ (j : Nat) t v, Try.f11.params[j]? = some t → args[j]? = some v → Value.okWide Try.prog W .any base t v := hval0
  have hW' := hW
  obtain ⟨p, q, hA0, hV, rfl, hfz, hnd⟩ := hW
  have hA : DataW.TrodAll enc Try.prog W 0 (fun _ => true) true Try.f11.params.toList args.toList ds p := hA0
  rw [Try.params11] at hA hval
  obtain ⟨v0, vs0, d0, ds0, p0, q0, hargs, rfl, rfl, h0, r0⟩ := trodAll_cons hA
  obtain ⟨v1, vs1, d1, ds1, p1, q1, rfl, rfl, rfl, h1, r1⟩ := trodAll_cons r0
  obtain ⟨v2, vs2, d2, ds2, p2, q2, rfl, rfl, rfl, h2, r2⟩ := trodAll_cons r1
  obtain ⟨v3, vs3, d3, ds3, p3, q3, rfl, rfl, rfl, h3, r3⟩ := trodAll_cons r2
  obtain ⟨rfl, rfl, rfl⟩ := trodAll_nil r3
  obtain rfl : args = #[v0, v1, v2, v3] := by cases args; simp_all
  obtain ⟨rfl, rfl⟩ := trodVars_none hV
  obtain ⟨A0, c0, l0, rfl, hArcs0, hlen0⟩ := open_arcs (hval 0 22 v0 rfl rfl) h0
  obtain ⟨A1, c1, l1, rfl, hArcs1, hlen1⟩ := open_arcs (hval 1 22 v1 rfl rfl) h1
  obtain ⟨a2, rfl, _, _, w2⟩ := open_int Try.underlying3 (hval 2 3 v2 rfl rfl) h2
  obtain ⟨a3, rfl, _, _, w3⟩ := open_int Try.underlying3 (hval 3 3 v3 rfl rfl) h3
  refine (more_walk A0 c0 l0 A1 c1 l1 a2 a3 W hArcs0 hlen0 hArcs1 hlen1).mono fun e W' ⟨he, hb⟩ => ?_
  subst he
  exact ⟨_, rfl, law_post Try.laid (by kernel_rfl) rfl rfl Try.underlying4 rfl hW' hb⟩
theorem more_holds : Rows.AttitudeMoreArcsSaid :=
  OpenClaim.holds_of_wide 11 Try.f11 rfl rfl rfl rfl rfl rfl rfl ⟨rfl, rfl, rfl, rfl, rfl⟩ rfl rfl rfl rfl rfl (by kernel_rfl) Try.func11 (by kernel_rfl)
    (of_decide_eq_true (by kernel_rfl)) (by unfold Func.isWrapper; first | (rw [if_pos (by decide +kernel)]; kernel_rfl) | (rw [if_neg (by decide +kernel)]; exact ⟨rfl, rfl⟩))
    (fun os started H enc _ => more_lifted os started H enc)
#print axioms more_holds
end Go.Proofs.Ytaahdfmbbbjmaaa
