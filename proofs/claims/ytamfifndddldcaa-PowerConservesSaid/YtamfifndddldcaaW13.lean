/-
  Walk of layer 10's examples: `lives` returns true.
-/
import Derived.Test.YtamfifndddldcaaW12
namespace Go.Proofs.Ytamfifndddldcaa
open Go.RowKit Go.Shelf

theorem check_long (C ch re : Int) (A0 : Option Addr) (n c0 : Nat) (w : World) (h : 64 < n) (hm : n ≤ 9223372036854775807) (hb : ¬ badB C ch re) :
    Calls Try.prog 14 #[.agg (bcs C ch re), .slice A0 n c0] w fun e w' => e = .returned (.int .i64 2) ∧ From w w' := by
  obtain ⟨W1, hW1⟩ : ∃ V, w.alloc (.cells (bcs C ch re) 23) = V := ⟨_, rfl⟩
  have k1 : From w W1 := by rw [← hW1]; exact (From.refl _).alloc _
  obtain ⟨a0, a1, a2, _, _, _⟩ := bat_soft (show W1.heap[w.heap.size]? = some (.cells (bcs C ch re) 23 (0, 0)) by rw [← hW1]; exact heap_alloc_new _ _)
  have HK := bx k1
  unfold badB at hb
  have t1 : decide (re < 0) = false := decide_eq_false (by omega)
  have t2 : decide (C < re) = false := decide_eq_false (by omega)
  have t3 : decide (2147483647 < C) = false := decide_eq_false (by omega)
  have t4 : decide (ch < 0) = false := decide_eq_false (by omega)
  have t5 : decide (C < ch) = false := decide_eq_false (by omega)
  have d6 : decide ((64 : Int) < (n : Int)) = true := decide_eq_true (by omega)
  clear k1 hb
  go_enter Try.func14, Try.ntmps14
  go_wp2
  go_ret
  exact ⟨rfl, HK.out⟩
abbrev L3 : List Lo := [⟨1, 15, 0, true⟩, ⟨2, 20, 5, false⟩, ⟨3, 10, 7, false⟩]
abbrev T1 : List Wn := [⟨3, 0, 0, 10, 14, 0⟩]
theorem T1_tab : Tab T1 := ⟨by decide, by intro x hx; obtain rfl := List.mem_singleton.1 hx; decide, List.pairwise_singleton _ _⟩
theorem nil_tab : Tab [] := ⟨by decide, by simp, .nil⟩
abbrev l3c : Array Value := #[.int .i64 1, .int .i64 15, .int .i64 0, .bool true, .int .i64 2, .int .i64 20, .int .i64 5, .bool false, .int .i64 3, .int .i64 10, .int .i64 7, .bool false]
theorem shadow_calls (w : World) : Calls Try.prog 32 #[] w fun e w' => e = .returned (.slice (some ⟨w.heap.size, 0, none⟩) 1 1) ∧ Wins w' (.slice (some ⟨w.heap.size, 0, none⟩) 1 1) T1 ∧ From w w' := by
  go_enter Try.func32, Try.ntmps32
  go_wp2
  go_ret
  refine ⟨rfl, ?_, (From.refl _).alloc _⟩
  exact (sl_new w (T1.flatMap wcs) 68 1 1).more (by simp)
def many : Array Value := (Array.replicate 65 #[Value.int .i64 0, .int .i64 0, .int .i64 0, .bool false]).flatten
theorem make65 (w : World) : (Instr.makeSlice 24 (.int .i64 65) (.int .i64 65)).run Try.prog w = .ok (.slice (some ⟨w.heap.size, 0, none⟩) 65 65) (w.alloc (.cells many 41)) := by kernel_rfl
theorem two_ints {lo : Nat} {w : World} {A : Option Addr} {c : Nat} {x y : Int} (h : SlN lo w (.slice A 2 c) 2 (ic [x, y])) : ∃ b off, A = some ⟨b, off, none⟩ ∧ w.cell? ⟨b, off, none⟩ = some (.int .i64 x) ∧ w.cell? ⟨b, off + 1, none⟩ = some (.int .i64 y) := by
  obtain ⟨b, off, rfl, _, c0⟩ := h.sl.at_ (j := 0) (u := .int .i64 x) rfl
  obtain ⟨b', off', e, _, c1⟩ := h.sl.at_ (j := 1) (u := .int .i64 y) rfl
  simp only [Option.some.injEq, Addr.mk.injEq, and_true] at e
  obtain ⟨rfl, rfl⟩ := e
  exact ⟨b, off, rfl, c0, c1⟩
theorem one_int {lo : Nat} {w : World} {A : Option Addr} {c : Nat} {x : Int} (h : SlN lo w (.slice A 1 c) 1 (ic [x])) : ∃ b off, A = some ⟨b, off, none⟩ ∧ w.cell? ⟨b, off, none⟩ = some (.int .i64 x) := by
  obtain ⟨b, off, rfl, _, c0⟩ := h.sl.at_ (j := 0) (u := .int .i64 x) rfl
  exact ⟨b, off, rfl, c0⟩
theorem L3_ids : Ids L3 := by unfold Ids; decide
theorem L3_pw : ∀ x ∈ L3, 0 ≤ x.pw ∧ x.pw ≤ 4000000000 := by
  intro x hx
  simp only [L3, List.mem_cons, List.not_mem_nil, or_false] at hx
  rcases hx with rfl | rfl | rfl <;> simp
abbrev L4 : List Lo := [⟨1, 15, 0, true⟩, ⟨2, 20, 5, false⟩, ⟨3, 10, 7, false⟩, ⟨1, 15, 0, true⟩]
theorem step_full {P : Program} {ops : Array Oper} {o : Oper} {a : Act} {w : World} {K : Act → World → Prop} {Q : Exit → Act → World → Prop} {C : Prop} (hgd : Region.wanted o (yielded ops a.tmps) = true) (s x : Operand) (t : TypeId)
    (ho : o.op = .call { callee := .builtin .append, args := #[s, x], argTypes := #[t, t] }) {e : TypeId} {z : Value} {size bytes : Nat} (E : ElT P t e z size bytes)
    {g n cap : Nat} {xs : List Value} (hs : a.eval s = .slice (some ⟨g, 0, none⟩) n cap) (hlen : xs.length = n * size) (hcells : ∀ j u, xs[j]? = some u → w.cell? ((⟨g, 0, none⟩ : Addr).add j) = some u)
    {aa : Addr} {m c0 : Nat} {ys : List Value} (hx : a.eval x = .slice (some aa) m c0) (hnews : ∀ j q, ys[j]? = some q → w.cell? (aa.add j) = some q)
    (hm : ys.length = m * size) (hcap : cap < n + m) (hbytes : (n + m) * bytes ≤ 140737488355328) (h63 : n + m ≤ maxLen)
    (h : ∀ A c w', w'.ownsRow w.heap.size e size (.slice A (n + m) c) (n + m) (xs ++ ys) → From w w' → K (a.put o.dst (.slice A (n + m) c)) w') :
    if Region.wanted o (yielded ops a.tmps) = true then Oper.wp P o a w K Q else C := by
  rw [if_pos hgd]
  obtain ⟨ht, ⟨i, hi, hz, hsize, hby⟩, hzs, hpos⟩ := E
  obtain ⟨v', w', hrun, r1, r2⟩ := run_append_arg_grows (P := P) w t o.type e i z size bytes ht hi hz hsize hby hzs hpos ⟨g, 0, none⟩ n cap xs hlen hcells aa m c0 ys hm hnews hcap h63 hbytes
  obtain ⟨A, c, rfl⟩ := slice_form r1
  unfold Oper.wp execOp
  simp only [ho, resolve, invoke, builtin, Sem.run_bind, Sem.run_pure, Result.andThen_ok, List.map_toArray, List.map_cons, List.map_nil, hs, hx, hrun]
  exact h A c w' r1 ⟨r2.os, r2.tape, r2.output, r2.size, fun k hk => r2.block k hk (by simp)⟩
theorem own_cap {w : World} {base size n c : Nat} {e : TypeId} {A : Option Addr} {xs : List Value} (h : w.ownsRow base e size (.slice A n c) n xs) : n ≤ c := by
  rcases h.2 with ⟨h1, h2⟩ | ⟨g, cap, cur, hv, _, _, hc, _⟩
  · omega
  · injection hv with _ _ e3
    omega
set_option maxHeartbeats 64000000 in
set_option maxRecDepth 100000 in
theorem lives_calls (w : World) : Calls Try.prog 12 #[] w fun e w' => e = .returned (.bool true) ∧ From w w' := by
  obtain ⟨W1, hW1⟩ : ∃ V, w.alloc (.cells (bcs 100 50 20) 23) = V := ⟨_, rfl⟩
  obtain ⟨W2, hW2⟩ : ∃ V, W1.alloc (.cells l3c 41) = V := ⟨_, rfl⟩
  have z1 : W1.heap.size = w.heap.size + 1 := by rw [← hW1]; simp
  have k2 : From w W2 := by rw [← hW2, ← hW1]; exact ((From.refl _).alloc _).alloc _
  have hb0 : BatC W2 w.heap.size 100 50 20 := ⟨by rw [← hW2]; exact ((From.refl W1).alloc _).heap (by rw [← hW1]; exact heap_alloc_new _ _)⟩
  have hl0 : Loads W2 (.slice (some ⟨w.heap.size + 1, 0, none⟩) 3 3) L3 := by
    rw [← hW2, ← z1]
    exact (sl_new W1 (L3.flatMap lcs) 41 3 3).more (by simp)
  have ho0 : W2.ownsRow w.heap.size 41 4 (.slice (some ⟨w.heap.size + 1, 0, none⟩) 3 3) 3 (L3.flatMap lcs) := by
    rw [← hW2, ← z1]
    exact own_new W1 w.heap.size (by omega) 41 4 3 (L3.flatMap lcs) rfl (by decide)
  have HK := bx k2
  have HB := bx hb0
  have HL := bx hl0
  have HO := bx ho0
  have HS1 := bx (fun (W : World) (k : From W2 W) => (show Calls Try.prog 18 #[.agg (bcs 100 50 20), .int .i64 10, .slice (some ⟨w.heap.size + 1, 0, none⟩) 3 3] W (fun e w' => ∃ A cc, e = .returned (.tuple #[.agg #[.int .i64 100, .int .i64 35, .int .i64 20], .agg #[.int .i64 10, .int .i64 25, .int .i64 0, .slice A 2 cc, .bool false]]) ∧ SlN W.heap.size w' (.slice A 2 cc) 2 (ic [1, 3]) ∧ From W w') from step_calls 100 50 20 10 (some ⟨w.heap.size + 1, 0, none⟩) 3 L3 W (hl0.from k) (by decide) L3_ids (by decide) (by decide) (by decide) (by decide) L3_pw 10 (by decide) ⟨35, 25, [1, 3], false⟩ (by kernel_rfl)))
  have HS2 := bx (fun (W : World) (k : From W2 W) => (show Calls Try.prog 18 #[.agg (bcs 10 8 0), .int .i64 5, .slice (some ⟨w.heap.size + 1, 0, none⟩) 3 3] W (fun e w' => ∃ A cc, e = .returned (.tuple #[.agg #[.int .i64 10, .int .i64 0, .int .i64 0], .agg #[.int .i64 2, .int .i64 10, .int .i64 3, .slice A 1 cc, .bool true]]) ∧ SlN W.heap.size w' (.slice A 1 cc) 1 (ic [3]) ∧ From W w') from step_calls 10 8 0 5 (some ⟨w.heap.size + 1, 0, none⟩) 3 L3 W (hl0.from k) (by decide) L3_ids (by decide) (by decide) (by decide) (by decide) L3_pw 2 (by decide) ⟨0, 10, [3], true⟩ (by kernel_rfl)))
  obtain ⟨a0, a1, a2, _, _, _⟩ := hb0.facts
  clear k2 hb0 hl0 ho0
  go_enter Try.func12, Try.ntmps12
  go_wp2_with fail
  refine (HS1.out _ (From.refl _)).mono ?_
  rintro e w3 ⟨A3, c3, rfl, q3, k3⟩
  obtain ⟨p3, o3, rfl, i0, i1⟩ := two_ints q3
  go_wp2_with fail
  obtain ⟨V3, hV3⟩ : ∃ V, (w3.alloc (.cells (bcs 100 35 20) 23)).alloc (.cells (pcs 10 25 0 (.slice (some ⟨p3, o3, none⟩) 2 c3) false) 33) = V := ⟨_, rfl⟩
  have f3 : From w3 V3 := by rw [← hV3]; exact ((From.refl _).alloc _).alloc _
  have b3 : BatC V3 w3.heap.size 100 35 20 := ⟨by rw [← hV3]; exact ((From.refl _).alloc _).heap (heap_alloc_new w3 _)⟩
  have s3 : SupC V3 (w3.heap.size + 1) 10 25 0 (.slice (some ⟨p3, o3, none⟩) 2 c3) false := ⟨by rw [← hV3]; have := heap_alloc_new (w3.alloc (.cells (bcs 100 35 20) 23)) (.cells (pcs 10 25 0 (.slice (some ⟨p3, o3, none⟩) 2 c3) false) 33); rwa [World.size_alloc] at this⟩
  rw [hV3]
  refine (shadow_calls V3).mono ?_
  rintro e w4 ⟨rfl, q4, k4⟩
  obtain ⟨b0, b1, b2, _, _, _⟩ := (b3.from k4).facts
  obtain ⟨s0, s1, s2, s4, s5, _, _, _, _, _⟩ := (s3.from k4).facts
  have j0 := k4.cell (f3.cell i0)
  have j1 := k4.cell (f3.cell i1)
  have F4 := bx (k3.trans (f3.trans k4))
  have Q4 := bx q4
  clear hV3 q4 f3 b3 s3 q3 i0 i1
  have HN := bx (fun (W : World) (k : From w4 W) (c fr q : Int) (hfr : 0 ≤ fr ∧ fr ≤ 2000000) (hq : needT T1 c fr 5 8 = q) => need_calls (some ⟨V3.heap.size, 0, none⟩) 1 T1 c fr 5 8 W (Q4.out.from k) T1_tab hfr (by decide) (by decide) q hq)
  have HV := bx (fun (W : World) (k : From w4 W) (ch : Int) (b : Bool) (hch : 0 ≤ ch ∧ ch ≤ 30) (hb : survT T1 0 10 14 5 8 30 ch = b) => surv_calls 30 ch 0 (some ⟨V3.heap.size, 0, none⟩) 1 T1 0 10 14 5 8 W (Q4.out.from k) T1_tab (by decide) hch (by decide) (by decide) (by decide) (by decide) b hb)
  go_wp2_with fail
  refine (HS2.out _ F4.out).mono ?_
  rintro e w5 ⟨A5, c5, rfl, q5, k5⟩
  obtain ⟨p5, o5, rfl, i5⟩ := one_int q5
  have f5 : From w5 ((w5.alloc (.cells (bcs 10 0 0) 23)).alloc (.cells (pcs 2 10 3 (.slice (some ⟨p5, o5, none⟩) 1 c5) true) 33)) := ((From.refl _).alloc _).alloc _
  have b5 : BatC ((w5.alloc (.cells (bcs 10 0 0) 23)).alloc (.cells (pcs 2 10 3 (.slice (some ⟨p5, o5, none⟩) 1 c5) true) 33)) w5.heap.size 10 0 0 := ⟨((From.refl _).alloc _).heap (heap_alloc_new w5 _)⟩
  have s5 : SupC ((w5.alloc (.cells (bcs 10 0 0) 23)).alloc (.cells (pcs 2 10 3 (.slice (some ⟨p5, o5, none⟩) 1 c5) true) 33)) (w5.heap.size + 1) 2 10 3 (.slice (some ⟨p5, o5, none⟩) 1 c5) true := ⟨by have := heap_alloc_new (w5.alloc (.cells (bcs 10 0 0) 23)) (.cells (pcs 2 10 3 (.slice (some ⟨p5, o5, none⟩) 1 c5) true) 33); rwa [World.size_alloc] at this⟩
  obtain ⟨y0, y1, y2, _, _, _⟩ := b5.facts
  obtain ⟨z0, z1', z2, z3, z4, _, _, _, _, _⟩ := s5.facts
  have j5 := f5.cell i5
  have g0 := k5.trans f5
  clear b5 s5 f5 k5 q5 i5 b0 b1 b2 s0 s1 s2 s4 j0 j1 a0 a1 a2
  go_wp2_with fail
  refine (HN.out _ g0 0 9 17 (by decide) (by decide +kernel)).mono ?_
  rintro e v0 ⟨rfl, h0⟩
  have g1 := g0.trans h0
  clear y0 y1 y2 z0 z1' z2 z3 z4 j5 g0 h0
  go_wp2_with fail
  refine (HN.out _ g1 0 10 20 (by decide) (by decide +kernel)).mono ?_
  rintro e v1 ⟨rfl, h1⟩
  have g2 := g1.trans h1
  clear g1 h1
  go_wp2_with fail
  refine (HN.out _ g2 0 3 0 (by decide) (by decide +kernel)).mono ?_
  rintro e v2 ⟨rfl, h2⟩
  have g3 := g2.trans h2
  clear g2 h2
  go_wp2_with fail
  refine (HN.out _ g3 0 12 10 (by decide) (by decide +kernel)).mono ?_
  rintro e v3 ⟨rfl, h3⟩
  have g4 := g3.trans h3
  clear g3 h3
  go_wp2_with fail
  refine (HN.out _ g4 0 14 0 (by decide) (by decide +kernel)).mono ?_
  rintro e v4 ⟨rfl, h4⟩
  have g5 := g4.trans h4
  clear g4 h4
  go_wp2_with fail
  refine (HN.out _ g5 1 10 0 (by decide) (by decide +kernel)).mono ?_
  rintro e v5 ⟨rfl, h5⟩
  have g6 := g5.trans h5
  clear g5 h5
  go_wp2_with fail
  refine (need_calls none 0 [] 0 0 5 0 v5 (Sl.nil _ _) nil_tab (by decide) (by decide) (by decide) 0 (by decide +kernel)).mono ?_
  rintro e v6 ⟨rfl, h6⟩
  have g7 := g6.trans h6
  clear g6 h6
  go_wp2_with fail
  refine (HV.out _ g7 20 true (by decide) (by decide +kernel)).mono ?_
  rintro e v7 ⟨rfl, h7⟩
  have g8 := g7.trans h7
  clear g7 h7
  go_wp2_with fail
  refine (HV.out _ g8 19 false (by decide) (by decide +kernel)).mono ?_
  rintro e v8 ⟨rfl, h8⟩
  have g9 := F4.out.trans (g8.trans h8)
  clear g8 h8
  go_wp2_with fail
  have hbk := HB.out.facts
  obtain ⟨x0, x1, x2, _, _, _⟩ := hbk
  obtain ⟨_, _, e, _, y0, y1, y2, y3⟩ := loads_at HL.out (k := 0) (by decide)
  simp only [Option.some.injEq, Addr.mk.injEq, and_true] at e
  obtain ⟨rfl, rfl⟩ := e
  simp only [Nat.zero_mul, Nat.zero_add, List.getElem_cons_zero] at y0 y1 y2 y3
  have HKK := bx (fun (W : World) (kk : From W2 W) => (show From W2 W ∧ W.cell? ⟨w.heap.size, 0, none⟩ = some (.int .i64 100) ∧ W.cell? ⟨w.heap.size, 1, none⟩ = some (.int .i64 50) ∧ W.cell? ⟨w.heap.size, 2, none⟩ = some (.int .i64 20) ∧ W.cell? ⟨w.heap.size + 1, 0, none⟩ = some (.int .i64 1) ∧ W.cell? ⟨w.heap.size + 1, 1, none⟩ = some (.int .i64 15) ∧ W.cell? ⟨w.heap.size + 1, 2, none⟩ = some (.int .i64 0) ∧ W.cell? ⟨w.heap.size + 1, 3, none⟩ = some (.bool true) from ⟨kk, kk.cell x0, kk.cell x1, kk.cell x2, kk.cell y0, kk.cell y1, kk.cell y2, kk.cell y3⟩))
  have HES := bx (fun (W : World) (k : From W2 W) => (show Calls Try.prog 16 #[.slice (some ⟨w.heap.size + 1, 0, none⟩) 3 3] W fun e w' => e = .returned (.int .i64 15) ∧ From W w' from essential_calls (some ⟨w.heap.size + 1, 0, none⟩) 3 L3 W (HL.out.from k) (by decide) L3_pw 15 (by decide +kernel)))
  have HC1 := bx (fun (W : World) (k : From W2 W) => (show Calls Try.prog 14 #[.agg #[.int .i64 100, .int .i64 50, .int .i64 20], .slice (some ⟨w.heap.size + 1, 0, none⟩) 3 3] W fun e w' => e = .returned (.int .i64 0) ∧ From W w' from check_calls 100 50 20 (some ⟨w.heap.size + 1, 0, none⟩) 3 L3 W (HL.out.from k) (by decide) (by decide) 0 (by decide +kernel)))
  have HC2 := bx (fun (W : World) (k : From W2 W) => (show Calls Try.prog 14 #[.agg #[.int .i64 1, .int .i64 2, .int .i64 0], .slice (some ⟨w.heap.size + 1, 0, none⟩) 3 3] W fun e w' => e = .returned (.int .i64 5) ∧ From W w' from check_calls 1 2 0 (some ⟨w.heap.size + 1, 0, none⟩) 3 L3 W (HL.out.from k) (by decide) (by decide) 5 (by decide +kernel)))
  have HC3 := bx (fun (W : World) (A : Option Addr) (cc : Nat) (h : Loads W (.slice A 4 cc) L4) (hcap : 4 ≤ cc) => (show Calls Try.prog 14 #[.agg #[.int .i64 100, .int .i64 50, .int .i64 20], .slice A 4 cc] W fun e w' => e = .returned (.int .i64 4) ∧ From W w' from check_calls 100 50 20 A cc L4 W h (by decide) hcap 4 (by decide +kernel)))
  have HC4 := bx (fun (W : World) (A : Option Addr) => (show Calls Try.prog 14 #[.agg #[.int .i64 100, .int .i64 50, .int .i64 20], .slice A 65 65] W fun e w' => e = .returned (.int .i64 2) ∧ From W w' from check_long 100 50 20 A 65 65 W (by decide) (by decide) (by decide)))
  have hFF := g9
  have HCE := bx (fun (W : World) (k : From W2 W) j u (hj : (L3.flatMap lcs)[j]? = some u) => k.cell (HO.out.cells (g := w.heap.size + 1) rfl j u hj))
  have hmk := make65
  clear g9 HS1 HS2 HN HV
  go_region_held3 (fun W => From W2 W ∧ W.cell? ⟨w.heap.size, 0, none⟩ = some (.int .i64 100) ∧ W.cell? ⟨w.heap.size, 1, none⟩ = some (.int .i64 50) ∧ W.cell? ⟨w.heap.size, 2, none⟩ = some (.int .i64 20) ∧ W.cell? ⟨w.heap.size + 1, 0, none⟩ = some (.int .i64 1) ∧ W.cell? ⟨w.heap.size + 1, 1, none⟩ = some (.int .i64 15) ∧ W.cell? ⟨w.heap.size + 1, 2, none⟩ = some (.int .i64 0) ∧ W.cell? ⟨w.heap.size + 1, 3, none⟩ = some (.bool true))
    (first | (go_split_ands; with_reducible refine HKK.out _ ?_; repeat' (first | with_reducible assumption | with_reducible exact Nat.le_refl _ | with_reducible refine From.drew ?_ | with_reducible refine From.alloc ?_ _ | with_reducible refine From.setCell ?_ ?_ _ _)))
    (first
     | (refine step_full (by rfl) (.tmp 165) (.tmp 169) 24 (by rfl) Try.elLo (by rfl) (xs := L3.flatMap lcs) rfl (HCE.out _ (show From W2 _ by go_split_ands; assumption)) (by rfl) (ys := lcs ⟨1, 15, 0, true⟩) (cells_new2 _ _ _) rfl (by decide) (by decide) (by decide) ?_; intro A9 c9 w9 o9 k9; have hkeep := From.trans (show From W2 _ by go_split_ands; assumption) k9)
     | (go_at_call 16; (with_reducible refine (HES.out _ (show From W2 _ by go_split_ands; assumption)).mono ?_); rintro e w9 ⟨rfl, k9⟩; have hkeep := From.trans (show From W2 _ by go_split_ands; assumption) k9)
     | (go_at_call 14; (with_reducible refine (HC1.out _ (show From W2 _ by go_split_ands; assumption)).mono ?_); rintro e w9 ⟨rfl, k9⟩; have hkeep := From.trans (show From W2 _ by go_split_ands; assumption) k9)
     | (go_at_call 14; (with_reducible refine (HC2.out _ (show From W2 _ by go_split_ands; assumption)).mono ?_); rintro e w9 ⟨rfl, k9⟩; have hkeep := From.trans (show From W2 _ by go_split_ands; assumption) k9)
     | (go_at_call 14; (with_reducible refine (HC4.out _ _).mono ?_); rintro e w9 ⟨rfl, k9⟩; have hkeep := From.trans (show From W2 _ by go_split_ands; assumption) k9)
     | (go_at_call 14; (with_reducible refine (HC3.out _ _ _ (Sl.from (sl_of_own o9) (by first | exact From.refl _ | exact (From.refl _).drew)) (own_cap o9)).mono ?_); rintro e w9 ⟨rfl, k9⟩; have hkeep := From.trans (show From W2 _ by go_split_ands; assumption) k9))
  all_goals
    go_wp2
    go_ret
    exact ⟨rfl, HK.out.trans (by first | exact hkeep | exact hkeep.drew)⟩
end Go.Proofs.Ytamfifndddldcaa
