/-
  Walks of layer 11 (thermal): Peak, After of one zone, Step, Hottest.
-/
import Derived.Test.YtlogokjjphlkkaaW29
import Derived.Laws.IdiomCopy
namespace Go.Proofs.Ytlogokjjphlkkaa
open Go.RowKit Go.Shelf

/-- the slice v holds one zone -/
structure Z1 (w : World) (v : Value) (t l k : Int) : Prop where
  out : ∃ b off c, v = .slice (some ⟨b, off, none⟩) 1 c ∧ 1 ≤ c ∧ w.cell? ⟨b, off, none⟩ = some (.int .i64 t) ∧ w.cell? ⟨b, off + 1, none⟩ = some (.int .i64 l) ∧ w.cell? ⟨b, off + 2, none⟩ = some (.int .i64 k)
theorem Z1.from {w w' : World} {v : Value} {t l k : Int} (h : Z1 w v t l k) (hb : From w w') : Z1 w' v t l k := by
  obtain ⟨b, off, c, e, hc, h1, h2, h3⟩ := h.out
  exact ⟨b, off, c, e, hc, hb.cell h1, hb.cell h2, hb.cell h3⟩
set_option maxRecDepth 100000 in
set_option maxHeartbeats 4000000 in
theorem peak_calls (t l k h s : Int) (n : Nat) (hn : n ≤ 1000) (w : World) (hk : 1 ≤ k) (hk2 : k ≤ 1000) (ht : -1000000 ≤ t ∧ t ≤ 1000000) (hh : -1000000 ≤ h ∧ h ≤ 1000000) (hs : -1000000 ≤ s ∧ s ≤ 1000000) :
    Calls Try.prog 73 #[.agg (zv t l k), .int .i64 h, .int .i64 s, .int .i64 n] w fun e w' => e = .returned (.int .i64 (pkT k s h t n)) ∧ From w w' := by
  obtain ⟨W1, hW1⟩ : ∃ V, w.alloc (.cells (zv t l k) 98) = V := ⟨_, rfl⟩
  obtain ⟨W2, hW2⟩ : ∃ V, W1.alloc (.cells #[.int .i64 t] 3) = V := ⟨_, rfl⟩
  have k1 : From w W1 := by rw [← hW1]; exact From.alloc (From.refl _) _
  have k2 : From W1 W2 := by rw [← hW2]; exact From.alloc (From.refl _) _
  have s1 : W1.heap.size = w.heap.size + 1 := by rw [← hW1]; simp
  have M0 : ZC W1 w.heap.size 98 t l k := by rw [← hW1]; exact ZC.new w _ _ _ _
  obtain ⟨a0, a1, a2⟩ := M0.facts
  obtain ⟨b0, b1, b2⟩ := (M0.from k2).facts
  have HC := bx (show IC W2 (w.heap.size + 1) t by rw [← hW2, ← s1]; exact IC.new W1 t)
  have HR := bx (rep1_calls t l k h s n hn (w.heap.size + 1) w W2 hk hk2 ht hh hs (by omega) HC.out (k1.trans k2))
  clear M0 k1 k2
  go_enter Try.func73, Try.ntmps73
  go_wp2_with fail
  refine HR.out.mono ?_
  rintro e w3 ⟨rfl, k3, hc3⟩
  have c3 := hc3.cell
  clear hc3 hW1 hW2
  go_wp2
  go_ret
  exact ⟨rfl, k3⟩
set_option maxRecDepth 100000 in
set_option maxHeartbeats 4000000 in
theorem hot_calls (v : Value) (t l k : Int) (w : World) (h : Z1 w v t l k) : Calls Try.prog 75 #[v] w fun e w' => e = .returned (.int .i64 t) ∧ From w w' := by
  obtain ⟨b, off, c, rfl, hc, h1, h2, h3⟩ := h.out
  go_enter Try.func75, Try.ntmps75
  go_wp2_with fail
  all_goals
    refine wp_loop_rounds 1 ?_
    rw [rounds_succ]
    go_wp2
    go_ret
    exact ⟨rfl, From.refl _⟩
theorem Try.elZone : ElT Try.prog 94 98 (.agg #[.int .i64 0, .int .i64 0, .int .i64 0]) 3 24 := ⟨Try.underlying94, info_parts (by kernel_rfl), rfl, by decide⟩
theorem make1 (W : World) : (Instr.makeSlice 94 (.int .i64 1) (.int .i64 1)).run Try.prog W = .ok (.slice (some ⟨W.heap.size, 0, none⟩) 1 1) (W.alloc (.cells (zv 0 0 0) 98)) := by kernel_rfl
theorem copy1 (W : World) (ty : TypeId) (B b off c : Nat) (t l k t0 l0 k0 : Int) (hB : ZC W B 98 t0 l0 k0) (h1 : W.cell? ⟨b, off, none⟩ = some (.int .i64 t)) (h2 : W.cell? ⟨b, off + 1, none⟩ = some (.int .i64 l)) (h3 : W.cell? ⟨b, off + 2, none⟩ = some (.int .i64 k)) :
    (Builtin.copy_ #[94, 94] ty #[.slice (some ⟨B, 0, none⟩) 1 1, .slice (some ⟨b, off, none⟩) 1 c]).run Try.prog W = .ok (goInt 1) (set3 W B t l k) := by
  obtain ⟨hu, ⟨i, hq, _, hi, _⟩, _, _⟩ := Try.elZone
  obtain ⟨x0, x1, x2⟩ := hB.facts
  have y0 := hB.soft 0
  have y1 := hB.soft 1
  have y2 := hB.soft 2
  have hl : (loadCells ⟨b, off, none⟩ 3).run Try.prog W = .ok #[.int .i64 t, .int .i64 l, .int .i64 k] W := run_loadCells_list (P := Try.prog) W ⟨b, off, none⟩ [.int .i64 t, .int .i64 l, .int .i64 k] (by
    intro j v hj
    match j, hj with
    | 0, hj => simp at hj; subst hj; rw [Addr.add_mid]; exact h1
    | 1, hj => simp at hj; subst hj; rw [Addr.add_mid]; exact h2
    | 2, hj => simp at hj; subst hj; rw [Addr.add_mid]; exact h3)
  have hst : (storeCells ⟨B, 0, none⟩ [.int .i64 t, .int .i64 l, .int .i64 k] 0).run Try.prog W = .ok () (set3 W B t l k) := run_storeCells_cells (P := Try.prog) B 0 [.int .i64 t, .int .i64 l, .int .i64 k] 0 W (by
    intro j hj
    match j, hj with
    | 0, _ => simp [x0]
    | 1, _ => simp [x1]
    | 2, _ => simp [x2]) (by
    intro j hj
    match j, hj with
    | 0, _ => simpa using y0
    | 1, _ => simpa using y1
    | 2, _ => simpa using y2) (by simp [Value.oneCell'])
  simp [Builtin.copy_, run_underlying hu, Builtin.lenOf, Builtin.firstCells, sizeOf, typeInfo, hq, hi]
  rw [hl]
  simp [Result.andThen, hst]
set_option maxRecDepth 100000 in
set_option maxHeartbeats 4000000 in
theorem after_calls (v : Value) (t l k h s : Int) (AH : Option Addr) (cH : Nat) (w : World) (hz : Z1 w v t l k) (hh0 : Ints w (.slice AH 1 cH) [h]) (hk : 1 ≤ k) (hk2 : k ≤ 1000) (ht : -1000000 ≤ t ∧ t ≤ 1000000) (hh : -1000000 ≤ h ∧ h ≤ 1000000) (hs : -1000000 ≤ s ∧ s ≤ 1000000) :
    Calls Try.prog 116 #[v, .slice AH 1 cH, .int .i64 s, .int .i64 1] w fun e w' => ∃ v', e = .returned v' ∧ Z1 w' v' (nextT k s h t) l k ∧ From w w' ∧ ∀ b off c, v' = .slice (some ⟨b, off, none⟩) 1 c → w.heap.size ≤ b := by
  obtain ⟨b, off, c, rfl, hc, h1, h2, h3⟩ := hz.out
  obtain ⟨Wa, hWa⟩ : ∃ V, w.alloc (.cells (zv 0 0 0) 98) = V := ⟨_, rfl⟩
  have ka : From w Wa := by rw [← hWa]; exact From.alloc (From.refl _) _
  have sa : Wa.heap.size = w.heap.size + 1 := by rw [← hWa]; simp
  have hza : ZC Wa w.heap.size 98 0 0 0 := by rw [← hWa]; exact ZC.new w _ _ _ _
  have hmk := make1 w
  rw [hWa] at hmk
  have hcp := copy1 Wa 3 w.heap.size b off c t l k 0 0 0 hza (ka.cell h1) (ka.cell h2) (ka.cell h3)
  obtain ⟨Wb, hWb⟩ : ∃ V, set3 Wa w.heap.size t l k = V := ⟨_, rfl⟩
  rw [hWb] at hcp
  have HZB := bx (show ZC Wb w.heap.size 98 t l k by rw [← hWb]; exact hza.set3 t l k)
  have kb : From w Wb := by rw [← hWb]; exact ka.set3 (Nat.le_refl _) t l k
  have sb : Wb.heap.size = w.heap.size + 1 := by rw [← hWb, size_set3]; exact sa
  obtain ⟨Wc, hWc⟩ : ∃ V, Wb.alloc (.cells (zv t l k) 98) = V := ⟨_, rfl⟩
  have kc : From Wb Wc := by rw [← hWc]; exact From.alloc (From.refl _) _
  have HZC := bx (show ZC Wc (w.heap.size + 1) 98 t l k by rw [← hWc, ← sb]; exact ZC.new Wb _ _ _ _)
  have HZD := bx (HZB.out.from kc)
  obtain ⟨hb1, ho1, eA, _, hcell⟩ := ints_at (hh0.from (kb.trans kc)) (show 0 < [h].length by simp)
  subst eA
  have hcell' : Wc.cell? ⟨hb1, ho1, none⟩ = some (.int .i64 h) := by simpa using hcell
  have HKC := bx (kb.trans kc)
  have HRP := bx (rep0_calls t l k h s 1 (by omega) Wc hk hk2 ht hh hs)
  obtain ⟨p0, p1, p2⟩ := HZB.out.facts
  obtain ⟨q0, q1, q2⟩ := HZC.out.facts
  clear hza hWb ka kb kc hcell hh0 hz
  go_enter Try.func116, Try.ntmps116
  go_wp2_with fail
  refine wp_loop_rounds 2 ?_
  rw [rounds_succ]
  go_wp2_with fail
  refine HRP.out.mono ?_
  rintro e wd ⟨rfl, kd⟩
  have hzd := HZD.out.from kd
  have d0 := hzd.soft 0
  have d1 := hzd.soft 1
  have d2 := hzd.soft 2
  obtain ⟨x0, x1, x2⟩ := hzd.facts
  have hz2 := hzd.set3 (itT k s h t 1) l k
  obtain ⟨y0, y1, y2⟩ := hz2.facts
  have HF := bx (show Z1 (set3 wd w.heap.size (nextT k s h t) l k) (.slice (some ⟨w.heap.size, 0, none⟩) 1 1) (nextT k s h t) l k ∧ From w (set3 wd w.heap.size (nextT k s h t) l k) from ⟨⟨w.heap.size, 0, 1, rfl, Nat.le_refl _, y0, y1, y2⟩, (HKC.out.trans kd).set3 (Nat.le_refl _) _ l k⟩)
  clear hz2 y0 y1 y2 hzd hWa hWc
  go_wp2_with fail
  rw [rounds_succ]
  go_wp2
  go_ret
  exact ⟨_, rfl, HF.out.1, HF.out.2, fun b off c h => by cases h; exact Nat.le_refl _⟩
theorem stepZ_calls (v : Value) (t l k h s : Int) (AH : Option Addr) (cH : Nat) (w : World) (hz : Z1 w v t l k) (hh0 : Ints w (.slice AH 1 cH) [h]) (hk : 1 ≤ k) (hk2 : k ≤ 1000) (ht : -1000000 ≤ t ∧ t ≤ 1000000) (hh : -1000000 ≤ h ∧ h ≤ 1000000) (hs : -1000000 ≤ s ∧ s ≤ 1000000) :
    Calls Try.prog 74 #[v, .slice AH 1 cH, .int .i64 s] w fun e w' => ∃ v', e = .returned v' ∧ Z1 w' v' (nextT k s h t) l k ∧ From w w' ∧ ∀ b off c, v' = .slice (some ⟨b, off, none⟩) 1 c → w.heap.size ≤ b := by
  have HA := bx (after_calls v t l k h s AH cH w hz hh0 hk hk2 ht hh hs)
  clear hz hh0
  go_enter Try.func74, Try.ntmps74
  go_wp2_with fail
  refine HA.out.mono ?_
  rintro e w1 ⟨v', rfl, hz, k1, hnw⟩
  have HNW := bx hnw
  clear hnw
  have HZ := bx hz
  clear hz
  obtain ⟨b, off, c, rfl, _⟩ := HZ.out.out
  go_wp2
  go_ret
  exact ⟨_, rfl, HZ.out, k1, HNW.out⟩
end Go.Proofs.Ytlogokjjphlkkaa
