/-
  Walks of layer 11 (thermal): a zone in a box; limited, loss.
-/
import Derived.Test.YtlogokjjphlkkaaW27
namespace Go.Proofs.Ytlogokjjphlkkaa
open Go.RowKit Go.Shelf

abbrev zv (t l k : Int) : Array Value := #[.int .i64 t, .int .i64 l, .int .i64 k]
structure ZC (W : World) (r : Nat) (ty : TypeId) (t l k : Int) : Prop where
  out : W.heap[r]? = some (.cells (zv t l k) ty (0, 0))
theorem ZC.from {W W' : World} {r : Nat} {ty : TypeId} {t l k : Int} (h : ZC W r ty t l k) (hb : From W W') : ZC W' r ty t l k := ⟨hb.heap h.out⟩
theorem ZC.new (w : World) (ty : TypeId) (t l k : Int) : ZC (w.alloc (.cells (zv t l k) ty)) w.heap.size ty t l k := ⟨heap_alloc_new w _⟩
theorem ZC.facts {W : World} {r : Nat} {ty : TypeId} {t l k : Int} (h : ZC W r ty t l k) :
    W.cell? ⟨r, 0, none⟩ = some (.int .i64 t) ∧ W.cell? ⟨r, 1, none⟩ = some (.int .i64 l) ∧ W.cell? ⟨r, 2, none⟩ = some (.int .i64 k) := by
  have e := h.out
  refine ⟨?_, ?_, ?_⟩ <;> (rw [cell_of_row _ _ _ _ _ _ e]; rfl)
theorem ZC.soft {W : World} {r : Nat} {ty : TypeId} {t l k : Int} (h : ZC W r ty t l k) (i : Nat) : W.frozen? ⟨r, i, none⟩ = false := by
  have e := h.out
  simp [World.frozen?, e]
theorem ZC.lt {W : World} {r : Nat} {ty : TypeId} {t l k : Int} (h : ZC W r ty t l k) : r < W.heap.size := (Array.getElem?_eq_some_iff.1 h.out).1
theorem ZC.off {W : World} {r b : Nat} {ty : TypeId} {t l k : Int} (h : ZC W b ty t l k) (hr : r ≠ b) (i : Nat) (x : Value) : ZC (W.setCell ⟨r, i, none⟩ x) b ty t l k := ⟨(heap_set_off W hr i x).trans h.out⟩
theorem ZC.set0 {W : World} {r : Nat} {ty : TypeId} {t l k : Int} (h : ZC W r ty t l k) (t' : Int) : ZC (W.setCell ⟨r, 0, none⟩ (.int .i64 t')) r ty t' l k := ⟨heap_set_at h.out 0 _⟩
abbrev set3 (W : World) (r : Nat) (t l k : Int) : World := ((W.setCell ⟨r, 0, none⟩ (.int .i64 t)).setCell ⟨r, 1, none⟩ (.int .i64 l)).setCell ⟨r, 2, none⟩ (.int .i64 k)
theorem ZC.set3 {W : World} {r : Nat} {ty : TypeId} {t l k : Int} (h : ZC W r ty t l k) (t' l' k' : Int) : ZC (Go.Proofs.Ytlogokjjphlkkaa.set3 W r t' l' k') r ty t' l' k' := by
  have e1 := heap_set_at h.out 0 (.int .i64 t')
  have e2 := heap_set_at e1 1 (.int .i64 l')
  have e3 := heap_set_at e2 2 (.int .i64 k')
  exact ⟨by simpa using e3⟩
theorem ZC.off3 {W : World} {r b : Nat} {ty : TypeId} {t l k : Int} (h : ZC W b ty t l k) (hr : r ≠ b) (t' l' k' : Int) : ZC (Go.Proofs.Ytlogokjjphlkkaa.set3 W r t' l' k') b ty t l k := ((h.off hr _ _).off hr _ _).off hr _ _
theorem From.set3 {w w' : World} {r : Nat} (h : From w w') (hr : w.heap.size ≤ r) (t l k : Int) : From w (Go.Proofs.Ytlogokjjphlkkaa.set3 w' r t l k) := ((h.setCell hr _ _).setCell hr _ _).setCell hr _ _
theorem size_set3 (W : World) (r : Nat) (t l k : Int) : (Go.Proofs.Ytlogokjjphlkkaa.set3 W r t l k).heap.size = W.heap.size := by simp
def lim (n : Int) : Int := min (max n (-1000000)) 1000000
theorem lim_bd (n : Int) : -1000000 ≤ lim n ∧ lim n ≤ 1000000 := by unfold lim; omega
theorem lim_mono {a b : Int} (h : a ≤ b) : lim a ≤ lim b := by unfold lim; omega
theorem limited_calls (n : Int) (w : World) :
    Calls Try.prog 149 #[.int .i64 n] w fun e w' => e = .returned (.int .i64 (lim n)) ∧ w' = w := by
  go_enter Try.func149, Try.ntmps149
  go_wp2
  go_ret
  exact ⟨ret_int (by unfold lim; omega), rfl⟩
theorem loss_neg {d k : Int} (hk : 1 ≤ k) : -((k - 1 - d) / k) = d / k := by
  have h1 := Int.mul_ediv_add_emod (k - 1 - d) k
  have h2 := Int.emod_nonneg (k - 1 - d) (show k ≠ 0 by omega)
  have h3 := Int.emod_lt_of_pos (k - 1 - d) (show 0 < k by omega)
  symm
  apply Int.le_antisymm
  · apply Int.lt_add_one_iff.1
    apply Int.ediv_lt_of_lt_mul (by omega)
    rw [Int.add_mul, Int.neg_mul, Int.mul_comm ((k - 1 - d) / k) k]
    omega
  · apply (Int.le_ediv_iff_mul_le (by omega)).2
    rw [Int.neg_mul, Int.mul_comm ((k - 1 - d) / k) k]
    omega
theorem loss_bd {t k s : Int} (hk : 1 ≤ k) (ht1 : -1000000 ≤ t) (ht2 : t ≤ 1000000) (hs1 : -1000000 ≤ s) (hs2 : s ≤ 1000000) : -2000000 ≤ (t - s) / k ∧ (t - s) / k ≤ 2000000 := by
  constructor
  · apply (Int.le_ediv_iff_mul_le (by omega)).2
    have : k * 2000000 ≥ 2000000 := by omega
    omega
  · apply Int.lt_add_one_iff.1
    apply Int.ediv_lt_of_lt_mul (by omega)
    omega
set_option maxHeartbeats 1000000 in
theorem loss_calls (t l k s : Int) (w : World) (hk : 1 ≤ k) (hk2 : k ≤ 1000) (ht : -1000000 ≤ t ∧ t ≤ 1000000) (hs : -1000000 ≤ s ∧ s ≤ 1000000) :
    Calls Try.prog 150 #[.agg (zv t l k), .int .i64 s] w fun e w' => e = .returned (.int .i64 ((t - s) / k)) ∧ From w w' := by
  obtain ⟨W1, hW1⟩ : ∃ V, w.alloc (.cells (zv t l k) 154) = V := ⟨_, rfl⟩
  have k1 : From w W1 := by rw [← hW1]; exact From.alloc (From.refl _) _
  obtain ⟨a0, a1, a2⟩ := (show ZC W1 w.heap.size 154 t l k by rw [← hW1]; exact ZC.new w _ _ _ _).facts
  obtain ⟨ht1, ht2⟩ := ht
  obtain ⟨hs1, hs2⟩ := hs
  have hk0 : ¬ k = 0 := by omega
  by_cases hd : t - s < 0
  · have hb := loss_bd hk ht1 ht2 hs1 hs2
    have hL : wrap64 (-((k - 1 - (t - s)) / k)) = (t - s) / k := by
      rw [loss_neg hk]
      unfold wrap64
      omega
    have HL := bx hL
    clear hL hb
    go_enter Try.func150, Try.ntmps150
    go_wp2
    go_ret
    exact ⟨ret_int HL.out, k1⟩
  · go_enter Try.func150, Try.ntmps150
    go_wp2
    go_ret
    exact ⟨rfl, k1⟩
def nextT (l s h t : Int) : Int := lim (t + h - (t - s) / l)
/-- what next answers -/
def ZPost (w : World) (t l k : Int) (e : Ending) (w' : World) : Prop := e = .returned (.agg (zv t l k)) ∧ From w w'
set_option maxRecDepth 100000 in
set_option maxHeartbeats 4000000 in
theorem next_calls (t l k h s : Int) (w : World) (hk : 1 ≤ k) (hk2 : k ≤ 1000) (ht : -1000000 ≤ t ∧ t ≤ 1000000) (hh : -1000000 ≤ h ∧ h ≤ 1000000) (hs : -1000000 ≤ s ∧ s ≤ 1000000) (t' : Int) (ht' : nextT k s h t = t') :
    Calls Try.prog 114 #[.agg (zv t l k), .int .i64 h, .int .i64 s] w (ZPost w t' l k) := by
  obtain ⟨W1, hW1⟩ : ∃ V, w.alloc (.cells (zv t l k) 154) = V := ⟨_, rfl⟩
  obtain ⟨W2, hW2⟩ : ∃ V, W1.alloc (.cells (zv 0 0 0) 154) = V := ⟨_, rfl⟩
  have k1 : From w W1 := by rw [← hW1]; exact From.alloc (From.refl _) _
  have k2 : From W1 W2 := by rw [← hW2]; exact From.alloc (From.refl _) _
  have s1 : W1.heap.size = w.heap.size + 1 := by rw [← hW1]; simp
  have s2 : W2.heap.size = w.heap.size + 2 := by rw [← hW2]; simp [s1]
  have M1 : ZC W2 w.heap.size 154 t l k := ZC.from (by rw [← hW1]; exact ZC.new w _ _ _ _) k2
  have M2 : ZC W2 (w.heap.size + 1) 154 0 0 0 := by rw [← hW2, ← s1]; exact ZC.new W1 _ _ _ _
  obtain ⟨a0, a1, a2⟩ := M1.facts
  obtain ⟨ht1, ht2⟩ := ht
  obtain ⟨hh1, hh2⟩ := hh
  obtain ⟨hs1, hs2⟩ := hs
  obtain ⟨q, hq⟩ : ∃ q, (t - s) / k = q := ⟨_, rfl⟩
  have hb := loss_bd hk ht1 ht2 hs1 hs2
  rw [hq] at hb
  have ht2' : lim (t + h - q) = t' := by rw [← ht', nextT, hq]
  have HL := bx (fun (W : World) => (show Calls Try.prog 150 #[.agg (zv t l k), .int .i64 s] W _ from by have := loss_calls t l k s W hk hk2 ⟨ht1, ht2⟩ ⟨hs1, hs2⟩; rwa [hq] at this))
  have HM := bx (fun (W : World) => (show Calls Try.prog 149 #[.int .i64 (t + h - q)] W _ from by have := limited_calls (t + h - q) W; rwa [ht2'] at this))
  have HZ1 := bx M1
  have HZ2 := bx M2
  have HK := bx (k1.trans k2)
  clear M1 M2 hq ht' ht2' k1 k2
  obtain ⟨hb1, hb2⟩ := hb
  have w1 : IntKind.i64.wrap (t + h) = t + h := IntWalk.i64_in _ (by omega)
  have w2 : IntKind.i64.wrap (t + h - q) = t + h - q := IntWalk.i64_in _ (by omega)
  go_enter Try.func114, Try.ntmps114
  go_wp2_with fail
  clear hW1 hW2
  refine region_cut (fun q0 a' w' => ∃ (x7 x8 x9 x10 x11 x12 x13 x14 x15 x16 : Value) (w4 : World), a' = puts q0 [(7, x7), (8, x8), (9, x9), (10, x10), (11, x11), (12, x12), (13, x13), (14, x14), (15, x15), (16, x16)] ∧ From W2 w4 ∧ w' = w4.setCell ⟨w.heap.size, 0, none⟩ (.int .i64 t')) (fun K' HKK => ?_) ?_
  · go_region_with (first
      | (go_at_call 150; refine (HL.out _).mono ?_; rintro e w3 ⟨rfl, k3⟩; have hkeep : From W2 w3 := (by first | exact k3 | exact From.trans (From.drew (From.refl _)) k3); have hZ3 := HZ1.out.from hkeep; have t0 := hZ3.soft 0; obtain ⟨e0, e1, e2⟩ := hZ3.facts)
      | (go_at_call 149; refine (HM.out _).mono ?_; rintro e w4 ⟨rfl, rfl⟩))
    all_goals exact HKK.out _ _ ⟨_, _, _, _, _, _, _, _, _, _, w4, (by simp only [puts, Act.put, List.setIfInBounds_toArray, List.set_cons_zero, List.set_cons_succ]; rfl), hkeep, rfl⟩
  rintro a' wx ⟨x7, x8, x9, x10, x11, x12, x13, x14, x15, x16, w4, rfl, k4, rfl⟩
  rename_i K0 hK0
  apply hK0
  simp only [puts, Act.put, List.setIfInBounds_toArray, List.set_cons_zero, List.set_cons_succ]
  clear a0 a1 a2 hK0
  obtain ⟨b0, b1, b2⟩ := ((HZ1.out.from k4).set0 t').facts
  have hz2 := (HZ2.out.from k4).off (show w.heap.size ≠ w.heap.size + 1 by omega) 0 (.int .i64 t')
  obtain ⟨c0, c1, c2⟩ := hz2.facts
  have d0 := hz2.soft 0
  have d1 := hz2.soft 1
  have d2 := hz2.soft 2
  have HFF := bx (((HK.out.trans k4).setCell (Nat.le_refl _) 0 (.int .i64 t')).set3 (r := w.heap.size + 1) (by omega) t' l k)
  clear hz2 s1 s2
  go_wp2_with fail
  refine bodyPost_ret (v := .agg (zv t' l k)) (by simp [results, Try.results114, go_sem, c0, c1, c2]) rfl ⟨rfl, HFF.out⟩
end Go.Proofs.Ytlogokjjphlkkaa
