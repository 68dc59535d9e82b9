/-
  Walks of layer 11 (thermal): repeat.
-/
import Derived.Test.YtlogokjjphlkkaaW28
namespace Go.Proofs.Ytlogokjjphlkkaa
open Go.RowKit Go.Shelf

def itT (k s h t : Int) : Nat → Int
  | 0 => t
  | n + 1 => nextT k s h (itT k s h t n)
def pkT (k s h t : Int) : Nat → Int
  | 0 => t
  | n + 1 => max (pkT k s h t n) (itT k s h t (n + 1))
theorem itT_bd {k s h t : Int} (ht : -1000000 ≤ t ∧ t ≤ 1000000) (n : Nat) : -1000000 ≤ itT k s h t n ∧ itT k s h t n ≤ 1000000 := by
  cases n with
  | zero => exact ht
  | succ n => exact lim_bd _
theorem itT_le_pkT (k s h t : Int) (n : Nat) : itT k s h t n ≤ pkT k s h t n := by
  cases n with
  | zero => exact Int.le_refl _
  | succ n => simp only [pkT]; omega
theorem pkT_mono (k s h t : Int) (n m : Nat) (hm : n ≤ m) : pkT k s h t n ≤ pkT k s h t m := by
  induction m with
  | zero => (obtain rfl : n = 0 := by omega); exact Int.le_refl _
  | succ m ih =>
    by_cases e : n = m + 1
    · subst e; exact Int.le_refl _
    · have := ih (by omega)
      simp only [pkT]; omega
theorem itT_fix {k s h t : Int} {i : Nat} (he : itT k s h t (i + 1) = itT k s h t i) (m : Nat) (hm : i ≤ m) : itT k s h t m = itT k s h t i ∧ pkT k s h t m = pkT k s h t i := by
  induction m with
  | zero => (obtain rfl : i = 0 := by omega); exact ⟨rfl, rfl⟩
  | succ m ih =>
    by_cases e : i = m + 1
    · subst e; exact ⟨rfl, rfl⟩
    · obtain ⟨h1, h2⟩ := ih (by omega)
      have h3 : itT k s h t (m + 1) = itT k s h t i := by
        show nextT k s h (itT k s h t m) = _
        rw [h1]; exact he
      refine ⟨h3, ?_⟩
      simp only [pkT]
      rw [h3, h2]
      have := itT_le_pkT k s h t i
      omega
theorem pkT_bd {k s h t : Int} (ht : -1000000 ≤ t ∧ t ≤ 1000000) (n : Nat) : -1000000 ≤ pkT k s h t n ∧ pkT k s h t n ≤ 1000000 := by
  induction n with
  | zero => exact ht
  | succ n ih =>
    have := itT_bd (k := k) (s := s) (h := h) ht (n + 1)
    simp only [pkT]; omega
/-- a number in a box -/
structure IC (W : World) (b : Nat) (x : Int) : Prop where
  out : W.heap[b]? = some (.cells #[.int .i64 x] 3 (0, 0))
theorem IC.from {W W' : World} {b : Nat} {x : Int} (h : IC W b x) (hb : From W W') : IC W' b x := ⟨hb.heap h.out⟩
theorem IC.new (w : World) (x : Int) : IC (w.alloc (.cells #[.int .i64 x] 3)) w.heap.size x := ⟨heap_alloc_new w _⟩
theorem IC.cell {W : World} {b : Nat} {x : Int} (h : IC W b x) : W.cell? ⟨b, 0, none⟩ = some (.int .i64 x) := by
  rw [cell_of_row _ _ _ _ _ _ h.out]; rfl
theorem IC.soft {W : World} {b : Nat} {x : Int} (h : IC W b x) : W.frozen? ⟨b, 0, none⟩ = false := by
  have e := h.out
  simp [World.frozen?, e]
theorem IC.lt {W : World} {b : Nat} {x : Int} (h : IC W b x) : b < W.heap.size := (Array.getElem?_eq_some_iff.1 h.out).1
theorem IC.set {W : World} {b : Nat} {x : Int} (h : IC W b x) (y : Int) : IC (W.setCell ⟨b, 0, none⟩ (.int .i64 y)) b y := ⟨heap_set_at h.out 0 _⟩
theorem IC.off {W : World} {b r : Nat} {x : Int} (h : IC W b x) (hr : r ≠ b) (i : Nat) (v : Value) : IC (W.setCell ⟨r, i, none⟩ v) b x := ⟨(heap_set_off W hr i v).trans h.out⟩
theorem IC.off3 {W : World} {b r : Nat} {x : Int} (h : IC W b x) (hr : r ≠ b) (t l k : Int) : IC (set3 W r t l k) b x := ((h.off hr _ _).off hr _ _).off hr _ _
theorem see0_calls (t l k : Int) (w : World) : Calls Try.prog 151 #[.agg (zv t l k)] w fun e w' => e = .returned (.tuple #[]) ∧ From w w' := by
  go_enter Try.func151, Try.ntmps151
  go_wp2
  go_end0
  exact ⟨rfl, From.alloc (From.refl _) _⟩
theorem see1_calls (t l k x : Int) (B : Nat) (w : World) (h : IC w B x) : Calls Try.prog 115 #[.agg (zv t l k), .pointer (some ⟨B, 0, none⟩)] w fun e w' => e = .returned (.tuple #[]) ∧ From (w.setCell ⟨B, 0, none⟩ (.int .i64 (max x t))) w' := by
  have hlt := h.lt
  have k1 : From w (w.alloc (.cells (zv t l k) 154)) := From.alloc (From.refl _) _
  obtain ⟨a0, a1, a2⟩ := (ZC.new w 154 t l k).facts
  have h1 := h.from k1
  have c0 := h1.cell
  have d0 := h1.soft
  go_enter Try.func115, Try.ntmps115
  go_wp2
  go_end0
  exact ⟨rfl, From.alloc (From.refl _) _⟩
set_option maxRecDepth 100000 in
set_option maxHeartbeats 8000000 in
theorem rep0_calls (t l k h s : Int) (n : Nat) (hn : n ≤ 1000) (w : World) (hk : 1 ≤ k) (hk2 : k ≤ 1000) (ht : -1000000 ≤ t ∧ t ≤ 1000000) (hh : -1000000 ≤ h ∧ h ≤ 1000000) (hs : -1000000 ≤ s ∧ s ≤ 1000000) :
    Calls Try.prog 113 #[.agg (zv t l k), .int .i64 h, .int .i64 s, .int .i64 n, .func (.func 114) #[] #[], .func (.func 151) #[] #[]] w fun e w' => e = .returned (.agg (zv (itT k s h t n) l k)) ∧ From w w' := by
  obtain ⟨W1, hW1⟩ : ∃ V, w.alloc (.cells (zv t l k) 154) = V := ⟨_, rfl⟩
  obtain ⟨W2, hW2⟩ : ∃ V, W1.alloc (.cells (zv 0 0 0) 154) = V := ⟨_, rfl⟩
  have k1 : From w W1 := by rw [← hW1]; exact From.alloc (From.refl _) _
  have k2 : From W1 W2 := by rw [← hW2]; exact From.alloc (From.refl _) _
  have s1 : W1.heap.size = w.heap.size + 1 := by rw [← hW1]; simp
  have s2 : W2.heap.size = w.heap.size + 2 := by rw [← hW2]; simp [s1]
  have HZ1 := bx (show ZC W2 w.heap.size 154 t l k from ZC.from (by rw [← hW1]; exact ZC.new w _ _ _ _) k2)
  have HZ2 := bx (show ZC W2 (w.heap.size + 1) 154 0 0 0 by rw [← hW2, ← s1]; exact ZC.new W1 _ _ _ _)
  have HK := bx (k1.trans k2)
  have HT := bx ht
  clear k1 k2 ht
  go_enter Try.func113, Try.ntmps113
  go_wp2_with fail
  clear hW1 hW2
  go_loopw [13, 14] (fun i _ wr => ∃ j : Nat, j ≤ n ∧ i = .int .i64 j ∧ Bx (From w wr ∧ w.heap.size + 2 ≤ wr.heap.size ∧ ZC wr w.heap.size 154 (itT k s h t j) l k ∧ ZC wr (w.heap.size + 1) 154 0 0 0)) (fun i _ _ => n - (intOf i).toNat)
  case atStart => exact ⟨0, Nat.zero_le _, rfl, ⟨HK.out, by omega, HZ1.out, HZ2.out⟩⟩
  case round =>
    clear HZ1 HZ2 HK
    obtain ⟨j, hj, rfl, HB⟩ := hrel
    have hsz := HB.out.2.1
    obtain ⟨a0, a1, a2⟩ := HB.out.2.2.1.facts
    by_cases hlt : j < n
    · have z3 : decide ((j : Int) < (n : Int)) = true := decide_eq_true (by omega)
      have y1 : (j : Int) < (n : Int) := by omega
      obtain ⟨t1, ht1⟩ : ∃ z, itT k s h t j = z := ⟨_, rfl⟩
      obtain ⟨t2, ht2⟩ : ∃ z, nextT k s h t1 = z := ⟨_, rfl⟩
      have hS : itT k s h t (j + 1) = t2 := by rw [← ht2, ← ht1]; rfl
      have hbd : -1000000 ≤ t1 ∧ t1 ≤ 1000000 := by rw [← ht1]; exact itT_bd HT.out j
      have HN := bx (next_calls t1 l k h s wr hk hk2 hbd hh hs t2 ht2)
      rw [ht1] at a0
      have HB1 := HB
      rw [ht1] at HB1
      have HS := bx hS
      have HT1 := bx ht1
      clear hS ht1 ht2 hbd HB
      go_wp2_with fail
      refine HN.out.mono ?_
      rintro e w3 ⟨rfl, k3⟩
      obtain ⟨W4, hW4⟩ : ∃ V, w3.alloc (.cells (zv t2 l k) 154) = V := ⟨_, rfl⟩
      have k4 : From w3 W4 := by rw [← hW4]; exact From.alloc (From.refl _) _
      have hs3 := Below.size (k3.trans k4)
      obtain ⟨c0, c1, c2⟩ := (show ZC W4 w3.heap.size 154 t2 l k by rw [← hW4]; exact ZC.new w3 _ _ _ _).facts
      have hz1 := HB1.out.2.2.1.from (k3.trans k4)
      obtain ⟨b0, b1, b2⟩ := hz1.facts
      have d0 := hz1.soft 0
      have d1 := hz1.soft 1
      have d2 := hz1.soft 2
      clear hz1 HN a0 a1 a2
      by_cases he : t2 = t1
      · subst he
        have hfix := itT_fix (by rw [HS.out, HT1.out] : itT k s h t (j + 1) = itT k s h t j) n (by omega)
        have HFX := bx hfix
        have HX := bx (HB1.out.2.2.2.from (k3.trans k4))
        clear hfix d0 d1 d2
        obtain ⟨x0, x1, x2⟩ := HX.out.facts
        have d0 := HX.out.soft 0
        have d1 := HX.out.soft 1
        have d2 := HX.out.soft 2
        have HE := bx (show From w (set3 W4 (w.heap.size + 1) t2 l k) from (HB1.out.1.trans (k3.trans k4)).set3 (r := w.heap.size + 1) (by omega) t2 l k)
        go_wp2_with fail
        refine bodyPost_ret (v := .agg (zv t2 l k)) (by simp [results, Try.results113, go_sem, x0, x1, x2]) rfl ⟨by rw [HFX.out.1, HT1.out], HE.out⟩
      · have e1 : (t2 == t1) = false := by simpa using he
        go_upto_region 7 with fail
        clear b0 b1 b2 c0 c1 c2 d0 d1 d2
        obtain ⟨W5, hW5⟩ : ∃ V, set3 W4 w.heap.size t2 l k = V := ⟨_, rfl⟩
        have hW6 := hW5
        unfold set3 at hW6
        rw [hW6]
        have hz5 : ZC W5 w.heap.size 154 t2 l k := by rw [← hW5]; exact (HB1.out.2.2.1.from (k3.trans k4)).set3 t2 l k
        have HY5 := bx (show ZC W5 (w.heap.size + 1) 154 0 0 0 by rw [← hW5]; exact (HB1.out.2.2.2.from (k3.trans k4)).off3 (by omega) t2 l k)
        have s5 : W5.heap.size = W4.heap.size := by rw [← hW5, size_set3]
        have HI5 := bx (show From w W5 by rw [← hW5]; exact (HB1.out.1.trans (k3.trans k4)).set3 (Nat.le_refl _) t2 l k)
        obtain ⟨b0, b1, b2⟩ := hz5.facts
        have HZ5 := bx hz5
        clear hz5 hW5 hW6 k3 k4 hW4 HB1
        go_wp2_with fail
        refine (see0_calls t2 l k W5).mono ?_
        rintro e w6 ⟨rfl, k6⟩
        have HI7 := bx (HI5.out.trans k6)
        have hs6 := Below.size k6
        have HZ7 := bx (HZ5.out.from k6)
        have HY7 := bx (HY5.out.from k6)
        clear b0 b1 b2
        have HLT := bx (show j + 1 ≤ n ∧ w.heap.size + 2 ≤ w6.heap.size by omega)
        go_wp2
        go_roundw
        case rel => exact ⟨j + 1, HLT.out.1, by go_num, ⟨HI7.out, HLT.out.2, by rw [HS.out]; exact HZ7.out, HY7.out⟩⟩
        case measure => have := HLT.out.1; simp [intOf]; omega
    · have z3 : decide ((j : Int) < (n : Int)) = false := decide_eq_false (by omega)
      obtain rfl : j = n := by omega
      have hz2 := HB.out.2.2.2
      obtain ⟨c0, c1, c2⟩ := hz2.facts
      have d0 := hz2.soft 0
      have d1 := hz2.soft 1
      have d2 := hz2.soft 2
      have HE := bx (show From w (set3 wr (w.heap.size + 1) (itT k s h t j) l k) from HB.out.1.set3 (r := w.heap.size + 1) (by omega) (itT k s h t j) l k)
      go_wp2_with fail
      refine bodyPost_ret (v := .agg (zv (itT k s h t j) l k)) (by simp [results, Try.results113, go_sem, c0, c1, c2]) rfl ⟨rfl, HE.out⟩
set_option maxRecDepth 100000 in
set_option maxHeartbeats 8000000 in
theorem rep1_calls (t l k h s : Int) (n : Nat) (hn : n ≤ 1000) (B : Nat) (v0 : World) (w : World) (hk : 1 ≤ k) (hk2 : k ≤ 1000) (ht : -1000000 ≤ t ∧ t ≤ 1000000) (hh : -1000000 ≤ h ∧ h ≤ 1000000) (hs : -1000000 ≤ s ∧ s ≤ 1000000) (hv0 : v0.heap.size ≤ B) (hBw : IC w B t) (hvw : From v0 w) :
    Calls Try.prog 113 #[.agg (zv t l k), .int .i64 h, .int .i64 s, .int .i64 n, .func (.func 114) #[] #[], .func (.func 115) #[] #[.pointer (some ⟨B, 0, none⟩)]] w fun e w' => e = .returned (.agg (zv (itT k s h t n) l k)) ∧ From v0 w' ∧ IC w' B (pkT k s h t n) := by
  obtain ⟨W1, hW1⟩ : ∃ V, w.alloc (.cells (zv t l k) 154) = V := ⟨_, rfl⟩
  obtain ⟨W2, hW2⟩ : ∃ V, W1.alloc (.cells (zv 0 0 0) 154) = V := ⟨_, rfl⟩
  have k1 : From w W1 := by rw [← hW1]; exact From.alloc (From.refl _) _
  have k2 : From W1 W2 := by rw [← hW2]; exact From.alloc (From.refl _) _
  have s1 : W1.heap.size = w.heap.size + 1 := by rw [← hW1]; simp
  have s2 : W2.heap.size = w.heap.size + 2 := by rw [← hW2]; simp [s1]
  have HZ1 := bx (show ZC W2 w.heap.size 154 t l k from ZC.from (by rw [← hW1]; exact ZC.new w _ _ _ _) k2)
  have HZ2 := bx (show ZC W2 (w.heap.size + 1) 154 0 0 0 by rw [← hW2, ← s1]; exact ZC.new W1 _ _ _ _)
  have HK := bx (k1.trans k2)
  have HT := bx ht
  have hBl := hBw.lt
  clear k1 k2 ht
  go_enter Try.func113, Try.ntmps113
  go_wp2_with fail
  clear hW1 hW2
  go_loopw [13, 14] (fun i _ wr => ∃ j : Nat, j ≤ n ∧ i = .int .i64 j ∧ Bx ((From v0 wr ∧ IC wr B (pkT k s h t j)) ∧ w.heap.size + 2 ≤ wr.heap.size ∧ ZC wr w.heap.size 154 (itT k s h t j) l k ∧ ZC wr (w.heap.size + 1) 154 0 0 0)) (fun i _ _ => n - (intOf i).toNat)
  case atStart => exact ⟨0, Nat.zero_le _, rfl, ⟨⟨hvw.trans HK.out, hBw.from HK.out⟩, by omega, HZ1.out, HZ2.out⟩⟩
  case round =>
    clear HZ1 HZ2 HK
    obtain ⟨j, hj, rfl, HB⟩ := hrel
    have hsz := HB.out.2.1
    obtain ⟨a0, a1, a2⟩ := HB.out.2.2.1.facts
    by_cases hlt : j < n
    · have z3 : decide ((j : Int) < (n : Int)) = true := decide_eq_true (by omega)
      have y1 : (j : Int) < (n : Int) := by omega
      obtain ⟨t1, ht1⟩ : ∃ z, itT k s h t j = z := ⟨_, rfl⟩
      obtain ⟨t2, ht2⟩ : ∃ z, nextT k s h t1 = z := ⟨_, rfl⟩
      have hS : itT k s h t (j + 1) = t2 := by rw [← ht2, ← ht1]; rfl
      have hbd : -1000000 ≤ t1 ∧ t1 ≤ 1000000 := by rw [← ht1]; exact itT_bd HT.out j
      have HN := bx (next_calls t1 l k h s wr hk hk2 hbd hh hs t2 ht2)
      rw [ht1] at a0
      have HB1 := HB
      rw [ht1] at HB1
      have HS := bx hS
      have HT1 := bx ht1
      clear hS ht1 ht2 hbd HB
      go_wp2_with fail
      refine HN.out.mono ?_
      rintro e w3 ⟨rfl, k3⟩
      obtain ⟨W4, hW4⟩ : ∃ V, w3.alloc (.cells (zv t2 l k) 154) = V := ⟨_, rfl⟩
      have k4 : From w3 W4 := by rw [← hW4]; exact From.alloc (From.refl _) _
      have hs3 := Below.size (k3.trans k4)
      obtain ⟨c0, c1, c2⟩ := (show ZC W4 w3.heap.size 154 t2 l k by rw [← hW4]; exact ZC.new w3 _ _ _ _).facts
      have hz1 := HB1.out.2.2.1.from (k3.trans k4)
      obtain ⟨b0, b1, b2⟩ := hz1.facts
      have d0 := hz1.soft 0
      have d1 := hz1.soft 1
      have d2 := hz1.soft 2
      clear hz1 HN a0 a1 a2
      by_cases he : t2 = t1
      · subst he
        have hfix := itT_fix (by rw [HS.out, HT1.out] : itT k s h t (j + 1) = itT k s h t j) n (by omega)
        have HFX := bx hfix
        have HX := bx (HB1.out.2.2.2.from (k3.trans k4))
        clear hfix d0 d1 d2
        obtain ⟨x0, x1, x2⟩ := HX.out.facts
        have d0 := HX.out.soft 0
        have d1 := HX.out.soft 1
        have d2 := HX.out.soft 2
        have HE := bx (show From v0 (set3 W4 (w.heap.size + 1) t2 l k) ∧ IC (set3 W4 (w.heap.size + 1) t2 l k) B (pkT k s h t n) from ⟨(HB1.out.1.1.trans (k3.trans k4)).set3 (r := w.heap.size + 1) (by omega) t2 l k, by rw [HFX.out.2]; exact (HB1.out.1.2.from (k3.trans k4)).off3 (by omega) t2 l k⟩)
        go_wp2_with fail
        refine bodyPost_ret (v := .agg (zv t2 l k)) (by simp [results, Try.results113, go_sem, x0, x1, x2]) rfl ⟨by rw [HFX.out.1, HT1.out], HE.out⟩
      · have e1 : (t2 == t1) = false := by simpa using he
        go_upto_region 7 with fail
        clear b0 b1 b2 c0 c1 c2 d0 d1 d2
        obtain ⟨W5, hW5⟩ : ∃ V, set3 W4 w.heap.size t2 l k = V := ⟨_, rfl⟩
        have hW6 := hW5
        unfold set3 at hW6
        rw [hW6]
        have hz5 : ZC W5 w.heap.size 154 t2 l k := by rw [← hW5]; exact (HB1.out.2.2.1.from (k3.trans k4)).set3 t2 l k
        have HY5 := bx (show ZC W5 (w.heap.size + 1) 154 0 0 0 by rw [← hW5]; exact (HB1.out.2.2.2.from (k3.trans k4)).off3 (by omega) t2 l k)
        have s5 : W5.heap.size = W4.heap.size := by rw [← hW5, size_set3]
        have HI5 := bx (show From v0 W5 ∧ IC W5 B (pkT k s h t j) by rw [← hW5]; exact ⟨(HB1.out.1.1.trans (k3.trans k4)).set3 (by omega) t2 l k, (HB1.out.1.2.from (k3.trans k4)).off3 (by omega) t2 l k⟩)
        obtain ⟨b0, b1, b2⟩ := hz5.facts
        have HZ5 := bx hz5
        clear hz5 hW5 hW6 k3 k4 hW4 HB1
        go_wp2_with fail
        refine (see1_calls t2 l k (pkT k s h t j) B W5 HI5.out.2).mono ?_
        rintro e w6 ⟨rfl, k6⟩
        have hi6 := HI5.out.2.set (max (pkT k s h t j) t2)
        have HI7 := bx (show From v0 w6 ∧ IC w6 B (pkT k s h t (j + 1)) from ⟨(HI5.out.1.setCell hv0 _ _).trans k6, by have := hi6.from k6; simp only [pkT]; rwa [HS.out]⟩)
        have hs6 : W5.heap.size ≤ w6.heap.size := by have := Below.size k6; simpa using this
        have HZ7 := bx ((HZ5.out.off (show B ≠ w.heap.size by omega) 0 _).from k6)
        have HY7 := bx ((HY5.out.off (show B ≠ w.heap.size + 1 by omega) 0 _).from k6)
        clear hi6
        clear b0 b1 b2
        have HLT := bx (show j + 1 ≤ n ∧ w.heap.size + 2 ≤ w6.heap.size by omega)
        go_wp2
        go_roundw
        case rel => exact ⟨j + 1, HLT.out.1, by go_num, ⟨HI7.out, HLT.out.2, by rw [HS.out]; exact HZ7.out, HY7.out⟩⟩
        case measure => have := HLT.out.1; simp [intOf]; omega
    · have z3 : decide ((j : Int) < (n : Int)) = false := decide_eq_false (by omega)
      obtain rfl : j = n := by omega
      have hz2 := HB.out.2.2.2
      obtain ⟨c0, c1, c2⟩ := hz2.facts
      have d0 := hz2.soft 0
      have d1 := hz2.soft 1
      have d2 := hz2.soft 2
      have HE := bx (show From v0 (set3 wr (w.heap.size + 1) (itT k s h t j) l k) ∧ IC (set3 wr (w.heap.size + 1) (itT k s h t j) l k) B (pkT k s h t j) from ⟨HB.out.1.1.set3 (r := w.heap.size + 1) (by omega) (itT k s h t j) l k, HB.out.1.2.off3 (by omega) (itT k s h t j) l k⟩)
      go_wp2_with fail
      refine bodyPost_ret (v := .agg (zv (itT k s h t j) l k)) (by simp [results, Try.results113, go_sem, c0, c1, c2]) rfl ⟨rfl, HE.out⟩
end Go.Proofs.Ytlogokjjphlkkaa
