/-
  Walks of layer 28: permutation; what is valid.
-/
import Derived.Test.YtpdbdpmlppbnnaaU10
namespace Go.Proofs.Ytpdbdpmlppbnnaa
open Go.RowKit Go.Shelf

theorem own_put {w : World} {base size n g c : Nat} {e : TypeId} {xs : List Value} (h : w.ownsRow base e size (.slice (some ⟨g, 0, none⟩) n c) n xs) (j : Nat) (u : Value) :
    (w.setCell ⟨g, j, none⟩ u).ownsRow base e size (.slice (some ⟨g, 0, none⟩) n c) n (xs.set j u) := by
  obtain ⟨hl, h⟩ := h
  refine ⟨by rw [List.length_set]; exact hl, ?_⟩
  rcases h with ⟨h, _⟩ | ⟨g', cap, cur, hv, hb, hh, hn, hc, hs, ht⟩
  · cases h
  · injection hv with e1 e2 e3
    injection e1 with e1
    injection e1 with e1
    subst e1 e3
    refine .inr ⟨g, c, cur.setIfInBounds j u, rfl, hb, heap_set_at hh j u, hn, hc, by simpa using hs, ?_⟩
    rw [← ht, Array.toList_setIfInBounds, List.take_set]
theorem own_cell {w : World} {base size n g c : Nat} {e : TypeId} {xs : List Value} (h : w.ownsRow base e size (.slice (some ⟨g, 0, none⟩) n c) n xs) {j : Nat} {u : Value} (hj : xs[j]? = some u) : w.cell? ⟨g, j, none⟩ = some u ∧ w.frozen? ⟨g, j, none⟩ = false := by
  have h1 := h.cells (g := g) rfl j u hj
  rw [Addr.add_mid, Nat.zero_add] at h1
  refine ⟨h1, ?_⟩
  rcases h.2 with ⟨hv, _⟩ | ⟨g', cap', cur, hv, _, hgb, _⟩
  · cases hv
  · injection hv with e _ _
    injection e with e
    injection e with e _ _
    subst e
    simp [World.frozen?, hgb]
/-- a row of truth values made -/
theorem make_bools (w : World) (n : Nat) (hn : n ≤ 1000000) : ∃ w', (Instr.makeSlice 32 (.int .i64 (n : Int)) (.int .i64 (n : Int))).run Try.prog w = .ok (.slice (some ⟨w.heap.size, 0, none⟩) n n) w' ∧
    w'.ownsRow w.heap.size 4 1 (.slice (some ⟨w.heap.size, 0, none⟩) n n) n (bc (List.replicate n false)) ∧ From w w' := by
  obtain ⟨i, hi, hz, hs, hb⟩ := Try.elBool.info
  obtain ⟨w', h1, h2, h3⟩ := run_make_full (P := Try.prog) w w.heap.size 32 4 i (.bool false) 1 Try.underlying32 hi hz hs .i64 .i64 n (by rw [hb]; omega) (by unfold maxLen; omega) (Nat.le_refl _)
  refine ⟨w', h1, ?_, ⟨h3.os, h3.tape, h3.output, h3.size, fun k hk => h3.block k hk (by simp)⟩⟩
  have e : (madeCells (Value.bool false).cells (n * 1)).toList = bc (List.replicate n false) := by
    rw [Nat.mul_one]
    apply List.ext_getElem?
    intro i
    simp only [madeCells, bc, Value.cells, Array.toList_map, Array.toList_range, List.getElem?_map, List.getElem?_replicate]
    by_cases hi : i < n
    · simp [hi, Nat.mod_one]
    · simp [hi]
  rw [← e]
  exact h2
set_option maxRecDepth 10000 in
theorem index_calls (F : FuncId) (A : Option Addr) (c : Nat) (l : List Int) (w : World) (h : Ints w (.slice A l.length c) l) (hl : l.length ≤ 9223372036854775807) (hFF : F = 62 ∨ F = 65)
    (hF : ∀ (x : Int) (W : World), Calls Try.prog F #[.int .i64 x] W fun e w' => e = .returned (.bool (!decide (fitsV x))) ∧ w' = W) (hv : ∀ x ∈ l, fitsV x) :
    Calls Try.prog 89 #[.slice A l.length c, .func (.func F) #[] #[]] w fun e w' => e = .returned (.int .i64 (-1)) ∧ w' = w := by
  have H := bx h
  have HF := bx hF
  have HV := bx hv
  clear h hF hv
  rcases hFF with rfl | rfl
  all_goals
    go_enter Try.func89, Try.ntmps89
    go_wp2_with fail
    go_loopw [8] (fun i wr => ∃ k : Nat, k ≤ l.length ∧ i = .int .i64 k ∧ wr = w) (fun i _ => l.length - (intOf i).toNat)
    case atStart => exact ⟨0, Nat.zero_le _, rfl, rfl⟩
    case round =>
      obtain ⟨k, hk, rfl, rfl⟩ := hrel
      by_cases hlt : k < l.length
      · obtain ⟨b, off, rfl, _, c1⟩ := ints_at H.out hlt
        have hx := HV.out l[k] (List.getElem_mem hlt)
        generalize l[k] = x at *
        have z1 : (k : Int) < (l.length : Int) := by omega
        have z2 : (0 : Int) ≤ (k : Int) := by omega
        have hx2 : (!decide (fitsV x)) = false := by simp [hx]
        clear hx
        go_wp2_with fail
        refine (HF.out x _).mono ?_
        rintro e w1 ⟨rfl, rfl⟩
        rw [hx2]
        go_wp2
        go_roundw
        case rel => exact ⟨k + 1, by omega, by go_num, trivial⟩
        case measure => simp [intOf]; omega
      · obtain rfl : k = l.length := by omega
        go_wp2
        go_ret
        exact ⟨rfl, rfl⟩
theorem notfits_calls (F : FuncId) (hFF : F = 62 ∨ F = 65) (x : Int) (w : World) : Calls Try.prog F #[.int .i64 x] w fun e w' => e = .returned (.bool (!decide (fitsV x))) ∧ w' = w := by
  have HC := bx (fun W => fits_calls x W)
  obtain ⟨y, hy⟩ : ∃ y, decide (fitsV x) = y := ⟨_, rfl⟩
  rw [hy] at HC ⊢
  clear hy
  rcases hFF with rfl | rfl
  · go_enter Try.func62, Try.ntmps62
    go_wp2_with fail
    refine (HC.out _).mono ?_
    rintro e w1 ⟨rfl, rfl⟩
    go_wp2
    go_ret
    exact ⟨rfl, rfl⟩
  · go_enter Try.func65, Try.ntmps65
    go_wp2_with fail
    refine (HC.out _).mono ?_
    rintro e w1 ⟨rfl, rfl⟩
    go_wp2
    go_ret
    exact ⟨rfl, rfl⟩
theorem contains_calls (F : FuncId) (hFF : F = 62 ∨ F = 65) (v : Value) (l : List Int) (w : World) (h : Ints w v l) (hl : l.length ≤ 9223372036854775807) (hv : ∀ x ∈ l, fitsV x) :
    Calls Try.prog 61 #[v, .func (.func F) #[] #[]] w fun e w' => e = .returned (.bool false) ∧ w' = w := by
  obtain ⟨A, c, rfl⟩ := h.form
  have HC := bx (index_calls F A c l w h hl hFF (notfits_calls F hFF) hv)
  clear h hv hFF
  go_enter Try.func61, Try.ntmps61
  go_wp2_with fail
  refine HC.out.mono ?_
  rintro e w1 ⟨rfl, rfl⟩
  go_wp2
  go_ret
  exact ⟨rfl, rfl⟩
/-- which numbers below n are seen -/
def seenL (n : Nat) (o : List Nat) : List Bool := (List.range n).map fun i => decide (i ∈ o)
theorem seenL_len (n : Nat) (o : List Nat) : (seenL n o).length = n := by simp [seenL]
theorem seenL_nil (n : Nat) : seenL n [] = List.replicate n false := by
  apply List.ext_getElem?
  intro i
  simp [seenL, List.getElem?_replicate]
  by_cases hi : i < n
  · simp [hi]
  · simp [hi]
theorem seenL_set (n : Nat) (o : List Nat) (x : Nat) : (seenL n o).set x true = seenL n (o ++ [x]) := by
  apply List.ext_getElem?
  intro i
  rw [List.getElem?_set]
  by_cases hi : i < n
  · by_cases hx : x = i
    · subst hx; simp [seenL, hi]
    · simp [seenL, hi, hx, Ne.symm hx]
  · have h1 : (seenL n (o ++ [x]))[i]? = none := List.getElem?_eq_none (by rw [seenL_len]; omega)
    have h2 : (seenL n o)[i]? = none := List.getElem?_eq_none (by rw [seenL_len]; omega)
    rw [h1, h2]
    split
    · rename_i e; subst e; rw [if_neg (by rw [seenL_len]; exact hi)]
    · rfl
/-- a permutation of the numbers below n -/
structure Perm (n : Nat) (o : List Nat) : Prop where
  len : o.length = n
  nodup : o.Nodup
  lt : ∀ x ∈ o, x < n
def nl (o : List Nat) : List Int := List.map (fun (x : Nat) => (x : Int)) o
theorem nl_len (o : List Nat) : (nl o).length = o.length := by simp [nl]
set_option maxRecDepth 10000 in
theorem perm_calls (A : Option Addr) (c n : Nat) (o : List Nat) (w : World) (h : Ints w (.slice A n c) (nl o)) (hp : Perm n o) (hn : n ≤ 1000000) :
    Calls Try.prog 60 #[.slice A n c, .int .i64 n] w fun e w' => e = .returned (.bool true) ∧ From w w' := by
  obtain ⟨W, hmk, ho, hf⟩ := make_bools w n hn
  have H := bx h
  have HP := bx hp
  rw [← seenL_nil] at ho
  have HO := bx ho
  have HF := bx hf
  clear h hp ho hf
  go_enter Try.func60, Try.ntmps60
  go_wp2_with fail
  go_loopw [12] (fun i wr => ∃ k : Nat, k ≤ n ∧ i = .int .i64 k ∧ wr.ownsRow w.heap.size 4 1 (.slice (some ⟨w.heap.size, 0, none⟩) n n) n (bc (seenL n (o.take k))) ∧ From w wr) (fun i _ => n - (intOf i).toNat)
  case atStart => exact ⟨0, Nat.zero_le _, rfl, HO.out, HF.out⟩
  case round =>
    obtain ⟨k, hk, rfl, ho, hf⟩ := hrel
    have HO1 := bx ho
    have HF1 := bx hf
    clear ho hf hmk
    by_cases hlt : k < n
    · have hlt2 : k < o.length := by rw [HP.out.len]; exact hlt
      obtain ⟨b, off, rfl, _, c1⟩ := ints_at (H.out.from HF1.out) (k := k) (by rw [nl_len]; exact hlt2)
      have hxn := HP.out.lt o[k] (List.getElem_mem hlt2)
      have hnot : o[k] ∉ o.take k := by
        intro hm
        obtain ⟨j, hj, e⟩ := List.mem_iff_getElem.1 hm
        rw [List.length_take] at hj
        rw [List.getElem_take] at e
        exact List.pairwise_iff_getElem.1 HP.out.nodup j k (by omega) hlt2 (by omega) e
      have HT := bx (show (seenL n (o.take k)).set o[k] true = seenL n (o.take (k + 1)) by rw [seenL_set, List.take_succ_eq_append_getElem hlt2])
      have hsc := own_cell HO1.out (j := o[k]) (u := .bool false) (by simp [bc, seenL, hxn, hnot])
      have e1 : (nl o)[k]'(by rw [nl_len]; exact hlt2) = (o[k] : Int) := by simp [nl]
      rw [e1] at c1
      clear e1 hnot
      generalize o[k] = x at *
      obtain ⟨s1, s2⟩ := hsc
      have z1 : (k : Int) < (n : Int) := by omega
      have z2 : (0 : Int) ≤ (k : Int) := by omega
      have z3 : decide ((x : Int) < 0) = false := decide_eq_false (by omega)
      have z4 : decide ((x : Int) ≥ (n : Int)) = false := decide_eq_false (by omega)
      have z5 : (x : Int) < (n : Int) := by omega
      have z6 : (0 : Int) ≤ (x : Int) := by omega
      go_wp2_with fail
      go_roundw
      case rel => exact ⟨k + 1, by omega, by go_num, by have := own_put HO1.out x (.bool true); rwa [show (bc (seenL n (o.take k))).set x (.bool true) = bc (seenL n (o.take (k + 1))) by rw [← HT.out]; simp [bc]] at this, from_set HF1.out (Nat.le_refl _) _ _⟩
      case measure => simp [intOf]; omega
    · obtain rfl : k = n := by omega
      go_wp2
      go_ret
      exact ⟨rfl, HF1.out⟩
end Go.Proofs.Ytpdbdpmlppbnnaa
