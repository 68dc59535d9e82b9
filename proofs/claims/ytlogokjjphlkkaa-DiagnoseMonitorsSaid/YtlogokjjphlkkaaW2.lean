/-
  Walks of layer 29: monitor.seen, monitor.Step.
-/
import Derived.Test.YtlogokjjphlkkaaW1
namespace Go.Proofs.Ytlogokjjphlkkaa
open Go.RowKit Go.Shelf

/-- the slice v holds n elements, in the cells cs, at block lo or behind it -/
structure SlN (lo : Nat) (w : World) (v : Value) (n : Nat) (cs : List Value) : Prop where
  out : (v = .slice none 0 0 ∧ n = 0 ∧ cs = []) ∨ ∃ a c, v = .slice (some a) n c ∧ ∀ j u, cs[j]? = some u → ∃ b off, a = ⟨b, off, none⟩ ∧ lo ≤ b ∧ w.cell? ⟨b, off + j, none⟩ = some u
theorem SlN.sl {lo : Nat} {w : World} {v : Value} {n : Nat} {cs : List Value} (h : SlN lo w v n cs) : Sl w w.heap.size v n cs := by
  rcases h.out with h | ⟨a, c, e, h⟩
  · exact ⟨.inl h⟩
  · refine ⟨.inr ⟨a, c, e, fun j u hj => ?_⟩⟩
    obtain ⟨b, off, e1, _, e3⟩ := h j u hj
    exact ⟨b, off, e1, World.block_lt_of_cell? w _ e3, e3⟩
theorem SlN.from {lo : Nat} {w w' : World} {v : Value} {n : Nat} {cs : List Value} (h : SlN lo w v n cs) (hb : From w w') : SlN lo w' v n cs := by
  rcases h.out with h | ⟨a, c, e, h⟩
  · exact ⟨.inl h⟩
  · refine ⟨.inr ⟨a, c, e, fun j u hj => ?_⟩⟩
    obtain ⟨b, off, e1, e2, e3⟩ := h j u hj
    exact ⟨b, off, e1, e2, hb.cell e3⟩
theorem cell_set_off {w : World} {r i : Nat} {x : Value} {a : Addr} {u : Value} (h : w.cell? a = some u) (hr : a.block ≠ r) : (w.setCell ⟨r, i, none⟩ x).cell? a = some u := by
  rw [World.cell?_of_block (w := w) (heap_set_off w (Ne.symm hr) i x)]; exact h
theorem SlN.setCell {lo : Nat} {w : World} {v : Value} {n : Nat} {cs : List Value} (h : SlN lo w v n cs) {r : Nat} (hr : r < lo) (i : Nat) (x : Value) : SlN lo (w.setCell ⟨r, i, none⟩ x) v n cs := by
  rcases h.out with h | ⟨a, c, e, h⟩
  · exact ⟨.inl h⟩
  · refine ⟨.inr ⟨a, c, e, fun j u hj => ?_⟩⟩
    obtain ⟨b, off, e1, e2, e3⟩ := h j u hj
    exact ⟨b, off, e1, e2, cell_set_off e3 (by show b ≠ r; omega)⟩
theorem SlN.low {lo lo' : Nat} {w : World} {v : Value} {n : Nat} {cs : List Value} (h : SlN lo w v n cs) (hl : lo' ≤ lo) : SlN lo' w v n cs := by
  rcases h.out with h | ⟨a, c, e, h⟩
  · exact ⟨.inl h⟩
  · refine ⟨.inr ⟨a, c, e, fun j u hj => ?_⟩⟩
    obtain ⟨b, off, e1, e2, e3⟩ := h j u hj
    exact ⟨b, off, e1, by omega, e3⟩
theorem sln_of_own {w : World} {base size n : Nat} {e : TypeId} {v : Value} {cs : List Value} (h : w.ownsRow base e size v n cs) : SlN base w v n cs := by
  rcases h.2 with ⟨rfl, rfl⟩ | ⟨g, cap, cur, rfl, hg, hh, r⟩
  · exact ⟨.inl ⟨rfl, rfl, List.eq_nil_of_length_eq_zero (by have := h.1; omega)⟩⟩
  · refine ⟨.inr ⟨_, _, rfl, fun j u hj => ⟨g, 0, rfl, hg, ?_⟩⟩⟩
    have := h.cells (g := g) rfl j u hj
    rwa [Addr.add_mid] at this
theorem SlN.drop {lo : Nat} {w : World} {n c : Nat} {A : Option Addr} {cs : List Value} (h : SlN lo w (.slice A n c) n cs) (k : Nat) : SlN lo w (.slice (Option.map (fun x : Addr => (⟨x.block, x.off + k, none⟩ : Addr)) A) (n - k) (c - k)) (n - k) (cs.drop k) := by
  rcases h.out with ⟨e, rfl, rfl⟩ | ⟨a, c', e, hc⟩
  · injection e with e1 e2 e3
    subst e1 e3
    exact ⟨.inl ⟨by simp, by simp, by simp⟩⟩
  · injection e with e1 _ e3
    subst e1 e3
    refine ⟨.inr ⟨_, _, rfl, fun j u hj => ?_⟩⟩
    rw [List.getElem?_drop] at hj
    obtain ⟨b, off, rfl, e2, e3⟩ := hc _ u hj
    exact ⟨b, off + k, rfl, e2, by rw [Nat.add_assoc]; exact e3⟩
theorem sln_zero {w : World} {lo c : Nat} {A : Option Addr} {n : Nat} {xs : List Value} {base size : Nat} {e : TypeId} {c' : Nat} (h : w.ownsRow base e size (.slice A (n + 1) c') (n + 1) xs) : SlN lo w (.slice A 0 c) 0 [] := by
  obtain ⟨g, cap, hv, _⟩ := h.form (by omega)
  injection hv with e1 _ _
  subst e1
  exact ⟨.inr ⟨_, _, rfl, fun j u hj => by simp at hj⟩⟩
theorem own_cap {w : World} {A : Option Addr} {n c base size : Nat} {xs : List Value} {e : TypeId} (h : w.ownsRow base e size (.slice A n c) n xs) : n ≤ c := by
  rcases h.2 with ⟨h1, h2⟩ | ⟨g, cap, cur, h1, _, _, h2, _⟩
  · omega
  · injection h1 with _ _ h3
    omega
theorem trues_take (q : List Bool) (k : Nat) (hk : k < q.length) : (trues (q.take (k + 1)) : Int) = (trues (q.take k) : Int) + if q[k] then 1 else 0 := by
  rw [List.take_succ_eq_append_getElem hk, trues_append]
  cases q[k] <;> simp [trues]
/-- the past with a further value, and how many of it were outside -/
def SeenPost (w : World) (q : List Bool) (e : Ending) (w' : World) : Prop :=
  ∃ A c, e = .returned (.tuple #[.slice A q.length c, .int .i64 (trues q)]) ∧ SlN w.heap.size w' (.slice A q.length c) q.length (bc q) ∧ From w w'
set_option maxRecDepth 100000 in
theorem seen_calls (A : Option Addr) (c : Nat) (p : List Bool) (of lo hi v : Int) (w : World) (h : Bools w (.slice A p.length c) p) (hm : p.length ≤ 1000) (q : List Bool) (hq : pushP p of (decide (v < lo) || decide (hi < v)) = q) :
    Calls Try.prog 106 #[.slice A p.length c, .int .i64 of, .iface 150 (.agg #[.int .i64 lo, .int .i64 hi]), .int .i64 v] w (SeenPost w q) := by
  have H := bx h
  obtain ⟨b, hb⟩ : ∃ b, (decide (v < lo) || decide (hi < v)) = b := ⟨_, rfl⟩
  rw [hb] at hq
  have HQ := bx hq
  have HB := bx hb
  clear h hq hb
  have hmeth : ∀ W : World, (method 340 150 (.agg #[.int .i64 lo, .int .i64 hi]) "perigee/monitor.outside").run Try.prog W = .ok (199, .agg #[.int .i64 lo, .int .i64 hi]) W := fun _ => by kernel_rfl
  go_enter Try.func106, Try.ntmps106
  go_wp2_with fail
  refine (cloneB_calls (.slice A p.length c) p w H.out (by omega)).mono ?_
  rintro e w1 ⟨A1, c1, rfl, o1, k1⟩
  go_wp2_with fail
  refine (outside_calls lo hi v w1).mono ?_
  rintro e w2 ⟨rfl, k2⟩
  rw [HB.out]
  have o2 := own_call o1 k2
  go_wp2_with (at_builtin; refine app_sl rfl _ _ 32 rfl Try.elBool rfl (o2.alloc _) 1 [.bool b] rfl (sl_new w2 [.bool b] 4 1 1) rfl (by simp [Value.oneCell']) (by omega) (by unfold maxLen; omega) (by have := Below.size (k1.trans k2); simp; omega) ?_; intro A3 c3 w3 o3 g3 _)
  all_goals
    have hc3 := own_cap o3
    have hq := HQ.out
    have k3 := From.app ((k1.trans k2).alloc (.cells #[.bool b] 4)) (o2.alloc (.cells #[.bool b] 4)) (Nat.le_refl _) g3
    rename_i hcond _ _
  · have HQN : Bx (SlN w.heap.size w3 (.slice A3 p.length 0) q.length (bc q)) := bx (by
    have hp0 : p = [] := List.eq_nil_of_length_eq_zero (by omega)
    subst hp0
    rw [pushP, if_pos (by omega)] at hq
    subst hq
    exact sln_zero o3)
    have HQB := bx HQN.out.sl
    have hql : q.length = p.length := by have := HQ.out; rw [pushP, if_pos (by omega)] at this; rw [← this]; simp
    have HQL := bx hql
    clear o2 o3 g3 hql
    go_loopw [11, 13, 29] (fun n _ i wr => ∃ k : Nat, k ≤ q.length ∧ i = .int .i64 k ∧ n = .int .i64 (trues (q.take k)) ∧ wr = w3) (fun _ _ i _ => q.length - (intOf i).toNat)
    case atStart => exact ⟨0, Nat.zero_le _, rfl, rfl, rfl⟩
    case round =>
      obtain ⟨k, hk, rfl, rfl, rfl⟩ := hrel
      by_cases hlt : k < q.length
      · obtain ⟨bb, off, hA, hbb, c1⟩ := bools_at HQB.out hlt
        have HT := bx (trues_take q k hlt)
        have hlt2 : (k : Int) < (p.length : Int) := by have := HQL.out; omega
        have hn : trues (q.take k) ≤ 1001 := by have := trues_le (q.take k); rw [List.length_take] at this; have := HQL.out; omega
        generalize q[k] = y at *
        generalize trues (q.take k) = tk at *
        skip
        cases y
        · go_wp2
          go_roundw
          case rel => exact ⟨k + 1, by omega, by go_num, by rw [HT.out]; simp, trivial⟩
          case measure => simp [intOf]; omega
        · go_wp2
          go_roundw
          case rel => exact ⟨k + 1, by omega, by go_num, by rw [HT.out]; simp, trivial⟩
          case measure => simp [intOf]; omega
      · obtain rfl : k = q.length := by omega
        have hge : ¬ ((q.length : Int) < (p.length : Int)) := by have := HQL.out; omega
        have hge2 : ((q.length : Int) < (p.length : Int)) = False := eq_false hge
        go_wp2
        go_ret2
        exact ⟨A3, 0, by rw [HQL.out]; rfl, by have := HQN.out; rwa [← HQL.out] at this, k3⟩
  · have HQN : Bx (SlN w.heap.size w3 (.slice (Option.map (fun x => { block := x.block, off := x.off + 1 }) A3) p.length (c3 - 1)) q.length (bc q)) := bx (by
    rw [pushP, if_pos (by omega)] at hq
    subst hq
    have := SlN.drop (sln_of_own o3) 1
    show SlN _ _ _ ((p ++ [b]).drop 1).length _
    rw [show ((p ++ [b]).drop 1).length = p.length + 1 - 1 by simp]
    simpa [bc] using this)
    have HQB := bx HQN.out.sl
    have hql : q.length = p.length := by have := HQ.out; rw [pushP, if_pos (by omega)] at this; rw [← this]; simp
    have HQL := bx hql
    clear o2 o3 g3 hql
    go_loopw [11, 13, 29] (fun n _ i wr => ∃ k : Nat, k ≤ q.length ∧ i = .int .i64 k ∧ n = .int .i64 (trues (q.take k)) ∧ wr = w3) (fun _ _ i _ => q.length - (intOf i).toNat)
    case atStart => exact ⟨0, Nat.zero_le _, rfl, rfl, rfl⟩
    case round =>
      obtain ⟨k, hk, rfl, rfl, rfl⟩ := hrel
      by_cases hlt : k < q.length
      · obtain ⟨bb, off, hA, hbb, c1⟩ := bools_at HQB.out hlt
        have HT := bx (trues_take q k hlt)
        have hlt2 : (k : Int) < (p.length : Int) := by have := HQL.out; omega
        have hn : trues (q.take k) ≤ 1001 := by have := trues_le (q.take k); rw [List.length_take] at this; have := HQL.out; omega
        generalize q[k] = y at *
        generalize trues (q.take k) = tk at *
        skip
        cases y
        · go_wp2
          go_roundw
          case rel => exact ⟨k + 1, by omega, by go_num, by rw [HT.out]; simp, trivial⟩
          case measure => simp [intOf]; omega
        · go_wp2
          go_roundw
          case rel => exact ⟨k + 1, by omega, by go_num, by rw [HT.out]; simp, trivial⟩
          case measure => simp [intOf]; omega
      · obtain rfl : k = q.length := by omega
        have hge : ¬ ((q.length : Int) < (p.length : Int)) := by have := HQL.out; omega
        have hge2 : ((q.length : Int) < (p.length : Int)) = False := eq_false hge
        go_wp2
        go_ret2
        exact ⟨Option.map (fun x => { block := x.block, off := x.off + 1 }) A3, c3 - 1, by rw [HQL.out]; rfl, by have := HQN.out; rwa [← HQL.out] at this, k3⟩
  · have HQN : Bx (SlN w.heap.size w3 (.slice A3 (p.length + 1) c3) q.length (bc q)) := bx (by
    rw [pushP, if_neg (by omega)] at hq
    subst hq
    show SlN _ _ _ (p ++ [b]).length _
    rw [show (p ++ [b]).length = p.length + 1 by simp]
    simpa [bc] using sln_of_own o3)
    have HQB := bx HQN.out.sl
    have hql : q.length = p.length + 1 := by have := HQ.out; rw [pushP, if_neg (by omega)] at this; rw [← this]; simp
    have HQL := bx hql
    clear o2 o3 g3 hql
    go_loopw [11, 13, 29] (fun n _ i wr => ∃ k : Nat, k ≤ q.length ∧ i = .int .i64 k ∧ n = .int .i64 (trues (q.take k)) ∧ wr = w3) (fun _ _ i _ => q.length - (intOf i).toNat)
    case atStart => exact ⟨0, Nat.zero_le _, rfl, rfl, rfl⟩
    case round =>
      obtain ⟨k, hk, rfl, rfl, rfl⟩ := hrel
      by_cases hlt : k < q.length
      · obtain ⟨bb, off, hA, hbb, c1⟩ := bools_at HQB.out hlt
        have HT := bx (trues_take q k hlt)
        have hlt2 : (k : Int) < (p.length : Int) + 1 := by have := HQL.out; omega
        have hn : trues (q.take k) ≤ 1001 := by have := trues_le (q.take k); rw [List.length_take] at this; have := HQL.out; omega
        generalize q[k] = y at *
        generalize trues (q.take k) = tk at *
        subst hA
        cases y
        · go_wp2
          go_roundw
          case rel => exact ⟨k + 1, by omega, by go_num, by rw [HT.out]; simp, trivial⟩
          case measure => simp [intOf]; omega
        · go_wp2
          go_roundw
          case rel => exact ⟨k + 1, by omega, by go_num, by rw [HT.out]; simp, trivial⟩
          case measure => simp [intOf]; omega
      · obtain rfl : k = q.length := by omega
        have hge : ¬ ((q.length : Int) < (p.length : Int) + 1) := by have := HQL.out; omega
        have hge2 : ((q.length : Int) < (p.length : Int) + 1) = False := eq_false hge
        go_wp2
        go_ret2
        exact ⟨A3, c3, by rw [HQL.out]; rfl, by have := HQN.out; rwa [← HQL.out] at this, k3⟩
end Go.Proofs.Ytlogokjjphlkkaa
