/-
  Walks of layer 28's reference: Make.
-/
import Derived.Test.YtpdbdpmlppbnnaaU18
import Derived.Deep.RegionLaw
namespace Go.Proofs.Ytpdbdpmlppbnnaa
open Go.RowKit Go.Shelf

def mkV (l : List Int) (n : Nat) : List Int := (List.range n).map fun (i : Nat) => boundI (pickI l i 8589934588) 2147483647
theorem mkV_len (l : List Int) (n : Nat) : (mkV l n).length = n := by simp [mkV]
theorem mkV_succ (l : List Int) (n : Nat) : mkV l (n + 1) = mkV l n ++ [boundI (pickI l n 8589934588) 2147483647] := by
  rw [mkV, List.range_succ, List.map_append]; rfl
theorem mkV_fits (l : List Int) (n : Nat) : ∀ x ∈ mkV l n, fitsV x := by
  intro x hx
  obtain ⟨i, _, rfl⟩ := List.mem_map.1 hx
  exact bound_bd _ _ (by decide)
/-- a box of another type stays where a row grows -/
theorem keep_box {w X w3 : World} {base size n b : Nat} {e t : TypeId} {v : Value} {xs : List Value} {cs : Array Value} (ho : w.ownsRow base e size v n xs) (hb : w.heap[b]? = some (.cells cs t (0, 0))) (ht : t ≠ e) (hX : From w X) (g : X.grownBy w3 v.ownBlock) : w3.heap[b]? = some (.cells cs t (0, 0)) := by
  have hlt := (Array.getElem?_eq_some_iff.1 hb).1
  rw [g.block b (Nat.lt_of_lt_of_le hlt (Below.size hX)) ?_]
  · exact hX.heap hb
  · intro e1
    rcases ho.2 with ⟨hv, _⟩ | ⟨q, cap, cur, hv, hg, hh, _⟩
    · rw [hv] at e1; simp [Value.ownBlock] at e1
    · rw [hv] at e1
      simp [Value.ownBlock] at e1
      subst e1
      rw [hb] at hh
      injection hh with hh
      injection hh with _ hh _
      exact ht hh
def MakeSPost (w : World) (q : Int) (l : List Int) (e : Ending) (w' : World) : Prop := ∃ A c, e = .returned (snv q (.slice A l.length c)) ∧ w'.ownsRow w.heap.size 3 1 (.slice A l.length c) l.length (ic l) ∧ From w w'
set_option maxHeartbeats 1000000 in
set_option maxRecDepth 10000 in
theorem makeS_calls (s p : Int) (A : Option Addr) (c : Nat) (l : List Int) (w : World) (h : Ints w (.slice A l.length c) l) (hx : ∀ x ∈ l, -9223372036854775808 ≤ x ∧ x ≤ 9223372036854775807) (hs : -9223372036854775808 ≤ s ∧ s ≤ 9223372036854775807) (hp : -9223372036854775808 ≤ p ∧ p ≤ 9223372036854775807)
    (n : Nat) (hn : around p 32 + 1 = n) :
    Calls Try.prog 22 #[.int .i64 s, .int .i64 p, .slice A l.length c] w (MakeSPost w (around s 500) (mkV l n)) := by
  obtain ⟨W0, hW0⟩ : ∃ W, w.alloc (.cells #[.int .i64 0, .slice none 0 0] 24) = W := ⟨_, rfl⟩
  have k0 : From w W0 := by rw [← hW0]; exact (From.refl _).alloc _
  have b0 : W0.heap[w.heap.size]? = some (.cells #[.int .i64 0, .slice none 0 0] 24 (0, 0)) := by rw [← hW0]; exact heap_alloc_new _ _
  have z0 : W0.heap.size = w.heap.size + 1 := by rw [← hW0]; simp
  obtain ⟨q, hq⟩ : ∃ q, around s 500 = q := ⟨_, rfl⟩
  have HA := bx (fun W => around_calls s 500 W hs.1 hs.2 (by decide) (by decide))
  rw [hq] at HA ⊢
  have HA2 := bx (fun W => around_calls p 32 W hp.1 hp.2 (by decide) (by decide))
  have hab := around_bd p 32 (by decide)
  obtain ⟨m, hm⟩ : ∃ m, around p 32 = m := ⟨_, rfl⟩
  rw [hm] at HA2 hab hn
  have HPK := bx (fun (W : World) (k : From w W) (i : Nat) (y : Int) (hy : pickI l i 8589934588 = y) => pick_calls A c l i 8589934588 W (h.from k) hx (by decide) (by decide) y hy)
  have HBD := bx (fun (W : World) (y : Int) (h0 : 0 ≤ y) (h1 : y < 8589934588) => bound_calls y 2147483647 W (by omega) (by omega) (by decide) (by decide))
  clear h hx hq hm
  go_enter Try.func22, Try.ntmps22
  go_wp2_with fail
  refine (HA.out _).mono ?_
  rintro e w' ⟨rfl, hw⟩
  rw [hw]
  clear hw w'
  go_wp2_with fail
  obtain ⟨W1, hW1⟩ : ∃ W, W0.alloc (.cells #[.int .i64 q, .slice none 0 0] 24) = W := ⟨_, rfl⟩
  have k1 : From W0 W1 := by rw [← hW1]; exact (From.refl _).alloc _
  have b1 : W1.heap[w.heap.size + 1]? = some (.cells #[.int .i64 q, .slice none 0 0] 24 (0, 0)) := by rw [← hW1, ← z0]; exact heap_alloc_new _ _
  have HR0 := bx (k1.heap b0)
  have HB1 := bx b1
  have HK := bx (k0.trans k1)
  rw [hW1]
  clear hW0 hW1 z0 k0 k1 b0 b1
  go_loopw [8] (fun i wr => ∃ (k cv : Nat) (AV : Option Addr), k ≤ n ∧ i = .int .i64 k ∧ wr.ownsRow w.heap.size 3 1 (.slice AV k cv) k (ic (mkV l k)) ∧ wr.heap[w.heap.size + 1]? = some (.cells #[.int .i64 q, .slice AV k cv] 24 (0, 0)) ∧ wr.heap[w.heap.size]? = some (.cells #[.int .i64 0, .slice none 0 0] 24 (0, 0)) ∧ From w wr) (fun i _ => n + 1 - (intOf i).toNat)
  case atStart => exact ⟨0, 0, none, Nat.zero_le _, rfl, own_nil _ _ _ _, HB1.out, HR0.out, HK.out⟩
  case round =>
    obtain ⟨k, cv, AV, hk, rfl, ho, hb, hr, hf⟩ := hrel
    have HO := bx ho
    have HB := bx hb
    have HR := bx hr
    have HF := bx hf
    clear ho hb hr hf
    go_wp2_with fail
    refine (HA2.out _).mono ?_
    rintro e w' ⟨rfl, hw⟩
    rw [hw]
    clear hw w'
    by_cases hlt : k < n
    · have z1 : decide ((k : Int) ≤ m) = true := decide_eq_true (by omega)
      obtain ⟨q0, q1, q2, q3, hbs⟩ := box2 HB.out
      obtain ⟨y, hy⟩ : ∃ y, pickI l k 8589934588 = y := ⟨_, rfl⟩
      have hyb := pick_bd l k 8589934588 (by decide)
      rw [hy] at hyb
      have HP := bx (fun W hk => HPK.out W hk k y hy)
      have HC := bx (fun W => HBD.out W y hyb.1 hyb.2)
      obtain ⟨z, hz⟩ : ∃ z, boundI y 2147483647 = z := ⟨_, rfl⟩
      rw [hz] at HC
      have HMK := bx (show mkV l (k + 1) = mkV l k ++ [z] by rw [mkV_succ, hy, hz])
      clear hy hz hyb
      have hsz := Below.size HF.out
      go_wp2_with fail
      go_region_law (first
        | (refine step_sl (by rfl) (.tmp 19) (.tmp 24) 22 (by rfl) Try.elInt (by rfl) (HO.out.alloc _).drew 1 [.int .i64 z] (by rfl) ((sl_new wr [.int .i64 z] 3 1 1).below (Below.refl _ _).drew) rfl (by simp [Value.oneCell']) (by omega) (by unfold maxLen; omega) (by simp; omega) ?_; intro A3 c3 w3 o3 g3 _; have hb3 := keep_box HO.out HB.out (by decide) ((From.alloc (From.refl wr) (.cells #[.int .i64 z] 3)).drew) g3; have hr3 := keep_box HO.out HR.out (by decide) ((From.alloc (From.refl wr) (.cells #[.int .i64 z] 3)).drew) g3; obtain ⟨t0, t1, t2, t3, _⟩ := box2 hb3)
        | (go_simp; go_at_call 59; refine (HP.out _ (by first | exact HF.out | exact HF.out.drew)).mono ?_; rintro e wX ⟨rfl, rfl⟩)
        | (go_simp; go_at_call 44; refine (HC.out _).mono ?_; rintro e wX ⟨rfl, rfl⟩))
      all_goals
        have k3 : From w w3 := From.app (HF.out.alloc _).drew (HO.out.alloc _).drew (Nat.le_refl _) g3
        go_wp2
        go_roundw
        case rel =>
          have o4 : w3.ownsRow w.heap.size 3 1 (.slice A3 (k + 1) c3) (k + 1) (ic (mkV l (k + 1))) := by rw [HMK.out, ic_append]; exact o3
          have hno : (Value.slice A3 (k + 1) c3).ownBlock ≠ some (w.heap.size + 1) := by
            intro hg
            rcases o4.2 with ⟨hv, _⟩ | ⟨q', cap, cur, hv, _, hh, _⟩
            · rw [hv] at hg; simp [Value.ownBlock] at hg
            · rw [hv] at hg
              simp [Value.ownBlock] at hg
              subst hg
              exact cells_ne hh hb3 (by decide) rfl
          exact ⟨k + 1, c3, A3, by omega, by go_num, ownsRow_setCell_other o4 hno _, heap_set_at hb3 1 _, by rw [heap_set_off _ (by omega)]; exact hr3, from_set k3 (by omega) _ _⟩
        case measure => simp [intOf]; omega
    · have z1 : decide ((k : Int) ≤ m) = false := decide_eq_false (by omega)
      obtain rfl : k = n := by omega
      obtain ⟨q0, q1, q2, q3, hbs⟩ := box2 HB.out
      obtain ⟨t0, t1, t2, t3, _⟩ := box2 HR.out
      go_wp2
      have b9 := box2_set HR.out (.int .i64 q) (.slice AV k cv)
      refine bodyPost_ret (v := snv q (.slice AV k cv)) (by simp [results, Try.results22, go_sem, cell_of_row _ _ _ _ _ _ b9]) rfl ⟨AV, cv, by rw [mkV_len], ?_, from_set (from_set HF.out (Nat.le_refl _) _ _) (Nat.le_refl _) _ _⟩
      rw [mkV_len]
      have hne : ∀ g, (Value.slice AV k cv).ownBlock = some g → g ≠ w.heap.size := by
        rintro g hg rfl
        rcases HO.out.2 with ⟨hv, _⟩ | ⟨q', cap, cur, hv, _, hh, _⟩
        · rw [hv] at hg; simp [Value.ownBlock] at hg
        · rw [hv] at hg
          simp [Value.ownBlock] at hg
          subst hg
          exact cells_ne hh HR.out (by decide) rfl
      have hno : (Value.slice AV k cv).ownBlock ≠ some w.heap.size := fun e => hne _ e rfl
      exact ownsRow_setCell_other (ownsRow_setCell_other HO.out hno _) hno _
end Go.Proofs.Ytpdbdpmlppbnnaa
