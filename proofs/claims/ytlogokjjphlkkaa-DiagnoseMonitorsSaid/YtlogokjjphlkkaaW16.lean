/-
  Walks of layer 29: perigeelaw29.few, last, outside.
-/
import Derived.Test.YtlogokjjphlkkaaW15
namespace Go.Proofs.Ytlogokjjphlkkaa
open Go.RowKit Go.Shelf

theorem sl_take {w : World} {B n c : Nat} {A : Option Addr} {cs : List Value} (h : Sl w B (.slice A n c) n cs) (k : Nat) (hk : k ≤ n) : Sl w B (.slice A k c) k (cs.take k) := by
  rcases h.out with ⟨e, rfl, rfl⟩ | ⟨a, c', e, hc⟩
  · injection e with e1 e2 e3
    subst e1 e3
    obtain rfl : k = 0 := by omega
    exact ⟨.inl ⟨rfl, rfl, by simp⟩⟩
  · injection e with e1 _ e3
    subst e1 e3
    refine ⟨.inr ⟨_, _, rfl, fun j u hj => ?_⟩⟩
    rw [List.getElem?_take] at hj
    split at hj
    · exact hc j u hj
    · cases hj
theorem sl_drop {w : World} {B n c : Nat} {A : Option Addr} {cs : List Value} (h : Sl w B (.slice A n c) n cs) (k : Nat) : Sl w B (.slice (Option.map (fun x : Addr => (⟨x.block, x.off + k, none⟩ : Addr)) A) (n - k) (c - k)) (n - k) (cs.drop k) := by
  rcases h.out with ⟨e, rfl, rfl⟩ | ⟨a, c', e, hc⟩
  · injection e with e1 e2 e3
    subst e1 e3
    exact ⟨.inl ⟨by simp, by simp, by simp⟩⟩
  · injection e with e1 _ e3
    subst e1 e3
    refine ⟨.inr ⟨_, _, rfl, fun j u hj => ?_⟩⟩
    rw [List.getElem?_drop] at hj
    obtain ⟨b, off, rfl, e2, e3⟩ := hc _ u hj
    exact ⟨b, off + k, rfl, e2, by rw [Nat.add_assoc]; exact e3⟩
theorem sl_none {w : World} {B n c : Nat} {A : Option Addr} {cs : List Value} (h : Sl w B (.slice A n c) n cs) : (A = none ∧ n = 0 ∧ c = 0 ∧ cs = []) ∨ ∃ a, A = some a := by
  rcases h.out with ⟨e, rfl, rfl⟩ | ⟨a, c', e, hc⟩
  · injection e with e1 e2 e3
    exact .inl ⟨e1, rfl, e3, rfl⟩
  · injection e with e1 _ e3
    exact .inr ⟨a, e1⟩
theorem sl_add {w : World} {B n c : Nat} {A : Option Addr} {cs : List Value} (h : Sl w B (.slice A n c) n cs) (k : Nat) : Sl w B (.slice (Option.map (fun x : Addr => x.add k) A) (n - k) (c - k)) (n - k) (cs.drop k) := by
  rcases h.out with ⟨e, rfl, rfl⟩ | ⟨a, c', e, hc⟩
  · injection e with e1 e2 e3
    subst e1 e3
    exact ⟨.inl ⟨by simp, by simp, by simp⟩⟩
  · injection e with e1 _ e3
    subst e1 e3
    refine ⟨.inr ⟨_, _, rfl, fun j u hj => ?_⟩⟩
    rw [List.getElem?_drop] at hj
    obtain ⟨b, off, rfl, e2, e3⟩ := hc _ u hj
    exact ⟨b, off + k, Addr.add_mid _ _ _, e2, by rw [Nat.add_assoc]; exact e3⟩
/-- a part of a slice of numbers is answered; the world is as it was -/
def PartPost (w : World) (A : Option Addr) (c : Nat) (l0 l : List Int) (e : Ending) (w' : World) : Prop := ∃ A' c', e = .returned (.slice A' l.length c') ∧ (∀ W B, Sl W B (.slice A l0.length c) l0.length (ic l0) → Sl W B (.slice A' l.length c') l.length (ic l)) ∧ w' = w
theorem ints_take {w : World} {B c : Nat} {A : Option Addr} {l : List Int} (h : Sl w B (.slice A l.length c) l.length (ic l)) (k : Nat) : Sl w B (.slice A (l.take k).length c) (l.take k).length (ic (l.take k)) := by
  by_cases hk : k ≤ l.length
  · have := sl_take h k hk
    rw [List.length_take, Nat.min_eq_left hk, show ic (l.take k) = (ic l).take k by simp [ic]]
    exact this
  · rw [List.take_of_length_le (by omega)]; exact h
theorem few_calls (A : Option Addr) (c : Nat) (l : List Int) (w : World) (hc : l.length ≤ c) (n : Nat) (hn : (l.take 100).length = n) :
    Calls Try.prog 61 #[.slice A l.length c] w fun e w' => e = .returned (.slice A n c) ∧ w' = w := by
  rw [List.length_take] at hn
  by_cases hl : l.length ≤ 100
  · have z1 : ¬ (100 < l.length) := by omega
    have hm : min (l.length : Int) 100 = l.length := by omega
    go_enter Try.func61, Try.ntmps61
    go_wp2
    go_ret
    exact ⟨ret_slice (by omega), rfl⟩
  · have hm : min (l.length : Int) 100 = 100 := by omega
    have z1 : (100 : Nat) ≤ c := by omega
    have HN := bx hn
    clear hn
    go_enter Try.func61, Try.ntmps61
    go_wp2
    go_ret
    exact ⟨ret_slice (by have := HN.out; omega), rfl⟩
set_option maxHeartbeats 1000000 in
theorem last_calls (A : Option Addr) (c : Nat) (l : List Int) (n : Int) (w : World) (hc : l.length ≤ c) (h0 : 1 ≤ n) (h1 : n ≤ 1000) (hm : l.length ≤ 1000) :
    Calls Try.prog 63 #[.slice A l.length c, .int .i64 n] w (PartPost w A c l (l.drop (l.length - n.toNat))) := by
  obtain ⟨m, rfl⟩ : ∃ m : Nat, n = m := ⟨n.toNat, by omega⟩
  rw [Int.toNat_natCast]
  by_cases hl : l.length ≤ m
  · have hd : l.drop (l.length - m) = l := by rw [show l.length - m = 0 by omega]; rfl
    rw [hd]
    have hmx : max ((l.length : Int) - m) 0 = 0 := by omega
    by_cases he : l.length = m
    · subst he
      go_enter Try.func63, Try.ntmps63
      go_wp2
      all_goals
        go_ret
        exact ⟨A, c, rfl, fun _ _ h => h, rfl⟩
    · have z1 : (l.length : Int) - m < 0 := by omega
      go_enter Try.func63, Try.ntmps63
      go_wp2
      all_goals
        go_ret
        exact ⟨A, c, rfl, fun _ _ h => h, rfl⟩
  · have hlen : (l.drop (l.length - m)).length = m := by rw [List.length_drop]; omega
    have hk : ((l.length : Int) - m).toNat = l.length - m := by omega
    have z1 : 0 < (l.length : Int) - m := by omega
    have z2 : ¬ (c = l.length - m) := by omega
    have hmx : max ((l.length : Int) - m) 0 = (l.length : Int) - m := by omega
    have HL := bx hlen
    clear hlen
    go_enter Try.func63, Try.ntmps63
    go_wp2
    have e1 : l.length - (l.length - m) = m := by omega
    go_ret
    refine ⟨_, _, by rw [HL.out, e1]; rfl, fun W B h => ?_, rfl⟩
    have := sl_add h (l.length - m)
    rw [e1] at this
    rw [HL.out, show ic (l.drop (l.length - m)) = (ic l).drop (l.length - m) by simp [ic]]
    exact this
theorem outs_take (m : Mon) (l : List Int) (k : Nat) (hk : k < l.length) : (trues ((l.take (k + 1)).map (outB m)) : Int) = (trues ((l.take k).map (outB m)) : Int) + if outB m l[k] then 1 else 0 := by
  rw [List.take_succ_eq_append_getElem hk, List.map_append, trues_append]
  cases h : outB m l[k] <;> simp [trues, h]
set_option maxHeartbeats 1000000 in
theorem outs_calls (m : Mon) (pv : Value) (hpv : ∃ A n c, pv = .slice A n c) (A : Option Addr) (c : Nat) (l : List Int) (w : World) (h : Ints w (.slice A l.length c) l) (hm : l.length ≤ 1000) (x : Nat) (hx : trues (l.map (outB m)) = x) :
    Calls Try.prog 62 #[.agg (mcs m pv), .slice A l.length c] w fun e w' => e = .returned (.int .i64 x) ∧ From w w' := by
  obtain ⟨AP, nP, cP, rfl⟩ := hpv
  obtain ⟨W1, hW1⟩ : ∃ V, w.alloc (.cells (mcs m (.slice AP nP cP)) 71) = V := ⟨_, rfl⟩
  have k1 : From w W1 := by rw [← hW1]; exact From.alloc (From.refl _) _
  have M1 : MonC W1 w.heap.size m (.slice AP nP cP) := by rw [← hW1]; exact MonC.new w m _
  have HM := bx M1
  have HI := bx (h.from k1)
  have HX := bx hx
  have HO := bx (fun (k : Nat) (hk : k < l.length) => outs_take m l k hk)
  have HOB := bx (fun (v : Int) => show outB m v = (decide (v < m.low) || decide (m.high < v)) from rfl)
  have HLE := bx (fun (k : Nat) => show trues ((l.take k).map (outB m)) ≤ k by have := trues_le ((l.take k).map (outB m)); rw [List.length_map, List.length_take] at this; omega)
  obtain ⟨F, hF⟩ : ∃ F : Nat → Nat, ∀ k, trues ((l.take k).map (outB m)) = F k := ⟨_, fun _ => rfl⟩
  have HF := bx hF
  clear M1 h hx hF
  go_enter Try.func62, Try.ntmps62
  go_wp2_with fail
  clear hW1
  go_loopw [5, 6] (fun n i wr => ∃ k : Nat, k ≤ l.length ∧ i = .int .i64 k ∧ n = .int .i64 (F k) ∧ From W1 wr) (fun _ i _ => l.length - (intOf i).toNat)
  case atStart => exact ⟨0, Nat.zero_le _, rfl, by rw [← HF.out]; rfl, From.refl _⟩
  case round =>
    obtain ⟨k, hk, rfl, rfl, hfr⟩ := hrel
    by_cases hlt : k < l.length
    · obtain ⟨b, off, rfl, hb, v1⟩ := ints_at (HI.out.from hfr) hlt
      have hs := HO.out k hlt
      rw [HF.out, HF.out, HOB.out] at hs
      have hle := HLE.out k
      rw [HF.out] at hle
      obtain ⟨a0, a1, a2, a3, a4, a5, a6, a7⟩ := (HM.out.from hfr).facts
      have z1 : (k : Int) < (l.length : Int) := by omega
      have z2 : (0 : Int) ≤ (k : Int) := by omega
      have HS := bx hs
      clear hs
      generalize l[k] = v at *
      by_cases hlow : v < m.low
      · have d1 : decide (v < m.low) = true := decide_eq_true hlow
        have e1 : (F (k + 1) : Int) = F k + 1 := by rw [HS.out, d1]; simp
        go_wp2_with fail
        go_quiet (fail)
        go_wp2
        go_roundw
        case rel => exact ⟨k + 1, by omega, by go_num, by rw [e1], From.drewN hfr nq⟩
        case measure => simp [intOf]; omega
      · have d1 : decide (v < m.low) = false := decide_eq_false hlow
        by_cases hhigh : m.high < v
        · have d2 : decide (m.high < v) = true := decide_eq_true hhigh
          have e1 : (F (k + 1) : Int) = F k + 1 := by rw [HS.out, d1, d2]; simp
          go_wp2_with fail
          go_quiet (fail)
          go_wp2
          go_roundw
          case rel => exact ⟨k + 1, by omega, by go_num, by rw [e1], From.drewN hfr nq⟩
          case measure => simp [intOf]; omega
        · have d2 : decide (m.high < v) = false := decide_eq_false hhigh
          have e1 : (F (k + 1) : Int) = F k := by rw [HS.out, d1, d2]; simp
          go_wp2_with fail
          go_quiet (fail)
          go_wp2
          go_roundw
          case rel => exact ⟨k + 1, by omega, by go_num, by rw [e1], From.drewN hfr nq⟩
          case measure => simp [intOf]; omega
    · obtain rfl : k = l.length := by omega
      have hf : F l.length = x := by rw [← HF.out, List.take_of_length_le (Nat.le_refl _), HX.out]
      go_wp2
      go_ret
      exact ⟨ret_int (by rw [hf]), k1.trans hfr⟩
theorem drop_map_last (f : Int → Bool) (xs : List Int) (j : Nat) : (xs.drop (xs.length - j)).map f = lastN (xs.map f) j := by
  unfold lastN
  rw [List.map_drop, List.length_map]
theorem outs_last {m0 n : Mon} (hl : Like m0 n) (xs : List Int) (j : Nat) : trues ((xs.drop (xs.length - j)).map (outB n)) = trues (lastN (xs.map (outB m0)) j) := by
  rw [drop_map_last]
  congr 2
  exact List.map_congr_left fun v _ => outB_like hl v
end Go.Proofs.Ytlogokjjphlkkaa
