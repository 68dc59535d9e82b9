/-
  Walks of layer 28's reference: Permutation.
-/
import Derived.Test.YtpdbdpmlppbnnaaU18
namespace Go.Proofs.Ytpdbdpmlppbnnaa
open Go.RowKit Go.Shelf

def permN (l : List Int) : Nat → List Nat
  | 0 => []
  | i + 1 => (permN l i).take (pickI l i (i + 1)).toNat ++ i :: (permN l i).drop (pickI l i (i + 1)).toNat
theorem permN_len (l : List Int) : ∀ i, (permN l i).length = i
  | 0 => rfl
  | i + 1 => by
    have := permN_len l i
    rw [permN, List.length_append, List.length_cons, List.length_take, List.length_drop]
    omega
theorem permN_lt (l : List Int) : ∀ i, ∀ x ∈ permN l i, x < i
  | 0, x, h => nomatch h
  | i + 1, x, h => by
    rw [permN] at h
    rcases List.mem_append.1 h with h | h
    · have := permN_lt l i x (List.mem_of_mem_take h); omega
    · rcases List.mem_cons.1 h with rfl | h
      · omega
      · have := permN_lt l i x (List.mem_of_mem_drop h); omega
theorem permN_nodup (l : List Int) : ∀ i, (permN l i).Nodup
  | 0 => List.nodup_nil
  | i + 1 => by
    have ih := permN_nodup l i
    have hni : i ∉ permN l i := fun h => Nat.lt_irrefl _ (permN_lt l i i h)
    rw [permN]
    generalize (pickI l i (i + 1)).toNat = k
    have h1 : ((permN l i).take k ++ (permN l i).drop k).Nodup := by rw [List.take_append_drop]; exact ih
    have hp : ((permN l i).take k ++ i :: (permN l i).drop k).Perm (i :: ((permN l i).take k ++ (permN l i).drop k)) := List.perm_middle
    rw [hp.nodup_iff, List.nodup_cons]
    exact ⟨by rw [List.take_append_drop]; exact hni, h1⟩
theorem permN_perm (l : List Int) (n : Nat) : Perm n (permN l n) := ⟨permN_len l n, permN_nodup l n, permN_lt l n⟩
theorem sl_take {w : World} {B n c k : Nat} {a : Addr} {cs : List Value} (h : Sl w B (.slice (some a) n c) n cs) : Sl w B (.slice (some a) k c) k (cs.take k) := by
  refine ⟨.inr ⟨a, c, rfl, fun j u hj => ?_⟩⟩
  have hj' : cs[j]? = some u := by
    rw [List.getElem?_take] at hj
    split at hj
    · exact hj
    · cases hj
  obtain ⟨b, off, e1, e2⟩ := h.at_ hj'
  injection e1 with e1
  exact ⟨b, off, e1, e2⟩
theorem sl_drop {w : World} {B n c k g : Nat} {cs : List Value} (h : Sl w B (.slice (some ⟨g, 0, none⟩) n c) n cs) (_ : ¬ c = k) : Sl w B (.slice (some ⟨g, k, none⟩) (n - k) (c - k)) (n - k) (cs.drop k) := by
  refine ⟨.inr ⟨_, _, rfl, fun j u hj => ?_⟩⟩
  rw [List.getElem?_drop] at hj
  obtain ⟨b, off, e1, e2, e3⟩ := h.at_ hj
  injection e1 with e1
  injection e1 with e1 e4 _
  subst e1 e4
  rw [Nat.zero_add] at e3
  exact ⟨g, k, rfl, e2, e3⟩
theorem nl_take (o : List Nat) (k : Nat) : (ic (nl o)).take k = ic (nl (o.take k)) := by simp [ic, nl, List.map_take]
theorem nl_drop (o : List Nat) (k : Nat) : (ic (nl o)).drop k = ic (nl (o.drop k)) := by simp [ic, nl, List.map_drop]
set_option maxHeartbeats 2000000 in
set_option maxRecDepth 10000 in
theorem permR_calls (n : Nat) (A : Option Addr) (c : Nat) (l : List Int) (w : World) (h : Ints w (.slice A l.length c) l) (hx : ∀ x ∈ l, -9223372036854775808 ≤ x ∧ x ≤ 9223372036854775807) (hn : n ≤ 1000) :
    Calls Try.prog 24 #[.int .i64 n, .slice A l.length c] w (RowPost w (nl (permN l n))) := by
  have HPK := bx (fun (W : World) (k : From w W) (i : Nat) (hi : i ≤ 1000) (y : Int) (hy : pickI l i (i + 1) = y) => pick_calls A c l i (i + 1) W (h.from k) hx (by omega) (by omega) y hy)
  clear h hx
  go_enter Try.func24, Try.ntmps24
  go_wp2_with fail
  go_loopw [5, 6] (fun o i wr => ∃ k : Nat, k ≤ n ∧ i = .int .i64 k ∧ (k = 0 → o = .slice none 0 0) ∧ wr.ownsRow w.heap.size 3 1 o k (ic (nl (permN l k))) ∧ From w wr) (fun _ i _ => n - (intOf i).toNat)
  case atStart => exact ⟨0, Nat.zero_le _, rfl, fun _ => rfl, own_nil _ _ _ _, From.refl _⟩
  case round =>
    obtain ⟨i, hi, rfl, h0, ho, hf⟩ := hrel
    have HO := bx ho
    have HF := bx hf
    clear ho hf
    by_cases hlt : i < n
    · have z1 : decide ((i : Int) < (n : Int)) = true := decide_eq_true (by omega)
      obtain ⟨y, hy⟩ : ∃ y, pickI l i (i + 1) = y := ⟨_, rfl⟩
      have hyb := pick_bd l i (i + 1) (by omega)
      rw [hy] at hyb
      obtain ⟨k, rfl⟩ : ∃ k : Nat, y = k := ⟨y.toNat, by omega⟩
      have HP := bx (fun W hk => HPK.out W hk i (by omega) k hy)
      have HS := bx (show permN l (i + 1) = (permN l i).take k ++ i :: (permN l i).drop k by rw [permN, hy, Int.toNat_natCast])
      have e1 : IntKind.i64.wrap ((i : Int) + 1) = (i : Int) + 1 := IntWalk.i64_in _ (by omega)
      have hsz := Below.size HF.out
      clear hy
      by_cases hi0 : i = 0
      · subst hi0
        have hk0 : k = 0 := by omega
        subst hk0
        have hon := h0 rfl
        subst hon
        go_wp2_with fail
        refine (HP.out _ HF.out).mono ?_
        rintro e w' ⟨rfl, hw⟩
        rw [hw]
        clear hw w'
        go_wp2_with (first
          | (at_builtin; refine app_sl rfl _ _ 22 rfl Try.elInt rfl (own_nil wr wr.heap.size _ _) 0 [] rfl (Sl.nil _ wr.heap.size) (by simp) (by simp) (by omega) (by unfold maxLen; omega) (Nat.le_refl _) ?_; intro A1 c1 w1 o1 g1 _; have m1 := From.app (From.refl wr) (own_nil wr wr.heap.size 3 1) (Nat.le_refl _) g1)
          | (at_builtin; refine app_sl rfl _ _ 22 rfl Try.elInt rfl (o1.alloc _) 1 [.int .i64 0] rfl (sl_new w1 [.int .i64 0] 3 1 1) rfl (by simp [Value.oneCell']) (by omega) (by unfold maxLen; omega) (by have := Below.size m1; simp; omega) ?_; intro A2 c2 w2 o2 g2 _; have m2 := From.app (m1.alloc (.cells #[.int .i64 0] 3)) (o1.alloc (.cells #[.int .i64 0] 3)) (Nat.le_refl _) g2)
          | (at_builtin; refine app_sl rfl _ _ 22 rfl Try.elInt rfl o2 0 [] rfl (Sl.nil _ wr.heap.size) (by simp) (by simp) (by omega) (by unfold maxLen; omega) (Below.size m2) ?_; intro A3 c3 w3 o3 g3 _; have m3 := From.app m2 o2 (Nat.le_refl _) g3))
        go_roundw
        case rel =>
          refine ⟨0 + 1, by omega, by go_num, fun h => by omega, ?_, HF.out.trans m3⟩
          have e : ic (nl (permN l (0 + 1))) = [] ++ [] ++ [.int .i64 0] ++ [] := by rw [HS.out]; rfl
          rw [e]
          exact own_base (by simpa using o3) hsz
        case measure => simp [intOf]; omega
      · have hIO := HO.out
        obtain ⟨g, cO, hv, _⟩ := hIO.form (by omega)
        subst hv
        have hic := own_cap hIO
        have HSL := bx (sl_of_own hIO)
        have HT := bx (show Sl wr wr.heap.size (.slice (some ⟨g, 0, none⟩) k cO) k (ic (nl ((permN l i).take k))) by rw [← nl_take]; exact sl_take HSL.out)
        clear hIO h0
        have y1 : (k : Int) ≤ (cO : Int) := by omega
        have y2 : (0 : Int) ≤ (k : Int) := by omega
        have y3 : (k : Int) ≤ (i : Int) := by omega
        have y4 : ¬ cO = 0 := by omega
        have hml : ((permN l i).take k).length = k := by rw [List.length_take, permN_len]; omega
        have HML := bx hml
        clear hml
        by_cases hck : cO = k
        · have hik : k = i := by omega
          subst hck
          subst hik
          have HE0 : Bx (∀ W, Sl W W.heap.size (.slice (some ⟨g, 0, none⟩) 0 0) 0 []) := ⟨fun W => ⟨.inr ⟨_, _, rfl, fun j u hj => by simp at hj⟩⟩⟩
          go_wp2_with fail
          refine (HP.out _ HF.out).mono ?_
          rintro e w' ⟨rfl, hw⟩
          rw [hw]
          clear hw w'
          go_wp2_with (first
          | (at_builtin; refine app_sl rfl _ _ 22 rfl Try.elInt rfl (own_nil wr wr.heap.size _ _) cO (ic (nl ((permN l cO).take cO))) rfl HT.out (by rw [ic_len, nl_len, HML.out, Nat.mul_one]) (ic_one _) (by omega) (by unfold maxLen; omega) (Nat.le_refl _) ?_; intro A1 c1 w1 o1 g1 _; rw [Nat.zero_add, List.nil_append] at o1; have m1 := From.app (From.refl wr) (own_nil wr wr.heap.size 3 1) (Nat.le_refl _) g1)
          | (at_builtin; refine app_sl rfl _ _ 22 rfl Try.elInt rfl (o1.alloc _) 1 [.int .i64 cO] rfl (sl_new w1 [.int .i64 cO] 3 1 1) rfl (by simp [Value.oneCell']) (by omega) (by unfold maxLen; omega) (by have := Below.size m1; simp; omega) ?_; intro A2 c2 w2 o2 g2 _; have m2 := From.app (m1.alloc (.cells #[.int .i64 cO] 3)) (o1.alloc (.cells #[.int .i64 cO] 3)) (Nat.le_refl _) g2)
          | (at_builtin; refine app_sl rfl _ _ 22 rfl Try.elInt rfl o2 0 [] rfl (HE0.out w2) (by simp) (by simp) (by omega) (by unfold maxLen; omega) (Below.size m2) ?_; intro A3 c3 w3 o3 g3 _; have m3 := From.app m2 o2 (Nat.le_refl _) g3))
          go_roundw
          case rel =>
            refine ⟨cO + 1, by omega, by go_num, fun h => by omega, ?_, HF.out.trans m3⟩
            have e2 : ic (nl (permN l (cO + 1))) = ic (nl ((permN l cO).take cO)) ++ [.int .i64 cO] ++ [] := by rw [HS.out]; rw [List.drop_of_length_le (by rw [permN_len]; omega)]; simp [ic, nl]
            rw [e2]
            exact own_base o3 hsz
          case measure => simp [intOf]; omega
        · have HD := bx (show Sl wr wr.heap.size (.slice (some ⟨g, k, none⟩) (i - k) (cO - k)) (i - k) (ic (nl ((permN l i).drop k))) by rw [← nl_drop]; exact sl_drop HSL.out hck)
          go_wp2_with fail
          refine (HP.out _ HF.out).mono ?_
          rintro e w' ⟨rfl, hw⟩
          rw [hw]
          clear hw w'
          go_wp2_with (first
          | (at_builtin; refine app_sl rfl _ _ 22 rfl Try.elInt rfl (own_nil wr wr.heap.size _ _) k (ic (nl ((permN l i).take k))) rfl HT.out (by rw [ic_len, nl_len, HML.out, Nat.mul_one]) (ic_one _) (by omega) (by unfold maxLen; omega) (Nat.le_refl _) ?_; intro A1 c1 w1 o1 g1 _; rw [Nat.zero_add, List.nil_append] at o1; have m1 := From.app (From.refl wr) (own_nil wr wr.heap.size 3 1) (Nat.le_refl _) g1)
          | (at_builtin; refine app_sl rfl _ _ 22 rfl Try.elInt rfl (o1.alloc _) 1 [.int .i64 i] rfl (sl_new w1 [.int .i64 i] 3 1 1) rfl (by simp [Value.oneCell']) (by omega) (by unfold maxLen; omega) (by have := Below.size m1; simp; omega) ?_; intro A2 c2 w2 o2 g2 _; have m2 := From.app (m1.alloc (.cells #[.int .i64 i] 3)) (o1.alloc (.cells #[.int .i64 i] 3)) (Nat.le_refl _) g2)
          | (at_builtin; refine app_sl rfl _ _ 22 rfl Try.elInt rfl o2 (i - k) (ic (nl ((permN l i).drop k))) rfl (HD.out.from m2) (by simp [ic, nl, permN_len]) (ic_one _) (by omega) (by unfold maxLen; omega) (Below.size m2) ?_; intro A3 c3 w3 o3 g3 _; have m3 := From.app m2 o2 (Nat.le_refl _) g3))
          go_roundw
          case rel =>
            refine ⟨i + 1, by omega, by go_num, fun h => by omega, ?_, HF.out.trans m3⟩
            have e : k + 1 + (i - k) = i + 1 := by omega
            rw [e] at o3 ⊢
            have e2 : ic (nl (permN l (i + 1))) = ic (nl ((permN l i).take k)) ++ [.int .i64 i] ++ ic (nl ((permN l i).drop k)) := by rw [HS.out]; simp [ic, nl]
            rw [e2]
            exact own_base o3 hsz
          case measure => simp [intOf]; omega
    · have z1 : decide ((i : Int) < (n : Int)) = false := decide_eq_false (by omega)
      obtain rfl : i = n := by omega
      obtain ⟨AO, cO, rfl⟩ := slice_form HO.out
      go_wp2
      go_ret
      exact ⟨AO, cO, by rw [nl_len, permN_len]; rfl, by rw [nl_len, permN_len]; exact HO.out, HF.out⟩
end Go.Proofs.Ytpdbdpmlppbnnaa
