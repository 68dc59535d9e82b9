/-
  Plain law of layer 28: what decode answers to a packet of Encode's, complete or not.
-/
import Derived.Test.YtpdbdpmlppbnnaaN3
namespace Go.Proofs.Ytpdbdpmlppbnnaa

theorem room_plain (bs seq n : Nat) (bv nv : List Int) (o : List Nat) (room : Int) (L : List Int) (hb : bs < seq ∧ seq ≤ 1000000) (hbl : bv.length = n) (hnl : nv.length = n) (hn : 0 < n ∧ n ≤ 1000) (hB : ∀ x ∈ bv, fitsV x) (hN : ∀ x ∈ nv, fitsV x) (hp : Perm n o)
    (h : encP bs bv seq nv o room = (L, 0)) : ∃ vals known all, decP (hasB bs bv) L = .ok seq vals known all ∧ vals.length = n ∧ known.length = n ∧
      ((∀ q, q < n → known.getD q false = true) ↔ FitsAll bs seq room nv (predP bv bs seq) o []) ∧ (FitsAll bs seq room nv (predP bv bs seq) o [] → L = pkB bs seq 1 (entO nv (predP bv bs seq) o)) := by
  rw [encP, if_neg (by omega)] at h
  by_cases hr : room < ((pkB bs seq 1 []).length : Int)
  · rw [if_pos hr] at h; cases h
  rw [if_neg hr] at h
  injection h with h _
  obtain ⟨pred, hpd⟩ : ∃ pred, predP bv bs seq = pred := ⟨_, rfl⟩
  rw [hpd] at h ⊢
  have hpl : pred.length = n := by rw [← hpd, predP_len, hbl]
  have hP : ∀ x ∈ pred, fitsV x := by rw [← hpd]; exact predP_fits hB (by omega)
  have hrep : ∀ q, (List.replicate n false).getD q false = false := fun q => by
    rw [List.getD_eq_getElem?_getD, List.getElem?_replicate]; split <;> rfl
  have key : ∀ (o' : List Nat) (mark : Nat), mark ≤ 1 → o'.Nodup → (∀ p ∈ o', p < n) → o'.length ≤ n → decP (hasB bs bv) (pkB bs seq mark (entO nv pred o')) = .ok seq (finV (mark == 1) (putE pred (List.replicate n false) (entO nv pred o')).2 (putE pred (List.replicate n false) (entO nv pred o')).1)
      (if mark = 1 then List.replicate n true else (putE pred (List.replicate n false) (entO nv pred o')).2) (mark == 1) := by
    intro o' mark hm hnd hlt hlen
    have hel : (entO nv pred o').length ≤ n := by
      have := List.length_filter_le (fun p => decide (nv.getD p 0 - pred.getD p 0 ≠ 0)) o'
      simp only [entO, List.length_map]
      omega
    have := decP_enc bs seq mark bv (entO nv pred o') hb hm (by omega) (by omega) (by
      rw [hpd, hbl]
      exact rdE_ent nv pred n hN hP hnl hpl o' pred (List.replicate n false) hnd hlt hpl (by simp) (fun p _ => ⟨rfl, hrep p⟩))
    rwa [hpd, hbl] at this
  by_cases hf : FitsAll bs seq room nv pred o []
  · have h2 := encGo_all o [] hf
    rw [h, List.nil_append] at h2
    rw [h2, key o 1 (Nat.le_refl _) hp.nodup hp.lt (by rw [hp.len]; exact Nat.le_refl _)]
    obtain ⟨a, b, c⟩ := putE_ent nv pred n o pred (List.replicate n false) hp.nodup hp.lt hpl (by simp) (fun _ _ => rfl)
    refine ⟨_, _, _, rfl, a, by simp, ⟨fun _ => hf, fun _ q hq => ?_⟩, fun _ => rfl⟩
    rw [if_pos rfl, List.getD_eq_getElem?_getD, List.getElem?_replicate, if_pos hq]
    rfl
  · obtain ⟨r1, p0, r2, he, h2⟩ := encGo_part o [] hf
    rw [h, List.nil_append] at h2
    have hol : o.length = n := hp.len
    have hnd := hp.nodup
    rw [he] at hnd hol
    obtain ⟨hn1, hn2, hdis⟩ := List.nodup_append.1 hnd
    have hlt1 : ∀ p ∈ r1, p < n := fun p hp1 => hp.lt p (by rw [he]; simp [hp1])
    rw [List.length_append, List.length_cons] at hol
    rw [h2, key r1 0 (by omega) hn1 hlt1 (by omega)]
    obtain ⟨a, b, c⟩ := putE_ent nv pred n r1 pred (List.replicate n false) hn1 hlt1 hpl (by simp) (fun _ _ => rfl)
    generalize (putE pred (List.replicate n false) (entO nv pred r1)).1 = V at *
    generalize (putE pred (List.replicate n false) (entO nv pred r1)).2 = K at *
    have hp0 : p0 < n := hp.lt p0 (by rw [he]; simp)
    refine ⟨_, _, _, rfl, by simp [finV]; omega, b, ⟨fun hall => ?_, fun h => absurd h hf⟩, fun h => absurd h hf⟩
    exfalso
    have h1 := hall p0 hp0
    rw [if_neg (by decide), (c p0 hp0).1, hrep, Bool.false_or] at h1
    exact hdis p0 (of_decide_eq_true h1).1 p0 (by simp) rfl
theorem room_more (bs seq : Nat) (bv nv : List Int) (o : List Nat) (room room' : Int) (L : List Int) (hr : room ≤ room') (h : encP bs bv seq nv o room = (L, 0)) : ∃ L', encP bs bv seq nv o room' = (L', 0) := by
  unfold encP at h ⊢
  by_cases h1 : seq ≤ bs
  · rw [if_pos h1] at h; cases h
  rw [if_neg h1] at h ⊢
  by_cases h2 : room < ((pkB bs seq 1 []).length : Int)
  · rw [if_pos h2] at h; cases h
  rw [if_neg (by omega)]
  exact ⟨_, rfl⟩
theorem room_500 (bs seq : Nat) (bv nv : List Int) (o : List Nat) (hb : bs < seq) (hs : seq < 16384) : ∃ L', encP bs bv seq nv o 500 = (L', 0) := by
  have := pkB_small bs seq [] (by omega) hs (by decide) (Nat.le_refl _)
  rw [encP, if_neg (by omega), if_neg (by simp only [List.length_nil] at this; omega)]
  exact ⟨_, rfl⟩
/-- whether all values of a packet are known -/
def wholeP (known : List Bool) : Bool := known.all id
theorem wholeP_iff {known : List Bool} {n : Nat} (hk : known.length = n) : wholeP known = true ↔ ∀ q, q < n → known.getD q false = true := by
  unfold wholeP
  rw [List.all_eq_true]
  constructor
  · intro h q hq
    rw [List.getD_eq_getElem?_getD, List.getElem?_eq_getElem (by omega)]
    exact h _ (List.getElem_mem _)
  · intro h x hx
    obtain ⟨i, hi, rfl⟩ := List.getElem_of_mem hx
    have := h i (by omega)
    rwa [List.getD_eq_getElem?_getD, List.getElem?_eq_getElem hi] at this
end Go.Proofs.Ytpdbdpmlppbnnaa
