/-
  Walks of layer 29: the reference's SameAll of equal lists; lists of monitors, their parts.
-/
import Derived.Test.YtlogokjjphlkkaaW23
namespace Go.Proofs.Ytlogokjjphlkkaa
open Go.RowKit Go.Shelf

set_option maxRecDepth 100000 in
set_option maxHeartbeats 4000000 in
theorem sameAll_calls (A B : Option Addr) (c d : Nat) (ms : List Mon) (w : World) (hA : Mons w (.slice A ms.length c) ms) (hB : Mons w (.slice B ms.length d) ms) (hm : ms.length ≤ 1000) (hp : ∀ m ∈ ms, m.past.length ≤ 1000) :
    Calls Try.prog 68 #[.slice A ms.length c, .slice B ms.length d] w fun e w' => e = .returned (.bool true) ∧ From w w' := by
  have HA := bx hA
  have HB := bx hB
  have HP := bx hp
  clear hA hB hp
  go_enter Try.func68, Try.ntmps68
  go_wp2_with fail
  go_loopw [5] (fun i wr => ∃ k : Nat, k ≤ ms.length ∧ i = .int .i64 k ∧ From w wr) (fun i _ => ms.length - (intOf i).toNat)
  case atStart => exact ⟨0, Nat.zero_le _, rfl, From.refl _⟩
  case round =>
    obtain ⟨k, hk, rfl, hbw⟩ := hrel
    by_cases hlt : k < ms.length
    · have z3 : decide ((k : Int) < (ms.length : Int)) = true := decide_eq_true (by omega)
      have z1 : (k : Int) < (ms.length : Int) := by omega
      have z2 : (0 : Int) ≤ (k : Int) := by omega
      have hpk := HP.out ms[k] (List.getElem_mem hlt)
      obtain ⟨b, off, AP, cP, rfl, _, hBP, a0, a1, a2, a3, a4, a5, a6, a7⟩ := (HA.out.from hbw).at_ hlt
      obtain ⟨b', off', AQ, cQ, rfl, _, hBQ, b0, b1, b2, b3, b4, b5, b6, b7⟩ := (HB.out.from hbw).at_ hlt
      have HS := bx (fun (W : World) (kk : From wr W) => same29_calls ms[k] AP AQ cP cQ W (hBP.from kk) (hBQ.from kk) hpk)
      clear hBP hBQ
      generalize ms[k] = m at *
      obtain ⟨mp, ml, mh, mn, mo, me, mps, mr⟩ := m
      simp only at a0 a1 a2 a3 a4 a5 a6 a7 b0 b1 b2 b3 b4 b5 b6 b7
      go_wp2_with fail
      refine region_cut (fun q0 a' w' => ∃ (x17 x18 x19 x20 x21 x22 x23 x24 x25 : Value), a' = puts q0 [(17, x17), (18, x18), (19, x19), (20, x20), (21, x21), (22, x22), (23, x23), (24, x24), (25, x25), (26, .bool false)] ∧ From wr w') (fun K' HKK => ?_) ?_
      · go_region_with (go_at_call 60; refine (HS.out _ (by first | exact From.refl _ | exact From.drew (From.refl _))).mono ?_; rintro e w3 ⟨rfl, k3⟩; have hkeep : From wr w3 := (by first | exact k3 | exact From.trans (From.drew (From.refl _)) k3))
        all_goals
          exact HKK.out _ _ ⟨_, _, _, _, _, _, _, _, _, (by simp only [puts, Act.put, List.setIfInBounds_toArray, List.set_cons_zero, List.set_cons_succ]; rfl), hkeep⟩
      rintro a' w4 ⟨x17, x18, x19, x20, x21, x22, x23, x24, x25, rfl, k4⟩
      clear a0 a1 a2 a3 a4 a5 a6 a7 b0 b1 b2 b3 b4 b5 b6 b7
      have hf4 := hbw.trans k4
      simp only [puts, Act.put, List.setIfInBounds_toArray, List.set_cons_zero, List.set_cons_succ]
      go_wp2_with fail
      exact ⟨⟨k + 1, by omega, by go_num, hf4⟩, by simp [intOf]; omega⟩
    · have z3 : decide ((k : Int) < (ms.length : Int)) = false := decide_eq_false (by omega)
      go_wp2
      go_ret
      exact ⟨rfl, hbw⟩
/-- lists of monitors: parts, appended -/
theorem Mons.take {w : World} {A : Option Addr} {n c : Nat} {ms : List Mon} (h : Mons w (.slice A n c) ms) (k : Nat) (hk : k ≤ ms.length) (c' : Nat) (hc : A = none → c' = 0) : Mons w (.slice A k c') (ms.take k) := by
  obtain ⟨ps, h1, h2, h3⟩ := h.out
  refine ⟨ps.take k, by rw [List.map_take, h1], ?_, fun a ha => h3 a (List.mem_of_mem_take ha)⟩
  have hl : (ms.take k).length = k := by rw [List.length_take]; omega
  rw [hl]
  rcases h2.out with ⟨e, e2, e3⟩ | ⟨a, c0, e, hc0⟩
  · injection e with e1 _ _
    subst e1
    have hk0 : k = 0 := by omega
    subst hk0
    rw [hc rfl]
    exact ⟨.inl ⟨rfl, rfl, rfl⟩⟩
  · injection e with e1 _ _
    subst e1
    refine ⟨.inr ⟨a, c', rfl, fun j u hj => hc0 j u ?_⟩⟩
    have : mlc ps = mlc (ps.take k) ++ mlc (ps.drop k) := by rw [← mlc_append, List.take_append_drop]
    rw [this, List.getElem?_append_left (List.getElem?_eq_some_iff.1 hj).1]
    exact hj
theorem Mons.drop {w : World} {b off n c : Nat} {ms : List Mon} (h : Mons w (.slice (some ⟨b, off, none⟩) n c) ms) (k : Nat) (hk : k ≤ ms.length) (c' : Nat) : Mons w (.slice (some ⟨b, off + k * 8, none⟩) (ms.length - k) c') (ms.drop k) := by
  obtain ⟨ps, h1, h2, h3⟩ := h.out
  have hpl : k ≤ ps.length := by rw [← h1] at hk; simpa using hk
  refine ⟨ps.drop k, by rw [List.map_drop, h1], ?_, fun a ha => h3 a (List.mem_of_mem_drop ha)⟩
  rw [List.length_drop]
  rcases h2.out with ⟨e, e2, e3⟩ | ⟨a, c0, e, hc0⟩
  · injection e with e1 _ _
    cases e1
  · injection e with e1 _ _
    injection e1 with e1
    subst e1
    refine ⟨.inr ⟨_, _, rfl, fun j u hj => ?_⟩⟩
    have hs : mlc ps = mlc (ps.take k) ++ mlc (ps.drop k) := by rw [← mlc_append, List.take_append_drop]
    have hl : (mlc (ps.take k)).length = k * 8 := by rw [mlc_len, List.length_take]; congr 1; omega
    have hj' : (mlc ps)[k * 8 + j]? = some u := by
      rw [hs, List.getElem?_append_right (by omega), hl]
      rw [show k * 8 + j - k * 8 = j by omega]
      exact hj
    obtain ⟨b', off', e2, e3, e4⟩ := hc0 _ u hj'
    injection e2 with e5 e6 _
    subst e5 e6
    exact ⟨_, _, rfl, e3, by rw [Nat.add_assoc]; exact e4⟩
theorem Mons.none (w : World) (a : Option Addr) (c : Nat) (hc : a = Option.none → c = 0) : Mons w (.slice a 0 c) [] := by
  refine ⟨[], rfl, ?_, fun x hx => by cases hx⟩
  cases a with
  | none => rw [hc rfl]; exact Sl.nil _ _
  | some a => exact ⟨.inr ⟨_, _, rfl, fun j u hj => by simp [mlc] at hj⟩⟩
theorem cells_ones {w : World} {ps : List MV} (h : ∀ a ∈ ps, Bools w a.2 a.1.past) : ∀ u ∈ mlc ps, u.oneCell' = true :=
  mlc_one ps fun a ha => by
    obtain ⟨A, c, e⟩ := (h a ha).form
    rw [e]
    rfl
end Go.Proofs.Ytlogokjjphlkkaa
