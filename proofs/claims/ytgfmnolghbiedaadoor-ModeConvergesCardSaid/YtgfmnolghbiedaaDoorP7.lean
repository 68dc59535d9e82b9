/-
  Walks of layer 31: the closure of mode.React.
-/
import Derived.Test.YtgfmnolghbiedaaDoorP6
namespace Go.Proofs.YtgfmnolghbiedaaDoor
open Go.RowKit Go.Shelf

/-- the state of React's loop over the units of an explanation -/
structure RS where
  lev : Int
  bud : Int
  us : UL
  sw : List Int
def stops (s : RS) (u : Int) : Prop := s.us.length ≤ u.toNat ∨ s.bud = 0 ∨ (s.us.getD u.toNat (0, 0)).1 + 1 = (s.us.getD u.toNat (0, 0)).2
instance (s : RS) (u : Int) : Decidable (stops s u) := by unfold stops; infer_instance
def stepR (s : RS) (u : Int) : RS :=
  if stops s u then { s with lev := 2 } else { s with bud := s.bud - 1, us := s.us.set u.toNat ((s.us.getD u.toNat (0, 0)).1 + 1, (s.us.getD u.toNat (0, 0)).2), sw := s.sw ++ [u] }
def GoodU (l : UL) : Prop := ∀ u ∈ l, 0 ≤ u.1 ∧ u.1 < u.2 ∧ u.2 ≤ 9
/-- the closure's two answers -/
def R1Post (B g : Nat) (w : World) (s : RS) (u : Int) (e : Ending) (w' : World) : Prop :=
  (stops s u → e = .returned (.bool false) ∧ ∃ q, w' = (w.drewN q).setCell ⟨B, 0, none⟩ (.int .i64 2)) ∧
  (¬ stops s u → e = .returned (.bool true) ∧ ∃ q, w' = ((w.drewN q).setCell ⟨g, u.toNat * 2, none⟩ (.int .i64 ((s.us.getD u.toNat (0, 0)).1 + 1))).setCell ⟨B, 1, none⟩ (.int .i64 (s.bud - 1)))
set_option maxHeartbeats 1600000 in
theorem react1 (B g : Nat) (c : Nat) (s : RS) (u : Int) (A : Option Addr) (w : World) (hgB : g ≠ B) (h4 : w.heap[B]? = some (.cells #[.int .i64 s.lev, .int .i64 s.bud, .slice A s.us.length c] 24 (0, 0)))
    (hc : ∀ k (hk : k < s.us.length), A = some ⟨g, 0, none⟩ ∧ w.cell? ⟨g, k * 2, none⟩ = some (.int .i64 s.us[k].1) ∧ w.cell? ⟨g, k * 2 + 1, none⟩ = some (.int .i64 s.us[k].2) ∧ w.frozen? ⟨g, k * 2, none⟩ = false)
    (hu0 : 0 ≤ u) (hu1 : u ≤ 1000) (hn : s.us.length ≤ 8796093022208) (hb0 : 0 ≤ s.bud) (hb1 : s.bud ≤ 9223372036854775807) (hg : GoodU s.us) :
    Calls Tryd.prog 41 #[.int .i64 u, .pointer (some ⟨B, 0, none⟩)] w (R1Post B g w s u) := by
  have q0 : w.cell? ⟨B, 0, none⟩ = some (.int .i64 s.lev) := by rw [cell_of_row _ _ _ _ _ _ h4]; rfl
  have q1 : w.cell? ⟨B, 1, none⟩ = some (.int .i64 s.bud) := by rw [cell_of_row _ _ _ _ _ _ h4]; rfl
  have q2 : w.cell? ⟨B, 2, none⟩ = some (.slice A s.us.length c) := by rw [cell_of_row _ _ _ _ _ _ h4]; rfl
  have f0 : w.frozen? ⟨B, 0, none⟩ = false := by simp [World.frozen?, h4]
  have f1 : w.frozen? ⟨B, 1, none⟩ = false := by simp [World.frozen?, h4]
  clear h4
  obtain ⟨lev, bud, us, sw⟩ := s
  simp only at *
  obtain ⟨k, rfl⟩ : ∃ k : Nat, u = k := ⟨u.toNat, by omega⟩
  by_cases h1 : us.length ≤ k
  · have HS := bx (show stops ⟨lev, bud, us, sw⟩ (k : Int) from .inl (by simpa using h1))
    have z1 : (us.length : Int) ≤ (k : Int) := by omega
    clear hc hg
    go_enter Tryd.func41, Tryd.ntmps41
    go_wp2_with fail
    go_quiet (fail)
    go_wp2
    go_ret
    exact ⟨fun _ => ⟨rfl, _, rfl⟩, fun h => absurd HS.out h⟩
  have z1 : ¬ (us.length : Int) ≤ (k : Int) := by omega
  by_cases h2 : bud = 0
  · have HS := bx (show stops ⟨lev, bud, us, sw⟩ (k : Int) from .inr (.inl h2))
    subst h2
    clear hc hg
    go_enter Tryd.func41, Tryd.ntmps41
    go_wp2_with fail
    go_quiet (fail)
    go_wp2
    go_ret
    exact ⟨fun _ => ⟨rfl, _, rfl⟩, fun h => absurd HS.out h⟩
  have hk : k < us.length := by omega
  obtain ⟨rfl, c1, c2, fz⟩ := hc k hk
  obtain ⟨ga, gb, gc⟩ := hg us[k] (List.getElem_mem hk)
  have hd : us.getD ((k : Int).toNat) (0, 0) = us[k] := by simp [List.getD_eq_getElem?_getD, List.getElem?_eq_getElem hk]
  have HD := bx hd
  have hfw : ∀ q x, ((w.drewN q).setCell ⟨g, k * 2, none⟩ x).cell? ⟨B, 1, none⟩ = some (.int .i64 bud) := fun q x => by
    exact (World.cell?_setCell_far (w.drewN q) ⟨g, k * 2, none⟩ ⟨B, 1, none⟩ x hgB).trans ((show (w.drewN q).cell? ⟨B, 1, none⟩ = w.cell? ⟨B, 1, none⟩ by simp).trans q1)
  have HST := bx (show (us[k].1 + 1 = us[k].2) → stops ⟨lev, bud, us, sw⟩ (k : Int) from fun h => .inr (.inr (by rw [hd]; exact h)))
  have HGO := bx (show (¬ us[k].1 + 1 = us[k].2) → ¬ stops ⟨lev, bud, us, sw⟩ (k : Int) from fun h h' => by
    rcases h' with h' | h' | h'
    · exact h1 (by simpa using h')
    · exact h2 h'
    · exact h (by rw [hd] at h'; exact h'))
  generalize us[k] = u at *
  obtain ⟨a, cp⟩ := u
  simp only at *
  have z2 : (k : Int) < (us.length : Int) := by omega
  have z3 : (0 : Int) ≤ (k : Int) := by omega
  have ew : IntKind.i64.wrap (a + 1) = a + 1 := IntWalk.i64_in _ (by omega)
  have t2 : (bud == 0) = false := by simp [h2]
  clear hc hg hd
  by_cases h3 : a + 1 = cp
  · have HS := bx (HST.out h3)
    obtain rfl : cp = a + 1 := h3.symm
    have t1 : (a + 1 == a + 1) = true := by simp
    clear h3
    go_enter Tryd.func41, Tryd.ntmps41
    go_wp2_with fail
    go_quiet (fail)
    go_wp2
    go_ret
    exact ⟨fun _ => ⟨rfl, _, rfl⟩, fun h => absurd HS.out h⟩
  · have HS := bx (HGO.out h3)
    have t1 : (a + 1 == cp) = false := by simp [h3]
    clear h3
    go_enter Tryd.func41, Tryd.ntmps41
    go_wp2_with fail
    go_quiet (fail)
    go_wp2
    go_ret
    exact ⟨fun h => absurd h HS.out, fun _ => ⟨rfl, _, by rw [HD.out]; rfl⟩⟩
end Go.Proofs.YtgfmnolghbiedaaDoor
