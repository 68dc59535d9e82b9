/-
  Walks: slices.Compact of numbers, in place.
-/
import Derived.Test.YtlogokjjphlkkaaW9
namespace Go.Proofs.Ytlogokjjphlkkaa
open Go.RowKit Go.Shelf

/-- what Compact leaves: the row of the slice is turned, its first elements are r -/
def CompPost (blk off cap : Nat) (d : Array Int) (r : List Int) (w : World) (e : Ending) (w' : World) : Prop :=
  e = .returned (.slice (some ⟨blk, off, none⟩) r.length cap) ∧ ∃ (n : Nat) (d' : Array Int), w' = Sort.putRow (Value.int .i64) (Sort.ahead w n) blk off d' ∧ d'.size = d.size ∧ ∀ t, t < r.length → d'[t]? = r[t]?
theorem put_zeros (w : World) (blk off : Nat) : ∀ (m k : Nat) (d : Array Int), k + m ≤ d.size → ∃ d' : Array Int, (Sort.putRow (Value.int .i64) w blk off d).setCells blk (off + k) (List.replicate m (.int .i64 0)) = Sort.putRow (Value.int .i64) w blk off d' ∧ d'.size = d.size ∧ ∀ t, t < k → d'[t]? = d[t]?
  | 0, k, d, _ => ⟨d, rfl, rfl, fun _ _ => rfl⟩
  | m + 1, k, d, h => by
    obtain ⟨d', h1, h2, h3⟩ := put_zeros w blk off m (k + 1) (d.setIfInBounds k 0) (by simp; omega)
    refine ⟨d', ?_, by simpa using h2, fun t ht => ?_⟩
    · rw [List.replicate_succ, World.setCells, Sort.putRow_set _ _ _ _ _ _ _ (by omega), Nat.add_assoc]
      exact h1
    · rw [h3 t (by omega), Array.getElem?_setIfInBounds, if_neg (by omega)]
/-- the head of the inner loop: the first k + j elements are compacted, the rest stands from place k + j - 1 on -/
structure CompIn (w : World) (blk off : Nat) (d : Array Int) (l : List Int) (k p j : Nat) (wr : World) : Prop where
  j1 : 1 ≤ j
  jn : j ≤ d.size - k
  len : p = (adj (l.take (k + j))).length
  le : p ≤ k + j - 1
  row : ∃ (m : Nat) (dj : Array Int), dj.size = d.size ∧ (∀ t, t < p → dj[t]? = (adj (l.take (k + j)))[t]?) ∧ (∀ t, k + j - 1 ≤ t → dj[t]! = d[t]!) ∧ wr = Sort.putRow (Value.int .i64) (Sort.ahead w m) blk off dj
set_option maxHeartbeats 1000000 in
theorem compact_calls (blk off cap : Nat) (d : Array Int) (w : World) (hH : Sort.Holds (Value.int .i64) w blk off d) (hc : d.size ≤ cap) (hcm : cap ≤ 9223372036854775807) :
    Calls Try.prog 111 #[.slice (some ⟨blk, off, none⟩) d.size cap] w (CompPost blk off cap d (adj d.toList) w) := by
  by_cases h2 : d.size < 2
  · have hr : adj d.toList = d.toList := adj_one _ (by simpa using h2)
    have HR := bx hr
    have HH := bx hH
    clear hr hH
    go_enter Try.func111, Try.ntmps111
    go_wp2
    go_ret
    exact ⟨ret_slice (by rw [HR.out]; simp), 0, d, (Sort.putRow_self _ _ _ _ _ HH.out).symm, rfl, fun t _ => by rw [HR.out]; simp⟩
  · obtain ⟨l, hl⟩ : ∃ l, d.toList = l := ⟨_, rfl⟩
    have hls : l.length = d.size := by rw [← hl]; simp
    obtain ⟨G, hG⟩ : ∃ G : Nat → Int, ∀ t, G t = d[t]! := ⟨fun t => d[t]!, fun _ => rfl⟩
    have hGl : ∀ t (ht : t < l.length), G t = l[t] := fun t ht => by subst hl; rw [hG]; simp at ht; simp [ht]
    have HL := bx hl
    have HGL := bx hGl
    have HH := bx hH
    have HG := bx hG
    rw [hl]
    have hcells : ∀ m, ∀ t, t < d.size → (Sort.putRow (Value.int .i64) (Sort.ahead w m) blk off d).cell? ⟨blk, off + t, none⟩ = some (.int .i64 (G t)) := fun m t ht => by
      rw [hG]; exact Sort.cell?_putRow _ _ _ _ d d (Sort.holds_ahead _ _ _ _ _ _ hH) rfl t ht
    have HC := bx hcells
    clear hl hGl hH hG hcells
    go_enter Try.func111, Try.ntmps111
    go_wp2
    go_loopw [3, 4, 5] (fun vk _ _ wr => ∃ (k m : Nat), vk = .int .i64 k ∧ 1 ≤ k ∧ k ≤ d.size ∧ adj (l.take k) = l.take k ∧ wr = Sort.putRow (Value.int .i64) (Sort.ahead w m) blk off d) (fun vk _ _ _ => d.size - (intOf vk).toNat)
    case atStart => exact ⟨1, 0, rfl, Nat.le_refl _, by omega, adj_one _ (by simp; omega), (Sort.putRow_self _ _ _ _ _ HH.out).symm⟩
    case round =>
      obtain ⟨k, m, rfl, hk1, hkn, hadj, hwr⟩ := hrel
      have HW := bx hwr
      have HA := bx hadj
      clear hadj hwr
      by_cases hlt : k < d.size
      · have c1 : wr.cell? ⟨blk, off + k, none⟩ = some (.int .i64 (G k)) := by rw [HW.out]; exact HC.out m k hlt
        have c2 : wr.cell? ⟨blk, off + (k - 1), none⟩ = some (.int .i64 (G (k - 1))) := by rw [HW.out]; exact HC.out m (k - 1) (by omega)
        have hS := adj_succ l k (by omega) (by omega)
        rw [← HGL.out, ← HGL.out] at hS
        have HS := bx hS
        clear hS
        by_cases he : G (k - 1) = G k
        · have t0 : (G k == G (k - 1)) = true := by simp [he]
          have HE := bx he
          have hck : ¬ cap = k := by omega
          clear he
          go_wp2_with fail
          go_quiet (fail)
          go_wp2_with fail
          have hst : adj (l.take (k + 1)) = l.take k := by rw [HS.out, if_pos HE.out, HA.out]
          have HST := bx hst
          clear hst c1 c2 t0
          go_loopw [3, 5] (fun vp vj wr2 => ∃ (p j : Nat), vp = .int .i64 p ∧ vj = .int .i64 j ∧ CompIn w blk off d l k p j wr2) (fun _ vj _ => d.size - k - (intOf vj).toNat)
          case atStart =>
            exact ⟨k, 1, rfl, rfl, ⟨Nat.le_refl _, by omega, by rw [HST.out, List.length_take]; omega, by omega, m + nq, d, rfl, fun t ht => by
              rw [HST.out, ← HL.out, List.getElem?_take, if_pos ht]; simp, fun _ _ => rfl, by rw [HW.out, putRow_drewN]⟩⟩
          case round =>
            obtain ⟨p, j, rfl, rfl, hin⟩ := hrel
            obtain ⟨hj1, hjn, hlen, hle, m2, dj, hsj, hpre, hpost, hw2⟩ := hin
            have HLEN := bx hlen
            have HPRE := bx hpre
            have HPOST := bx hpost
            have HW2 := bx hw2
            have hcw : ∀ t, t < d.size → wr.cell? ⟨blk, off + t, none⟩ = some (.int .i64 dj[t]!) := fun t ht => by
              rw [hw2]; exact Sort.cell?_putRow _ _ _ _ d dj (Sort.holds_ahead _ _ _ _ _ _ HH.out) hsj t (by omega)
            have hfw : ∀ t, t < d.size → wr.frozen? ⟨blk, off + t, none⟩ = false := fun t ht => by
              rw [hw2, Sort.frozen?_putRow]; exact ((Sort.holds_ahead _ _ m2 _ _ _ HH.out) t ht).2
            have HCW := bx hcw
            have HFW := bx hfw
            clear hlen hpre hpost hw2 hcw hfw
            by_cases hjl : j < d.size - k
            · have c1 : wr.cell? ⟨blk, off + k + j, none⟩ = some (.int .i64 (G (k + j))) := by rw [Nat.add_assoc, HCW.out _ (by omega), HPOST.out _ (by omega), HG.out]
              have c2 : wr.cell? ⟨blk, off + k + (j - 1), none⟩ = some (.int .i64 (G (k + j - 1))) := by rw [show off + k + (j - 1) = off + (k + j - 1) by omega, HCW.out _ (by omega), HPOST.out _ (by omega), HG.out]
              have hS := adj_succ l (k + j) (by omega) (by omega)
              rw [← HGL.out, ← HGL.out] at hS
              have HS2 := bx hS
              have z1 : (j : Int) < ((d.size - k : Nat) : Int) := by omega
              clear hS
              by_cases he : G (k + j - 1) = G (k + j)
              · have t0 : (G (k + j) != G (k + j - 1)) = false := by simp [he]
                have HE2 := bx he
                clear he
                go_wp2_with fail
                go_quiet (fail)
                go_wp2
                go_roundw
                case rel => exact ⟨p, j + 1, rfl, by go_num, ⟨by omega, by omega, by rw [← Nat.add_assoc, HS2.out, if_pos HE2.out]; exact HLEN.out, by omega, m2 + nq, dj, hsj, by rw [← Nat.add_assoc, HS2.out, if_pos HE2.out]; exact HPRE.out, fun t ht => HPOST.out t (by omega), by rw [HW2.out, putRow_drewN]⟩⟩
                case measure => simp [intOf]; omega
              · have t0 : (G (k + j) != G (k + j - 1)) = true := by simp; omega
                have HE2 := bx he
                have c3 := HCW.out p (by omega)
                have f3 := HFW.out p (by omega)
                have z2 : (p : Int) < (d.size : Int) := by omega
                clear he
                generalize dj[p]! = old at *
                go_wp2_with fail
                go_quiet (fail)
                go_wp2
                go_roundw
                case rel =>
                  refine ⟨p + 1, j + 1, by go_num, by go_num, ⟨by omega, by omega, by rw [← Nat.add_assoc, HS2.out, if_neg HE2.out, List.length_append, ← HLEN.out]; rfl, by omega, m2 + nq, dj.setIfInBounds p (G (k + j)), by simpa using hsj, fun t ht => ?_, fun t ht => ?_, ?_⟩⟩
                  · rw [← Nat.add_assoc, HS2.out, if_neg HE2.out, Array.getElem?_setIfInBounds]
                    by_cases htp : p = t
                    · subst htp
                      rw [if_pos rfl, if_pos (by omega)]
                      have := HLEN.out
                      rw [List.getElem?_append_right (by omega)]
                      rw [← this, Nat.sub_self, HGL.out _ (by omega)]
                      rfl
                    · rw [if_neg htp, HPRE.out t (by omega), List.getElem?_append_left (by have := HLEN.out; omega)]
                  · have := Sort.getElem!_set_other dj p t (G (k + j)) (by omega)
                    rw [this]
                    exact HPOST.out t (by omega)
                  · rw [HW2.out, putRow_drewN]
                    exact Sort.putRow_set (Value.int .i64) _ _ _ _ _ _ (by omega)
                case measure => simp [intOf]; omega
            · obtain rfl : j = d.size - k := by omega
              have hkn2 : k + (d.size - k) = l.length := by omega
              have hfull : l.take (k + (d.size - k)) = l := List.take_of_length_le (by omega)
              have hp : p = (adj l).length := by rw [HLEN.out, hfull]
              have HP := bx hp
              have HFULL := bx hfull
              have hpn : p < d.size := by omega
              have hpc : ¬ cap = p := by omega
              have z1 : ¬ (((d.size - k : Nat) : Int) < ((d.size - k : Nat) : Int)) := by omega
              have hcl := Lib.run_clear_slice (P := Try.prog) wr 22 3 0 (.int .i64 0) Try.underlying22 (fun _ => by kernel_rfl) rfl rfl blk (off + p) (d.size - p) (cap - p) (by omega)
                (fun j hj => by rw [show off + p + j = off + (p + j) by omega, HCW.out (p + j) (by omega)]; rfl) (fun j hj => by rw [show off + p + j = off + (p + j) by omega]; exact HFW.out (p + j) (by omega))
              obtain ⟨d2, hz1, hz2, hz3⟩ := put_zeros (Sort.ahead w m2) blk off (d.size - p) p dj (by omega)
              rw [← HW2.out] at hz1
              rw [hz1] at hcl
              clear hp hfull hz1
              go_wp2
              go_ret
              exact ⟨ret_slice HP.out, m2, d2, rfl, by omega, fun t ht => by
                rw [hz3 t (by rw [HP.out]; exact ht), HPRE.out t (by rw [HP.out]; exact ht), HFULL.out]⟩
        · have t0 : (G k == G (k - 1)) = false := by simp; omega
          have HE := bx he
          clear he
          go_wp2_with fail
          go_quiet (fail)
          go_wp2
          go_roundw
          case rel => exact ⟨k + 1, m + nq, by go_num, by omega, by omega, by rw [HS.out, if_neg HE.out, HA.out, List.take_succ_eq_append_getElem (by omega), HGL.out], by rw [HW.out, putRow_drewN]⟩
          case measure => simp [intOf]; omega
      · obtain rfl : k = d.size := by omega
        have hr : adj l = l := by have := HA.out; rwa [List.take_of_length_le (by omega)] at this
        have HR := bx hr
        clear hr
        go_wp2
        go_ret
        exact ⟨ret_slice (by rw [HR.out, hls]), m, d, HW.out, rfl, fun t _ => by rw [HR.out, ← HL.out]; simp⟩
end Go.Proofs.Ytlogokjjphlkkaa
