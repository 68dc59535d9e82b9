/-
  Walks of layer 31: mode.filter at React's closure.
-/
import Derived.Test.YtgfmnolghbiedaaDoorP8
namespace Go.Proofs.YtgfmnolghbiedaaDoor
open Go.RowKit Go.Shelf

/-- what filter keeps between two rounds -/
def FilAt (B baseU : Nat) (A : Option Addr) (c : Nat) (s0 : RS) (l : List Int) (wF : World) (v i : Value) (wr : World) : Prop :=
  ∃ k : Nat, k ≤ l.length ∧ i = .int .i64 k ∧ wr.heap[B]? = some (.cells #[.int .i64 (runR s0 (l.take k)).lev, .int .i64 (runR s0 (l.take k)).bud, .slice A s0.us.length c] 24 (0, 0)) ∧
    wr.ownsRow baseU 44 2 (.slice A s0.us.length c) s0.us.length (uc (runR s0 (l.take k)).us) ∧ wr.ownsRow wF.heap.size 3 1 v (runR s0 (l.take k)).sw.length (ic (runR s0 (l.take k)).sw) ∧ Agree B baseU wF wr
/-- what filter answers -/
def FilPost (B baseU : Nat) (A : Option Addr) (c : Nat) (s0 : RS) (l : List Int) (wF : World) (e : Ending) (w' : World) : Prop :=
  ∃ A' c', e = .returned (.slice A' (runR s0 l).sw.length c') ∧ FilAt B baseU A c s0 l wF (.slice A' (runR s0 l).sw.length c') (.int .i64 l.length) w'
theorem own_frozen {W : World} {B : Nat} {s : RS} {A : Option Addr} {n c : Nat} (h : W.heap[B]? = some (.cells #[.int .i64 s.lev, .int .i64 s.bud, .slice A n c] 24 (0, 0))) : B < W.heap.size := (Array.getElem?_eq_some_iff.1 h).1
theorem own_drewN {W : World} {base size n : Nat} {e : TypeId} {v : Value} {xs : List Value} (h : W.ownsRow base e size v n xs) (q : Nat) : (W.drewN q).ownsRow base e size v n xs :=
  h.kept (grown_of_below (below_drewN (Below.refl _ _) q) none) (by cases v.ownBlock <;> simp)
theorem heap_set_at {W : World} {B : Nat} {cs : Array Value} {t : TypeId} (h : W.heap[B]? = some (.cells cs t (0, 0))) (i : Nat) (v : Value) : (W.setCell ⟨B, i, none⟩ v).heap[B]? = some (.cells (cs.setIfInBounds i v) t (0, 0)) := by
  simp only [World.setCell, Array.getElem?_modify]
  simp [h]
theorem heap_drewN (W : World) (q B : Nat) : (W.drewN q).heap[B]? = W.heap[B]? := by rw [show (W.drewN q).heap = W.heap by simp]
set_option maxHeartbeats 1600000 in
theorem filter_calls (B baseU : Nat) (A : Option Addr) (c : Nat) (s0 : RS) (AL : Option Addr) (cL : Nat) (l : List Int) (wF : World) (hsw : s0.sw = [])
    (h4 : wF.heap[B]? = some (.cells #[.int .i64 s0.lev, .int .i64 s0.bud, .slice A s0.us.length c] 24 (0, 0))) (hU : wF.ownsRow baseU 44 2 (.slice A s0.us.length c) s0.us.length (uc s0.us))
    (hBU : B < baseU) (hbU : baseU ≤ wF.heap.size) (hl : ∀ k (hk : k < l.length), ∃ b off, AL = some ⟨b, off, none⟩ ∧ b ≠ B ∧ b < baseU ∧ wF.cell? ⟨b, off + k, none⟩ = some (.int .i64 l[k])) (hlx : ∀ x ∈ l, 0 ≤ x ∧ x ≤ 1000) (hll : l.length ≤ 1000)
    (hn : s0.us.length ≤ 8796093022208) (hb0 : 0 ≤ s0.bud) (hb1 : s0.bud ≤ 9223372036854775807) (hg : GoodU s0.us) :
    Calls Tryd.prog 40 #[.slice AL l.length cL, .func (.func 41) #[] #[.pointer (some ⟨B, 0, none⟩)]] wF (FilPost B baseU A c s0 l wF) := by
  obtain ⟨i0, hi, hz0, hz1, hz2⟩ := info_parts Tryd.infoInt
  have HU := bx hU
  have HG := bx hg
  have HLX := bx hlx
  have HSW := bx hsw
  clear hU hg hlx hsw
  go_enter Tryd.func40, Tryd.ntmps40
  go_wp2
  go_loopw [5, 7, 10] (fun v _ i wr => FilAt B baseU A c s0 l wF v i wr) (fun _ _ i _ => l.length - (intOf i).toNat)
  case atStart => exact ⟨0, Nat.zero_le _, rfl, h4, HU.out, by show wF.ownsRow _ _ _ _ s0.sw.length (ic s0.sw); rw [HSW.out]; exact World.ownsRow_nil _ _ _ _, Agree.refl _ _ _⟩
  case round =>
    obtain ⟨k, hk, rfl, hB, hU, hF, hA⟩ := hrel
    by_cases hlt : k < l.length
    · obtain ⟨b, off, rfl, hb1', hb2', g1⟩ := hl k hlt
      have hx := HLX.out l[k] (List.getElem_mem hlt)
      have Hs := bx (show runR s0 (l.take (k + 1)) = stepR (runR s0 (l.take k)) l[k] by rw [List.take_succ_eq_append_getElem hlt, runR_snoc])
      have g2 : wr.cell? ⟨b, off + k, none⟩ = some (.int .i64 l[k]) := (World.cell?_of_block (a := ⟨b, off + k, none⟩) (hA.block b hb2' hb1')).trans g1
      clear g1
      generalize l[k] = u at *
      have hsl := runR_sw s0 (l.take k)
      rw [HSW.out, List.length_take] at hsl
      have hlen := runR_len s0 (l.take k)
      have hgood := bx (runR_good (l.take k) HG.out)
      obtain ⟨d0, d1⟩ := runR_bud (s := s0) (l.take k) hb0
      obtain ⟨s, hs⟩ : ∃ s, runR s0 (l.take k) = s := ⟨_, rfl⟩
      rw [hs] at hB hU hF hsl hlen hgood d0 d1
      rw [hs] at Hs
      have hHs := bx hs
      clear hs
      obtain ⟨g, hgb, hcells⟩ := own_units hU
      have HB := bx hB
      have HU2 := bx hU
      have HF2 := bx hF
      have HA2 := bx hA
      have hBlt := own_frozen hB
      have hszA := hA.size
      simp only [List.length_nil] at hsl
      have HR := bx (react1 B g c s u A wr (by omega) (by rw [hlen]; exact hB) hcells hx.1 hx.2 (by omega) d0 (by omega) hgood.out)
      have HC := bx hcells
      clear hB hU hF hA hcells
      go_wp2_with fail
      refine HR.out.mono ?_
      rintro e w1 ⟨h1, h2⟩
      by_cases hst : stops s u
      · obtain ⟨rfl, q, rfl⟩ := h1 hst
        have Hs2 := bx (show runR s0 (l.take (k + 1)) = { s with lev := 2 } by rw [Hs.out, stepR, if_pos hst])
        clear h1 h2
        go_wp2
        go_roundw
        case rel =>
          refine ⟨k + 1, by omega, by go_num, ?_, ?_, ?_, ?_⟩
          · rw [Hs2.out]; exact heap_set_at ((heap_drewN wr q B).trans HB.out) 0 _
          · rw [Hs2.out]; exact own_setCell (own_drewN HU2.out q) (by show B < _; omega) _
          · rw [Hs2.out]; exact own_setCell (own_drewN HF2.out q) (by show B < _; omega) _
          · exact (HA2.out.drewN q).set (.inl rfl) _
        case measure => simp [intOf]; omega
      · obtain ⟨rfl, q, rfl⟩ := h2 hst
        have hk2 : u.toNat < s.us.length := by
          by_cases hk2 : u.toNat < s.us.length
          · exact hk2
          · exact absurd (.inl (by omega)) hst
        have hd : s.us.getD u.toNat (0, 0) = s.us[u.toNat] := by simp [List.getD_eq_getElem?_getD, List.getElem?_eq_getElem hk2]
        have Hs2 := bx (show runR s0 (l.take (k + 1)) = { s with bud := s.bud - 1, us := s.us.set u.toNat (s.us[u.toNat].1 + 1, s.us[u.toNat].2), sw := s.sw ++ [u] } by rw [Hs.out, stepR, if_neg hst, hd])
        have hA0 : A = some ⟨g, 0, none⟩ := (HC.out u.toNat hk2).1
        subst hA0
        have hgF : g < wF.heap.size := (HU.out.lt g rfl).2
        have hU3 := put_units (own_drewN HU2.out q) hk2 (s.us[u.toNat].1 + 1)
        have F1 : (((wr.drewN q).setCell ⟨g, u.toNat * 2, none⟩ (.int .i64 ((s.us.getD u.toNat (0, 0)).1 + 1))).setCell ⟨B, 1, none⟩ (.int .i64 (s.bud - 1))).heap[B]? = some (.cells #[.int .i64 s.lev, .int .i64 (s.bud - 1), .slice (some ⟨g, 0, none⟩) s0.us.length c] 24 (0, 0)) :=
          heap_set_at ((Below.heap_setCell _ _ _ _ (by show B ≠ g; omega)).trans ((heap_drewN wr q B).trans HB.out)) 1 _
        have F2 : (((wr.drewN q).setCell ⟨g, u.toNat * 2, none⟩ (.int .i64 ((s.us.getD u.toNat (0, 0)).1 + 1))).setCell ⟨B, 1, none⟩ (.int .i64 (s.bud - 1))).ownsRow baseU 44 2 (.slice (some ⟨g, 0, none⟩) s0.us.length c) s0.us.length (uc (s.us.set u.toNat (s.us[u.toNat].1 + 1, s.us[u.toNat].2))) := by
          rw [hd]; exact own_setCell hU3 (by show B < _; omega) _
        have F3 : (((wr.drewN q).setCell ⟨g, u.toNat * 2, none⟩ (.int .i64 ((s.us.getD u.toNat (0, 0)).1 + 1))).setCell ⟨B, 1, none⟩ (.int .i64 (s.bud - 1))).ownsRow wF.heap.size 3 1 u5 s.sw.length (ic s.sw) :=
          own_setCell (own_setCell (own_drewN HF2.out q) (by show g < _; omega) _) (by show B < _; omega) _
        have F4 : Agree B baseU wF (((wr.drewN q).setCell ⟨g, u.toNat * 2, none⟩ (.int .i64 ((s.us.getD u.toNat (0, 0)).1 + 1))).setCell ⟨B, 1, none⟩ (.int .i64 (s.bud - 1))) :=
          ((HA2.out.drewN q).set (p := ⟨g, u.toNat * 2, none⟩) (.inr hgb) _).set (p := ⟨B, 1, none⟩) (.inl rfl) _
        generalize ((wr.drewN q).setCell ⟨g, u.toNat * 2, none⟩ (.int .i64 ((s.us.getD u.toNat (0, 0)).1 + 1))).setCell ⟨B, 1, none⟩ (.int .i64 (s.bud - 1)) = w1 at *
        have G1 := bx F1
        have G2 := bx F2
        have G4 := bx F4
        have hsz1 := F4.size
        clear h1 h2 hU3 F1 F2 F4
        go_wp2_with (at_builtin; refine wpList_append_own _ rfl _ _ 32 rfl wF.heap.size 3 i0 (.int .i64 0) 1 8 Tryd.underlying32 hi hz0 hz1 hz2 rfl (by decide) _ _ _ rfl (F3.alloc _) ⟨w1.heap.size, 0, none⟩ 1 1 [.int .i64 u] rfl rfl (cell_one_new _ _ _) (by simp [Value.oneCell']) (by unfold maxLen; omega) (by omega) (by simp; omega) ?_; intro v' w5 o5 g5 _)
        go_roundw
        case rel =>
          have hvb : ∀ b, b < wF.heap.size → some b ≠ u5.ownBlock := fun b hb e => by have := (F3.lt b e.symm).1; omega
          refine ⟨k + 1, by omega, by go_num, ?_, ?_, ?_, ?_⟩
          · rw [Hs2.out]; exact (g5.block B (by simp; omega) (hvb B (by omega))).trans ((Below.heap_alloc _ _ _ (by omega)).trans G1.out)
          · rw [Hs2.out]; exact (G2.out.alloc _).kept g5 (.inr (fun e => hvb g hgF e))
          · rw [Hs2.out, ic_append, List.length_append]; exact o5
          · exact (G4.out.alloc (by omega) _).grown (by simp; omega) g5 (fun b e => by have := (F3.lt b e).1; omega)
        case measure => simp [intOf]; omega
    · obtain rfl : k = l.length := by omega
      rw [List.take_of_length_le (Nat.le_refl _)] at hB hU hF
      obtain ⟨A', c', rfl⟩ := slice_form hF
      have HB := bx hB
      have HU2 := bx hU
      have HF2 := bx hF
      have HA2 := bx hA
      clear hB hU hF hA
      go_wp2
      go_ret
      exact ⟨A', c', rfl, l.length, Nat.le_refl _, rfl, by rw [List.take_of_length_le (Nat.le_refl _)]; exact HB.out, by rw [List.take_of_length_le (Nat.le_refl _)]; exact HU2.out, by rw [List.take_of_length_le (Nat.le_refl _)]; exact HF2.out, HA2.out⟩
end Go.Proofs.YtgfmnolghbiedaaDoor
