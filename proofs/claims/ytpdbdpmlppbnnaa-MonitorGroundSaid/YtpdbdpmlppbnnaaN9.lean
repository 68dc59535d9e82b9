/-
  Plain law of layer 29 over layer 28: with enough room the sink has what the source took.
-/
import Derived.Test.YtpdbdpmlppbnnaaN8
namespace Go.Proofs.Ytpdbdpmlppbnnaa

def o6 : List Nat := [0, 1, 2, 3, 4, 5]
theorem o6_perm : Perm 6 o6 := ⟨rfl, by decide, by decide⟩
/-- a packet with enough room is complete and says all values -/
theorem full_plain (bs seq n : Nat) (bv nv : List Int) (o : List Nat) (hb : bs < seq ∧ seq < 16384) (hbl : bv.length = n) (hnl : nv.length = n) (hn : 0 < n ∧ n ≤ 64) (hB : ∀ x ∈ bv, fitsV x) (hN : ∀ x ∈ nv, fitsV x) (hp : Perm n o) :
    ∃ L known, encP bs bv seq nv o 1000 = (L, 0) ∧ decP (hasB bs bv) L = .ok seq nv known true := by
  obtain ⟨L5, h5⟩ := room_500 bs seq bv nv o hb.1 hb.2
  obtain ⟨L, hL⟩ := room_more bs seq bv nv o 500 1000 L5 (by decide) h5
  obtain ⟨vals, known, all, hd, hvl, hkl, hf, hpk⟩ := room_plain bs seq n bv nv o 1000 L ⟨hb.1, by omega⟩ hbl hnl ⟨by omega, by omega⟩ hB hN hp hL
  have hpl := predP_len bv bs seq
  have hP : ∀ x ∈ predP bv bs seq, fitsV x := predP_fits hB (by omega)
  have hfit : FitsAll bs seq 1000 nv (predP bv bs seq) o [] := FitsAll.mono (room := 500) (by decide) o [] (fits_500 (n := n) (by omega) (by omega) hn.2 hN hP hnl (by rw [hpl, hbl]) o [] hp.lt (by rw [hp.len]; simp) (by simp))
  have hall := hf.2 hfit
  have hpk := hpk hfit
  obtain ⟨_, vals2, known2, all2, hd2, hk2⟩ := back_plain bs seq n bv nv o 1000 L ⟨hb.1, by omega⟩ hbl hnl ⟨by omega, by omega⟩ hB hN hp hL
  rw [hd] at hd2
  injection hd2 with e1 e2 e3 e4
  subst e2 e3 e4
  have hvn : vals = nv := getD_ext hvl hnl (fun q hq => hk2.yes q hq (hall q hq))
  subst hvn
  have hrep : ∀ q, (List.replicate n false).getD q false = false := fun q => by
    rw [List.getD_eq_getElem?_getD, List.getElem?_replicate]; split <;> rfl
  have hel : (entO vals (predP bv bs seq) o).length ≤ n := by
    have := entO_len vals (predP bv bs seq) o
    rw [hp.len] at this
    exact this
  have hdec := decP_enc bs seq 1 bv (entO vals (predP bv bs seq) o) ⟨hb.1, by omega⟩ (Nat.le_refl _) (by omega) (by omega) (by
    rw [hbl]
    exact rdE_ent vals (predP bv bs seq) n hN hP hnl (by rw [hpl, hbl]) o (predP bv bs seq) (List.replicate n false) hp.nodup hp.lt (by rw [hpl, hbl]) (by simp) (fun p _ => ⟨rfl, hrep p⟩))
  rw [← hpk, hd] at hdec
  injection hdec with _ _ _ e4
  have hat : all = true := e4
  subst hat
  exact ⟨L, known, hL, hd⟩
theorem ground_step {all : List (List Int)} {bs : Nat} {H : Nat → Option (List Int)} (h : SyncP 6 all bs H []) (v : List Int) (hv : v.length = 6 ∧ ∀ x ∈ v, fitsV x) (hl : all.length ≤ 900) :
    ∃ b, packP (all ++ [v]) bs o6 1000 = (b, 0) ∧ bytes b ∧ b.length ≤ 100000 ∧ putP H b = (((all.length : Nat) : Int), true, 0, fun q => if q = all.length then some v else H q) ∧ SyncP 6 (all ++ [v]) bs (fun q => if q = all.length then some v else H q) [] := by
  have ht := h.take v hv (by omega)
  have hb1 := h.base.1
  have hg1 : (all ++ [v]).getD bs [] = all.getD bs [] := by rw [List.getD_eq_getElem?_getD, List.getElem?_append_left hb1, ← List.getD_eq_getElem?_getD]
  have hg2 : (all ++ [v]).getD all.length [] = v := by rw [List.getD_eq_getElem?_getD, List.getElem?_append_right (Nat.le_refl _)]; simp
  have hmem : all.getD bs [] ∈ all := by rw [List.getD_eq_getElem?_getD, List.getElem?_eq_getElem hb1]; exact List.getElem_mem _
  have hbv := h.ok _ hmem
  obtain ⟨L, known, hL, hd⟩ := full_plain bs all.length 6 (all.getD bs []) v o6 ⟨hb1, by omega⟩ hbv.1 hv.1 (by decide) hbv.2 hv.2 o6_perm
  have hpk : packP (all ++ [v]) bs o6 1000 = (L, 0) := by
    have hpos := h.pos
    have e1 : (all ++ [v]).length = all.length + 1 := by simp
    rw [packP, if_neg (by omega), e1, Nat.add_sub_cancel, hg1, hg2, hL]
    simp
  have hpb := ht.packB o6 o6_perm 1000 hpk
  obtain ⟨u, hu⟩ := Option.isSome_iff_exists.1 h.base.2
  have hub := (h.has bs u hu).2
  have hnone : H all.length = none := by
    cases hc : H all.length with
    | none => rfl
    | some x => exact absurd (h.has _ x hc).1 (Nat.lt_irrefl _)
  have hd2 : decP (hasH H) L = .ok all.length v known true := by
    obtain ⟨x, hx⟩ := decP_first hd
    have hf := hasB_len hx
    rw [← hd]
    apply decP_congr
    rw [hx, hf.1, hf.2]
    simp [hasH, hu, hub]
  have hput : putP H L = (((all.length : Nat) : Int), true, 0, fun q => if q = all.length then some v else H q) := by
    rw [putP, hd2]
    simp only [hnone]
    rfl
  refine ⟨L, hpk, hpb.1, hpb.2, hput, ?_⟩
  exact { ht with
    has := fun q l hq => by
      by_cases e : q = all.length
      · subst e
        simp only [if_true] at hq
        injection hq with hq
        exact ⟨by simp, by rw [hg2]; exact hq.symm⟩
      · simp only [if_neg e] at hq
        exact ht.has q l hq
    base := ⟨ht.base.1, by
      show (if bs = all.length then some v else H bs).isSome = true
      rw [if_neg (by omega)]
      exact h.base.2⟩
    sent := fun b hb => by cases hb }
end Go.Proofs.Ytpdbdpmlppbnnaa
