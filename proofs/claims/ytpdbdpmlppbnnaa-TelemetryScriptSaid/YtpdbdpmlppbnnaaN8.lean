/-
  Plain law of layer 28: a sink decodes every packet of the source.
-/
import Derived.Test.YtpdbdpmlppbnnaaN7
import Derived.Test.YtpdbdpmlppbnnaaN4
import Derived.Test.YtpdbdpmlppbnnaaV5
namespace Go.Proofs.Ytpdbdpmlppbnnaa

theorem headS_congr {has has' : Nat → Option (Nat × List Int)} {l : List Int} (h : has (rdS (.good l)).1 = has' (rdS (.good l)).1) : headS l has = headS l has' := by
  unfold headS
  simp only [h]
theorem headS_first (l : List Int) (has : Nat → Option (Nat × List Int)) : (headS l has).2.1 = (rdS (.good l)).1 := rfl
theorem decP_congr {has has' : Nat → Option (Nat × List Int)} {l : List Int} (h : has (rdS (.good l)).1 = has' (rdS (.good l)).1) : decP has l = decP has' l := by
  unfold decP
  rw [headS_congr h]
  have hf := headS_first l has'
  obtain ⟨⟨s8, first, sq, mark, count⟩, hE⟩ : ∃ E, headS l has' = E := ⟨_, rfl⟩
  rw [hE] at hf ⊢
  simp only at hf
  subst hf
  cases s8 with
  | bad e => rfl
  | good r => simp only [h]
/-- the first number of a packet that is decoded -/
theorem decP_first {has : Nat → Option (Nat × List Int)} {l : List Int} {seq : Nat} {vals : List Int} {known : List Bool} {all : Bool} (h : decP has l = .ok seq vals known all) : ∃ x, has (rdS (.good l)).1 = some x := by
  unfold decP at h
  have hf := headS_first l has
  obtain ⟨⟨s8, first, sq, mark, count⟩, hE⟩ : ∃ E, headS l has = E := ⟨_, rfl⟩
  rw [hE] at h hf
  simp only at hf
  subst hf
  cases s8 with
  | bad e => cases h
  | good r =>
    obtain ⟨_, _, _, x, hx, _⟩ := head_bd hE
    exact ⟨x, hx⟩
theorem decP_all {has : Nat → Option (Nat × List Int)} {l : List Int} {seq : Nat} {vals : List Int} {known : List Bool} (h : decP has l = .ok seq vals known true) : ∃ m, known = List.replicate m true := by
  unfold decP at h
  obtain ⟨⟨s8, first, sq, mark, count⟩, hE⟩ : ∃ E, headS l has = E := ⟨_, rfl⟩
  rw [hE] at h
  cases s8 with
  | bad e => cases h
  | good r =>
    simp only at h
    split at h
    · cases h
    · split at h
      · cases h
      · split at h
        · cases h
        · injection h with h1 h2 h3 h4
          rw [if_pos (by simpa using h4)] at h3
          exact ⟨_, h3.symm⟩
theorem getD_ext {a b : List Int} {n : Nat} (ha : a.length = n) (hb : b.length = n) (h : ∀ q, q < n → a.getD q 0 = b.getD q 0) : a = b := by
  apply List.ext_getElem (by omega)
  intro i h1 h2
  have := h i (by omega)
  simpa [List.getD_eq_getElem?_getD, List.getElem?_eq_getElem h1, List.getElem?_eq_getElem h2] using this
theorem sync_put {H : Nat → Option (List Int)} {k j n : Nat} {bv nv : List Int} {o : List Nat} {room : Int} {L : List Int} (hb : k < j ∧ j ≤ 1000000) (hbl : bv.length = n) (hnl : nv.length = n) (hn : 0 < n ∧ n ≤ 1000) (hB : ∀ x ∈ bv, fitsV x) (hN : ∀ x ∈ nv, fitsV x) (hp : Perm n o)
    (h : encP k bv j nv o room = (L, 0)) (hH : H k = some bv) : ∃ vals known all, decP (hasH H) L = .ok j vals known all ∧ (all = true → vals = nv) := by
  obtain ⟨_, vals, known, all, hd, hk⟩ := back_plain k j n bv nv o room L hb hbl hnl hn hB hN hp h
  obtain ⟨x, hx⟩ := decP_first hd
  have hf := hasB_len hx
  refine ⟨vals, known, all, ?_, fun ha => ?_⟩
  · rw [← hd]
    apply decP_congr
    rw [hx, hf.1, hf.2]
    simp [hasH, hH]
  · subst ha
    obtain ⟨m, hm⟩ := decP_all hd
    have hkl := hk.kl
    rw [hm] at hkl
    simp at hkl
    subst hkl
    refine getD_ext hk.vl hnl (fun q hq => hk.yes q hq ?_)
    rw [hm, List.getD_eq_getElem?_getD, List.getElem?_replicate, if_pos hq]
    rfl
theorem pkB_le (bs seq mark : Nat) (es : List (Nat × Int)) (hb : bs < 18446744073709551616) (hs : seq < 18446744073709551616) (hm : mark < 18446744073709551616) (hl : es.length < 18446744073709551616) (he : OkE es) : (pkB bs seq mark es).length ≤ 40 + 20 * es.length := by
  have h1 := encU_len 9 bs (by omega)
  have h2 := encU_len 9 seq (by omega)
  have h3 := encU_len 9 mark (by omega)
  have h4 := encU_len 9 es.length (by omega)
  have h5 := ents_len es he
  simp only [pkB, List.length_append]
  omega
theorem entO_ok {nv pred : List Int} {n : Nat} (hN : ∀ x ∈ nv, fitsV x) (hP : ∀ x ∈ pred, fitsV x) (hn : n ≤ 1000) : ∀ (o : List Nat), (∀ p ∈ o, p < n) → OkE (entO nv pred o) := by
  intro o ho x hx
  obtain ⟨p, hp, rfl⟩ := List.mem_map.1 hx
  have hpo := (List.mem_filter.1 hp).1
  have hf : ∀ (l : List Int), (∀ x ∈ l, fitsV x) → -2147483647 ≤ l.getD p 0 ∧ l.getD p 0 ≤ 2147483647 := fun l hl => by
    rw [List.getD_eq_getElem?_getD]
    by_cases h : p < l.length
    · rw [List.getElem?_eq_getElem h]; exact hl _ (List.getElem_mem h)
    · rw [List.getElem?_eq_none (by omega)]; exact ⟨by decide, by decide⟩
  have h1 := hf nv hN
  have h2 := hf pred hP
  have := ho p hpo
  exact ⟨by show p ≤ _; omega, by show _ ≤ nv.getD p 0 - pred.getD p 0; omega, by show nv.getD p 0 - pred.getD p 0 ≤ _; omega⟩
theorem entO_len (nv pred : List Int) (o : List Nat) : (entO nv pred o).length ≤ o.length := by
  have := List.length_filter_le (fun p => decide (nv.getD p 0 - pred.getD p 0 ≠ 0)) o
  simp only [entO, List.length_map]
  omega
theorem encP_len {k j n : Nat} {bv nv : List Int} {o : List Nat} {room : Int} {L : List Int} {e : Int} (hb : k ≤ 1000000 ∧ j ≤ 1000000) (hn : n ≤ 1000) (hB : ∀ x ∈ bv, fitsV x) (hN : ∀ x ∈ nv, fitsV x) (hp : Perm n o)
    (h : encP k bv j nv o room = (L, e)) : L.length ≤ 100000 := by
  unfold encP at h
  split at h
  · rw [← (Prod.mk.inj h).1]; simp
  · split at h
    · rw [← (Prod.mk.inj h).1]; simp
    · rename_i h1 h2
      rw [← (Prod.mk.inj h).1]
      have hP : ∀ x ∈ predP bv k j, fitsV x := predP_fits hB (by omega)
      obtain ⟨_, h3⟩ := encGo_form k j room nv (predP bv k j) o [] (by omega)
      have hb2 : ∀ (o' : List Nat) (m : Nat), m ≤ 1 → (∀ p ∈ o', p < n) → o'.length ≤ n → (pkB k j m (entO nv (predP bv k j) o')).length ≤ 100000 := fun o' m hm h4 h5 => by
        have h6 := entO_len nv (predP bv k j) o'
        have := pkB_le k j m (entO nv (predP bv k j) o') (by omega) (by omega) (by omega) (by omega) (entO_ok hN hP hn o' h4)
        omega
      rcases h3 with h3 | ⟨r1, p0, r2, he, h3⟩
      · rw [h3, List.nil_append]
        exact hb2 o 1 (by omega) hp.lt (by rw [hp.len]; omega)
      · rw [h3, List.nil_append]
        have hl := hp.len
        rw [he, List.length_append] at hl
        exact hb2 r1 0 (by omega) (fun p hp1 => hp.lt p (by rw [he]; simp [hp1])) (by omega)
/-- what holds of a source, a sink and the packets on their way -/
structure SyncP (n : Nat) (all : List (List Int)) (bs : Nat) (H : Nat → Option (List Int)) (sent : List (List Int)) : Prop where
  nn : 1 ≤ n ∧ n ≤ 32
  pos : 1 ≤ all.length
  few : all.length ≤ 1000
  ok : ∀ l ∈ all, l.length = n ∧ ∀ x ∈ l, fitsV x
  has : ∀ q l, H q = some l → q < all.length ∧ l = all.getD q []
  base : bs < all.length ∧ (H bs).isSome = true
  sent : ∀ b ∈ sent, ∃ k j o room, k < j ∧ j < all.length ∧ (H k).isSome = true ∧ Perm n o ∧ encP k (all.getD k []) j (all.getD j []) o room = (b, 0)
theorem SyncP.take {n : Nat} {all : List (List Int)} {bs : Nat} {H : Nat → Option (List Int)} {sent : List (List Int)} (h : SyncP n all bs H sent) (v : List Int) (hv : v.length = n ∧ ∀ x ∈ v, fitsV x) (hl : all.length < 1000) : SyncP n (all ++ [v]) bs H sent := by
  have hg : ∀ q, q < all.length → (all ++ [v]).getD q [] = all.getD q [] := fun q hq => by
    rw [List.getD_eq_getElem?_getD, List.getElem?_append_left hq, ← List.getD_eq_getElem?_getD]
  refine ⟨h.nn, by simp, by simp; omega, fun l hl => ?_, fun q l hq => ?_, ?_, fun b hb => ?_⟩
  · rcases List.mem_append.1 hl with hl | hl
    · exact h.ok l hl
    · rw [List.mem_singleton.1 hl]; exact hv
  · obtain ⟨h1, h2⟩ := h.has q l hq
    exact ⟨by simp; omega, by rw [hg q h1]; exact h2⟩
  · exact ⟨by have := h.base.1; simp; omega, h.base.2⟩
  · obtain ⟨k, j, o, room, h1, h2, h3, h4, h5⟩ := h.sent b hb
    exact ⟨k, j, o, room, h1, by simp; omega, h3, h4, by rw [hg k (by omega), hg j h2]; exact h5⟩
theorem SyncP.pack {n : Nat} {all : List (List Int)} {bs : Nat} {H : Nat → Option (List Int)} {sent : List (List Int)} (h : SyncP n all bs H sent) (o : List Nat) (ho : Perm n o) (room : Int) (b : List Int) (hb : packP all bs o room = (b, 0)) : SyncP n all bs H (sent ++ [b]) := by
  refine { h with sent := fun x hx => ?_ }
  rcases List.mem_append.1 hx with hx | hx
  · exact h.sent x hx
  · rw [List.mem_singleton.1 hx]
    unfold packP at hb
    split at hb
    · cases hb
    · simp only at hb
      obtain ⟨e1, e2⟩ := Prod.mk.inj hb
      have hx : encP bs (all.getD bs []) (all.length - 1) (all.getD (all.length - 1) []) o room = (b, 0) := by
        generalize encP bs (all.getD bs []) (all.length - 1) (all.getD (all.length - 1) []) o room = y at e1 e2
        obtain ⟨y1, y2⟩ := y
        simp only at e1 e2
        split at e2
        · cases e2
        · rw [e1, e2]
      have hlt : bs < all.length - 1 := by
        refine Classical.byContradiction fun hh => ?_
        rw [encP, if_pos (by omega)] at hx
        cases hx
      exact ⟨bs, all.length - 1, o, room, hlt, by omega, h.base.2, ho, hx⟩
theorem SyncP.put {n : Nat} {all : List (List Int)} {bs : Nat} {H : Nat → Option (List Int)} {sent : List (List Int)} (h : SyncP n all bs H sent) (b : List Int) (hb : b ∈ sent) : ∃ (j : Nat) (t : Bool) (H' : Nat → Option (List Int)), putP H b = ((j : Int), t, 0, H') ∧ 1 ≤ j ∧ j < all.length ∧ SyncP n all bs H' sent := by
  obtain ⟨k, j, o, room, h1, h2, h3, h4, h5⟩ := h.sent b hb
  obtain ⟨bv, hbv⟩ := Option.isSome_iff_exists.1 h3
  obtain ⟨hk1, hk2⟩ := h.has k bv hbv
  have hmem : ∀ q, q < all.length → all.getD q [] ∈ all := fun q hq => by
    rw [List.getD_eq_getElem?_getD, List.getElem?_eq_getElem hq]
    exact List.getElem_mem _
  have m1 := h.ok _ (hmem k hk1)
  have m2 := h.ok _ (hmem j h2)
  rw [← hk2] at m1 h5
  have hnn := h.nn
  have hfew := h.few
  obtain ⟨vals, known, t, hd, hv⟩ := sync_put (H := H) ⟨h1, by omega⟩ m1.1 m2.1 ⟨by omega, by omega⟩ m1.2 m2.2 h4 h5 hbv
  refine ⟨j, t, _, by rw [putP, hd], by omega, h2, ?_⟩
  split
  · rename_i hc
    have hmono : ∀ q, (H q).isSome = true → (if q = j then some vals else H q).isSome = true := fun q hq => by
      split
      · rfl
      · exact hq
    refine ⟨h.nn, h.pos, h.few, h.ok, fun q l hq => ?_, ⟨h.base.1, hmono _ h.base.2⟩, fun x hx => ?_⟩
    · by_cases e : q = j
      · subst e
        simp only [if_true] at hq
        injection hq with hq
        exact ⟨h2, by rw [← hq]; exact hv hc.1⟩
      · simp only [if_neg e] at hq
        exact h.has q l hq
    · obtain ⟨k', j', o', room', g1, g2, g3, g4, g5⟩ := h.sent x hx
      exact ⟨k', j', o', room', g1, g2, hmono _ g3, g4, g5⟩
  · exact h
theorem SyncP.ack {n : Nat} {all : List (List Int)} {bs : Nat} {H : Nat → Option (List Int)} {sent : List (List Int)} (h : SyncP n all bs H sent) (q : Nat) (h0 : 0 < q) (hl : all.length ≤ 60) (hq : (H q).isSome = true) : ∃ bs', ackP (all.length - 1) bs q = (0, bs') ∧ SyncP n all bs' H sent := by
  obtain ⟨v, hv⟩ := Option.isSome_iff_exists.1 hq
  have hlt := (h.has q v hv).1
  unfold ackP
  by_cases c1 : (1 : Int) ≤ q ∧ (q : Int) ≤ bs
  · rw [if_pos c1]
    exact ⟨bs, rfl, h⟩
  · rw [if_neg c1, if_pos (by omega)]
    refine ⟨_, rfl, ?_⟩
    rw [show ((q : Int)).toNat = q by omega]
    exact { h with base := ⟨hlt, hq⟩ }
theorem sync_start (n : Nat) (hn : 1 ≤ n ∧ n ≤ 32) (H : Nat → Option (List Int)) (hH : H = fun q => if q = 0 then some (List.replicate n 0) else none) : SyncP n [List.replicate n 0] 0 H [] := by
  subst hH
  refine ⟨hn, by simp, by simp, fun l hl => ?_, fun q l hq => ?_, ⟨by simp, rfl⟩, fun b hb => by cases hb⟩
  · rw [List.mem_singleton.1 hl]
    refine ⟨by simp, fun x hx => ?_⟩
    rw [(List.mem_replicate.1 hx).2]
    exact ⟨by decide, by decide⟩
  · split at hq
    · rename_i e
      injection hq with hq
      subst e hq
      exact ⟨by simp, rfl⟩
    · cases hq
theorem SyncP.packB {n : Nat} {all : List (List Int)} {bs : Nat} {H : Nat → Option (List Int)} {sent : List (List Int)} (h : SyncP n all bs H sent) (o : List Nat) (ho : Perm n o) (room : Int) {b : List Int} {e : Int} (hb : packP all bs o room = (b, e)) : bytes b ∧ b.length ≤ 100000 := by
  unfold packP at hb
  have hmem : ∀ q, q < all.length → all.getD q [] ∈ all := fun q hq => by
    rw [List.getD_eq_getElem?_getD, List.getElem?_eq_getElem hq]
    exact List.getElem_mem _
  split at hb
  · obtain ⟨rfl, _⟩ := Prod.mk.inj hb
    exact ⟨fun x hx => (by cases hx), by simp⟩
  · simp only at hb
    have h1 := h.base.1
    have hp := h.pos
    have hf := h.few
    have hn := h.nn
    rw [← (Prod.mk.inj hb).1]
    exact ⟨encP_bytes _ _ _ _ _ _, encP_len (k := bs) (j := all.length - 1) (n := n) (by omega) (by omega) (h.ok _ (hmem bs h1)).2 (h.ok _ (hmem (all.length - 1) (by omega))).2 ho rfl⟩
end Go.Proofs.Ytpdbdpmlppbnnaa
