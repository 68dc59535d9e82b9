/-
  Layer 28: the program's sink and the reference's, side by side (plain); the state of TelemetryScript's loop.
-/
import Derived.Test.YtpdbdpmlppbnnaaMV
import Derived.Test.YtpdbdpmlppbnnaaV8
namespace Go.Proofs.Ytpdbdpmlppbnnaa
open Go.RowKit Go.Shelf

/-- what the program's sink has where the reference's has l -/
def hOf (l : List (Nat × List Int)) : Nat → Option (List Int) := fun q => (hasL l q).map (·.2)
theorem hasH_hOf (l : List (Nat × List Int)) : hasH (hOf l) = hasL l := by
  funext q
  unfold hasH hOf
  cases h : hasL l q with
  | none => rfl
  | some x =>
    obtain ⟨h1, _⟩ := hasL_some h
    obtain ⟨x1, x2⟩ := x
    simp only at h1
    subst h1
    rfl
theorem hasL_app (l : List (Nat × List Int)) (q : Nat) (v : List Int) (h : (hasL l q).isSome = false) (k : Nat) : hasL (l ++ [(q, v)]) k = if k = q then some (q, v) else hasL l k := by
  unfold hasL at h ⊢
  rw [List.find?_append]
  by_cases e : k = q
  · subst e
    rw [Option.isSome_eq_false_iff, Option.isNone_iff_eq_none] at h
    rw [h, if_pos rfl]
    simp
  · rw [if_neg e]
    have : ([(q, v)] : List (Nat × List Int)).find? (fun x => (x.1 : Int) == (k : Int)) = none := by
      simp
      omega
    rw [this]
    cases List.find? (fun x => (x.1 : Int) == (k : Int)) l <;> rfl
theorem put_same {l l' : List (Nat × List Int)} {b : List Int} {q : Int} {t : Bool} {ec : Int} (h : rputP l b = (q, t, ec, l')) : putP (hOf l) b = (q, t, ec, hOf l') := by
  unfold rputP at h
  unfold putP
  rw [hasH_hOf]
  cases hD : decP (hasL l) b with
  | err c =>
    rw [hD] at h
    simp only [Prod.mk.injEq] at h
    obtain ⟨rfl, rfl, rfl, rfl⟩ := h
    rfl
  | ok seq vals known all =>
    rw [hD] at h
    simp only [Prod.mk.injEq] at h
    obtain ⟨rfl, rfl, rfl, h4⟩ := h
    have he : (hOf l seq).isSome = (hasL l seq).isSome := by simp [hOf]
    simp only [Prod.mk.injEq, true_and]
    rw [he]
    by_cases hc : all = true ∧ (hasL l seq).isSome = false
    · rw [if_pos hc]
      rw [if_pos hc] at h4
      subst h4
      funext k
      unfold hOf
      rw [hasL_app l seq vals hc.2 k]
      split <;> rfl
    · rw [if_neg hc]
      rw [if_neg hc] at h4
      rw [h4]
theorem packB_of {n : Nat} {all : List (List Int)} {bs : Nat} (hn : n ≤ 1000) (hp : 1 ≤ all.length) (hf : all.length ≤ 1000) (hok : ∀ l ∈ all, l.length = n ∧ ∀ x ∈ l, fitsV x) (h1 : bs < all.length) (o : List Nat) (ho : Perm n o) (room : Int) {b : List Int} {e : Int} (hb : packP all bs o room = (b, e)) : bytes b ∧ b.length ≤ 100000 := by
  unfold packP at hb
  have hmem : ∀ q, q < all.length → all.getD q [] ∈ all := fun q hq => by
    rw [List.getD_eq_getElem?_getD, List.getElem?_eq_getElem hq]
    exact List.getElem_mem _
  split at hb
  · obtain ⟨rfl, _⟩ := Prod.mk.inj hb
    exact ⟨fun x hx => (by cases hx), by simp⟩
  · simp only at hb
    rw [← (Prod.mk.inj hb).1]
    exact ⟨encP_bytes _ _ _ _ _ _, encP_len (k := bs) (j := all.length - 1) (n := n) (by omega) (by omega) (hok _ (hmem bs h1)).2 (hok _ (hmem (all.length - 1) (by omega))).2 ho rfl⟩
theorem takeP_len {n : Nat} {all all' : List (List Int)} {l : List Int} {a c : Int} (h : takeP n all l = (a, c, all')) : all'.length ≤ all.length + 1 := by
  unfold takeP at h
  split at h
  · simp only [Prod.mk.injEq] at h; rw [← h.2.2]; omega
  · split at h
    · simp only [Prod.mk.injEq] at h; rw [← h.2.2]; omega
    · split at h
      · simp only [Prod.mk.injEq] at h; rw [← h.2.2]; omega
      · simp only [Prod.mk.injEq] at h; rw [← h.2.2]; simp
theorem rputP_len {l l' : List (Nat × List Int)} {b : List Int} {q : Int} {t : Bool} {ec : Int} (h : rputP l b = (q, t, ec, l')) : l'.length ≤ l.length + 1 := by
  unfold rputP at h
  split at h
  · simp only [Prod.mk.injEq] at h; rw [← h.2.2.2]; omega
  · simp only [Prod.mk.injEq] at h
    rw [← h.2.2.2]
    split <;> simp
/-- footprints apart from each other, behind w0 -/
structure Fam (w0 w : World) (S : Nat → Nat → Prop) : Prop where
  lt : ∀ i k, S i k → k < w.heap.size
  lo : ∀ i k, S i k → w0.heap.size ≤ k
  dis : ∀ i j k, S i k → S j k → i = j
def updF (S : Nat → Nat → Prop) (i : Nat) (T : Nat → Prop) : Nat → Nat → Prop := fun j k => (j = i ∧ T k) ∨ (j ≠ i ∧ S j k)
theorem updF_at (S : Nat → Nat → Prop) (i : Nat) (T : Nat → Prop) : updF S i T i = T := by
  funext k
  simp [updF]
theorem updF_ne (S : Nat → Nat → Prop) {i j : Nat} (T : Nat → Prop) (h : j ≠ i) : updF S i T j = S j := by
  funext k
  simp [updF, h]
theorem Fam.put {w0 w w' : World} {S : Nat → Nat → Prop} (h : Fam w0 w S) (hs : w.heap.size ≤ w'.heap.size) (i : Nat) {T : Nat → Prop} (hT : ∀ k, T k → k < w'.heap.size ∧ (S i k ∨ (w0.heap.size ≤ k ∧ ∀ j, ¬ S j k))) : Fam w0 w' (updF S i T) := by
  refine ⟨fun j k hk => ?_, fun j k hk => ?_, fun j j' k h1 h2 => ?_⟩
  · rcases hk with ⟨_, hk⟩ | ⟨_, hk⟩
    · exact (hT k hk).1
    · exact Nat.lt_of_lt_of_le (h.lt j k hk) hs
  · rcases hk with ⟨_, hk⟩ | ⟨_, hk⟩
    · rcases (hT k hk).2 with h3 | h3
      · exact h.lo i k h3
      · exact h3.1
    · exact h.lo j k hk
  · rcases h1 with ⟨rfl, h1⟩ | ⟨n1, h1⟩
    · rcases h2 with ⟨rfl, _⟩ | ⟨n2, h2⟩
      · rfl
      · rcases (hT k h1).2 with h3 | h3
        · exact h.dis j j' k h3 h2
        · exact absurd h2 (h3.2 j')
    · rcases h2 with ⟨rfl, h2⟩ | ⟨n2, h2⟩
      · rcases (hT k h2).2 with h3 | h3
        · exact h.dis j j' k h1 h3
        · exact absurd h1 (h3.2 j)
      · exact h.dis j j' k h1 h2
theorem Fam.go {w0 w w' : World} {S : Nat → Nat → Prop} (h : Fam w0 w S) (hs : w.heap.size ≤ w'.heap.size) : Fam w0 w' S := ⟨fun i k hk => Nat.lt_of_lt_of_le (h.lt i k hk) hs, h.lo, h.dis⟩
theorem Fam.grow {w0 w w' : World} {S : Nat → Nat → Prop} (h : Fam w0 w S) (h0 : w0.heap.size ≤ w.heap.size) (hs : w.heap.size ≤ w'.heap.size) (i : Nat) : Fam w0 w' (updF S i (GrowS (S i) w w')) :=
  h.put hs i fun k hk => by
    rcases hk with hk | hk
    · exact ⟨Nat.lt_of_lt_of_le (h.lt i k hk) hs, .inl hk⟩
    · exact ⟨hk.2, .inr ⟨by omega, fun j hj => by have := h.lt j k hj; omega⟩⟩
theorem Fam.sameOn {w0 w w' : World} {S : Nat → Nat → Prop} (h : Fam w0 w S) {i : Nat} (o : Off (S i) w w') {j : Nat} (hj : j ≠ i) : SameOn (S j) w w' := o.same fun k hk => ⟨h.lt j k hk, fun hs => hj (h.dis j i k hk hs)⟩
/-- the program's source and sink (0, 1), the reference's (2, 3), what was sent (4) -/
structure Sc (w0 w : World) (p1 p2 p3 p4 n m : Nat) (vs : Value) (all : List (List Int)) (bs : Nat) (allR : List (List Int)) (bsR : Nat) (H : Nat → Option (List Int)) (l : List (Nat × List Int)) (sent : List (List Int)) (S : Nat → Nat → Prop) : Prop where
  f : From w0 w
  s : Src (S 0) w p1 n all bs
  k : Snk (S 1) w p2 n m H
  x : RSrc (S 2) w p3 n allR bsR
  y : RSnk (S 3) w p4 n l
  t : RowsOf YRw (S 4) 31 w vs sent
  m : Fam w0 w S
section
variable {w0 w w' : World} {p1 p2 p3 p4 n m bs bsR : Nat} {vs : Value} {all allR sent : List (List Int)} {H : Nat → Option (List Int)} {l : List (Nat × List Int)} {S : Nat → Nat → Prop}
theorem Sc.go (h : Sc w0 w p1 p2 p3 p4 n m vs all bs allR bsR H l sent S) (k : From w w') : Sc w0 w' p1 p2 p3 p4 n m vs all bs allR bsR H l sent S :=
  { f := h.f.trans k, s := h.s.from k, k := h.k.from k, x := h.x.from k, y := h.y.from k, t := h.t.same yElK (SameOn.of k (h.m.lt 4)), m := h.m.go k.size }
theorem Sc.src (h : Sc w0 w p1 p2 p3 p4 n m vs all bs allR bsR H l sent S) {all' : List (List Int)} {bs' : Nat} (o : Off (S 0) w w') (s' : Src (GrowS (S 0) w w') w' p1 n all' bs') : Sc w0 w' p1 p2 p3 p4 n m vs all' bs' allR bsR H l sent (updF S 0 (GrowS (S 0) w w')) :=
  { f := h.f.off o (h.m.lo 0)
    s := by rw [updF_at]; exact s'
    k := by rw [updF_ne S _ (by decide : 1 ≠ 0)]; exact h.k.same o.size (h.m.sameOn o (by decide))
    x := by rw [updF_ne S _ (by decide : 2 ≠ 0)]; exact h.x.same o.size (h.m.sameOn o (by decide))
    y := by rw [updF_ne S _ (by decide : 3 ≠ 0)]; exact h.y.same o.size (h.m.sameOn o (by decide))
    t := by rw [updF_ne S _ (by decide : 4 ≠ 0)]; exact h.t.same yElK (h.m.sameOn o (by decide))
    m := h.m.grow h.f.size o.size 0 }
theorem Sc.snk (h : Sc w0 w p1 p2 p3 p4 n m vs all bs allR bsR H l sent S) {H' : Nat → Option (List Int)} {m' : Nat} (o : Off (S 1) w w') (k' : Snk (GrowS (S 1) w w') w' p2 n m' H') : Sc w0 w' p1 p2 p3 p4 n m' vs all bs allR bsR H' l sent (updF S 1 (GrowS (S 1) w w')) :=
  { f := h.f.off o (h.m.lo 1)
    s := by rw [updF_ne S _ (by decide : 0 ≠ 1)]; exact h.s.same o.size (h.m.sameOn o (by decide))
    k := by rw [updF_at]; exact k'
    x := by rw [updF_ne S _ (by decide : 2 ≠ 1)]; exact h.x.same o.size (h.m.sameOn o (by decide))
    y := by rw [updF_ne S _ (by decide : 3 ≠ 1)]; exact h.y.same o.size (h.m.sameOn o (by decide))
    t := by rw [updF_ne S _ (by decide : 4 ≠ 1)]; exact h.t.same yElK (h.m.sameOn o (by decide))
    m := h.m.grow h.f.size o.size 1 }
theorem Sc.rsrc (h : Sc w0 w p1 p2 p3 p4 n m vs all bs allR bsR H l sent S) {all' : List (List Int)} {bs' : Nat} (o : Off (S 2) w w') (x' : RSrc (GrowS (S 2) w w') w' p3 n all' bs') : Sc w0 w' p1 p2 p3 p4 n m vs all bs all' bs' H l sent (updF S 2 (GrowS (S 2) w w')) :=
  { f := h.f.off o (h.m.lo 2)
    s := by rw [updF_ne S _ (by decide : 0 ≠ 2)]; exact h.s.same o.size (h.m.sameOn o (by decide))
    k := by rw [updF_ne S _ (by decide : 1 ≠ 2)]; exact h.k.same o.size (h.m.sameOn o (by decide))
    x := by rw [updF_at]; exact x'
    y := by rw [updF_ne S _ (by decide : 3 ≠ 2)]; exact h.y.same o.size (h.m.sameOn o (by decide))
    t := by rw [updF_ne S _ (by decide : 4 ≠ 2)]; exact h.t.same yElK (h.m.sameOn o (by decide))
    m := h.m.grow h.f.size o.size 2 }
theorem Sc.rsnk (h : Sc w0 w p1 p2 p3 p4 n m vs all bs allR bsR H l sent S) {l' : List (Nat × List Int)} (o : Off (S 3) w w') (y' : RSnk (GrowS (S 3) w w') w' p4 n l') : Sc w0 w' p1 p2 p3 p4 n m vs all bs allR bsR H l' sent (updF S 3 (GrowS (S 3) w w')) :=
  { f := h.f.off o (h.m.lo 3)
    s := by rw [updF_ne S _ (by decide : 0 ≠ 3)]; exact h.s.same o.size (h.m.sameOn o (by decide))
    k := by rw [updF_ne S _ (by decide : 1 ≠ 3)]; exact h.k.same o.size (h.m.sameOn o (by decide))
    x := by rw [updF_ne S _ (by decide : 2 ≠ 3)]; exact h.x.same o.size (h.m.sameOn o (by decide))
    y := by rw [updF_at]; exact y'
    t := by rw [updF_ne S _ (by decide : 4 ≠ 3)]; exact h.t.same yElK (h.m.sameOn o (by decide))
    m := h.m.grow h.f.size o.size 3 }
/-- a packet is appended to what was sent; its blocks T are new and apart -/
theorem Sc.app (h : Sc w0 w p1 p2 p3 p4 n m vs all bs allR bsR H l sent S) {T : Nat → Prop} {vs' : Value} {sent' : List (List Int)} (o : Off (S 4) w w') (a' : RowsOf YRw (fun k => S 4 k ∨ T k ∨ (w.heap.size ≤ k ∧ k < w'.heap.size)) 31 w' vs' sent')
    (tb : ∀ i, T i → w0.heap.size ≤ i ∧ i < w.heap.size ∧ ∀ j, ¬ S j i) : Sc w0 w' p1 p2 p3 p4 n m vs' all bs allR bsR H l sent' (updF S 4 (fun k => S 4 k ∨ T k ∨ (w.heap.size ≤ k ∧ k < w'.heap.size))) :=
  { f := h.f.off o (h.m.lo 4)
    s := by rw [updF_ne S _ (by decide : 0 ≠ 4)]; exact h.s.same o.size (h.m.sameOn o (by decide))
    k := by rw [updF_ne S _ (by decide : 1 ≠ 4)]; exact h.k.same o.size (h.m.sameOn o (by decide))
    x := by rw [updF_ne S _ (by decide : 2 ≠ 4)]; exact h.x.same o.size (h.m.sameOn o (by decide))
    y := by rw [updF_ne S _ (by decide : 3 ≠ 4)]; exact h.y.same o.size (h.m.sameOn o (by decide))
    t := by rw [updF_at]; exact a'
    m := h.m.put o.size 4 fun k hk => by
      have hs := o.size
      have hf := h.f.size
      rcases hk with hk | hk | hk
      · exact ⟨Nat.lt_of_lt_of_le (h.m.lt 4 k hk) o.size, .inl hk⟩
      · have := tb k hk
        exact ⟨by omega, .inr ⟨this.1, this.2.2⟩⟩
      · exact ⟨hk.2, .inr ⟨by omega, fun j hj => by have := h.m.lt j k hj; omega⟩⟩ }
theorem Sc.more (h : Sc w0 w p1 p2 p3 p4 n m vs all bs allR bsR H l sent S) {m' : Nat} (hm : m ≤ m') : Sc w0 w p1 p2 p3 p4 n m' vs all bs allR bsR H l sent S :=
  { h with k := by obtain ⟨b, M, k⟩ := h.k; exact ⟨b, M, { k with map := k.map.mono hm }⟩ }
end
theorem sc_start {w0 w1 w2 w3 w4 : World} {p1 p2 p3 p4 n : Nat} {H : Nat → Option (List Int)} (k1 : From w0 w1) (s1 : Src (NewS w0 w1) w1 p1 n [List.replicate n 0] 0) (k2 : From w1 w2) (s2 : Snk (NewS w1 w2) w2 p2 n 1 H)
    (k3 : From w2 w3) (s3 : RSrc (NewS w2 w3) w3 p3 n [List.replicate n 0] 0) (k4 : From w3 w4) (s4 : RSnk (NewS w3 w4) w4 p4 n [(0, List.replicate n 0)]) :
    ∃ S, Sc w0 w4 p1 p2 p3 p4 n 1 (.slice none 0 0) [List.replicate n 0] 0 [List.replicate n 0] 0 H [(0, List.replicate n 0)] [] S := by
  have h1 := k1.size
  have h2 := k2.size
  have h3 := k3.size
  have h4 := k4.size
  refine ⟨fun i k => (i = 0 ∧ NewS w0 w1 k) ∨ (i = 1 ∧ NewS w1 w2 k) ∨ (i = 2 ∧ NewS w2 w3 k) ∨ (i = 3 ∧ NewS w3 w4 k), ?_⟩
  exact {
    f := k1.trans (k2.trans (k3.trans k4))
    s := by
      have e : (fun k => (0 = 0 ∧ NewS w0 w1 k) ∨ (0 = 1 ∧ NewS w1 w2 k) ∨ (0 = 2 ∧ NewS w2 w3 k) ∨ (0 = 3 ∧ NewS w3 w4 k)) = NewS w0 w1 := by funext k; simp
      rw [e]
      exact s1.from (k2.trans (k3.trans k4))
    k := by
      have e : (fun k => (1 = 0 ∧ NewS w0 w1 k) ∨ (1 = 1 ∧ NewS w1 w2 k) ∨ (1 = 2 ∧ NewS w2 w3 k) ∨ (1 = 3 ∧ NewS w3 w4 k)) = NewS w1 w2 := by funext k; simp
      rw [e]
      exact s2.from (k3.trans k4)
    x := by
      have e : (fun k => (2 = 0 ∧ NewS w0 w1 k) ∨ (2 = 1 ∧ NewS w1 w2 k) ∨ (2 = 2 ∧ NewS w2 w3 k) ∨ (2 = 3 ∧ NewS w3 w4 k)) = NewS w2 w3 := by funext k; simp
      rw [e]
      exact s3.from k4
    y := by
      have e : (fun k => (3 = 0 ∧ NewS w0 w1 k) ∨ (3 = 1 ∧ NewS w1 w2 k) ∨ (3 = 2 ∧ NewS w2 w3 k) ∨ (3 = 3 ∧ NewS w3 w4 k)) = NewS w3 w4 := by funext k; simp
      rw [e]
      exact s4
    t := rowsOf_nil _ _ _ _
    m := by
      refine ⟨fun i k hk => ?_, fun i k hk => ?_, fun i j k hi hj => ?_⟩
      · rcases hk with ⟨_, hk⟩ | ⟨_, hk⟩ | ⟨_, hk⟩ | ⟨_, hk⟩ <;> have := hk.2 <;> omega
      · rcases hk with ⟨_, hk⟩ | ⟨_, hk⟩ | ⟨_, hk⟩ | ⟨_, hk⟩ <;> have := hk.1 <;> omega
      · rcases hi with ⟨_, hi⟩ | ⟨_, hi⟩ | ⟨_, hi⟩ | ⟨_, hi⟩ <;> rcases hj with ⟨_, hj⟩ | ⟨_, hj⟩ | ⟨_, hj⟩ | ⟨_, hj⟩ <;> have := hi.1 <;> have := hi.2 <;> have := hj.1 <;> have := hj.2 <;> omega }
theorem YRw.rf {S : Nat → Prop} {w : World} {A : Option Addr} {c n : Nat} {l : List Int} (h : YRw S w (.slice A n c) l) : n = l.length ∧ RfV w (.agg #[.slice A n c, .int .i64 0]) (.good l) ∧ n ≤ c := by
  obtain ⟨A', c', e, h1, h2, h3, h4⟩ := h
  injection e with e1 e2 e3
  subst e1 e2 e3
  exact ⟨rfl, ⟨_, _, rfl, sl_of_own h1, h3, h4, own_cap h1⟩, own_cap h1⟩
end Go.Proofs.Ytpdbdpmlppbnnaa
