/-
  Plain law of layer 28: what is encoded is decoded.
-/
import Derived.Test.YtpdbdpmlppbnnaaS5
namespace Go.Proofs.Ytpdbdpmlppbnnaa

/-- the entries that an order asks for -/
def entO (nv pred : List Int) (o : List Nat) : List (Nat × Int) := (o.filter fun p => decide (nv.getD p 0 - pred.getD p 0 ≠ 0)).map fun p => (p, nv.getD p 0 - pred.getD p 0)
theorem entO_cons (nv pred : List Int) (p : Nat) (r : List Nat) : entO nv pred (p :: r) = if nv.getD p 0 - pred.getD p 0 = 0 then entO nv pred r else (p, nv.getD p 0 - pred.getD p 0) :: entO nv pred r := by
  by_cases h : nv.getD p 0 - pred.getD p 0 = 0
  · rw [if_pos h, entO, List.filter_cons_of_neg (by simpa using h)]; rfl
  · rw [if_neg h, entO, List.filter_cons_of_pos (by simpa using h)]; rfl
theorem pkB_mark (bs seq : Nat) (es : List (Nat × Int)) : (pkB bs seq 0 es).length = (pkB bs seq 1 es).length := by
  simp [pkB, encU_lt]
/-- what Encode hands over: all entries, or those of a first part of the order -/
theorem encGo_form (bs seq : Nat) (room : Int) (nv pred : List Int) : ∀ (r : List Nat) (es : List (Nat × Int)), ((pkB bs seq 1 es).length : Int) ≤ room →
    ((encGo bs seq room nv pred r es).length : Int) ≤ room ∧ (encGo bs seq room nv pred r es = pkB bs seq 1 (es ++ entO nv pred r) ∨
      ∃ r1 p r2, r = r1 ++ p :: r2 ∧ encGo bs seq room nv pred r es = pkB bs seq 0 (es ++ entO nv pred r1)) := by
  intro r
  induction r with
  | nil =>
    intro es h
    rw [encGo]
    exact ⟨h, .inl (by simp [entO])⟩
  | cons p r ih =>
    intro es h
    rw [encGo]
    by_cases hd : nv.getD p 0 - pred.getD p 0 = 0
    · rw [if_pos hd]
      obtain ⟨h1, h2⟩ := ih es h
      refine ⟨h1, ?_⟩
      rcases h2 with h2 | ⟨r1, p', r2, e, h2⟩
      · left; rw [h2, entO_cons, if_pos hd]
      · right
        refine ⟨p :: r1, p', r2, by rw [e]; rfl, ?_⟩
        rw [h2, entO_cons, if_pos hd]
    · rw [if_neg hd]
      by_cases hr : room < ((pkB bs seq 1 (es ++ [(p, nv.getD p 0 - pred.getD p 0)])).length : Int)
      · rw [if_pos hr]
        refine ⟨by rw [pkB_mark]; exact h, .inr ⟨[], p, r, rfl, by simp [entO]⟩⟩
      · rw [if_neg hr]
        obtain ⟨h1, h2⟩ := ih (es ++ [(p, nv.getD p 0 - pred.getD p 0)]) (by omega)
        refine ⟨h1, ?_⟩
        rcases h2 with h2 | ⟨r1, p', r2, e, h2⟩
        · left; rw [h2, entO_cons, if_neg hd, List.append_assoc]; rfl
        · right
          refine ⟨p :: r1, p', r2, by rw [e]; rfl, ?_⟩
          rw [h2, entO_cons, if_neg hd, List.append_assoc]; rfl
theorem rdS_enc (n : Nat) (r : List Int) (h : n < 18446744073709551616) : rdS (.good (encU n ++ r)) = (n, .good r) := by
  have e := rd_enc n 0 0 r (by omega) (by simpa using h) (by omega)
  simp only [Nat.zero_add, Nat.pow_zero, Nat.mul_one] at e
  simp only [rdS, rdU, e]
/-- entries that can be read one behind the other -/
def RdE (n : Nat) (vals : List Int) (known : List Bool) : List (Nat × Int) → Prop
  | [] => True
  | (p, d) :: es => p < n ∧ known.getD p false = false ∧ d ≠ 0 ∧ (-4294967294 ≤ d ∧ d ≤ 4294967294) ∧ fitsV (vals.getD p 0 + d) ∧ RdE n (vals.set p (vals.getD p 0 + d)) (known.set p true) es
def putE (vals : List Int) (known : List Bool) : List (Nat × Int) → List Int × List Bool
  | [] => (vals, known)
  | (p, d) :: es => putE (vals.set p (vals.getD p 0 + d)) (known.set p true) es
theorem tdiv2_fits (d : Int) (h : -4294967294 ≤ d ∧ d ≤ 4294967294) : fitsV (d.tdiv 2) := by
  obtain ⟨t1, t2⟩ := tdiv2 d
  unfold fitsV
  rcases Int.lt_or_le d 0 with h0 | h0
  · rw [t2 h0]; omega
  · rw [t1 h0]; omega
theorem entsS_enc : ∀ (es : List (Nat × Int)) (vals : List Int) (known : List Bool) (n : Nat) (r : List Int), vals.length = n → n ≤ 1000 → RdE n vals known es →
    entsS es.length (.good (es.flatMap entB ++ r)) known vals = .ok (.good r) (putE vals known es).2 (putE vals known es).1 := by
  intro es
  induction es with
  | nil => intro vals known n r _ _ _; rfl
  | cons x es ih =>
    obtain ⟨p, d⟩ := x
    intro vals known n r hn hm h
    obtain ⟨h1, h2, h3, h4, h5, h6⟩ := h
    have z1 : zig d < 18446744073709551616 := zig_lt d (by omega)
    have e1 : rdS (.good (((p, d) :: es).flatMap entB ++ r)) = (p, .good (encU (zig d) ++ (es.flatMap entB ++ r))) := by
      rw [List.flatMap_cons, entB]
      simp only [List.append_assoc]
      exact rdS_enc p _ (by omega)
    have e2 : rdS (.good (encU (zig d) ++ (es.flatMap entB ++ r))) = (zig d, .good (es.flatMap entB ++ r)) := rdS_enc _ _ z1
    have hc2 : ¬ (n ≤ p ∨ known.getD p false = true) := by
      rintro (h | h)
      · omega
      · rw [h2] at h; cases h
    have hmn : min p (n - 1) = p := by omega
    have hfd : fitsV (d.tdiv 2) := tdiv2_fits d h4
    have hen := entry_eq (vals := vals) (known := known) (r := ((p, d) :: es).flatMap entB ++ r) (p := p) (u := zig d) (nb := n) (t1 := .good (encU (zig d) ++ (es.flatMap entB ++ r))) (t2 := .good (encU (zig d) ++ (es.flatMap entB ++ r)))
      (t3 := .good (es.flatMap entB ++ r)) (t4 := .good (es.flatMap entB ++ r)) (t5 := .good (es.flatMap entB ++ r)) (d := d) hn (by rw [e1]; exact ⟨rfl, rfl⟩) (if_neg hc2) (by rw [e2]; exact ⟨rfl, rfl⟩) (zag_zig d) (if_neg h3)
      (if_neg (by rw [hmn]; rintro (h | h); exact h hfd; exact h h5))
    rw [List.length_cons, entsS, hen]
    simp only
    rw [ih _ _ n r (by rw [List.length_set]; exact hn) hm h6]
    rfl
/-- what is decoded of a packet with such entries -/
theorem decP_enc (bs seq mark : Nat) (bv : List Int) (es : List (Nat × Int)) (hb : bs < seq ∧ seq ≤ 1000000) (hm : mark ≤ 1) (hl : es.length ≤ bv.length) (hn : bv.length ≤ 1000) (he : RdE bv.length (predP bv bs seq) (List.replicate bv.length false) es) :
    decP (hasB bs bv) (pkB bs seq mark es) = .ok seq (finV (mark == 1) (putE (predP bv bs seq) (List.replicate bv.length false) es).2 (putE (predP bv bs seq) (List.replicate bv.length false) es).1)
      (if mark = 1 then List.replicate bv.length true else (putE (predP bv bs seq) (List.replicate bv.length false) es).2) (mark == 1) := by
  have r1 : rdS (.good (pkB bs seq mark es)) = (bs, .good (encU seq ++ (encU mark ++ (encU es.length ++ es.flatMap entB)))) := by
    rw [pkB]; simp only [List.append_assoc]; exact rdS_enc bs _ (by omega)
  have r2 := rdS_enc seq (encU mark ++ (encU es.length ++ es.flatMap entB)) (by omega)
  have r3 := rdS_enc mark (encU es.length ++ es.flatMap entB) (by omega)
  have r4 := rdS_enc es.length (es.flatMap entB) (by omega)
  have hh := headS_some (l := pkB bs seq mark es) (has := hasB bs bv) (first := bs) (bs := bs) (seq := seq) (mark := mark) (count := es.length) (nb := bv.length) (bv := bv) (s1 := .good (encU seq ++ (encU mark ++ (encU es.length ++ es.flatMap entB))))
    (s3 := .good (encU mark ++ (encU es.length ++ es.flatMap entB))) (s4 := .good (encU mark ++ (encU es.length ++ es.flatMap entB))) (s5 := .good (encU es.length ++ es.flatMap entB)) (s6 := .good (encU es.length ++ es.flatMap entB)) (s7 := .good (es.flatMap entB)) (s8 := .good (es.flatMap entB))
    (by rw [r1]; exact ⟨rfl, rfl⟩) (by simp [hasB]) (by rw [r2]; exact ⟨rfl, rfl⟩) (if_neg (by omega)) (by rw [r3]; exact ⟨rfl, rfl⟩) (if_neg (by omega)) (by rw [r4]; exact ⟨rfl, rfl⟩) rfl (if_neg (by omega))
  have hes := entsS_enc es (predP bv bs seq) (List.replicate bv.length false) bv.length [] (predP_len _ _ _) hn he
  rw [List.append_nil] at hes
  have hb2 : hasB bs bv bs = some (bs, bv) := by simp [hasB]
  unfold decP
  rw [hh]
  simp only [hb2, hes]
  rw [if_neg (by simp [endS])]
theorem getD_set_ne {α : Type} (l : List α) (i j : Nat) (x d : α) (h : i ≠ j) : (l.set i x).getD j d = l.getD j d := by
  simp [List.getD_eq_getElem?_getD, List.getElem?_set_ne h]
theorem getD_set_eq {α : Type} (l : List α) (i : Nat) (x d : α) (h : i < l.length) : (l.set i x).getD i d = x := by
  simp [List.getD_eq_getElem?_getD, List.getElem?_set_self h]
/-- the entries of an order can be read -/
theorem rdE_ent (nv pred : List Int) (n : Nat) (hN : ∀ x ∈ nv, fitsV x) (hP : ∀ x ∈ pred, fitsV x) (hln : nv.length = n) (hlp : pred.length = n) : ∀ (o : List Nat) (vals : List Int) (known : List Bool), o.Nodup → (∀ p ∈ o, p < n) → vals.length = n → known.length = n →
    (∀ p ∈ o, vals.getD p 0 = pred.getD p 0 ∧ known.getD p false = false) → RdE n vals known (entO nv pred o) := by
  intro o
  induction o with
  | nil => intro vals known _ _ _ _ _; trivial
  | cons p o ih =>
    intro vals known hnd hlt hv hk hq
    obtain ⟨hpo, hnd2⟩ := List.nodup_cons.1 hnd
    have hp := hlt p (by simp)
    rw [entO_cons]
    by_cases hd : nv.getD p 0 - pred.getD p 0 = 0
    · rw [if_pos hd]
      exact ih vals known hnd2 (fun x hx => hlt x (by simp [hx])) hv hk (fun x hx => hq x (by simp [hx]))
    · rw [if_neg hd]
      obtain ⟨q1, q2⟩ := hq p (by simp)
      have f1 := hN nv[p] (List.getElem_mem (by omega))
      have f2 := hP pred[p] (List.getElem_mem (by omega))
      have g1 := getD_nat nv p (by omega)
      have g2 := getD_nat pred p (by omega)
      unfold fitsV at f1 f2
      refine ⟨hp, q2, hd, by rw [g1, g2]; omega, by rw [q1]; unfold fitsV; rw [g1, g2]; omega, ?_⟩
      refine ih _ _ hnd2 (fun x hx => hlt x (by simp [hx])) (by rw [List.length_set]; exact hv) (by rw [List.length_set]; exact hk) (fun x hx => ?_)
      have hne : p ≠ x := by rintro rfl; exact hpo hx
      rw [getD_set_ne _ _ _ _ _ hne, getD_set_ne _ _ _ _ _ hne]
      exact hq x (by simp [hx])
/-- what is known and what the values are, behind the entries of an order -/
theorem putE_ent (nv pred : List Int) (n : Nat) : ∀ (o : List Nat) (vals : List Int) (known : List Bool), o.Nodup → (∀ p ∈ o, p < n) → vals.length = n → known.length = n → (∀ p ∈ o, vals.getD p 0 = pred.getD p 0) →
    (putE vals known (entO nv pred o)).1.length = n ∧ (putE vals known (entO nv pred o)).2.length = n ∧
    ∀ q, q < n → ((putE vals known (entO nv pred o)).2.getD q false = (known.getD q false || decide (q ∈ o ∧ nv.getD q 0 - pred.getD q 0 ≠ 0))) ∧
      ((putE vals known (entO nv pred o)).1.getD q 0 = if q ∈ o ∧ nv.getD q 0 - pred.getD q 0 ≠ 0 then nv.getD q 0 else vals.getD q 0) := by
  intro o
  induction o with
  | nil => intro vals known _ _ hv hk _; exact ⟨hv, hk, fun q _ => by simp [entO, putE]⟩
  | cons p o ih =>
    intro vals known hnd hlt hv hk hq
    obtain ⟨hpo, hnd2⟩ := List.nodup_cons.1 hnd
    have hp := hlt p (by simp)
    rw [entO_cons]
    by_cases hd : nv.getD p 0 - pred.getD p 0 = 0
    · rw [if_pos hd]
      obtain ⟨a, b, c⟩ := ih vals known hnd2 (fun x hx => hlt x (by simp [hx])) hv hk (fun x hx => hq x (by simp [hx]))
      refine ⟨a, b, fun q hqn => ?_⟩
      obtain ⟨c1, c2⟩ := c q hqn
      by_cases e : q = p
      · subst e
        rw [c1, c2, if_neg (fun h => hpo h.1), if_neg (fun h => h.2 hd), decide_eq_false (fun h => hpo h.1), decide_eq_false (fun h => h.2 hd)]
        exact ⟨rfl, rfl⟩
      · rw [c1, c2]
        simp [e]
    · rw [if_neg hd]
      have q1 := hq p (by simp)
      have hnv : vals.getD p 0 + (nv.getD p 0 - pred.getD p 0) = nv.getD p 0 := by rw [q1]; omega
      show (putE (vals.set p (vals.getD p 0 + (nv.getD p 0 - pred.getD p 0))) (known.set p true) (entO nv pred o)).1.length = n ∧ _
      obtain ⟨a, b, c⟩ := ih (vals.set p (vals.getD p 0 + (nv.getD p 0 - pred.getD p 0))) (known.set p true) hnd2 (fun x hx => hlt x (by simp [hx])) (by rw [List.length_set]; exact hv) (by rw [List.length_set]; exact hk) (fun x hx => by
        have hne : p ≠ x := by rintro rfl; exact hpo hx
        rw [getD_set_ne _ _ _ _ _ hne]
        exact hq x (by simp [hx]))
      refine ⟨a, b, fun q hqn => ?_⟩
      obtain ⟨c1, c2⟩ := c q hqn
      show (putE (vals.set p (vals.getD p 0 + (nv.getD p 0 - pred.getD p 0))) (known.set p true) (entO nv pred o)).2.getD q false = _ ∧ (putE (vals.set p (vals.getD p 0 + (nv.getD p 0 - pred.getD p 0))) (known.set p true) (entO nv pred o)).1.getD q 0 = _
      rw [c1, c2, hnv]
      by_cases e : q = p
      · subst e
        rw [getD_set_eq _ _ _ _ (by omega), getD_set_eq _ _ _ _ (by omega)]
        rw [if_neg (fun h => hpo h.1), if_pos ⟨List.mem_cons_self, hd⟩, decide_eq_false (fun h => hpo h.1), decide_eq_true ⟨List.mem_cons_self, hd⟩]
        exact ⟨by simp, rfl⟩
      · rw [getD_set_ne _ _ _ _ _ (Ne.symm e), getD_set_ne _ _ _ _ _ (Ne.symm e)]
        simp [e]
/-- what P28.7 and P28.9 ask of a packet read again -/
structure BackOk (n : Nat) (nv pred : List Int) (o : List Nat) (vals : List Int) (known : List Bool) : Prop where
  vl : vals.length = n
  kl : known.length = n
  yes : ∀ q, q < n → known.getD q false = true → vals.getD q 0 = nv.getD q 0
  no : ∀ q, q < n → known.getD q false = false → vals.getD q 0 = 0
  last : ∀ i j, i < j → j < n → known.getD (o.getD i 0) false = false → pred.getD (o.getD i 0) 0 ≠ nv.getD (o.getD i 0) 0 → known.getD (o.getD j 0) false = false
theorem finV_getD (known : List Bool) (vals : List Int) (q : Nat) (hv : q < vals.length) (hk : known.length = vals.length) : (finV false known vals).getD q 0 = if known.getD q false then vals.getD q 0 else 0 := by
  have hq : q < known.length := by omega
  simp [finV, List.getD_eq_getElem?_getD, List.getElem?_zipWith, List.getElem?_eq_getElem hv, List.getElem?_eq_getElem hq]
theorem nodup_len : ∀ (n : Nat) (o : List Nat), o.Nodup → (∀ x ∈ o, x < n) → o.length ≤ n := by
  intro n
  induction n with
  | zero =>
    intro o _ h
    cases o with
    | nil => exact Nat.le_refl _
    | cons x t => exact absurd (h x (by simp)) (by omega)
  | succ n ih =>
    intro o hnd h
    by_cases hm : n ∈ o
    · have h1 := ih (o.erase n) (hnd.erase n) (fun x hx => by
        have h2 := (hnd.mem_erase_iff).1 hx
        have := h x h2.2
        have := h2.1
        omega)
      rw [List.length_erase_of_mem hm] at h1
      omega
    · have := ih o hnd (fun x hx => by
        have h1 := h x hx
        have : x ≠ n := by rintro rfl; exact hm hx
        omega)
      omega
theorem Perm.mem {n : Nat} {o : List Nat} (h : Perm n o) {q : Nat} (hq : q < n) : q ∈ o := by
  refine Classical.byContradiction fun hno => ?_
  have := nodup_len n (q :: o) (List.nodup_cons.2 ⟨hno, h.nodup⟩) (fun x hx => by
    rcases List.mem_cons.1 hx with rfl | hx
    · exact hq
    · exact h.lt x hx)
  rw [List.length_cons, h.len] at this
  omega
theorem getD_o {o : List Nat} {i : Nat} (h : i < o.length) : o.getD i 0 = o[i] := by simp [List.getD_eq_getElem?_getD, List.getElem?_eq_getElem h]
theorem back_plain (bs seq n : Nat) (bv nv : List Int) (o : List Nat) (room : Int) (L : List Int) (hb : bs < seq ∧ seq ≤ 1000000) (hbl : bv.length = n) (hnl : nv.length = n) (hn : 0 < n ∧ n ≤ 1000) (hB : ∀ x ∈ bv, fitsV x) (hN : ∀ x ∈ nv, fitsV x) (hp : Perm n o)
    (h : encP bs bv seq nv o room = (L, 0)) : (L.length : Int) ≤ room ∧ ∃ vals known all, decP (hasB bs bv) L = .ok seq vals known all ∧ BackOk n nv (predP bv bs seq) o vals known := by
  rw [encP, if_neg (by omega)] at h
  by_cases hr : room < ((pkB bs seq 1 []).length : Int)
  · rw [if_pos hr] at h; cases h
  rw [if_neg hr] at h
  injection h with h _
  obtain ⟨pred, hpd⟩ : ∃ pred, predP bv bs seq = pred := ⟨_, rfl⟩
  rw [hpd] at h ⊢
  have hpl : pred.length = n := by rw [← hpd, predP_len, hbl]
  have hP : ∀ x ∈ pred, fitsV x := by rw [← hpd]; exact predP_fits hB (by omega)
  obtain ⟨h1, h2⟩ := encGo_form bs seq room nv pred o [] (by omega)
  rw [h] at h1 h2
  refine ⟨h1, ?_⟩
  have hrep : ∀ q, (List.replicate n false).getD q false = false := fun q => by
    rw [List.getD_eq_getElem?_getD, List.getElem?_replicate]; split <;> rfl
  have key : ∀ (o' : List Nat) (mark : Nat), mark ≤ 1 → o'.Nodup → (∀ p ∈ o', p < n) → o'.length ≤ n → decP (hasB bs bv) (pkB bs seq mark (entO nv pred o')) = .ok seq (finV (mark == 1) (putE pred (List.replicate n false) (entO nv pred o')).2 (putE pred (List.replicate n false) (entO nv pred o')).1)
      (if mark = 1 then List.replicate n true else (putE pred (List.replicate n false) (entO nv pred o')).2) (mark == 1) := by
    intro o' mark hm hnd hlt hlen
    have hel : (entO nv pred o').length ≤ n := by
      have := List.length_filter_le (fun p => decide (nv.getD p 0 - pred.getD p 0 ≠ 0)) o'
      simp only [entO, List.length_map]
      omega
    have := decP_enc bs seq mark bv (entO nv pred o') hb hm (by omega) (by omega) (by
      rw [hpd, hbl]
      exact rdE_ent nv pred n hN hP hnl hpl o' pred (List.replicate n false) hnd hlt hpl (by simp) (fun p _ => ⟨rfl, hrep p⟩))
    rwa [hpd, hbl] at this
  rcases h2 with h2 | ⟨r1, p0, r2, he, h2⟩
  · rw [h2, List.nil_append, key o 1 (Nat.le_refl _) hp.nodup hp.lt (by rw [hp.len]; exact Nat.le_refl _)]
    refine ⟨_, _, _, rfl, ?_⟩
    obtain ⟨a, b, c⟩ := putE_ent nv pred n o pred (List.replicate n false) hp.nodup hp.lt hpl (by simp) (fun _ _ => rfl)
    have hkt : ∀ q, q < n → (List.replicate n true).getD q false = true := fun q hq => by
      rw [List.getD_eq_getElem?_getD, List.getElem?_replicate, if_pos hq]; rfl
    refine ⟨a, by simp, fun q hq _ => ?_, fun q hq hk => ?_, fun i j _ hj hk _ => ?_⟩
    · show (putE pred (List.replicate n false) (entO nv pred o)).1.getD q 0 = _
      rw [(c q hq).2]
      split
      · rfl
      · rename_i hne
        have hqo : q ∈ o := hp.mem hq
        have : nv.getD q 0 - pred.getD q 0 = 0 := Classical.byContradiction fun h => hne ⟨hqo, h⟩
        omega
    · rw [if_pos rfl, hkt q hq] at hk; cases hk
    · rw [if_pos rfl, hkt _ (by
        have : i < o.length := by rw [hp.len]; omega
        rw [List.getD_eq_getElem?_getD, List.getElem?_eq_getElem this]
        exact hp.lt _ (List.getElem_mem this))] at hk
      cases hk
  · have hol : o.length = n := hp.len
    have hnd := hp.nodup
    rw [he] at hnd hol
    obtain ⟨hn1, hn2, hdis⟩ := List.nodup_append.1 hnd
    have hlt1 : ∀ p ∈ r1, p < n := fun p hp1 => hp.lt p (by rw [he]; simp [hp1])
    rw [List.length_append, List.length_cons] at hol
    rw [h2, List.nil_append, key r1 0 (by omega) hn1 hlt1 (by omega)]
    obtain ⟨a, b, c⟩ := putE_ent nv pred n r1 pred (List.replicate n false) hn1 hlt1 hpl (by simp) (fun _ _ => rfl)
    generalize (putE pred (List.replicate n false) (entO nv pred r1)).1 = V at *
    generalize (putE pred (List.replicate n false) (entO nv pred r1)).2 = K at *
    refine ⟨_, _, _, rfl, ?_⟩
    have hK : ∀ q, q < n → K.getD q false = decide (q ∈ r1 ∧ nv.getD q 0 - pred.getD q 0 ≠ 0) := fun q hq => by rw [(c q hq).1, hrep, Bool.false_or]
    refine ⟨by simp [finV]; omega, b, fun q hq hk => ?_, fun q hq hk => ?_, fun i j hij hj hk hne => ?_⟩
    · rw [if_neg (by decide)] at hk
      show (finV false K V).getD q 0 = _
      rw [finV_getD K V q (by omega) (by omega), hk]
      rw [hK q hq] at hk
      rw [(c q hq).2, if_pos (of_decide_eq_true hk)]
      rfl
    · rw [if_neg (by decide)] at hk
      show (finV false K V).getD q 0 = _
      rw [finV_getD K V q (by omega) (by omega), hk]
      rfl
    · rw [if_neg (by decide)] at hk ⊢
      have hio : i < o.length := by rw [hp.len]; omega
      have hjo : j < o.length := by rw [hp.len]; omega
      have hin := hp.lt _ (List.getElem_mem hio)
      have hjn := hp.lt _ (List.getElem_mem hjo)
      rw [getD_o hio] at hk hne
      rw [getD_o hjo]
      rw [hK _ hin] at hk
      rw [hK _ hjn]
      refine decide_eq_false fun hc => ?_
      have hjr : j < r1.length := by
        refine Classical.byContradiction fun hge => ?_
        have e1 : o[j] = (p0 :: r2)[j - r1.length]'(by rw [List.length_cons]; rw [hp.len] at hjo; omega) := by
          simp only [he]
          exact List.getElem_append_right (by omega)
        exact hdis _ hc.1 _ (by rw [e1]; exact List.getElem_mem _) rfl
      have e2 : o[i] = r1[i]'(by omega) := by
        simp only [he]
        exact List.getElem_append_left (by omega)
      have := of_decide_eq_false hk
      exact this ⟨by rw [e2]; exact List.getElem_mem _, by omega⟩
theorem pkB_bytes (bs seq mark : Nat) (es : List (Nat × Int)) : bytes (pkB bs seq mark es) := by
  intro x hx
  simp only [pkB, List.mem_append, List.mem_flatMap, entB] at hx
  rcases hx with (((h | h) | h) | h) | ⟨y, _, h | h⟩
  all_goals exact encU_byte _ x h
theorem encGo_bytes (bs seq : Nat) (room : Int) (nv pred : List Int) : ∀ (r : List Nat) (es : List (Nat × Int)), bytes (encGo bs seq room nv pred r es) := by
  intro r
  induction r with
  | nil => intro es; rw [encGo]; exact pkB_bytes _ _ _ _
  | cons p r ih =>
    intro es
    rw [encGo]
    split
    · exact ih es
    · split
      · exact pkB_bytes _ _ _ _
      · exact ih _
theorem encP_bytes (bs seq : Nat) (bv nv : List Int) (o : List Nat) (room : Int) : bytes (encP bs bv seq nv o room).1 := by
  rw [encP]
  split
  · intro x hx; cases hx
  · split
    · intro x hx; cases hx
    · exact encGo_bytes _ _ _ _ _ _ _
theorem limit_plain (bs seq : Nat) (bv nv : List Int) (o : List Nat) (room : Int) (L : List Int) (hb : bs < seq) (hs : seq ≤ 2000) (h : encP bs bv seq nv o room = (L, 2)) : room < 8 ∧ L = [] := by
  rw [encP, if_neg (by omega)] at h
  by_cases hr : room < ((pkB bs seq 1 []).length : Int)
  · rw [if_pos hr] at h
    injection h with h _
    have e1 := encU_len 1 bs (by omega)
    have e2 := encU_len 1 seq (by omega)
    have e3 : (pkB bs seq 1 []).length = (encU bs).length + (encU seq).length + 1 + 1 := by simp [pkB, encU_lt]; omega
    exact ⟨by omega, h.symm⟩
  · rw [if_neg hr] at h
    injection h with _ h
    cases h
theorem encP_err (bs seq : Nat) (bv nv : List Int) (o : List Nat) (room : Int) (hb : bs < seq) : (encP bs bv seq nv o room).2 = 0 ∨ (encP bs bv seq nv o room).2 = 2 := by
  rw [encP, if_neg (by omega)]
  split
  · exact .inr rfl
  · exact .inl rfl
end Go.Proofs.Ytpdbdpmlppbnnaa
