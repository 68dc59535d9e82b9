/-
  Plain law of layer 28: what a decoded packet satisfies.
-/
import Derived.Test.YtpdbdpmlppbnnaaN6
namespace Go.Proofs.Ytpdbdpmlppbnnaa

theorem head_bd {l : List Int} {has : Nat → Option (Nat × List Int)} {r : List Int} {first seq mark count : Nat} (h : headS l has = (.good r, first, seq, mark, count)) : first < seq ∧ seq ≤ 1000000 ∧ mark ≤ 1 ∧ ∃ x, has first = some x ∧ count ≤ x.2.length := by
  unfold headS at h
  simp only [Prod.mk.injEq] at h
  obtain ⟨h8, hf, hs, hm, hc⟩ := h
  obtain ⟨a1, a2⟩ := if_good rfl h8
  obtain ⟨l6, a3⟩ := rdS_good a2
  obtain ⟨a4, a5⟩ := if_good rfl a3
  obtain ⟨l4, a6⟩ := rdS_good a5
  obtain ⟨a7, a8⟩ := if_good rfl a6
  obtain ⟨l2, a9⟩ := rdS_good a8
  rw [hc] at a1
  rw [hm] at a4
  rw [hs] at a7
  rw [hf] at a1 a7 a9
  refine ⟨by omega, by omega, by omega, ?_⟩
  obtain ⟨o, ho⟩ : ∃ o, has first = o := ⟨_, rfl⟩
  rw [ho] at a9 a1
  cases o with
  | none => exact absurd a9 (fun h => failS_good h)
  | some x => exact ⟨x, ho, by simp only at a1; omega⟩
theorem entsS_ok : ∀ (c : Nat) (s : St) (known : List Bool) (vals : List Int) (s' : St) (known' : List Bool) (vals' : List Int), entsS c s known vals = .ok s' known' vals' → 0 < vals.length → (∀ x ∈ vals, fitsV x) → vals'.length = vals.length ∧ known'.length = known.length ∧ ∀ x ∈ vals', fitsV x
  | 0, s, known, vals, s', known', vals', h, _, hf => by
    rw [entsS] at h
    injection h with h1 h2 h3
    subst h2 h3
    exact ⟨rfl, rfl, hf⟩
  | c + 1, s, known, vals, s', known', vals', h, h0, hf => by
    rw [entsS] at h
    obtain ⟨⟨t, p, v⟩, hE⟩ : ∃ E, entryS vals known s = E := ⟨_, rfl⟩
    rw [hE] at h
    cases t with
    | bad e => cases h
    | good l =>
      simp only at h
      have hg := entryS_good (vals := vals) (known := known) (s := s) (r := l) (by rw [hE]) h0
      rw [hE] at hg
      obtain ⟨g1, _, _, g4⟩ := hg
      obtain ⟨r1, r2, r3⟩ := entsS_ok c _ _ _ _ _ _ h (by simpa using h0) (fun x hx => by
        rcases List.mem_or_eq_of_mem_set hx with hx | rfl
        · exact hf x hx
        · exact g4)
      exact ⟨by simpa using r1, by simpa using r2, r3⟩
theorem decP_ok {has : Nat → Option (Nat × List Int)} {l : List Int} {seq : Nat} {vals : List Int} {known : List Bool} {all : Bool} {n : Nat} (h : decP has l = .ok seq vals known all) (hn : 0 < n)
    (hh : ∀ q x, has q = some x → x.1 = q ∧ x.2.length = n ∧ ∀ y ∈ x.2, fitsV y) : 1 ≤ seq ∧ seq ≤ 1000000 ∧ vals.length = n ∧ known.length = n ∧ ∀ y ∈ vals, fitsV y := by
  unfold decP at h
  obtain ⟨⟨s8, first, sq, mark, count⟩, hE⟩ : ∃ E, headS l has = E := ⟨_, rfl⟩
  rw [hE] at h
  cases s8 with
  | bad e => cases h
  | good r =>
    obtain ⟨b1, b2, b3, ⟨bs, bv⟩, b4, b5⟩ := head_bd hE
    simp only [b4] at h
    obtain ⟨e1, e2, e3⟩ := hh first (bs, bv) b4
    simp only at e1 e2 e3
    subst e1
    have hpl := predP_len bv bs sq
    have hpf := predP_fits (bs := bs) (seq := sq) e3 (by omega)
    cases hR : entsS count (.good r) (List.replicate bv.length false) (predP bv bs sq) with
    | err e => rw [hR] at h; cases h
    | ok s k v =>
      rw [hR] at h
      simp only at h
      obtain ⟨r1, r2, r3⟩ := entsS_ok _ _ _ _ _ _ _ hR (by omega) hpf
      split at h
      · cases h
      · injection h with h1 h2 h3 h4
        subst h1 h2 h3
        have hkl : k.length = v.length := by rw [r1, r2, hpl]; simp
        refine ⟨by omega, b2, by rw [finV_len _ _ _ hkl]; omega, ?_, ?_⟩
        · split
          · simp; omega
          · omega
        · cases hm : (mark == 1)
          · intro y hy
            simp only [finV, Bool.false_eq_true, if_false] at hy
            obtain ⟨i, hi, rfl⟩ := List.getElem_of_mem hy
            rw [List.getElem_zipWith]
            split
            · exact r3 _ (List.getElem_mem _)
            · exact ⟨by decide, by decide⟩
          · intro y hy
            exact r3 y hy
theorem ifS_ok {c : Prop} [Decidable c] {s : St} {e : Int} (h : OkS s) (he : e ≠ 0) : OkS (if c then failS s e else s) := by
  split
  · exact failS_ok h he
  · exact h
theorem headS_okS (l : List Int) (has : Nat → Option (Nat × List Int)) : OkS (headS l has).1 := by
  unfold headS
  simp only
  refine ifS_ok (rdS_ok (ifS_ok (rdS_ok (ifS_ok (rdS_ok ?_) (by decide))) (by decide))) (by decide)
  split
  · exact failS_ok (rdS_ok trivial) (by decide)
  · exact rdS_ok trivial
theorem entryS_okS (vals : List Int) (known : List Bool) {s : St} (h : OkS s) : OkS (entryS vals known s).1 := by
  unfold entryS
  simp only
  exact ifS_ok (ifS_ok (rdS_ok (ifS_ok (rdS_ok h) (by decide))) (by decide)) (by decide)
theorem entsS_err : ∀ (c : Nat) (s : St) (known : List Bool) (vals : List Int) (e : Int), OkS s → entsS c s known vals = .err e → e ≠ 0
  | 0, s, known, vals, e, _, h => by rw [entsS] at h; cases h
  | c + 1, s, known, vals, e, ho, h => by
    rw [entsS] at h
    have hE := entryS_okS vals known ho
    obtain ⟨⟨t, p, v⟩, hE2⟩ : ∃ E, entryS vals known s = E := ⟨_, rfl⟩
    rw [hE2] at h hE
    cases t with
    | bad x => injection h with h; subst h; exact hE
    | good l => exact entsS_err c (.good l) _ _ e trivial h
theorem decP_err {has : Nat → Option (Nat × List Int)} {l : List Int} {e : Int} (h : decP has l = .err e) : e ≠ 0 := by
  unfold decP at h
  have hO := headS_okS l has
  obtain ⟨⟨s8, first, sq, mark, count⟩, hE⟩ : ∃ E, headS l has = E := ⟨_, rfl⟩
  rw [hE] at h hO
  cases s8 with
  | bad x => injection h with h; subst h; exact hO
  | good r =>
    simp only at h
    split at h
    · injection h with h; subst h; decide
    · split at h
      · rename_i hx
        injection h with h
        subst h
        exact entsS_err _ (.good r) _ _ _ trivial hx
      · split at h
        · rename_i hx
          injection h with h
          subst h
          exact hx
        · cases h
/-- what a sink has, as decode asks -/
def hasH (H : Nat → Option (List Int)) (q : Nat) : Option (Nat × List Int) := (H q).map fun l => (q, l)
/-- what Put answers: number, whether complete, error, and what the sink has then -/
def putP (H : Nat → Option (List Int)) (l : List Int) : Int × Bool × Int × (Nat → Option (List Int)) :=
  match decP (hasH H) l with
  | .err c => (0, false, c, H)
  | .ok seq vals _ all => ((seq : Nat), all, 0, if all = true ∧ (H seq).isSome = false then fun q => if q = seq then some vals else H q else H)
end Go.Proofs.Ytpdbdpmlppbnnaa
