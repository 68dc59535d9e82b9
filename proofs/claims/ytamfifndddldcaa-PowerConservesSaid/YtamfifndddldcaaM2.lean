/-
  Plain law of layer 10: tables made of numbers. No program in sight.
-/
import Derived.Test.YtamfifndddldcaaW6
namespace Go.Proofs.Ytamfifndddldcaa

structure TS where
  out : List Wn
  e0 : Int
  e1 : Int
  at_ : Int
  la : Int
def craftT (n : Int) : Int := n / 256 % 2
def fromT (s : TS) (n : Int) : Int :=
  if max (s.at_ + n % 8) (if craftT n = 0 then s.e0 else s.e1) = s.at_ ∧ craftT n ≤ s.la then max (s.at_ + n % 8) (if craftT n = 0 then s.e0 else s.e1) + 1 else max (s.at_ + n % 8) (if craftT n = 0 then s.e0 else s.e1)
def untilT (s : TS) (n : Int) : Int := fromT s n + 1 + n / 8 % 32
def stepT (s : TS) (n : Int) : TS :=
  ⟨s.out ++ [⟨3, craftT n, 0, fromT s n, untilT s n, 0⟩], if craftT n = 0 then untilT s n else s.e0, if craftT n = 0 then s.e1 else untilT s n, fromT s n, craftT n⟩
def runT : List Int → TS → List Wn
  | [], s => s.out
  | n :: l, s => if 1000 < untilT s n then s.out else runT l (stepT s n)
def tableL (l : List Int) : List Wn := runT (l.take 30) ⟨[], 0, 0, 0, -1⟩
/-- the end of a craft's windows so far -/
def TS.e (s : TS) (c : Int) : Int := if c = 0 then s.e0 else s.e1
/-- a table's windows are in order and do not overlap -/
structure Tab0 (t : List Wn) : Prop where
  kind : ∀ x ∈ t, x.k = 3 ∧ (x.a = 0 ∨ x.a = 1) ∧ x.b = 0
  bd : ∀ x ∈ t, 0 ≤ x.f ∧ x.f < x.u ∧ x.u ≤ 1000
  srt : t.Pairwise (fun x y => x.f ≤ y.f ∧ (x.a = y.a → x.u ≤ y.f))
structure TOk (s : TS) : Prop where
  tab : Tab0 s.out
  last : ∀ x ∈ s.out, x.f ≤ s.at_ ∧ x.u ≤ s.e x.a
  b0 : 0 ≤ s.e0 ∧ s.e0 ≤ 1000
  b1 : 0 ≤ s.e1 ∧ s.e1 ≤ 1000
  ba : 0 ≤ s.at_ ∧ s.at_ ≤ 1000
theorem TOk.start : TOk ⟨[], 0, 0, 0, -1⟩ := ⟨⟨by simp, by simp, .nil⟩, by simp, by simp, by simp, by simp⟩
theorem TOk.step {s : TS} (h : TOk s) (n : Int) (_ : 0 ≤ n) (hu : ¬ 1000 < untilT s n) : TOk (stepT s n) := by
  obtain ⟨⟨k1, k2, k3⟩, h2, h3, h4, h5⟩ := h
  have c01 : craftT n = 0 ∨ craftT n = 1 := by unfold craftT; omega
  have hf1 : s.at_ ≤ fromT s n := by unfold fromT; split <;> omega
  have hf2 : s.e (craftT n) ≤ fromT s n := by
    unfold fromT TS.e
    split <;> omega
  have hfu : fromT s n < untilT s n := by unfold untilT; omega
  obtain ⟨f, hf⟩ : ∃ f, fromT s n = f := ⟨_, rfl⟩
  obtain ⟨u, hu'⟩ : ∃ u, untilT s n = u := ⟨_, rfl⟩
  obtain ⟨c, hc⟩ : ∃ c, craftT n = c := ⟨_, rfl⟩
  unfold stepT
  rw [hc] at c01 hf2
  rw [hf] at hf1 hf2 hfu
  rw [hu'] at hfu hu
  rw [hf, hu', hc]
  clear hf hu' hc
  refine ⟨⟨?_, ?_, ?_⟩, ?_, ?_, ?_, ?_⟩
  · intro x hx
    rcases List.mem_append.1 hx with hx | hx
    · exact k1 x hx
    · obtain rfl := List.mem_singleton.1 hx
      exact ⟨rfl, c01, rfl⟩
  · intro x hx
    rcases List.mem_append.1 hx with hx | hx
    · exact k2 x hx
    · obtain rfl := List.mem_singleton.1 hx
      exact ⟨by show (0 : Int) ≤ f; omega, hfu, by show u ≤ 1000; omega⟩
  · rw [List.pairwise_append]
    refine ⟨k3, List.pairwise_singleton _ _, ?_⟩
    intro x hx y hy
    obtain rfl := List.mem_singleton.1 hy
    obtain ⟨l1, l2⟩ := h2 x hx
    refine ⟨by show x.f ≤ f; omega, fun he => ?_⟩
    have he' : x.a = c := he
    rw [he'] at l2
    show x.u ≤ f
    omega
  · intro x hx
    show x.f ≤ f ∧ x.u ≤ if x.a = 0 then (if c = 0 then u else s.e0) else (if c = 0 then s.e1 else u)
    rcases List.mem_append.1 hx with hx | hx
    · obtain ⟨l1, l2⟩ := h2 x hx
      obtain ⟨_, l3, _⟩ := k1 x hx
      refine ⟨by omega, ?_⟩
      unfold TS.e at l2 hf2
      rcases c01 with rfl | rfl <;> rcases l3 with l3 | l3 <;> simp [l3] at l2 hf2 ⊢ <;> omega
    · obtain rfl := List.mem_singleton.1 hx
      refine ⟨Int.le_refl _, ?_⟩
      show u ≤ if c = 0 then (if c = 0 then u else s.e0) else (if c = 0 then s.e1 else u)
      rcases c01 with rfl | rfl <;> simp
  · show 0 ≤ (if c = 0 then u else s.e0) ∧ (if c = 0 then u else s.e0) ≤ 1000
    split <;> omega
  · show 0 ≤ (if c = 0 then s.e1 else u) ∧ (if c = 0 then s.e1 else u) ≤ 1000
    split <;> omega
  · show 0 ≤ f ∧ f ≤ 1000
    omega
theorem runT_tab : ∀ (l : List Int) (s : TS), TOk s → (∀ n ∈ l, 0 ≤ n) → Tab0 (runT l s) := by
  intro l
  induction l with
  | nil => intro s h _; exact h.tab
  | cons n l ih =>
    intro s h hn
    unfold runT
    split
    · exact h.tab
    · rename_i hu
      exact ih _ (h.step n (hn n List.mem_cons_self) hu) (fun m hm => hn m (List.mem_cons_of_mem _ hm))
theorem runT_len : ∀ (l : List Int) (s : TS), (runT l s).length ≤ s.out.length + l.length := by
  intro l
  induction l with
  | nil => intro s; simp [runT]
  | cons n l ih =>
    intro s
    unfold runT
    split
    · simp
    · have := ih (stepT s n)
      have e : (stepT s n).out.length = s.out.length + 1 := by simp [stepT]
      simp only [List.length_cons]
      omega
theorem tableL_tab0 (l : List Int) (hl : ∀ n ∈ l, 0 ≤ n) : Tab0 (tableL l) := runT_tab _ _ TOk.start (fun n hn => hl n (List.mem_of_mem_take hn))
theorem tableL_len (l : List Int) : (tableL l).length ≤ 30 := by
  have := runT_len (l.take 30) ⟨[], 0, 0, 0, -1⟩
  have h2 : (l.take 30).length ≤ 30 := by simp; omega
  unfold tableL
  simp only [List.length_nil] at this
  omega
theorem Tab0.tab {t : List Wn} (h : Tab0 t) (hl : t.length ≤ 30) : Tab t := ⟨by omega, fun x hx => by have := h.bd x hx; omega, h.srt.imp (fun h => h.1)⟩
theorem tableL_tab (l : List Int) (hl : ∀ n ∈ l, 0 ≤ n) : Tab (tableL l) := (tableL_tab0 l hl).tab (tableL_len l)
theorem runT_step (l : List Int) (i : Nat) (hi : i < l.length) (h30 : i < 30) (s : TS) : runT ((l.drop i).take (30 - i)) s = if 1000 < untilT s l[i] then s.out else runT ((l.drop (i + 1)).take (30 - (i + 1))) (stepT s l[i]) := by
  rw [List.drop_eq_getElem_cons hi, show 30 - i = (30 - (i + 1)) + 1 by omega, List.take_succ_cons]
  rfl
theorem runT_stop (l : List Int) (i : Nat) (hi : l.length ≤ i ∨ 30 ≤ i) (s : TS) : runT ((l.drop i).take (30 - i)) s = s.out := by
  have : (l.drop i).take (30 - i) = [] := by
    rcases hi with hi | hi
    · rw [List.drop_of_length_le hi]; simp
    · rw [show 30 - i = 0 by omega]; simp
  rw [this]
  rfl
end Go.Proofs.Ytamfifndddldcaa
