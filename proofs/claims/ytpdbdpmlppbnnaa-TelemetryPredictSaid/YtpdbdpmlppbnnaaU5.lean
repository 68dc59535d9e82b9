/-
  Walks of layer 2: the other methods of a reader.
-/
import Derived.Test.YtpdbdpmlppbnnaaU4
namespace Go.Proofs.Ytpdbdpmlppbnnaa
open Go.RowKit Go.Shelf

theorem rdGo_lt : ∀ (l : List Int) (k acc n : Nat) (r : List Int), bytes l → k ≤ 9 → acc < 2 ^ (7 * k) → rdGo l k acc = .ok n r → n < 18446744073709551616 := by
  intro l
  induction l with
  | nil => intro k acc n r _ _ _ h; rw [rdGo] at h; cases h
  | cons y l ih =>
    intro k acc n r hb hk ha h
    obtain ⟨y0, y1⟩ := hb y (by simp)
    by_cases hbad : (k = 9 ∧ y ≠ 1) ∨ (0 < k ∧ y = 0)
    · rw [rdGo_bad hbad] at h; cases h
    · have hk9 : k = 9 → y = 1 := fun h => Classical.byContradiction fun h2 => hbad (.inl ⟨h, h2⟩)
      have h3 : y.toNat % 128 * 2 ^ (7 * k) ≤ 127 * 2 ^ (7 * k) := Nat.mul_le_mul_right _ (by omega)
      by_cases hy : y < 128
      · rw [rdGo_end hbad y0 hy] at h
        injection h with h _
        subst h
        by_cases h9 : k = 9
        · subst h9
          have := hk9 rfl
          subst this
          simp at ha ⊢
          omega
        · have h1 : 2 ^ (7 * k) ≤ 2 ^ 56 := Nat.pow_le_pow_right (by decide) (by omega)
          omega
      · rw [rdGo_on hbad hy] at h
        have hk8 : k < 9 := by
          rcases Nat.lt_or_ge k 9 with h | h
          · exact h
          · have := hk9 (by omega); omega
        refine ih (k + 1) _ n r (fun x hx => hb x (by simp [hx])) (by omega) ?_ h
        have h2 : 2 ^ (7 * (k + 1)) = 128 * 2 ^ (7 * k) := by rw [Nat.mul_add, Nat.pow_add, Nat.mul_comm]
        omega
/-- the bytes that are left are bytes -/
def OkB : St → Prop
  | .bad _ => True
  | .good l => bytes l
theorem rdGo_tail : ∀ (l : List Int) (k acc n : Nat) (r : List Int), bytes l → rdGo l k acc = .ok n r → bytes r := by
  intro l
  induction l with
  | nil => intro k acc n r _ h; rw [rdGo] at h; cases h
  | cons y l ih =>
    intro k acc n r hb h
    rw [rdGo] at h
    split at h
    · cases h
    · split at h
      · injection h with _ h; subst h; exact fun x hx => hb x (by simp [hx])
      · exact ih _ _ n r (fun x hx => hb x (by simp [hx])) h
theorem rdS_lt {s : St} (h : OkB s) : (rdS s).1 < 18446744073709551616 := by
  cases s with
  | bad e => exact Nat.zero_lt_succ _
  | good l =>
    simp only [rdS]
    split
    · exact Nat.zero_lt_succ _
    · rename_i n r e
      exact rdGo_lt l 0 0 n r h (by decide) (by decide) e
theorem rdS_okb {s : St} (h : OkB s) : OkB (rdS s).2 := by
  cases s with
  | bad e => trivial
  | good l =>
    simp only [rdS]
    split
    · trivial
    · rename_i n r e
      exact rdGo_tail l 0 0 n r h e
theorem failS_okb {s : St} {e : Int} (h : OkB s) : OkB (failS s e) := by cases s <;> trivial
theorem RdM.okb {w : World} {b : Nat} {s : St} (h : RdM w b s) : OkB s := by
  cases s with
  | bad e => trivial
  | good l =>
    obtain ⟨A, c, N, l2, at_, hc, rfl⟩ := h
    exact fun x hx => hc.ok.1 x (List.mem_of_mem_drop hx)
theorem RdM.ok {w : World} {b : Nat} {s : St} (h : RdM w b s) : OkS s := by
  cases s with
  | bad e => exact h.1
  | good l => trivial
theorem and_one (u : Nat) (h : u < 18446744073709551616) : bits .and .u64 (u : Int) 1 = ((u % 2 : Nat) : Int) := by
  have e := bits_and_u64_nat u 1 h (by decide)
  rw [show ((1 : Nat) : Int) = 1 from rfl] at e
  rw [e, Nat.and_one_is_mod]
theorem xor_0 (x : Nat) (h : x < 9223372036854775808) : bits .xor .i64 (x : Int) 0 = (x : Int) := by
  show IntKind.i64.wrap ((BitVec.ofInt 64 (x : Int) ^^^ BitVec.ofInt 64 0).toNat : Int) = _
  have h1 : (BitVec.ofInt 64 (x : Int)).toNat = x := by rw [BitVec.ofInt_natCast, BitVec.toNat_ofNat]; exact Nat.mod_eq_of_lt (by omega)
  have h2 : (BitVec.ofInt 64 0).toNat = 0 := by decide
  rw [BitVec.toNat_xor, h1, h2, Nat.xor_zero, IntKind.wrap_i64]
  omega
theorem xor_m1 (x : Nat) (h : x < 9223372036854775808) : bits .xor .i64 (x : Int) (-1) = -(x : Int) - 1 := by
  show IntKind.i64.wrap ((BitVec.ofInt 64 (x : Int) ^^^ BitVec.ofInt 64 (-1)).toNat : Int) = _
  have h2 : BitVec.ofInt 64 (-1) = BitVec.allOnes 64 := by decide
  have h1 : (BitVec.ofInt 64 (x : Int)).toNat = x := by rw [BitVec.ofInt_natCast, BitVec.toNat_ofNat]; exact Nat.mod_eq_of_lt (by omega)
  rw [h2, BitVec.xor_allOnes, BitVec.toNat_not, h1, IntKind.wrap_i64]
  omega
set_option maxHeartbeats 1000000 in
theorem rInt_calls (b : Nat) (s : St) (w : World) (h : RdM w b s) :
    Calls Try.prog 85 #[.pointer (some ⟨b, 0, none⟩)] w fun e w' => e = .returned (.int .i64 (zag (rdS s).1)) ∧ RdM w' b (rdS s).2 ∧ w.grownBy w' (some b) := by
  have HC := bx (rUint_calls b s w h)
  have hu := rdS_lt h.okb
  clear h
  obtain ⟨u, hu2⟩ : ∃ u, (rdS s).1 = u := ⟨_, rfl⟩
  rw [hu2] at hu HC ⊢
  obtain ⟨s2, hs2⟩ : ∃ s2, (rdS s).2 = s2 := ⟨_, rfl⟩
  rw [hs2] at HC ⊢
  clear hu2 hs2
  have e1 := and_one u hu
  by_cases hp : u % 2 = 0
  · rw [hp] at e1
    have e2 : bits .xor .i64 ((u : Int) / 2) 0 = (u : Int) / 2 := by
      have := xor_0 (u / 2) (by omega)
      have e : (((u / 2 : Nat)) : Int) = (u : Int) / 2 := by omega
      rwa [e] at this
    have HZ := bx (show zag u = (u : Int) / 2 by rw [zag, if_pos hp]; omega)
    clear hp
    go_enter Try.func85, Try.ntmps85
    go_wp2_with fail
    refine HC.out.mono ?_
    rintro e w1 ⟨rfl, h1, h2⟩
    go_wp2
    go_ret
    exact ⟨ret_int HZ.out.symm, h1, h2⟩
  · have hp1 : u % 2 = 1 := by omega
    rw [hp1] at e1
    have e2 : bits .xor .i64 ((u : Int) / 2) (-1) = -((u : Int) / 2) - 1 := by
      have := xor_m1 (u / 2) (by omega)
      have e : (((u / 2 : Nat)) : Int) = (u : Int) / 2 := by omega
      rwa [e] at this
    have HZ := bx (show zag u = -((u : Int) / 2) - 1 by rw [zag, if_neg hp]; omega)
    clear hp hp1
    go_enter Try.func85, Try.ntmps85
    go_wp2_with fail
    refine HC.out.mono ?_
    rintro e w1 ⟨rfl, h1, h2⟩
    go_wp2
    go_ret
    exact ⟨ret_int HZ.out.symm, h1, h2⟩
theorem rFail_calls (b : Nat) (s : St) (e : Int) (w : World) (h : RdM w b s) (he : e ≠ 0) :
    Calls Try.prog 83 #[.pointer (some ⟨b, 0, none⟩), .int .i64 e] w fun r w' => r = .returned (.tuple #[]) ∧ RdM w' b (failS s e) ∧ w.grownBy w' (some b) := by
  cases s with
  | bad x =>
    obtain ⟨hx, A, c, N, l, at_, hc⟩ := h
    obtain ⟨c0, c1, c2, f1, f2, hb⟩ := hc.facts
    have HC := bx hc
    have HE := bx hx
    have d1 : (x == 0) = false := by simpa using hx
    clear hc hx he
    go_enter Try.func83, Try.ntmps83
    go_wp2
    go_end0
    exact ⟨rfl, ⟨HE.out, _, _, _, _, _, HC.out⟩, grown_refl _ _⟩
  | good r =>
    obtain ⟨A, c, N, l, at_, hc, hr⟩ := h
    obtain ⟨c0, c1, c2, f1, f2, hb⟩ := hc.facts
    have HC := bx hc
    have HE := bx he
    clear hc he
    go_enter Try.func83, Try.ntmps83
    go_wp2
    go_end0
    exact ⟨rfl, ⟨HE.out, _, _, _, _, _, HC.out.setE e⟩, grown_set (grown_refl _ _) _ _⟩
theorem rErr_calls (b : Nat) (s : St) (w : World) (h : RdM w b s) :
    Calls Try.prog 84 #[.pointer (some ⟨b, 0, none⟩)] w fun r w' => r = .returned (.int .i64 s.err) ∧ w' = w := by
  cases s with
  | bad x =>
    obtain ⟨hx, A, c, N, l, at_, hc⟩ := h
    obtain ⟨c0, c1, c2, f1, f2, hb⟩ := hc.facts
    clear hc
    go_enter Try.func84, Try.ntmps84
    go_wp2
    go_ret
    exact ⟨rfl, rfl⟩
  | good r =>
    obtain ⟨A, c, N, l, at_, hc, hr⟩ := h
    obtain ⟨c0, c1, c2, f1, f2, hb⟩ := hc.facts
    clear hc
    go_enter Try.func84, Try.ntmps84
    go_wp2
    go_ret
    exact ⟨rfl, rfl⟩
theorem rEnd_calls (b : Nat) (s : St) (w : World) (h : RdM w b s) :
    Calls Try.prog 86 #[.pointer (some ⟨b, 0, none⟩)] w fun r w' => r = .returned (.int .i64 (endS s)) ∧ From w w' := by
  cases s with
  | bad x =>
    obtain ⟨hx, A, c, N, l, at_, hc⟩ := h
    obtain ⟨c0, c1, c2, f1, f2, hb⟩ := hc.facts
    have d1 : (x == 0) = false := by simpa using hx
    clear hc hx
    go_enter Try.func86, Try.ntmps86
    go_wp2
    go_quiet (fail)
    go_wp2
    go_ret
    exact ⟨rfl, From.drewN (From.refl _) _⟩
  | good r =>
    obtain ⟨A, c, N, l, at_, hc, hr⟩ := h
    obtain ⟨c0, c1, c2, f1, f2, hb⟩ := hc.facts
    have hN := hc.ok.2.1
    have hp := hc.ok.2.2
    have hl := hc.len
    clear hc
    by_cases hlt : at_ < N
    · have z1 : (at_ : Int) < (N : Int) := by omega
      have z2 : decide ((at_ : Int) < (N : Int)) = true := decide_eq_true z1
      have HR := bx (show endS (.good r) = 7 by rw [← hr, List.drop_eq_getElem_cons (by omega)]; rfl)
      clear hr hl
      go_enter Try.func86, Try.ntmps86
      go_wp2
      go_quiet (fail)
      go_wp2
      go_ret
      exact ⟨by rw [HR.out]; rfl, From.drewN (From.refl _) _⟩
    · have z2 : decide ((at_ : Int) < (N : Int)) = false := decide_eq_false (by omega)
      have HR := bx (show endS (.good r) = 0 by rw [← hr, List.drop_of_length_le (by omega)]; rfl)
      clear hr hl
      go_enter Try.func86, Try.ntmps86
      go_wp2
      go_quiet (fail)
      go_wp2
      go_ret
      exact ⟨by rw [HR.out]; rfl, From.drewN (From.refl _) _⟩
end Go.Proofs.Ytpdbdpmlppbnnaa
