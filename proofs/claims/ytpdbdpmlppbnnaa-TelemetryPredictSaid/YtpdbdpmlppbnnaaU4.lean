/-
  Walks of layer 2: a reader made, its numbers.
-/
import Derived.Test.YtpdbdpmlppbnnaaU3
namespace Go.Proofs.Ytpdbdpmlppbnnaa
open Go.RowKit Go.Shelf

abbrev bytes (l : List Int) : Prop := ∀ x ∈ l, 0 ≤ x ∧ x ≤ 255
/-- a reader in block b: its bytes l at A, how many of them are read, its error -/
structure RdC (w : World) (b : Nat) (A : Option Addr) (c N : Nat) (l : List Int) (at_ : Nat) (e : Int) : Prop where
  len : N = l.length
  box : w.heap[b]? = some (.cells #[.slice A N c, .int .i64 at_, .int .i64 e] 153 (0, 0))
  own : w.ownsRow 0 5 1 (.slice A N c) N (yc l)
  ok : bytes l ∧ N ≤ 140737488355328 ∧ at_ ≤ N
/-- a reader in block b, in the state s -/
def RdM (w : World) (b : Nat) (s : St) : Prop :=
  match s with
  | .bad e => e ≠ 0 ∧ ∃ A c N l at_, RdC w b A c N l at_ e
  | .good r => ∃ A c N l at_, RdC w b A c N l at_ 0 ∧ l.drop at_ = r
theorem RdC.facts {b N c at_ : Nat} {w : World} {A : Option Addr} {l : List Int} {e : Int} (h : RdC w b A c N l at_ e) :
    w.cell? ⟨b, 0, none⟩ = some (.slice A N c) ∧ w.cell? ⟨b, 1, none⟩ = some (.int .i64 at_) ∧ w.cell? ⟨b, 2, none⟩ = some (.int .i64 e) ∧ w.frozen? ⟨b, 1, none⟩ = false ∧ w.frozen? ⟨b, 2, none⟩ = false ∧ b < w.heap.size :=
  ⟨by rw [cell_of_row _ _ _ _ _ _ h.box]; rfl, by rw [cell_of_row _ _ _ _ _ _ h.box]; rfl, by rw [cell_of_row _ _ _ _ _ _ h.box]; rfl, by simp [World.frozen?, h.box], by simp [World.frozen?, h.box], (Array.getElem?_eq_some_iff.1 h.box).1⟩
theorem rown_not {w : World} {lo b N c : Nat} {A : Option Addr} {xs : List Value} {cs : Array Value} (h : w.ownsRow lo 5 1 (.slice A N c) N xs) (hb : w.heap[b]? = some (.cells cs 153 (0, 0))) : (Value.slice A N c).ownBlock ≠ some b := by
  intro e
  rcases h.2 with ⟨hv, _⟩ | ⟨g, cap, cur, hv, hg, hh, _⟩
  · rw [hv] at e; simp [Value.ownBlock] at e
  · rw [hv] at e
    simp [Value.ownBlock] at e
    subst e
    rw [hb] at hh
    injection hh with hh
    injection hh with _ hh _
    exact absurd hh (by decide)
theorem RdC.setAt {b N c at_ : Nat} {w : World} {A : Option Addr} {l : List Int} {e : Int} (h : RdC w b A c N l at_ e) (k : Nat) (hk : k ≤ N) : RdC (w.setCell ⟨b, 1, none⟩ (.int .i64 k)) b A c N l k e :=
  ⟨h.len, heap_set_at h.box 1 _, ownsRow_setCell_other h.own (rown_not h.own h.box) _, h.ok.1, h.ok.2.1, hk⟩
theorem RdC.setE {b N c at_ : Nat} {w : World} {A : Option Addr} {l : List Int} {e : Int} (h : RdC w b A c N l at_ e) (k : Int) : RdC (w.setCell ⟨b, 2, none⟩ (.int .i64 k)) b A c N l at_ k :=
  ⟨h.len, heap_set_at h.box 2 _, ownsRow_setCell_other h.own (rown_not h.own h.box) _, h.ok.1, h.ok.2.1, h.ok.2.2⟩
theorem grown_refl (w : World) (r : Option Nat) : w.grownBy w r := World.grownBy.refl w r
theorem grown_trans {a b c : World} {r : Option Nat} (h : a.grownBy b r) (k : b.grownBy c r) : a.grownBy c r :=
  ⟨k.os.trans h.os, k.tape.trans h.tape, k.output.trans h.output, Nat.le_trans h.size k.size, fun i hi hr => (k.block i (Nat.lt_of_lt_of_le hi h.size) hr).trans (h.block i hi hr)⟩
theorem grown_drewN {a b : World} {r : Option Nat} (h : a.grownBy b r) (n : Nat) : a.grownBy (b.drewN n) r := by
  have k := From.drewN (From.refl b) n
  exact grown_trans h ⟨k.os, k.tape, k.output, k.size, fun i hi _ => k.block i hi⟩
theorem grown_from {a b : World} (h : From a b) (r : Option Nat) : a.grownBy b r := ⟨h.os, h.tape, h.output, h.size, fun i hi _ => h.block i hi⟩
theorem grown_set {a b : World} {r : Nat} (h : a.grownBy b (some r)) (i : Nat) (v : Value) : a.grownBy (b.setCell ⟨r, i, none⟩ v) (some r) :=
  grown_trans h ⟨rfl, rfl, rfl, by simp, fun k _ hr => heap_set_off b (fun e => hr (by rw [e])) i v⟩
theorem RdC.drewN {b N c at_ : Nat} {w : World} {A : Option Addr} {l : List Int} {e : Int} (h : RdC w b A c N l at_ e) (n : Nat) : RdC (w.drewN n) b A c N l at_ e :=
  ⟨h.len, by rw [heap_drewN]; exact h.box, own_drewN h.own n, h.ok⟩
theorem newReader_calls (v : Value) (l : List Int) (w : World) (h : Byts w v l) (hm : l.length ≤ 140737488355328) (hx : bytes l) :
    Calls Try.prog 81 #[v] w fun e w' => ∃ b, e = .returned (.pointer (some ⟨b, 0, none⟩)) ∧ w.heap.size ≤ b ∧ RdM w' b (.good l) ∧ From w w' := by
  have HC := bx (cloneY_calls v l w h hm)
  obtain ⟨A0, c0, rfl⟩ := h.form
  clear h
  go_enter Try.func81, Try.ntmps81
  go_wp2_with fail
  refine HC.out.mono ?_
  rintro e w1 ⟨A1, c1, rfl, o1, k1⟩
  go_wp2
  go_ret
  refine ⟨w1.heap.size, rfl, Below.size k1, ⟨A1, c1, l.length, l, 0, ⟨rfl, heap_alloc_new _ _, own_base (own_call o1 ((From.refl _).alloc _)) (Nat.zero_le _), hx, hm, Nat.zero_le _⟩, rfl⟩, k1.alloc _⟩
theorem or_u64 (a m k : Nat) (ha : a < 2 ^ (7 * k)) (hk : k ≤ 9) (hx : m * 2 ^ (7 * k) < 18446744073709551616) : bits .or .u64 (a : Int) ((m : Int) * 2 ^ (7 * k)) = ((a + m * 2 ^ (7 * k) : Nat) : Int) := by
  have hp : 2 ^ (7 * k) ≤ 2 ^ 63 := Nat.pow_le_pow_right (by decide) (by omega)
  have e : ((m : Int) * 2 ^ (7 * k)) = ((m * 2 ^ (7 * k) : Nat) : Int) := by simp
  rw [e, bits_or_u64_nat _ _ (by omega) hx]
  have h2 := Nat.two_pow_add_eq_or_of_lt ha m
  rw [Nat.mul_comm] at h2
  rw [Nat.or_comm, ← h2]
  congr 1
  omega
theorem sh_u64 (m k : Nat) (hx : m * 2 ^ (7 * k) < 18446744073709551616) : IntKind.u64.wrap ((m : Int) * 2 ^ (7 * k)) = (m : Int) * 2 ^ (7 * k) := by
  have e : ((m : Int) * 2 ^ (7 * k)) = ((m * 2 ^ (7 * k) : Nat) : Int) := by simp
  rw [e, IntKind.wrap_u64]
  omega
theorem and_u8 (y : Int) (h0 : 0 ≤ y) (h1 : y ≤ 255) : bits .and .u8 y 127 = ((y.toNat % 128 : Nat) : Int) := by
  rw [show (127 : Int) = 2 ^ 7 - 1 from rfl, bits_mask .u8 8 (by decide) wraps_u8 7 (by decide) y h0 (by omega)]
  omega
theorem grp_lt (m k : Nat) (hm : m < 128) (hk : k ≤ 8 ∨ (k = 9 ∧ m ≤ 1)) : m * 2 ^ (7 * k) < 18446744073709551616 := by
  rcases hk with hk | ⟨rfl, hm⟩
  · have h1 : 2 ^ (7 * k) ≤ 2 ^ 56 := Nat.pow_le_pow_right (by decide) (by omega)
    have h2 : m * 2 ^ (7 * k) ≤ 127 * 2 ^ 56 := Nat.mul_le_mul (by omega) h1
    omega
  · omega
theorem rdGo_bad {y : Int} {r : List Int} {k acc : Nat} (h : (k = 9 ∧ y ≠ 1) ∨ (0 < k ∧ y = 0)) : rdGo (y :: r) k acc = .err 7 := by rw [rdGo, if_pos h]
theorem rdGo_end {y : Int} {r : List Int} {k acc : Nat} (h : ¬ ((k = 9 ∧ y ≠ 1) ∨ (0 < k ∧ y = 0))) (h0 : 0 ≤ y) (h1 : y < 128) : rdGo (y :: r) k acc = .ok (acc + y.toNat % 128 * 2 ^ (7 * k)) r := by
  rw [rdGo, if_neg h, if_pos h1, Nat.mod_eq_of_lt (show y.toNat < 128 by omega), Nat.pow_mul]
theorem rdGo_on {y : Int} {r : List Int} {k acc : Nat} (h : ¬ ((k = 9 ∧ y ≠ 1) ∨ (0 < k ∧ y = 0))) (h1 : ¬ y < 128) : rdGo (y :: r) k acc = rdGo r (k + 1) (acc + y.toNat % 128 * 2 ^ (7 * k)) := by
  rw [rdGo, if_neg h, if_neg h1, Nat.pow_mul]
set_option maxHeartbeats 1000000 in
theorem rUint_calls (b : Nat) (s : St) (w : World) (h : RdM w b s) :
    Calls Try.prog 82 #[.pointer (some ⟨b, 0, none⟩)] w fun e w' => e = .returned (.int .u64 (rdS s).1) ∧ RdM w' b (rdS s).2 ∧ w.grownBy w' (some b) := by
  cases s with
  | bad e =>
    obtain ⟨he, A, c, N, l, at_, hc⟩ := h
    obtain ⟨c0, c1, c2, f1, f2, hb⟩ := hc.facts
    have HC := bx hc
    have HE := bx he
    have d1 : (e != 0) = true := by simpa using he
    clear hc he
    go_enter Try.func82, Try.ntmps82
    go_wp2
    go_step3
    go_wp2
    rw [Exit.noGoto_ret]
    go_ret
    exact ⟨rfl, ⟨HE.out, _, _, _, _, _, HC.out⟩, grown_refl _ _⟩
  | good r =>
    obtain ⟨A, c, N, l, at_, hc, hr⟩ := h
    obtain ⟨c0, c1, c2, f1, f2, hb⟩ := hc.facts
    have HC := bx hc
    obtain ⟨R, hR⟩ : ∃ R, rdU r = R := ⟨_, rfl⟩
    have HRR := bx hR
    have hg : rdGo (l.drop at_) 0 0 = R := by rw [hr]; exact hR
    have HG := bx hg
    clear hg hR hr hc
    go_enter Try.func82, Try.ntmps82
    go_wp2
    go_step3
    go_wp2
    go_step3
    go_wp2_with fail
    clear c0 c1 c2 f1 f2
    go_loopw [3, 4] (fun n k wr => ∃ (acc kk p : Nat), n = .int .u64 acc ∧ k = .int .i64 kk ∧ kk ≤ 9 ∧ acc < 2 ^ (7 * kk) ∧ rdGo (l.drop p) kk acc = R ∧ RdC wr b A c N l p 0 ∧ w.grownBy wr (some b)) (fun _ k _ => 10 - (intOf k).toNat)
    case atStart => exact ⟨0, 0, at_, rfl, rfl, by omega, by decide, HG.out, HC.out, grown_refl _ _⟩
    case round =>
      obtain ⟨acc, k, p, rfl, rfl, hk, hacc, hg, hc, hgr⟩ := hrel
      obtain ⟨c0, c1, c2, f1, f2, hb⟩ := hc.facts
      have hpN := hc.ok.2.2
      have hN := hc.ok.2.1
      have HC1 := bx hc
      have HGR := bx hgr
      have HACC := bx hacc
      by_cases hp : p = N
      · subst hp
        have hR : R = .err 6 := by rw [← hg, List.drop_of_length_le (by rw [hc.len]; exact Nat.le_refl _), rdGo]
        have HR := bx hR
        have z1 : ((p : Int) == (p : Int)) = true := by simp
        clear hc hgr hg hacc hR
        go_wp2_with fail
        go_quiet (fail)
        go_wp2
        rw [Exit.noGoto_ret]
        go_ret
        have e1 : rdS (.good r) = (0, .bad 6) := by simp only [rdS, HRR.out, HR.out]
        rw [e1]
        exact ⟨rfl, ⟨by decide, _, _, _, _, _, (HC1.out.drewN _).setE 6⟩, grown_set (grown_drewN HGR.out _) _ _⟩
      · have hlt : p < l.length := by rw [← hc.len]; omega
        obtain ⟨bb, off, rfl, _, v1⟩ := byts_at (sl_of_own hc.own) hlt
        have hx := hc.ok.1 l[p] (List.getElem_mem hlt)
        have hg2 : rdGo (l[p] :: l.drop (p + 1)) k acc = R := by rw [← hg, List.drop_eq_getElem_cons hlt]
        generalize l[p] = y at *
        obtain ⟨y0, y1⟩ := hx
        have z1 : ((p : Int) == (N : Int)) = false := by simpa using (show ¬ (p : Int) = (N : Int) by omega)
        have z2 : (p : Int) < (N : Int) := by omega
        have z3 : (0 : Int) ≤ (p : Int) := by omega
        clear hc hgr hg hacc
        by_cases hbad : (k = 9 ∧ y ≠ 1) ∨ (0 < k ∧ y = 0)
        · have e1 : rdS (.good r) = (0, .bad 7) := by rw [rdGo_bad hbad] at hg2; simp only [rdS, HRR.out, ← hg2]
          have HE1 := bx e1
          have HBAD := bx hbad
          have fin : ∀ q, RdM ((wr.drewN q).setCell ⟨b, 2, none⟩ (.int .i64 7)) b (.bad 7) ∧ w.grownBy ((wr.drewN q).setCell ⟨b, 2, none⟩ (.int .i64 7)) (some b) := fun q => ⟨⟨by decide, _, _, _, _, _, (HC1.out.drewN _).setE 7⟩, grown_set (grown_drewN HGR.out _) _ _⟩
          have FIN := bx fin
          clear hbad hg2 e1 fin
          by_cases hk9 : k = 9
          · have a1 : ((k : Int) == 9) = true := by simp [hk9]
            have HK9 := bx hk9
            clear hk9
            have hy : (y != 1) = true := by
              rcases HBAD.out with ⟨_, h⟩ | ⟨_, h⟩
              · simpa using h
              · simp [h]
            go_wp2_with fail
            go_quiet (fail)
            go_wp2_with fail
            go_quiet (fail)
            go_wp2
            rw [Exit.noGoto_ret]
            go_ret
            rw [HE1.out]
            exact ⟨rfl, FIN.out _⟩
          · have a1 : ((k : Int) == 9) = false := by simp; omega
            have a2 : 0 < k ∧ y = 0 := by
              rcases HBAD.out with ⟨h, _⟩ | h
              · exact absurd h hk9
              · exact h
            obtain ⟨a3, rfl⟩ := a2
            have a4 : decide ((k : Int) > 0) = true := decide_eq_true (by omega)
            clear hk9
            go_wp2_with fail
            go_quiet (fail)
            go_wp2_with fail
            go_quiet (fail)
            go_wp2
            rw [Exit.noGoto_ret]
            go_ret
            rw [HE1.out]
            exact ⟨rfl, FIN.out _⟩
        · have b1 : ((k : Int) == 9 && y != 1) = false := by
            by_cases hk9 : k = 9
            · have : y = 1 := Classical.byContradiction fun h => hbad (.inl ⟨hk9, h⟩)
              simp [this]
            · have : ¬ (k : Int) = 9 := by omega
              simp [this]
          have b2 : 0 < k → y ≠ 0 := fun h h2 => hbad (.inr ⟨h, h2⟩)
          have hm : y.toNat % 128 < 128 := by omega
          have hgl := grp_lt (y.toNat % 128) k hm (by
            by_cases hk9 : k = 9
            · have : y = 1 := Classical.byContradiction fun h => hbad (.inl ⟨hk9, h⟩)
              exact .inr ⟨hk9, by omega⟩
            · exact .inl (by omega))
          have e1 := and_u8 y y0 y1
          have e2 := sh_u64 _ k hgl
          have e3 := or_u64 acc _ k HACC.out hk hgl
          have hend := @rdGo_end y (l.drop (p + 1)) k acc hbad y0
          have hon := @rdGo_on y (l.drop (p + 1)) k acc hbad
          have hlt2 : acc + y.toNat % 128 * 2 ^ (7 * k) < 2 ^ (7 * (k + 1)) := by
            have h1 := HACC.out
            have h2 : 2 ^ (7 * (k + 1)) = 128 * 2 ^ (7 * k) := by rw [Nat.mul_add, Nat.pow_add, Nat.mul_comm]
            have h3 : y.toNat % 128 * 2 ^ (7 * k) ≤ 127 * 2 ^ (7 * k) := Nat.mul_le_mul_right _ (by omega)
            omega
          have HLT2 := bx hlt2
          have HG2 := bx hg2
          have HEND := bx hend
          have HON := bx hon
          have e4 : IntKind.u64.wrap ((y.toNat % 128 : Nat) : Int) = ((y.toNat % 128 : Nat) : Int) := by rw [IntKind.wrap_u64]; omega
          have hy128 : ¬ y < 128 → k < 9 := by
            intro h
            by_cases hk9 : k = 9
            · have : y = 1 := Classical.byContradiction fun h => hbad (.inl ⟨hk9, h⟩)
              omega
            · omega
          obtain ⟨V, hV⟩ : ∃ V, acc + y.toNat % 128 * 2 ^ (7 * k) = V := ⟨_, rfl⟩
          have HV := bx hV
          rw [hV] at e3
          generalize y.toNat % 128 = m at *
          clear hend hon hg2 hlt2 hgl hbad hV
          have e5 : IntKind.i64.wrap ((p : Int) + 1) = (p : Int) + 1 := IntWalk.i64_in _ (by omega)
          have HY128 := bx hy128
          have HB1 := bx b1
          have HB2 := bx b2
          clear hy128 b1 b2
          by_cases hk9 : k = 9
          · have hy : y < 128 := Classical.byContradiction fun h => by have := HY128.out h; omega
            have a1 : ((k : Int) == 9) = true := by simp [hk9]
            have a2 : (y != 1) = false := by have := HB1.out; rw [a1] at this; simpa using this
            have a3 : (0 : Int) < (k : Int) := by omega
            have a6 : decide ((0 : Int) < (k : Int)) = true := decide_eq_true a3
            have a4 : (y == 0) = false := by simpa using HB2.out (by omega)
            have a5 : decide (y < 128) = true := decide_eq_true hy
            clear hk9
            go_wp2_with fail
            go_quiet (fail)
            go_wp2_with fail
            go_quiet (fail)
            go_wp2
            rw [Exit.noGoto_ret]
            go_ret
            have e9 : rdS (.good r) = (V, .good (l.drop (p + 1))) := by rw [HV.out] at HEND; simp only [rdS, HRR.out, ← HG2.out, HEND.out hy]
            rw [e9]
            exact ⟨rfl, ⟨_, _, _, _, _, (HC1.out.drewN _).setAt (p + 1) (by omega), rfl⟩, grown_set (grown_drewN HGR.out _) _ _⟩
          · have a1 : ((k : Int) == 9) = false := by simp; omega
            clear hk9
            by_cases hk0 : k = 0
            · subst hk0
              have e6 : bits .or .u64 (acc : Int) (m : Int) = (V : Int) := by simpa using e3
              clear e2 e3 a1
              by_cases hy : y < 128
              · have a5 : decide (y < 128) = true := decide_eq_true hy
                go_wp2_with fail
                go_quiet (fail)
                go_wp2_with fail
                go_quiet (fail)
                go_wp2
                rw [Exit.noGoto_ret]
                go_ret
                have e9 : rdS (.good r) = (V, .good (l.drop (p + 1))) := by rw [HV.out] at HEND; simp only [rdS, HRR.out, ← HG2.out, HEND.out hy]
                rw [e9]
                exact ⟨rfl, ⟨_, _, _, _, _, (HC1.out.drewN _).setAt (p + 1) (by omega), rfl⟩, grown_set (grown_drewN HGR.out _) _ _⟩
              · have a5 : decide (y < 128) = false := decide_eq_false hy
                have hk8 := HY128.out hy
                go_wp2_with fail
                go_quiet (fail)
                go_wp2_with fail
                go_quiet (fail)
                go_wp2
                go_roundw
                case rel => exact ⟨V, 0 + 1, p + 1, rfl, by go_num, by omega, by rw [← HV.out]; exact HLT2.out, by rw [← HG2.out, HON.out hy, HV.out], (HC1.out.drewN _).setAt (p + 1) (by omega), grown_set (grown_drewN HGR.out _) _ _⟩
                case measure => simp [intOf]
            · have a3 : (0 : Int) < (k : Int) := by omega
              have a6 : decide ((0 : Int) < (k : Int)) = true := decide_eq_true a3
              have a4 : (y == 0) = false := by simpa using HB2.out (by omega)
              clear hk0
              by_cases hy : y < 128
              · have a5 : decide (y < 128) = true := decide_eq_true hy
                go_wp2_with fail
                go_quiet (fail)
                go_wp2_with fail
                go_quiet (fail)
                go_wp2
                rw [Exit.noGoto_ret]
                go_ret
                have e9 : rdS (.good r) = (V, .good (l.drop (p + 1))) := by rw [HV.out] at HEND; simp only [rdS, HRR.out, ← HG2.out, HEND.out hy]
                rw [e9]
                exact ⟨rfl, ⟨_, _, _, _, _, (HC1.out.drewN _).setAt (p + 1) (by omega), rfl⟩, grown_set (grown_drewN HGR.out _) _ _⟩
              · have a5 : decide (y < 128) = false := decide_eq_false hy
                have hk8 := HY128.out hy
                go_wp2_with fail
                go_quiet (fail)
                go_wp2_with fail
                go_quiet (fail)
                go_wp2
                go_roundw
                case rel => exact ⟨V, k + 1, p + 1, rfl, by go_num, by omega, by rw [← HV.out]; exact HLT2.out, by rw [← HG2.out, HON.out hy, HV.out], (HC1.out.drewN _).setAt (p + 1) (by omega), grown_set (grown_drewN HGR.out _) _ _⟩
                case measure => simp [intOf]; omega
end Go.Proofs.Ytpdbdpmlppbnnaa
