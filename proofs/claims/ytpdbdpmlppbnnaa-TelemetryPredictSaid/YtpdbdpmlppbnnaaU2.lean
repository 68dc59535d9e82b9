/-
  Walks of layer 2: slices.Clone of bytes and of numbers, a writer of package wire.
-/
import Derived.Test.YtpdbdpmlppbnnaaN1
import Derived.Laws.Bits64b
import Derived.Laws.BitsLemmas
import Derived.OneCell
namespace Go.Proofs.Ytpdbdpmlppbnnaa
open Go.RowKit Go.Shelf

theorem Try.elByte : ElT Try.prog 31 5 (.int .u8 0) 1 1 := ⟨Try.underlying31, info_parts (by kernel_rfl), rfl, by decide⟩
/-- a new row of bytes -/
def YRow (w : World) (l : List Int) (e : Ending) (w' : World) : Prop :=
  ∃ A c, e = .returned (.slice A l.length c) ∧ w'.ownsRow w.heap.size 5 1 (.slice A l.length c) l.length (yc l) ∧ From w w'
theorem cloneY_calls (v : Value) (l : List Int) (w : World) (h : Byts w v l) (hm : l.length ≤ 140737488355328) :
    Calls Try.prog 103 #[v] w (YRow w l) := by
  rcases h.out with ⟨rfl, h0, _⟩ | ⟨a0, c, rfl, _⟩
  · have hl := List.eq_nil_of_length_eq_zero h0
    subst hl
    have hnil : ∀ W, (binOp .eql 31 (.slice none 0 0) (.slice none 0 0)).run Try.prog W = .ok (.bool true) W := fun W => Lib.run_eql_slice_nil_nil W _ _ Try.underlying31
    go_enter Try.func103, Try.ntmps103
    go_wp2
    go_ret
    exact ⟨none, 0, rfl, own_nil _ _ _ _, From.refl _⟩
  · have H := bx h
    clear h
    have hnil : ∀ W, (binOp .eql 31 (.slice (some a0) l.length c) (.slice none 0 0)).run Try.prog W = .ok (.bool false) W := fun W => Lib.run_eql_slice_some_nil W _ _ _ Try.underlying31
    have hb1 : From w (w.alloc (.cells #[] 5)) := From.alloc (From.refl _) _
    go_enter Try.func103, Try.ntmps103
    go_wp2_with (at_builtin; refine app_sl rfl _ _ 31 rfl Try.elByte rfl (owns_empty w w.heap.size (Nat.le_refl _) 5 1) l.length (yc l) rfl (H.out.from hb1) (by simp [yc]) (yc_one l) (by omega) (by unfold maxLen; omega) (by simp) ?_; intro A2 c2 w2 o2 g2 _)
    go_ret
    have hb : From w w2 := From.app hb1 (owns_empty w w.heap.size (Nat.le_refl _) 5 1) (Nat.le_refl _) g2
    simp only [Nat.zero_add, List.nil_append] at o2
    exact ⟨A2, c2, ret_slice (by simp), o2, hb⟩
theorem cloneI_calls (v : Value) (l : List Int) (w : World) (h : Ints w v l) (hm : l.length ≤ 1000000) :
    Calls Try.prog 52 #[v] w (RowPost w l) := by
  rcases h.out with ⟨rfl, h0, _⟩ | ⟨a0, c, rfl, _⟩
  · have hl := List.eq_nil_of_length_eq_zero h0
    subst hl
    have hnil : ∀ W, (binOp .eql 22 (.slice none 0 0) (.slice none 0 0)).run Try.prog W = .ok (.bool true) W := fun W => Lib.run_eql_slice_nil_nil W _ _ Try.underlying22
    go_enter Try.func52, Try.ntmps52
    go_wp2
    go_ret
    exact ⟨none, 0, rfl, own_nil _ _ _ _, From.refl _⟩
  · have H := bx h
    clear h
    have hnil : ∀ W, (binOp .eql 22 (.slice (some a0) l.length c) (.slice none 0 0)).run Try.prog W = .ok (.bool false) W := fun W => Lib.run_eql_slice_some_nil W _ _ _ Try.underlying22
    have hb1 : From w (w.alloc (.cells #[] 3)) := From.alloc (From.refl _) _
    go_enter Try.func52, Try.ntmps52
    go_wp2_with (at_builtin; refine app_sl rfl _ _ 22 rfl Try.elInt rfl (owns_empty w w.heap.size (Nat.le_refl _) 3 1) l.length (ic l) rfl (H.out.from hb1) (by simp [ic]) (ic_one l) (by omega) (by unfold maxLen; omega) (by simp) ?_; intro A2 c2 w2 o2 g2 _)
    go_ret
    have hb : From w w2 := From.app hb1 (owns_empty w w.heap.size (Nat.le_refl _) 3 1) (Nat.le_refl _) g2
    simp only [Nat.zero_add, List.nil_append] at o2
    exact ⟨A2, c2, ret_slice (by simp), o2, hb⟩

/-- a writer in block b, which has the bytes l, at A with room c; it and its bytes lie at lo or behind it -/
structure WrC (lo : Nat) (w : World) (b : Nat) (A : Option Addr) (c N : Nat) (l : List Int) : Prop where
  len : N = l.length
  box : w.heap[b]? = some (.cells #[.slice A N c] 137 (0, 0))
  low : lo ≤ b
  own : w.ownsRow lo 5 1 (.slice A N c) N (yc l)
def Wr (lo : Nat) (w : World) (b : Nat) (l : List Int) : Prop := ∃ A c N, WrC lo w b A c N l
theorem or_u8_128 (m : Nat) : bits .or .u8 ((m : Int) % 256) 128 = ((m % 128 : Nat) : Int) + 128 := by
  have h : ∀ x : Fin 256, x.val ||| 128 = x.val % 128 + 128 := by decide +kernel
  have e := (bits_nat .u8 8 (by decide) wraps_u8 (m % 256) 128 (by omega) (by decide)).2
  have e2 : (((m % 256 : Nat) : Int)) = (m : Int) % 256 := by omega
  rw [e2] at e
  have e3 := h ⟨m % 256, by omega⟩
  simp only at e3
  rw [show ((128 : Nat) : Int) = 128 from rfl] at e
  rw [e, e3]
  omega
theorem WrC.facts {lo b : Nat} {w : World} {A : Option Addr} {c N : Nat} {l : List Int} (h : WrC lo w b A c N l) : w.cell? ⟨b, 0, none⟩ = some (.slice A N c) ∧ w.frozen? ⟨b, 0, none⟩ = false ∧ b < w.heap.size :=
  ⟨by rw [cell_of_row _ _ _ _ _ _ h.box]; rfl, by simp [World.frozen?, h.box], (Array.getElem?_eq_some_iff.1 h.box).1⟩
theorem WrC.off {lo b : Nat} {w : World} {A : Option Addr} {c N : Nat} {l : List Int} (h : WrC lo w b A c N l) : some b ≠ (Value.slice A N c).ownBlock := by
  intro e
  rcases h.own.2 with ⟨hv, _⟩ | ⟨g, cap, cur, hv, hg, hh, _⟩
  · rw [hv] at e; simp [Value.ownBlock] at e
  · rw [hv] at e
    simp [Value.ownBlock] at e
    subst e
    rw [h.box] at hh
    injection hh with hh
    injection hh with _ hh _
    exact absurd hh (by decide)
theorem WrC.boxed {lo b : Nat} {wr w3 : World} {A : Option Addr} {c N : Nat} {l : List Int} {o : Obj} (h : WrC lo wr b A c N l) (g3 : (wr.alloc o).grownBy w3 (Value.slice A N c).ownBlock) :
    w3.heap[b]? = some (.cells #[.slice A N c] 137 (0, 0)) ∧ w3.cell? ⟨b, 0, none⟩ = some (.slice A N c) ∧ w3.frozen? ⟨b, 0, none⟩ = false := by
  have hb := (Array.getElem?_eq_some_iff.1 h.box).1
  have e1 : w3.heap[b]? = some (.cells #[.slice A N c] 137 (0, 0)) := by
    rw [g3.block b (by simp; omega) h.off, ← h.box]
    exact ((From.refl wr).alloc o).block b hb
  exact ⟨e1, by rw [cell_of_row _ _ _ _ _ _ e1]; rfl, by simp [World.frozen?, e1]⟩
theorem own_not {w : World} {lo b N c : Nat} {A : Option Addr} {xs : List Value} {cs : Array Value} (h : w.ownsRow lo 5 1 (.slice A N c) N xs) (hb : w.heap[b]? = some (.cells cs 137 (0, 0))) : (Value.slice A N c).ownBlock ≠ some b := by
  intro e
  rcases h.2 with ⟨hv, _⟩ | ⟨g, cap, cur, hv, hg, hh, _⟩
  · rw [hv] at e; simp [Value.ownBlock] at e
  · rw [hv] at e
    simp [Value.ownBlock] at e
    subst e
    rw [hb] at hh
    injection hh with hh
    injection hh with _ hh _
    exact absurd hh (by decide)
theorem WrC.app {lo b : Nat} {wr w3 : World} {A A3 : Option Addr} {c c3 N : Nat} {l : List Int} {x : Int} {o : Obj} (h : WrC lo wr b A c N l) (o3 : w3.ownsRow lo 5 1 (.slice A3 (N + 1) c3) (N + 1) (yc l ++ [.int .u8 x]))
    (g3 : (wr.alloc o).grownBy w3 (Value.slice A N c).ownBlock) : WrC lo (w3.setCell ⟨b, 0, none⟩ (.slice A3 (N + 1) c3)) b A3 c3 (N + 1) (l ++ [x]) := by
  have e1 := (h.boxed g3).1
  exact ⟨by rw [List.length_append, h.len]; rfl, heap_set_at e1 0 _, h.low, by rw [yc_append]; exact ownsRow_setCell_other o3 (own_not o3 e1) _⟩
theorem WrC.belows {lo b : Nat} {w wr w3 : World} {A : Option Addr} {c N : Nat} {l : List Int} {o : Obj} (h : WrC lo wr b A c N l) (g3 : (wr.alloc o).grownBy w3 (Value.slice A N c).ownBlock) (hw : Below lo w wr) (hlo : lo ≤ w.heap.size) (v : Value) : Below lo w (w3.setCell ⟨b, 0, none⟩ v) := by
  have hs := Below.size hw
  have h1 : Below lo w (wr.alloc o) := Below.alloc hw (by omega) o
  have h2 : Below lo w w3 := Below.grown h1 g3 (by simp; omega) (fun k hk => (h.own.lt k hk).1)
  exact Below.setCell h2 (p := ⟨b, 0, none⟩) h.low _
/-- blocks that hold neither bytes nor a writer are kept -/
def KeepT (w w' : World) : Prop := ∀ (i : Nat) (cs : Array Value) (t : TypeId) (f : Nat × Nat), w.heap[i]? = some (.cells cs t f) → t ≠ 5 → t ≠ 137 → w'.heap[i]? = some (.cells cs t f)
theorem KeepT.refl (w : World) : KeepT w w := fun _ _ _ _ h _ _ => h
theorem KeepT.trans {a b c : World} (h : KeepT a b) (k : KeepT b c) : KeepT a c := fun i cs t f e h1 h2 => k i cs t f (h i cs t f e h1 h2) h1 h2
theorem KeepT.of {a b : World} (h : From a b) : KeepT a b := fun _ _ _ _ e _ _ => h.heap e
theorem own_offT {w : World} {lo N c i : Nat} {A : Option Addr} {xs : List Value} {cs : Array Value} {t : TypeId} {f : Nat × Nat} (h : w.ownsRow lo 5 1 (.slice A N c) N xs) (hb : w.heap[i]? = some (.cells cs t f)) (ht : t ≠ 5) : some i ≠ (Value.slice A N c).ownBlock := by
  intro e
  rcases h.2 with ⟨hv, _⟩ | ⟨g, cap, cur, hv, hg, hh, _⟩
  · rw [hv] at e; simp [Value.ownBlock] at e
  · rw [hv] at e
    simp [Value.ownBlock] at e
    subst e
    rw [hb] at hh
    injection hh with hh
    injection hh with _ hh _
    exact ht hh
theorem WrC.keepT {lo b : Nat} {wr w3 : World} {A : Option Addr} {c N : Nat} {l : List Int} {o : Obj} (h : WrC lo wr b A c N l) (g3 : (wr.alloc o).grownBy w3 (Value.slice A N c).ownBlock) (v : Value) : KeepT wr (w3.setCell ⟨b, 0, none⟩ v) := by
  intro i cs t f e h1 h2
  have hi := (Array.getElem?_eq_some_iff.1 e).1
  have hib : i ≠ b := by
    rintro rfl
    rw [h.box] at e
    injection e with e
    injection e with _ e _
    exact h2 e.symm
  rw [heap_set_off _ (Ne.symm hib), g3.block i (by simp; omega) (own_offT h.own e h1)]
  exact ((From.refl wr).alloc o).heap e
set_option maxHeartbeats 1000000 in
theorem put_calls (lo b : Nat) (l : List Int) (n : Nat) (w : World) (h : Wr lo w b l) (hn : n < 18446744073709551616) (hl : l.length ≤ 1000000) (hlo : lo ≤ w.heap.size) :
    Calls Try.prog 105 #[.pointer (some ⟨b, 0, none⟩), .int .u64 n] w fun e w' => e = .returned (.tuple #[]) ∧ Wr lo w' b (l ++ encU n) ∧ Below lo w w' ∧ KeepT w w' := by
  go_enter Try.func105, Try.ntmps105
  go_wp2_with fail
  have HH := bx h
  clear h
  go_loopw [1] (fun v wr => ∃ (m : Nat) (d : List Int), v = .int .u64 m ∧ m * 128 ^ d.length < 18446744073709551616 ∧ d ++ encU m = encU n ∧ Wr lo wr b (l ++ d) ∧ Below lo w wr ∧ KeepT w wr) (fun v _ => (intOf v).toNat)
  case atStart => exact ⟨n, [], rfl, by simpa using hn, rfl, by rw [List.append_nil]; exact HH.out, Below.refl _ _, KeepT.refl _⟩
  case round =>
    obtain ⟨m, d, rfl, hmd, hd, ⟨A, c, N, hw⟩, hb, hkt⟩ := hrel
    have HKT := bx hkt
    obtain ⟨c0, f0, hbs⟩ := hw.facts
    have HW := bx hw
    have HD := bx hd
    have HB := bx hb
    have hm : m < 18446744073709551616 := Nat.lt_of_le_of_lt (Nat.le_mul_of_pos_right _ (Nat.pow_pos (by decide))) hmd
    have HMD := bx hmd
    have hdl : m = 0 ∨ d.length < 10 := by
      rcases Nat.eq_zero_or_pos m with h | h
      · exact .inl h
      · right
        rcases Nat.lt_or_ge d.length 10 with h1 | h1
        · exact h1
        · have h2 : 128 ^ 10 ≤ 128 ^ d.length := Nat.pow_le_pow_right (by decide) h1
          have h3 : 1 * 128 ^ 10 ≤ m * 128 ^ d.length := Nat.mul_le_mul h h2
          omega
    have hN : N ≤ 1000040 := by
      have h1 := congrArg List.length hd
      have h2 := encU_len 9 n (by omega)
      rw [List.length_append] at h1
      rw [hw.len, List.length_append]; omega
    clear hd hb hw hmd hkt
    by_cases hlt : m < 128
    · have z1 : decide ((m : Int) ≥ 128) = false := decide_eq_false (by omega)
      go_wp2_with (at_builtin; refine app_sl rfl _ _ 31 rfl Try.elByte rfl (HW.out.own.alloc _) 1 [.int .u8 m] rfl (sl_new wr [.int .u8 m] 5 1 1) rfl (by simp [Value.oneCell']) (by omega) (by unfold maxLen; omega) (by have := Below.size HB.out; simp; omega) ?_; intro A3 c3 w3 o3 g3 _; obtain ⟨_, c3c, f3c⟩ := HW.out.boxed g3)
      go_end0
      refine ⟨rfl, ?_, HW.out.belows g3 HB.out hlo _, HKT.out.trans (HW.out.keepT g3 _)⟩
      rw [← HD.out, encU_lt hlt, ← List.append_assoc]
      exact ⟨_, _, _, HW.out.app o3 g3⟩
    · have z1 : decide ((m : Int) ≥ 128) = true := decide_eq_true (by omega)
      have e2 := or_u8_128 m
      go_wp2_with (at_builtin; refine app_sl rfl _ _ 31 rfl Try.elByte rfl (HW.out.own.alloc _) 1 [.int .u8 ((m % 128 : Nat) + 128 : Int)] rfl (sl_new wr [.int .u8 ((m % 128 : Nat) + 128 : Int)] 5 1 1) rfl (by simp [Value.oneCell']) (by omega) (by unfold maxLen; omega) (by have := Below.size HB.out; simp; omega) ?_; intro A3 c3 w3 o3 g3 _; obtain ⟨_, c3c, f3c⟩ := HW.out.boxed g3)
      refine ⟨⟨m / 128, d ++ [((m % 128 : Nat) : Int) + 128], by simp, ?_, ?_, ?_, HW.out.belows g3 HB.out hlo _, HKT.out.trans (HW.out.keepT g3 _)⟩, by simp [intOf]; omega⟩
      · rw [List.length_append, List.length_singleton, Nat.pow_succ]
        have := HMD.out
        have h1 : m / 128 * 128 ≤ m := Nat.div_mul_le_self m 128
        calc m / 128 * (128 ^ d.length * 128) = m / 128 * 128 * 128 ^ d.length := by rw [Nat.mul_comm (128 ^ d.length), Nat.mul_assoc]
          _ ≤ m * 128 ^ d.length := Nat.mul_le_mul_right _ h1
          _ < _ := this
      · rw [← HD.out, encU_ge hlt, List.append_assoc]; rfl
      · rw [← List.append_assoc]
        exact ⟨_, _, _, HW.out.app o3 g3⟩
end Go.Proofs.Ytpdbdpmlppbnnaa
