/-
  Walks of layer 2's reference: numbers written, a reader fails.
-/
import Derived.Test.YtpdbdpmlppbnnaaU5
namespace Go.Proofs.Ytpdbdpmlppbnnaa
open Go.RowKit Go.Shelf

set_option maxHeartbeats 1000000 in
theorem fUint_calls (n : Nat) (w : World) (hn : n < 18446744073709551616) :
    Calls Try.prog 96 #[.int .u64 n] w (YRow w (encU n)) := by
  go_enter Try.func96, Try.ntmps96
  go_wp2_with fail
  go_loopw [0, 3] (fun v o wr => ∃ (m : Nat) (d : List Int), v = .int .u64 m ∧ m < 18446744073709551616 ∧ d ++ encU m = encU n ∧ wr.ownsRow w.heap.size 5 1 o d.length (yc d) ∧ From w wr) (fun v _ _ => (intOf v).toNat)
  case atStart => exact ⟨n, [], rfl, hn, rfl, own_nil _ _ _ _, From.refl _⟩
  case round =>
    obtain ⟨m, d, rfl, hm, hd, ho, hf⟩ := hrel
    have HO := bx ho
    have HD := bx hd
    have HF := bx hf
    have hN : d.length ≤ 40 := by
      have h1 := congrArg List.length hd
      have h2 := encU_len 9 n (by omega)
      rw [List.length_append] at h1
      omega
    obtain ⟨N, hNN⟩ : ∃ N, d.length = N := ⟨_, rfl⟩
    rw [hNN] at HO hN
    have HN := bx hNN
    clear ho hd hf hNN
    by_cases hlt : m < 128
    · have z1 : decide ((m : Int) > 127) = false := decide_eq_false (by omega)
      go_wp2_with (at_builtin; refine app_sl rfl _ _ 31 rfl Try.elByte rfl (HO.out.alloc _) 1 [.int .u8 m] rfl (sl_new wr [.int .u8 m] 5 1 1) rfl (by simp [Value.oneCell']) (by omega) (by unfold maxLen; omega) (by have := Below.size HF.out; simp; omega) ?_; intro A3 c3 w3 o3 g3 _)
      go_ret
      have e1 : (encU n).length = N + 1 := by rw [← HD.out, encU_lt hlt, List.length_append, HN.out]; rfl
      refine ⟨A3, c3, by rw [e1]; rfl, ?_, From.app (HF.out.alloc _) (HO.out.alloc _) (Nat.le_refl _) g3⟩
      rw [e1, ← HD.out, encU_lt hlt, yc_append]
      exact o3
    · have z1 : decide ((m : Int) > 127) = true := decide_eq_true (by omega)
      have e3 : IntKind.u8.wrap ((m : Int) % 128 + 128) = (m : Int) % 128 + 128 := by rw [IntKind.wrap_u8]; omega
      go_wp2_with (at_builtin; refine app_sl rfl _ _ 31 rfl Try.elByte rfl (HO.out.alloc _) 1 [.int .u8 ((m : Int) % 128 + 128)] rfl (sl_new wr [.int .u8 ((m : Int) % 128 + 128)] 5 1 1) rfl (by simp [Value.oneCell']) (by omega) (by unfold maxLen; omega) (by have := Below.size HF.out; simp; omega) ?_; intro A3 c3 w3 o3 g3 _)
      go_roundw
      case rel =>
        refine ⟨m / 128, d ++ [((m % 128 : Nat) : Int) + 128], by simp, by omega, ?_, ?_, From.app (HF.out.alloc _) (HO.out.alloc _) (Nat.le_refl _) g3⟩
        · rw [← HD.out, encU_ge hlt, List.append_assoc]; rfl
        · rw [List.length_append, HN.out, yc_append]; exact o3
      case measure => simp [intOf]; omega
theorem fZig_calls (n : Int) (w : World) (hn : -9223372036854775808 ≤ n ∧ n ≤ 9223372036854775807) :
    Calls Try.prog 107 #[.int .i64 n] w fun e w' => e = .returned (.int .u64 (zig n)) ∧ w' = w := by
  by_cases h : 0 ≤ n
  · have HZ := bx (show (zig n : Int) = 2 * n by rw [zig, if_pos h]; omega)
    have z1 : decide (n ≥ 0) = true := decide_eq_true h
    have e1 : IntKind.u64.wrap n = n := by rw [IntKind.wrap_u64]; omega
    have e2 : IntKind.u64.wrap (2 * n) = 2 * n := by rw [IntKind.wrap_u64]; omega
    go_enter Try.func107, Try.ntmps107
    go_wp2
    go_ret
    exact ⟨ret_int HZ.out.symm, rfl⟩
  · have HZ := bx (show (zig n : Int) = 2 * (-(n + 1)) + 1 by rw [zig, if_neg h]; omega)
    have z1 : decide (n ≥ 0) = false := decide_eq_false h
    have e0 : IntKind.i64.wrap (n + 1) = n + 1 := IntWalk.i64_in _ (by omega)
    have e3 : IntKind.i64.wrap (-(n + 1)) = -(n + 1) := IntWalk.i64_in _ (by omega)
    have e1 : IntKind.u64.wrap (-(n + 1)) = -(n + 1) := by rw [IntKind.wrap_u64]; omega
    have e2 : IntKind.u64.wrap (2 * (-(n + 1))) = 2 * (-(n + 1)) := by rw [IntKind.wrap_u64]; omega
    have e4 : IntKind.u64.wrap (2 * (-(n + 1)) + 1) = 2 * (-(n + 1)) + 1 := by rw [IntKind.wrap_u64]; omega
    go_enter Try.func107, Try.ntmps107
    go_wp2
    go_ret
    exact ⟨ret_int (by rw [HZ.out]), rfl⟩
theorem fInt_calls (n : Int) (w : World) (hn : -9223372036854775808 ≤ n ∧ n ≤ 9223372036854775807) :
    Calls Try.prog 97 #[.int .i64 n] w (YRow w (encU (zig n))) := by
  have H1 := bx (fZig_calls n w hn)
  have H2 := bx (fUint_calls (zig n) w (zig_lt n hn))
  go_enter Try.func97, Try.ntmps97
  go_wp2_with fail
  refine H1.out.mono ?_
  rintro e w1 ⟨rfl, rfl⟩
  go_wp2_with fail
  refine H2.out.mono ?_
  rintro e w1 ⟨A1, c1, rfl, o1, k1⟩
  go_wp2
  go_ret
  exact ⟨A1, c1, rfl, o1, k1⟩
theorem fZag_calls (u : Nat) (w : World) (hu : u < 18446744073709551616) :
    Calls Try.prog 104 #[.int .u64 u] w fun e w' => e = .returned (.int .i64 (zag u)) ∧ w' = w := by
  by_cases h : u % 2 = 0
  · have HZ := bx (show zag u = (u : Int) / 2 by rw [zag, if_pos h]; omega)
    have z1 : (u : Int) % 2 = 0 := by omega
    have e1 : IntKind.i64.wrap ((u : Int) / 2) = (u : Int) / 2 := IntWalk.i64_in _ (by omega)
    clear h
    go_enter Try.func104, Try.ntmps104
    go_wp2
    go_ret
    exact ⟨ret_int HZ.out.symm, rfl⟩
  · have HZ := bx (show zag u = -((u : Int) / 2) - 1 by rw [zag, if_neg h]; omega)
    have z1 : (u : Int) % 2 = 1 := by omega
    have e1 : IntKind.i64.wrap ((u : Int) / 2) = (u : Int) / 2 := IntWalk.i64_in _ (by omega)
    have e2 : IntKind.i64.wrap (-((u : Int) / 2)) = -((u : Int) / 2) := IntWalk.i64_in _ (by omega)
    have e3 : IntKind.i64.wrap (-((u : Int) / 2) - 1) = -((u : Int) / 2) - 1 := IntWalk.i64_in _ (by omega)
    clear h
    go_enter Try.func104, Try.ntmps104
    go_wp2
    go_ret
    exact ⟨ret_int HZ.out.symm, rfl⟩
/-- a reference's reader, in the state s -/
def RfV (w : World) (v : Value) (s : St) : Prop :=
  match s with
  | .bad e => e ≠ 0 ∧ ∃ A n c, v = .agg #[.slice A n c, .int .i64 e]
  | .good l => ∃ A c, v = .agg #[.slice A l.length c, .int .i64 0] ∧ Byts w (.slice A l.length c) l ∧ bytes l ∧ l.length ≤ 140737488355328 ∧ l.length ≤ c
theorem RfV.from {w w' : World} {v : Value} {s : St} (h : RfV w v s) (k : From w w') : RfV w' v s := by
  cases s with
  | bad e => exact h
  | good l =>
    obtain ⟨A, c, e1, e2, e3⟩ := h
    exact ⟨A, c, e1, e2.from k, e3⟩
theorem RfV.form {w : World} {v : Value} {s : St} (h : RfV w v s) : ∃ A n c, v = .agg #[.slice A n c, .int .i64 s.err] := by
  cases s with
  | bad e => exact h.2
  | good l =>
    obtain ⟨A, c, e1, _⟩ := h
    exact ⟨A, _, c, e1⟩
theorem RfV.fail {w w' : World} {A : Option Addr} {n c : Nat} {x : Int} {s : St} (h : RfV w (.agg #[.slice A n c, .int .i64 x]) s) (e : Int) (he : e ≠ 0) : RfV w' (.agg #[.slice A n c, .int .i64 (if x = 0 then e else x)]) (failS s e) := by
  cases s with
  | bad y =>
    obtain ⟨hy, A', n', c', e1⟩ := h
    injection e1 with e1
    simp at e1
    obtain ⟨_, rfl⟩ := e1
    rw [if_neg hy]
    exact ⟨hy, _, _, _, rfl⟩
  | good l =>
    obtain ⟨A', c', e1, _⟩ := h
    injection e1 with e1
    simp at e1
    obtain ⟨_, rfl⟩ := e1
    rw [if_pos rfl]
    exact ⟨he, _, _, _, rfl⟩
def FailPost (w0 w : World) (s : St) (e : Ending) (w' : World) : Prop := ∃ v, e = .returned v ∧ RfV w0 v s ∧ From w w'
theorem ffail_calls (v : Value) (s : St) (e : Int) (w0 w : World) (h : RfV w0 v s) (he : e ≠ 0) :
    Calls Try.prog 87 #[v, .int .i64 e] w (FailPost w0 w (failS s e)) := by
  obtain ⟨A, n, c, rfl⟩ := h.form
  have H := bx h
  clear h
  obtain ⟨x, hx⟩ : ∃ x, s.err = x := ⟨_, rfl⟩
  rw [hx] at H ⊢
  clear hx
  have HE := bx he
  clear he
  by_cases h0 : x = 0
  · subst h0
    go_enter Try.func87, Try.ntmps87
    go_wp2
    refine bodyPost_ret (v := .agg #[.slice A n c, .int .i64 e]) (by simp [results, Try.results87, go_sem]) rfl ⟨_, rfl, ?_, (From.alloc (From.refl _) _).alloc _⟩
    have := H.out.fail (w' := w0) e HE.out
    rwa [if_pos rfl] at this
  · have d1 : (x == 0) = false := by simpa using h0
    have H0 := bx h0
    clear h0
    go_enter Try.func87, Try.ntmps87
    go_wp2
    refine bodyPost_ret (v := .agg #[.slice A n c, .int .i64 x]) (by simp [results, Try.results87, go_sem]) rfl ⟨_, rfl, ?_, (From.alloc (From.refl _) _).alloc _⟩
    have := H.out.fail (w' := w0) e HE.out
    rwa [if_neg H0.out] at this
/-- a block of two cells -/
theorem box2 {w : World} {b : Nat} {x y : Value} {t : TypeId} (h : w.heap[b]? = some (.cells #[x, y] t (0, 0))) :
    w.cell? ⟨b, 0, none⟩ = some x ∧ w.cell? ⟨b, 1, none⟩ = some y ∧ w.frozen? ⟨b, 0, none⟩ = false ∧ w.frozen? ⟨b, 1, none⟩ = false ∧ b < w.heap.size :=
  ⟨by rw [cell_of_row _ _ _ _ _ _ h]; rfl, by rw [cell_of_row _ _ _ _ _ _ h]; rfl, by simp [World.frozen?, h], by simp [World.frozen?, h], (Array.getElem?_eq_some_iff.1 h).1⟩
theorem box2_set {w : World} {b : Nat} {x y : Value} {t : TypeId} (h : w.heap[b]? = some (.cells #[x, y] t (0, 0))) (x' y' : Value) : ((w.setCell ⟨b, 0, none⟩ x').setCell ⟨b, 1, none⟩ y').heap[b]? = some (.cells #[x', y'] t (0, 0)) := heap_set_at (heap_set_at h 0 x') 1 y'
theorem from_set {w w' : World} {r : Nat} (h : From w w') (hr : w.heap.size ≤ r) (i : Nat) (x : Value) : From w (w'.setCell ⟨r, i, none⟩ x) := Below.setCell h (p := ⟨r, i, none⟩) hr _
theorem fFail_calls (v : Value) (s : St) (e : Int) (w0 w : World) (h : RfV w0 v s) (he : e ≠ 0) :
    Calls Try.prog 56 #[v, .int .i64 e] w (FailPost w0 w (failS s e)) := by
  have H := bx (fun W => ffail_calls v s e w0 W h he)
  obtain ⟨A, n, c, rfl⟩ := h.form
  clear h
  go_enter Try.func56, Try.ntmps56
  go_wp2_with fail
  obtain ⟨W, hW⟩ : ∃ W, (w.alloc (.cells #[.slice A n c, .int .i64 s.err] 84)).alloc (.cells #[.slice none 0 0, .int .i64 0] 84) = W := ⟨_, rfl⟩
  have k0 : From w W := by rw [← hW]; exact (From.alloc (From.refl _) _).alloc _
  have b0 : W.heap[w.heap.size + 1]? = some (.cells #[.slice none 0 0, .int .i64 0] 84 (0, 0)) := by rw [← hW]; have := heap_alloc_new (w.alloc (.cells #[.slice A n c, .int .i64 s.err] 84)) (.cells #[.slice none 0 0, .int .i64 0] 84); rwa [World.size_alloc] at this
  rw [hW]
  clear hW
  refine (H.out W).mono ?_
  rintro r w2 ⟨v2, rfl, hv2, k2⟩
  have b2 := k2.heap b0
  obtain ⟨A2, n2, c2, rfl⟩ := hv2.form
  have HV2 := bx hv2
  generalize (failS s e).err = x2 at *
  obtain ⟨q0, q1, q2, q3, _⟩ := box2 b2
  clear hv2
  go_wp2
  have b3 := box2_set b2 (.slice A2 n2 c2) (.int .i64 x2)
  refine bodyPost_ret (v := .agg #[.slice A2 n2 c2, .int .i64 x2]) (by simp [results, Try.results56, go_sem, cell_of_row _ _ _ _ _ _ b3]) rfl ⟨_, rfl, ?_, from_set (from_set (k0.trans k2) (by omega) _ _) (by omega) _ _⟩
  have h := HV2.out
  cases hs : failS s e with
  | bad x => rw [hs] at h; exact h
  | good l => cases s <;> cases hs
/-- the reader and the number that a read answers -/
def ReadPost (w0 w : World) (u : Value) (s : St) (e : Ending) (w' : World) : Prop := ∃ v, e = .returned (.tuple #[v, u]) ∧ RfV w0 v s ∧ From w w'
theorem fEnd_calls (v : Value) (s : St) (w : World) (h : RfV w v s) :
    Calls Try.prog 58 #[v] w fun e w' => e = .returned (.int .i64 (endS s)) ∧ From w w' := by
  cases s with
  | bad x =>
    obtain ⟨hx, A, n, c, rfl⟩ := h
    have d1 : (x == 0) = false := by simpa using hx
    clear hx
    go_enter Try.func58, Try.ntmps58
    go_wp2
    go_ret
    exact ⟨rfl, From.alloc (From.refl _) _⟩
  | good l =>
    obtain ⟨A, c, rfl, _⟩ := h
    cases l with
    | nil =>
      go_enter Try.func58, Try.ntmps58
      go_wp2
      go_ret
      exact ⟨rfl, From.alloc (From.refl _) _⟩
    | cons y t =>
      obtain ⟨N, hN⟩ : ∃ N, (y :: t).length = N + 1 := ⟨_, rfl⟩
      rw [hN]
      have z1 : (0 : Int) < (N : Int) + 1 := by omega
      go_enter Try.func58, Try.ntmps58
      go_wp2
      go_ret
      exact ⟨rfl, From.alloc (From.refl _) _⟩
end Go.Proofs.Ytpdbdpmlppbnnaa
