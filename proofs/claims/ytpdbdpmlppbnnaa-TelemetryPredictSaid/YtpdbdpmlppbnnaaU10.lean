/-
  Walks of layer 28: Predict, packet, permutation.
-/
import Derived.Test.YtpdbdpmlppbnnaaU9
namespace Go.Proofs.Ytpdbdpmlppbnnaa
open Go.RowKit Go.Shelf

/-- a snapshot in memory -/
abbrev snv (q : Int) (v : Value) : Value := .agg #[.int .i64 q, v]
theorem own_put0 {w : World} {base g cap : Nat} {v : Int} {r : List Int} (h : w.ownsRow base 3 1 (.slice (some ⟨g, 0, none⟩) (r.length + 1) cap) (r.length + 1) (ic (v :: r))) (x : Int) :
    (w.setCell ⟨g, 0, none⟩ (.int .i64 x)).ownsRow base 3 1 (.slice (some ⟨g, 0, none⟩) (r.length + 1) cap) (r.length + 1) (ic (x :: r)) := by
  rcases h.2 with ⟨hv, _⟩ | ⟨g', cap', cur, hv, hg, hh, hnc, hcm, hcs, htk⟩
  · cases hv
  · injection hv with e1 _ e3
    injection e1 with e1
    injection e1 with e1 _ _
    subst e1 e3
    refine ⟨by simp [ic], .inr ⟨g, cap, cur.setIfInBounds 0 (.int .i64 x), rfl, hg, heap_set_at hh 0 _, hnc, hcm, by simpa using hcs, ?_⟩⟩
    obtain ⟨cl⟩ := cur
    cases cl with
    | nil => simp at hcs; omega
    | cons y t =>
      simp [ic] at htk ⊢
      exact htk.2
set_option maxHeartbeats 1000000 in
theorem predict_calls (q seq : Int) (v : Value) (l : List Int) (w : World) (h : Ints w v l) (hl : l.length ≤ 1000000) (h0 : 0 < l.length) (hx : ∀ x ∈ l, fitsV x) (hq : 0 ≤ q ∧ q ≤ seq ∧ seq ≤ 1000000) (z : List Int) (hz : predP l q seq = z) :
    Calls Try.prog 16 #[snv q v, .int .i64 seq] w (RowPost w z) := by
  obtain ⟨A, c, rfl⟩ := h.form
  have HC := bx (fun W (k : From w W) => cloneI_calls (.slice A l.length c) l W (h.from k) hl)
  clear h
  cases l with
  | nil => simp at h0
  | cons x r =>
    have hxf := hx x (by simp)
    unfold fitsV at hxf
    have HZ := bx (show z = min (x + seq - q) 2147483647 :: r from hz.symm)
    clear hz hx h0
    have e1 : IntKind.i64.wrap (x + seq) = x + seq := IntWalk.i64_in _ (by omega)
    have e2 : IntKind.i64.wrap (x + seq - q) = x + seq - q := IntWalk.i64_in _ (by omega)
    obtain ⟨y, hy⟩ : ∃ y, min (x + seq - q) 2147483647 = y := ⟨_, rfl⟩
    rw [hy] at HZ
    have hif : (if 2147483647 < x + seq - q then 2147483647 else x + seq - q) = y := by rw [← hy]; split <;> omega
    clear hy
    go_enter Try.func16, Try.ntmps16
    go_wp2_with fail
    obtain ⟨W1, hW1⟩ : ∃ W1, w.alloc (.cells #[.int .i64 q, .slice A (x :: r).length c] 24) = W1 := ⟨_, rfl⟩
    have k1 : From w W1 := by rw [← hW1]; exact (From.refl _).alloc _
    have b1 : W1.heap[w.heap.size]? = some (.cells #[.int .i64 q, .slice A (x :: r).length c] 24 (0, 0)) := by rw [← hW1]; exact heap_alloc_new _ _
    simp only [List.length_cons] at hW1 b1 HC ⊢
    rw [hW1]
    clear hW1
    refine (HC.out W1 k1).mono ?_
    rintro e w2 ⟨A2, c2, rfl, o2, k2⟩
    have b2 := k2.heap b1
    obtain ⟨q0, q1, q2, q3, hbs⟩ := box2 b2
    obtain ⟨g, hA, hg⟩ : ∃ g, A2 = some ⟨g, 0, none⟩ ∧ W1.heap.size ≤ g := by
      rcases o2.2 with ⟨_, h0⟩ | ⟨g, cap, cur, hv, hg, _⟩
      · simp at h0
      · injection hv with e _ _
        exact ⟨g, e, hg⟩
    subst hA
    simp only [List.length_cons] at o2
    have c2v := o2.cells (g := g) rfl 0 (.int .i64 x) (by simp [ic])
    rw [Addr.add_mid] at c2v
    have f2 : w2.frozen? ⟨g, 0, none⟩ = false := by
      rcases o2.2 with ⟨hv, _⟩ | ⟨g', cap, cur, hv, hg, hh, _⟩
      · cases hv
      · injection hv with e _ _
        injection e with e
        injection e with e _ _
        subst e
        simp [World.frozen?, hh]
    have HO := bx o2
    have hsz : w.heap.size < W1.heap.size := (Array.getElem?_eq_some_iff.1 b1).1
    have HK := bx (k1.trans k2)
    clear o2 b1 b2 k1 k2
    go_wp2
    go_region
    all_goals
      go_wp2
      go_ret
      rw [HZ.out]
      exact ⟨_, _, rfl, own_base (own_call (own_put0 HO.out y) (From.drew (From.refl _))) (by omega), (from_set HK.out (by omega) _ _).drew⟩
/-- entries of a packet in memory -/
def ecs (x : Nat × Int) : List Value := [.int .i64 x.1, .int .i64 x.2]
abbrev Ents (w : World) (v : Value) (es : List (Nat × Int)) : Prop := Sl w w.heap.size v es.length (es.flatMap ecs)
theorem ents_at {w : World} {B m n c : Nat} {A : Option Addr} {es : List (Nat × Int)} (h : Sl w B (.slice A m c) n (es.flatMap ecs)) {k : Nat} (hk : k < es.length) :
    ∃ b off, A = some ⟨b, off, none⟩ ∧ w.cell? ⟨b, off + k * 2, none⟩ = some (.int .i64 es[k].1) ∧ w.cell? ⟨b, off + k * 2 + 1, none⟩ = some (.int .i64 es[k].2) := by
  have hf : ∀ (es : List (Nat × Int)) (k : Nat) (hk : k < es.length), (es.flatMap ecs)[k * 2]? = some (.int .i64 es[k].1) ∧ (es.flatMap ecs)[k * 2 + 1]? = some (.int .i64 es[k].2) := by
    intro es
    induction es with
    | nil => intro k hk; simp at hk
    | cons x t ih =>
      intro k hk
      cases k with
      | zero => simp [ecs]
      | succ k =>
        have := ih k (by simpa using hk)
        rw [show (k + 1) * 2 = k * 2 + 1 + 1 by omega]
        simpa [ecs] using this
  obtain ⟨h1, h2⟩ := hf es k hk
  obtain ⟨b, off, e1, _, e3⟩ := h.at_ h1
  obtain ⟨b', off', e1', _, e3'⟩ := h.at_ h2
  rw [e1] at e1'
  injection e1' with e1'
  injection e1' with e4 e5 _
  subst e4 e5
  exact ⟨b, off, e1, e3, e3'⟩
theorem entB_len (x : Nat × Int) (h1 : x.1 < 18446744073709551616) (h2 : zig x.2 < 18446744073709551616) : (entB x).length ≤ 20 := by
  have a := encU_len 9 x.1 (by omega)
  have b := encU_len 9 (zig x.2) (by omega)
  simp only [entB, List.length_append]
  omega
/-- entries that can be written -/
def OkE (es : List (Nat × Int)) : Prop := ∀ x ∈ es, x.1 ≤ 9223372036854775807 ∧ -9223372036854775808 ≤ x.2 ∧ x.2 ≤ 9223372036854775807
theorem ents_len (es : List (Nat × Int)) (h : OkE es) : (es.flatMap entB).length ≤ 20 * es.length := by
  induction es with
  | nil => simp
  | cons x t ih =>
    have h1 := h x (by simp)
    have := ih (fun y hy => h y (by simp [hy]))
    have h2 := entB_len x (by omega) (zig_lt x.2 h1.2)
    rw [List.flatMap_cons, List.length_append, List.length_cons]
    omega
theorem Wr.alloc {lo b : Nat} {w : World} {l : List Int} (h : Wr lo w b l) (o : Obj) : Wr lo (w.alloc o) b l := by
  obtain ⟨A, c, N, h⟩ := h
  exact ⟨A, c, N, h.len, ((From.refl w).alloc o).heap h.box, h.low, h.own.alloc o⟩
theorem wr_new (w : World) : Wr w.heap.size (w.alloc (.cells #[.slice none 0 0] 137)) w.heap.size [] :=
  ⟨none, 0, 0, rfl, heap_alloc_new _ _, Nat.le_refl _, own_nil _ _ _ _⟩
set_option maxHeartbeats 1000000 in
theorem packet_calls (bs seq : Nat) (all : Bool) (v : Value) (es : List (Nat × Int)) (w : World) (h : Ents w v es) (hl : es.length ≤ 1000) (he : OkE es) (hbs : bs ≤ 9223372036854775807) (hsq : seq ≤ 9223372036854775807) (z : List Int) (hz : pkB bs seq (if all then 1 else 0) es = z) :
    Calls Try.prog 64 #[.int .i64 bs, .int .i64 seq, .bool all, v] w (YRow w z) := by
  obtain ⟨A, c, rfl⟩ := h.form
  have H := bx h
  have HE := bx he
  have HZ := bx hz
  clear h he hz
  obtain ⟨N, hN⟩ : ∃ N, es.length = N := ⟨_, rfl⟩
  have HN := bx hN
  rw [hN] at hl ⊢
  clear hN
  have e1 : IntKind.u64.wrap (bs : Int) = (bs : Int) := by rw [IntKind.wrap_u64]; omega
  have e2 : IntKind.u64.wrap (seq : Int) = (seq : Int) := by rw [IntKind.wrap_u64]; omega
  have e3 : IntKind.u64.wrap (N : Int) = (N : Int) := by rw [IntKind.wrap_u64]; omega
  obtain ⟨l1, hl1⟩ : ∃ l1, encU bs = l1 := ⟨_, rfl⟩
  obtain ⟨l2, hl2⟩ : ∃ l2, encU seq = l2 := ⟨_, rfl⟩
  have n1 : l1.length ≤ 10 := by rw [← hl1]; exact encU_len 9 _ (by omega)
  have n2 : l2.length ≤ 10 := by rw [← hl2]; exact encU_len 9 _ (by omega)
  have P : Bx (∀ (W : World) (l : List Int) (n : Nat), From w W → Wr w.heap.size W w.heap.size l → n < 18446744073709551616 → l.length ≤ 1000000 →
      Calls Try.prog 90 #[.pointer (some ⟨w.heap.size, 0, none⟩), .int .u64 n] W fun e w' => e = .returned (.tuple #[]) ∧ Wr w.heap.size w' w.heap.size (l ++ encU n) ∧ From w w' ∧ KeepT W w') := ⟨fun W l n k hW hn hl => by
    refine (wUint_calls w.heap.size w.heap.size l n W hW hn hl (Below.size k)).mono ?_
    rintro e w' ⟨h1, h2, h3, h4⟩
    exact ⟨h1, h2, Below.trans k h3, h4⟩⟩
  have P2 : Bx (∀ (W : World) (l : List Int) (n : Int), From w W → Wr w.heap.size W w.heap.size l → (-9223372036854775808 ≤ n ∧ n ≤ 9223372036854775807) → l.length ≤ 1000000 →
      Calls Try.prog 91 #[.pointer (some ⟨w.heap.size, 0, none⟩), .int .i64 n] W fun e w' => e = .returned (.tuple #[]) ∧ Wr w.heap.size w' w.heap.size (l ++ encU (zig n)) ∧ From w w' ∧ KeepT W w') := ⟨fun W l n k hW hn hl => by
    refine (wInt_calls w.heap.size w.heap.size l n W hW hn hl (Below.size k)).mono ?_
    rintro e w' ⟨h1, h2, h3, h4⟩
    exact ⟨h1, h2, Below.trans k h3, h4⟩⟩
  obtain ⟨mk, hmk⟩ : ∃ mk, encU (if all then 1 else 0) = mk := ⟨_, rfl⟩
  have n3 : mk.length ≤ 10 := by rw [← hmk]; exact encU_len 9 _ (by split <;> omega)
  obtain ⟨l3, hl3⟩ : ∃ l3, encU N = l3 := ⟨_, rfl⟩
  have n4 : l3.length ≤ 10 := by rw [← hl3]; exact encU_len 9 _ (by omega)
  have HL1 := bx hl1
  have HL2 := bx hl2
  have HL3 := bx hl3
  have HMK := bx hmk
  clear hl1 hl2 hl3 hmk
  obtain ⟨hd, hhd⟩ : ∃ hd, l1 ++ l2 ++ mk ++ l3 = hd := ⟨_, rfl⟩
  have n5 : hd.length ≤ 40 := by rw [← hhd]; simp only [List.length_append]; omega
  have HHD := bx hhd
  clear hhd
  have HFIN := bx (show z = hd ++ es.flatMap entB by rw [← HZ.out, pkB, HL1.out, HL2.out, HMK.out, HN.out, HL3.out, HHD.out])
  have HW0 := bx (wr_new w)
  have HEL := bx (ents_len es HE.out)
  cases all
  all_goals
    go_enter Try.func64, Try.ntmps64
    go_wp2_with fail
    refine (P.out _ [] bs ((From.refl w).alloc _) HW0.out (by omega) (by simp)).mono ?_
    rintro e w1 ⟨rfl, h1, k1, _⟩
    rw [List.nil_append, HL1.out] at h1
    have H1 := bx h1
    clear h1
    go_wp2_with fail
    refine (P.out _ l1 seq k1 H1.out (by omega) (by omega)).mono ?_
    rintro e w2 ⟨rfl, h2, k2, _⟩
    rw [HL2.out] at h2
    have H2 := bx h2
    clear h2 H1 k1
    go_wp2_with fail
    refine (P.out w2 (l1 ++ l2) _ k2 H2.out (by decide) (by rw [List.length_append]; omega)).mono ?_
    rintro e w3 ⟨rfl, h3, k3, _⟩
    have HM := HMK.out
    simp only [if_true, Bool.false_eq_true, if_false] at HM
    rw [HM] at h3
    have H3 := bx h3
    clear h3 H2 k2 HM
    go_wp2_with fail
    refine (P.out w3 (l1 ++ l2 ++ mk) N k3 H3.out (by omega) (by simp only [List.length_append]; omega)).mono ?_
    rintro e w4 ⟨rfl, h4, k4, _⟩
    rw [HL3.out, HHD.out] at h4
    have H4 := bx h4
    clear h4 H3 k3
    go_wp2_with fail
    go_loopw [27] (fun i wr => ∃ k : Nat, k ≤ N ∧ i = .int .i64 k ∧ Wr w.heap.size wr w.heap.size (hd ++ (es.take k).flatMap entB) ∧ From w wr) (fun i _ => N - (intOf i).toNat)
    case atStart => exact ⟨0, Nat.zero_le _, rfl, by simpa using H4.out, k4⟩
    case round =>
      obtain ⟨k, hk, rfl, hw, hf⟩ := hrel
      have HW := bx hw
      have HF := bx hf
      clear hw hf k4
      by_cases hlt : k < N
      · have hlt2 : k < es.length := by rw [HN.out]; exact hlt
        obtain ⟨b, off, rfl, v0, v1⟩ := ents_at (H.out.from HF.out) hlt2
        obtain ⟨x0, x1⟩ := HE.out es[k] (List.getElem_mem hlt2)
        have HT := bx (show (es.take (k + 1)).flatMap entB = (es.take k).flatMap entB ++ (encU es[k].1 ++ encU (zig es[k].2)) by
          rw [List.take_succ_eq_append_getElem hlt2, List.flatMap_append]; simp [entB])
        have HLN := bx (show ((es.take k).flatMap entB).length ≤ 20 * k by
          have := ents_len (es.take k) (fun x hx => HE.out x (List.mem_of_mem_take hx))
          rw [List.length_take] at this
          omega)
        generalize es[k] = xe at *
        obtain ⟨ep, ed⟩ := xe
        simp only at v0 v1 x0 x1 HT
        have z1 : (k : Int) < (N : Int) := by omega
        have z2 : (0 : Int) ≤ (k : Int) := by omega
        have e4 : IntKind.u64.wrap (ep : Int) = (ep : Int) := by rw [IntKind.wrap_u64]; omega
        have n7 := encU_len 9 ep (by omega)
        have b9 := heap_alloc_new wr (.cells #[.int .i64 ep, .int .i64 ed] 97)
        have k9 : From w (wr.alloc (.cells #[.int .i64 ep, .int .i64 ed] 97)) := HF.out.alloc _
        have HWA := bx (HW.out.alloc (.cells #[.int .i64 ep, .int .i64 ed] 97))
        have HK9 := bx k9
        have hszr := Below.size HF.out
        go_wp2_with fail
        refine (P.out _ _ ep HK9.out HWA.out (by omega) (by rw [List.length_append]; have := HLN.out; omega)).mono ?_
        rintro e w5 ⟨rfl, h5, k5, t5⟩
        have b5 := t5 _ _ _ _ b9 (by decide) (by decide)
        obtain ⟨q0, q1, _, _, _⟩ := box2 b5
        have H5 := bx h5
        clear h5
        go_wp2_with fail
        refine (P2.out w5 _ ed k5 H5.out x1 (by simp only [List.length_append]; have := HLN.out; omega)).mono ?_
        rintro e w6 ⟨rfl, h6, k6, _⟩
        rw [List.append_assoc, List.append_assoc, ← List.append_assoc, ← List.append_assoc] at h6
        go_wp2
        go_roundw
        case rel => exact ⟨k + 1, by omega, by go_num, by rw [HT.out]; simpa [List.append_assoc] using h6, k6⟩
        case measure => simp [intOf]; omega
      · obtain rfl : k = N := by omega
        have ht : es.take k = es := List.take_of_length_le (by rw [HN.out]; exact Nat.le_refl _)
        have hzl : z.length ≤ 1000000 := by rw [HFIN.out, List.length_append]; have := HEL.out; rw [HN.out] at this; omega
        have HD := bx (wDone_calls w.heap.size w.heap.size z wr (by rw [HFIN.out]; have := HW.out; rwa [ht] at this) hzl)
        clear ht hzl
        go_wp2_with fail
        refine HD.out.mono ?_
        rintro e w7 ⟨A7, c7, rfl, o7, k7⟩
        go_wp2
        go_ret
        exact ⟨A7, c7, rfl, own_base o7 (Below.size HF.out), HF.out.trans k7⟩
end Go.Proofs.Ytpdbdpmlppbnnaa
