/-
  Walks of layer 30: a slice of numbers that is appended, wherever it lies; slices.Grow of nil, slices.Concat of two slices.
-/
import Derived.Test.YtgfmnolghbiedaaK19
import Derived.Lib.AppendZeros
import Derived.Lib.Buffer
namespace Go.Proofs.Ytgfmnolghbiedaa
open Go.RowKit

/-- the slice u of numbers xs, wherever it lies below block B -/
structure Src (w : World) (B : Nat) (u : Value) (xs : List Int) : Prop where
  out : (u = .slice none 0 0 ∧ xs = []) ∨ ∃ b off c, u = .slice (some ⟨b, off, none⟩) xs.length c ∧ ∀ k (hk : k < xs.length), b < B ∧ w.cell? ⟨b, off + k, none⟩ = some (.int .i64 xs[k])
theorem Src.below {w w' : World} {B : Nat} {u : Value} {xs : List Int} (h : Src w B u xs) (hb : Below B w w') : Src w' B u xs := by
  rcases h.out with h | ⟨b, off, c, e, h⟩
  · exact ⟨.inl h⟩
  · exact ⟨.inr ⟨b, off, c, e, fun k hk => ⟨(h k hk).1, (hb.cell (p := ⟨b, off + k, none⟩) (h k hk).1).trans (h k hk).2⟩⟩⟩
theorem Src.more {w : World} {B B' : Nat} {u : Value} {xs : List Int} (h : Src w B u xs) (hB : B ≤ B') : Src w B' u xs := by
  rcases h.out with h | ⟨b, off, c, e, h⟩
  · exact ⟨.inl h⟩
  · exact ⟨.inr ⟨b, off, c, e, fun k hk => ⟨by have := (h k hk).1; omega, (h k hk).2⟩⟩⟩
theorem Src.form {w : World} {B : Nat} {u : Value} {xs : List Int} (h : Src w B u xs) : ∃ A c, u = .slice A xs.length c := by
  rcases h.out with ⟨rfl, rfl⟩ | ⟨b, off, c, rfl, h⟩
  · exact ⟨_, _, rfl⟩
  · exact ⟨_, _, rfl⟩
theorem src_of_own {w : World} {base n : Nat} {u : Value} {l : List Int} (h : w.ownsRow base 3 1 u n (ic l)) : Src w w.heap.size u l := by
  have hn : l.length = n := by have := h.1; rw [ic_len] at this; omega
  subst hn
  rcases h.2 with ⟨rfl, h0⟩ | ⟨g, cap, cur, rfl, hg, hh, _⟩
  · exact ⟨.inl ⟨rfl, List.eq_nil_of_length_eq_zero h0⟩⟩
  · refine ⟨.inr ⟨g, 0, cap, rfl, fun k hk => ⟨(Array.getElem?_eq_some_iff.1 hh).1, ?_⟩⟩⟩
    have c1 := h.cells (g := g) rfl k (.int .i64 l[k]) (by simp [ic, hk])
    rw [← c1]
    unfold Addr.add
    split
    · rename_i h0; rw [h0]
    · rfl
theorem append_src {P : Program} {w : World} {ops : Array Oper} {rest : List Oper} {o : Oper} {a : Act} {Q : Exit → Act → World → Prop} (hgd : o.guard = none) (s x : Operand) (t : TypeId)
    (ho : o.op = .call { callee := .builtin .append, args := #[s, x], argTypes := #[t, t] })
    (base : Nat) (e : TypeId) (i : TypeInfo) (z : Value) (bytes : Nat) (ht : P.underlying t = some (.slice e)) (hi : P.info? e = some i) (hz : i.zero = some z)
    (hsize : i.size = 1) (hby : i.bytes = bytes) (hzs : z.cells.size = 1)
    (v : Value) (n : Nat) (xs : List Int) (hs : a.eval s = v) (hown : w.ownsRow base e 1 v n (ic xs))
    (B : Nat) (u : Value) (ys : List Int) (hx : a.eval x = u) (hsrc : Src w B u ys)
    (h63 : n + ys.length ≤ maxLen) (hbytes : (n + ys.length) * bytes ≤ 140737488355328) (hbase : base ≤ w.heap.size)
    (h : ∀ v' w', w'.ownsRow base e 1 v' (n + ys.length) (ic (xs ++ ys)) → w.grownBy w' v.ownBlock → wpList P ops Q rest (a.put o.dst v') w') : wpList P ops Q (o :: rest) a w := by
  rcases hsrc.out with ⟨hu, rfl⟩ | ⟨b, off, c, hu, hc⟩
  · refine wpList_append_own_none hgd s x t ho base e i 1 ht hi v n (ic xs) hs hown (hx.trans hu) (h v w ?_ (World.grownBy.refl w _))
    simpa using hown
  · refine wpList_append_own w hgd s x t ho base e i z 1 bytes ht hi hz hsize hby hzs (by decide) v n (ic xs) hs hown ⟨b, off, none⟩ ys.length c (ic ys) (hx.trans hu) (by simp [ic]) ?_ (ic_one _) h63 hbytes hbase fun v' w' k1 k2 _ => h v' w' (by rw [ic_append]; exact k1) k2
    intro j u hj
    have hjl : j < ys.length := by
      have := (List.getElem?_eq_some_iff.1 hj).1
      simpa [ic] using this
    have e1 := (hc j hjl).2
    rw [show (⟨b, off, none⟩ : Addr).add j = ⟨b, off + j, none⟩ from Addr.add_mid b off j, e1]
    simpa [ic, hjl] using hj
/-- what slices.Grow of nil answers -/
def GrowPost (w : World) (e : Ending) (w' : World) : Prop := ∃ v, e = .returned v ∧ w'.ownsRow w.heap.size 3 1 v 0 [] ∧ Below w.heap.size w w'
theorem grow_calls (n : Nat) (w : World) (hn : n ≤ 1000) : Calls Try.prog 45 #[.slice none 0 0, .int .i64 n] w (GrowPost w) := by
  obtain ⟨i0, hi, hz0, hz1, hz2⟩ := info_parts Try.infoInt
  by_cases h0 : n = 0
  · subst h0
    go_enter Try.func45, Try.ntmps45
    go_wp2
    go_ret
    exact ⟨_, rfl, World.ownsRow_nil _ _ _ _, Below.refl _ _⟩
  · have hp : 0 < n := by omega
    have happ := Lib.run_append_nil_zeros (P := Try.prog) w 25 3 25 3 i0 (.int .i64 0) .i64 .i64 Try.underlying25 Try.underlying3 hi hz0 n hp (by omega) (by omega) (by rw [hz2]; omega)
    have hge := grownCap_ge w n 0 3
    have hle := grownCap_le_maxLen w n 0 3 (by unfold maxLen; omega)
    generalize grownCap w n 0 3 = cap at *
    have hZs : (Builtin.zeroCells (Value.int .i64 0).cells n ++ Builtin.zeroCells (Value.int .i64 0).cells (cap - n)).size = cap := by simp [size_zeroCells, Value.cells]; omega
    generalize Builtin.zeroCells (Value.int .i64 0).cells n ++ Builtin.zeroCells (Value.int .i64 0).cells (cap - n) = Z at *
    clear h0
    go_enter Try.func45, Try.ntmps45
    go_wp2_with (at_builtin; refine Lib.wpList_append_run _ rfl _ _ _ _ rfl _ _ rfl rfl _ _ happ ?_)
    go_ret
    refine ⟨_, rfl, ⟨rfl, .inr ⟨w.heap.size, cap, Z, rfl, Nat.le_refl _, ?_, Nat.zero_le _, hle, by omega, rfl⟩⟩, ?_⟩
    · exact heap_alloc_new w _
    · exact ((Below.refl _ w).alloc (Nat.le_refl _) _).drew
theorem concat_calls (b : Nat) (u v : Value) (xs ys : List Int) (w : World) (hb : b < w.heap.size) (c0 : w.cell? ⟨b, 0, none⟩ = some u) (c1 : w.cell? ⟨b, 1, none⟩ = some v) (h0 : Src w w.heap.size u xs) (h1 : Src w w.heap.size v ys) (hx : xs.length ≤ 400) (hy : ys.length ≤ 400) :
    Calls Try.prog 39 #[.slice (some ⟨b, 0, none⟩) 2 2] w (RowPost w (xs ++ ys)) := by
  obtain ⟨i0, hi, hz0, hz1, hz2⟩ := info_parts Try.infoInt
  obtain ⟨AX, cx, rfl⟩ := h0.form
  obtain ⟨AY, cy, rfl⟩ := h1.form
  have Hx := bx h0
  have Hy := bx h1
  clear h0 h1
  go_enter Try.func39, Try.ntmps39
  go_wp2
  go_loopw [3, 5, 11] (fun t _ i wr => wr = w ∧ ((i = .int .i64 0 ∧ t = .int .i64 0) ∨ (i = .int .i64 1 ∧ t = .int .i64 (xs.length : Nat)) ∨ (i = .int .i64 2 ∧ t = .int .i64 (xs.length + ys.length : Nat)))) (fun _ _ i _ => 2 - (intOf i).toNat)
  case atStart => exact ⟨rfl, .inl ⟨rfl, rfl⟩⟩
  case round =>
    obtain ⟨rfl, (⟨rfl, rfl⟩ | ⟨rfl, rfl⟩ | ⟨rfl, rfl⟩)⟩ := hrel
    · go_wp2
      go_roundw
      case rel => exact ⟨trivial, .inr (.inl ⟨rfl, by go_num⟩)⟩
      case measure => simp [intOf]
    · go_wp2
      go_roundw
      case rel => exact ⟨trivial, .inr (.inr ⟨rfl, by go_num⟩)⟩
      case measure => simp [intOf]
    · go_wp2_with fail
      refine (grow_calls (xs.length + ys.length) wr (by omega)).mono ?_
      rintro e w1 ⟨v0, rfl, o0, hb0⟩
      have HO := bx o0
      clear o0
      obtain ⟨W, rfl⟩ : ∃ W : World, W = wr := ⟨_, rfl⟩
      have H0 := bx HO.out
      have hsz0 := hb0.size
      clear HO
      go_wp2
      go_loopw [6, 8, 27] (fun s _ i wr => ∃ zs : List Int, ((i = .int .i64 0 ∧ zs = []) ∨ (i = .int .i64 1 ∧ zs = xs) ∨ (i = .int .i64 2 ∧ zs = xs ++ ys)) ∧ wr.ownsRow W.heap.size 3 1 s zs.length (ic zs) ∧ Below W.heap.size W wr) (fun _ _ i _ => 2 - (intOf i).toNat)
      case atStart => exact ⟨[], .inl ⟨rfl, rfl⟩, H0.out, hb0⟩
      case round =>
        obtain ⟨zs, hz, hown, hbw⟩ := hrel
        have hsz := hbw.size
        have d0 := (hbw.cell (p := ⟨b, 0, none⟩) hb).trans c0
        have d1 := (hbw.cell (p := ⟨b, 1, none⟩) hb).trans c1
        rcases hz with (⟨rfl, rfl⟩ | ⟨rfl, rfl⟩ | ⟨rfl, rfl⟩)
        · have H1 := bx ((Hx.out.below hbw).more hsz)
          clear H0
          go_wp2_with (at_builtin; refine append_src rfl _ _ 25 rfl W.heap.size 3 i0 (.int .i64 0) 8 Try.underlying25 hi hz0 hz1 hz2 rfl _ _ [] rfl hown wr.heap.size _ xs rfl H1.out (by unfold maxLen; (try simp only [List.length_nil]); omega) (by (try simp only [List.length_nil]); omega) hsz ?_; intro v' w5 o5 g5)
          have hb5 : Below W.heap.size W w5 := hbw.grown g5 hsz (fun g hg => (hown.lt g hg).1)
          go_roundw
          case rel => exact ⟨_, .inr (.inl ⟨rfl, rfl⟩), by simpa using o5, hb5⟩
          case measure => simp [intOf]
        · have H1 := bx ((Hy.out.below hbw).more hsz)
          clear H0
          go_wp2_with (at_builtin; refine append_src rfl _ _ 25 rfl W.heap.size 3 i0 (.int .i64 0) 8 Try.underlying25 hi hz0 hz1 hz2 rfl _ _ zs rfl hown wr.heap.size _ ys rfl H1.out (by unfold maxLen; (try simp only [List.length_nil]); omega) (by (try simp only [List.length_nil]); omega) hsz ?_; intro v' w5 o5 g5)
          have hb5 : Below W.heap.size W w5 := hbw.grown g5 hsz (fun g hg => (hown.lt g hg).1)
          go_roundw
          case rel => exact ⟨_, .inr (.inr ⟨rfl, rfl⟩), by simpa using o5, hb5⟩
          case measure => simp [intOf]
        · obtain ⟨A', c', rfl⟩ := slice_form hown
          go_wp2
          go_ret
          exact ⟨A', c', rfl, hown, hbw⟩
end Go.Proofs.Ytgfmnolghbiedaa
