/-
  Walks of layer 30: diagnose.extend hands out all sets, in order.
-/
import Derived.Test.YtgfmnolghbiedaaDoorK5
import Derived.Deep.DeepAppendRoom
import Derived.Deep.RegionLaw
namespace Go.Proofs.YtgfmnolghbiedaaDoor
open Go.RowKit Go.Shelf

/-- how a slice of one's own grows by one element: in place, or in a new block -/
def Grew (e : TypeId) (B : Nat) (v : Value) (n : Nat) (cs : List Value) (w w' : World) (v' : Value) : Prop :=
  (∃ g cap, v = .slice (some ⟨g, 0, none⟩) n cap ∧ v' = .slice (some ⟨g, 0, none⟩) (n + 1) cap ∧ w'.ownsRow B e 1 v' (n + 1) cs ∧ w.grownBy w' (some g)) ∨
  (w'.ownsRow w.heap.size e 1 v' (n + 1) cs ∧ w.grownBy w' none)
theorem run_head {P : Program} (w : World) (t ty : TypeId) (base : Nat) (e : TypeId) (i : TypeInfo) (z : Value) (bytes : Nat) (ht : P.underlying t = some (.slice e)) (hi : P.info? e = some i) (hz : i.zero = some z)
    (hsize : i.size = 1) (hby : i.bytes = bytes) (hzs : z.cells.size = 1) (v : Value) (n : Nat) (xs : List Value) (hown : w.ownsRow base e 1 v n xs)
    (ad : Addr) (c : Nat) (u : Value) (hnew : w.cell? ad = some u) (h1 : u.oneCell' = true) (h63 : n + 1 ≤ maxLen) (hbytes : (n + 1) * bytes ≤ 140737488355328) :
    ∃ v' w', (Builtin.append_ #[t, t] ty #[v, .slice (some ad) 1 c]).run P w = .ok v' w' ∧ Grew e base v n (xs ++ [u]) w w' v' := by
  have hnews : ∀ j q, [u][j]? = some q → w.cell? (ad.add j) = some q := by
    intro j q hj
    cases j with
    | zero => simp at hj; subst hj; unfold Addr.add; simpa using hnew
    | succ j => simp at hj
  have hone : ∀ q ∈ [u], q.oneCell' = true := by intro q hq; obtain rfl := List.mem_singleton.1 hq; exact h1
  rcases hown.2 with ⟨rfl, rfl⟩ | ⟨g, cap, cur, rfl, hg, hh, hnc, hcm, hcs, htk⟩
  · obtain rfl : xs = [] := List.eq_nil_of_length_eq_zero (by have := hown.1; omega)
    obtain ⟨v', w', hrun, r1, r2, _⟩ := run_append_own (P := P) w w.heap.size t ty e i z 1 bytes ht hi hz hsize hby hzs (by decide) (.slice none 0 0) 0 [] (World.ownsRow_nil w _ e 1) ad 1 c [u] rfl hnews hone h63 hbytes (Nat.le_refl _)
    exact ⟨v', w', hrun, .inr ⟨r1, r2⟩⟩
  · by_cases hr : n + 1 ≤ cap
    · obtain ⟨w', hrun, r1, r2⟩ := run_append_own_spare (P := P) w base t ty e i 1 ht hi hsize g n cap xs hown ad 1 c [u] rfl hnews hone hr
      exact ⟨_, w', hrun, .inl ⟨g, cap, rfl, rfl, r1, r2⟩⟩
    · obtain ⟨v', w', hrun, r1, r2⟩ := run_append_arg_grows (P := P) w t ty e i z 1 bytes ht hi hz hsize hby hzs (by decide) ⟨g, 0, none⟩ n cap xs hown.1 (hown.cells (g := g) rfl) ad 1 c [u] rfl hnews (by omega) h63 hbytes
      exact ⟨v', w', hrun, .inr ⟨r1, r2⟩⟩
theorem step_append_head {P : Program} {ops : Array Oper} {o : Oper} {a : Act} {w : World} {K : Act → World → Prop} {Q : Exit → Act → World → Prop} {E : Prop} (hgd : o.guard = none) (s x : Operand) (t : TypeId)
    (ho : o.op = .call { callee := .builtin .append, args := #[s, x], argTypes := #[t, t] })
    (base : Nat) (e : TypeId) (i : TypeInfo) (z : Value) (bytes : Nat) (ht : P.underlying t = some (.slice e)) (hi : P.info? e = some i) (hz : i.zero = some z)
    (hsize : i.size = 1) (hby : i.bytes = bytes) (hzs : z.cells.size = 1) (v : Value) (n : Nat) (xs : List Value) (hs : a.eval s = v) (hown : w.ownsRow base e 1 v n xs)
    (ad : Addr) (c : Nat) (u : Value) (hx : a.eval x = .slice (some ad) 1 c) (hnew : w.cell? ad = some u) (h1 : u.oneCell' = true) (h63 : n + 1 ≤ maxLen) (hbytes : (n + 1) * bytes ≤ 140737488355328)
    (h : ∀ v' w', Grew e base v n (xs ++ [u]) w w' v' → K (a.put o.dst v') w') :
    if Region.wanted o (yielded ops a.tmps) = true then Oper.wp P o a w K Q else E := by
  have hw : Region.wanted o (yielded ops a.tmps) = true := by simp [Region.wanted, hgd]
  rw [if_pos hw]
  obtain ⟨v', w', hr, hgr⟩ := run_head (P := P) w t o.type base e i z bytes ht hi hz hsize hby hzs v n xs hown ad c u hnew h1 h63 hbytes
  unfold Oper.wp execOp
  simp only [ho, resolve, invoke, builtin, Sem.run_bind, Sem.run_pure, Result.andThen_ok, List.map_toArray, List.map_cons, List.map_nil, hs, hx, hr]
  exact h v' w' hgr

/-- what the growth of the head leaves, and what it gives back behind the inner call -/
structure Grown (B : Nat) (v : Value) (hd : List Int) (x : Int) (wr w1 : World) (v1 : Value) : Prop where
  own : w1.ownsRow B 3 1 v1 (hd ++ [x]).length (ic (hd ++ [x]))
  grew : wr.grownBy w1 v.ownBlock
  blk : ∀ r, v1.ownBlock = some r → v.ownBlock = some r ∨ wr.heap.size ≤ r
  back : ∀ Y, KInt v1.ownBlock w1 Y → Y.ownsRow B 3 1 v1 (hd ++ [x]).length (ic (hd ++ [x])) → KInt v.ownBlock wr Y ∧ Y.ownsRow B 3 1 v hd.length (ic hd)
theorem grown_of {B : Nat} {v : Value} {hd : List Int} {x : Int} {wr W w1 : World} {v1 : Value} (hv : wr.ownsRow B 3 1 v hd.length (ic hd)) (hB : B ≤ wr.heap.size) (hW : Below wr.heap.size wr W)
    (h : Grew 3 B v hd.length (ic hd ++ [.int .i64 x]) W w1 v1) : Grown B v hd x wr w1 v1 := by
  have hl : (hd ++ [x]).length = hd.length + 1 := by simp
  have hc : ic (hd ++ [x]) = ic hd ++ [.int .i64 x] := by simp [ic]
  have g0 := grown_of_below hW none
  have hWs := hW.size
  rcases h with ⟨g, cap, rfl, rfl, ho, hg⟩ | ⟨ho, hg⟩
  · have hg' : wr.grownBy w1 (some g) := (grown_of_below hW (some g)).trans hg
    refine ⟨by rw [hl, hc]; exact ho, hg', fun r e => .inl e, fun Y hk hy => ?_⟩
    refine ⟨(KInt.of_grown hg').trans hk, ?_⟩
    rw [hl, hc] at hy
    refine ⟨by simp [ic], .inr ?_⟩
    rcases hy.2 with ⟨h, _⟩ | ⟨g', cap', cur, e, hb, hh, h1, h2, h3, h4⟩
    · cases h
    · cases e
      refine ⟨g, cap, cur, rfl, hb, hh, by omega, h2, h3, ?_⟩
      have := congrArg (List.take (hd.length * 1)) h4
      rw [List.take_take, Nat.min_eq_left (by omega)] at this
      rw [this, List.take_append_of_le_length (by simp [ic]), List.take_of_length_le (by simp [ic])]
  · have hg' : wr.grownBy w1 none := g0.trans hg
    have hb : ∀ r, v1.ownBlock = some r → wr.heap.size ≤ r := fun r e => Nat.le_trans hWs (own_lt ho e).1
    refine ⟨by rw [hl, hc]; exact own_base ho (Nat.le_trans hB hWs), ⟨hg'.os, hg'.tape, hg'.output, hg'.size, fun i hi _ => hg'.block i hi (by simp)⟩, fun r e => .inr (hb r e), fun Y hk _ => ?_⟩
    have hne : ∀ b, b < wr.heap.size → some b ≠ v1.ownBlock := fun b hlt e => by have := hb b e.symm; omega
    have k1 : KInt none wr w1 := KInt.of_grown hg'
    have k2 : KInt v.ownBlock wr Y := ⟨Nat.le_trans k1.size hk.size, fun b cs fz hx _ => hk.same b cs fz (k1.same b cs fz hx (by simp)) (hne b (Array.getElem?_eq_some_iff.1 hx).1)⟩
    refine ⟨k2, ?_⟩
    refine ⟨hv.1, ?_⟩
    rcases hv.2 with h0 | ⟨g, cap, cur, rfl, hgB, hh, r⟩
    · exact .inl h0
    · exact .inr ⟨g, cap, cur, rfl, hgB, hk.same g cur (0, 0) (k1.same g cur (0, 0) hh (by simp)) (hne g (Array.getElem?_eq_some_iff.1 hh).1), r⟩

/-- a slice of numbers that may be cut, in a block of numbers -/
structure IRow (X : World) (row : Option Nat) (A : Option Addr) (c : Nat) (xs : List Int) : Prop where
  cap : xs.length ≤ c
  big : c ≤ 9223372036854775807
  at_ : xs ≠ [] → ∃ b off cs fz, A = some ⟨b, off, none⟩ ∧ X.heap[b]? = some (.cells cs 3 fz) ∧ some b ≠ row ∧ ∀ k (hk : k < xs.length), cs[off + k]? = some (.int .i64 xs[k])
theorem IRow.moved {X Y : World} {row row' : Option Nat} {A : Option Addr} {c : Nat} {xs : List Int} (h : IRow X row A c xs) (hk : KInt row X Y) (hr : ∀ r, row' = some r → row = some r ∨ X.heap.size ≤ r) : IRow Y row' A c xs :=
  ⟨h.cap, h.big, fun hne => by
    obtain ⟨b, off, cs, fz, e, hb, hbr, hc⟩ := h.at_ hne
    refine ⟨b, off, cs, fz, e, hk.same b cs fz hb hbr, fun e' => ?_, hc⟩
    rcases hr b e'.symm with h | h
    · exact hbr h.symm
    · have := (Array.getElem?_eq_some_iff.1 hb).1; omega⟩
theorem IRow.cut {X : World} {row : Option Nat} {b off c : Nat} {xs : List Int} (h : IRow X row (some ⟨b, off, none⟩) c xs) (i : Nat) (hi : i ≤ xs.length) : IRow X row (some ⟨b, off + i, none⟩) (c - i) (xs.drop i) := by
  have hcap := h.cap
  refine ⟨by simp; omega, by have := h.big; omega, fun hne => ?_⟩
  have hne' : xs ≠ [] := fun e => hne (by simp [e])
  obtain ⟨b', off', cs, fz, e, hb, hbr, hc⟩ := h.at_ hne'
  cases e
  exact ⟨b, off + i, cs, fz, rfl, hb, hbr, fun k hk => by
    simp only [List.length_drop] at hk
    rw [List.getElem_drop, Nat.add_assoc]
    exact hc (i + k) (by omega)⟩
theorem IRow.load {X : World} {row : Option Nat} {A : Option Addr} {c : Nat} {xs : List Int} (h : IRow X row A c xs) (i : Nat) (hi : i < xs.length) : ∃ b off, A = some ⟨b, off, none⟩ ∧ X.cell? ⟨b, off + i, none⟩ = some (.int .i64 xs[i]) := by
  obtain ⟨b, off, cs, fz, e, hb, _, hc⟩ := h.at_ (fun e => by subst e; simp at hi)
  exact ⟨b, off, e, by rw [cell_of_row _ _ _ _ _ _ hb]; exact hc i hi⟩
/-- the post of extend, its answer a letter -/
theorem ExtPost.cases {J Jx : List Slc → World → Prop} {B : Nat} {v : Value} {hd : List Int} {sets : List (List Int)} {pre : List Slc} {X : World} {e : Ending} {Y : World} (h : ExtPost J Jx B v hd sets pre X e Y) :
    ∃ b : Bool, e = .returned (.bool b) ∧ ExtPost J Jx B v hd sets pre X (.returned (.bool b)) Y := by
  rcases h with ⟨rfl, h⟩ | ⟨rfl, h⟩
  · exact ⟨true, rfl, .inl ⟨rfl, h⟩⟩
  · exact ⟨false, rfl, .inr ⟨rfl, h⟩⟩
/-- what holds at the head of each round of extend's loop -/
def ExtRel (J : List Slc → World → Prop) (B k : Nat) (v : Value) (hd xs : List Int) (pre : List Slc) (X : World) (idx : Value) (wr : World) : Prop :=
  ∃ (i : Nat) (ys : List Slc), idx = .int .i64 i ∧ i ≤ xs.length ∧ ys.map (·.s) ++ (subs (xs.drop i) (k + 1)).map (hd ++ ·) = (subs xs (k + 1)).map (hd ++ ·) ∧ J (pre ++ ys) wr ∧
      KInt v.ownBlock X wr ∧ wr.ownsRow B 3 1 v hd.length (ic hd) ∧ ∀ y ∈ ys, ∀ r, y.v.ownBlock = some r → X.heap.size ≤ r ∧ r < wr.heap.size
set_option maxRecDepth 10000 in
theorem extend_succ (T : List (List Int)) (lp B : Nat) (J Jx : List Slc → World → Prop)
    (hJ : ∀ pre X Y row, J pre X → X.grownBy Y row → (∀ r, row = some r → RowS B pre r X) → J pre Y)
 (k : Nat)
    (ih : ∀ (v : Value) (hd : List Int) (AL : Option Addr) (cL : Nat) (xs : List Int) (pre : List Slc) (X : World), X.ownsRow B 3 1 v hd.length (ic hd) → B ≤ X.heap.size → hd.length + k ≤ 100 → IRow X v.ownBlock AL cL xs → J pre X →
      (∀ y ∈ pre, ∀ r, y.v.ownBlock = some r → v.ownBlock ≠ some r ∧ r < X.heap.size) → pre.map (·.s) ++ (subs xs k).map (hd ++ ·) <+: T →
      Calls Tryd.prog 55 #[v, .slice AL xs.length cL, .int .i64 k, .func (.yield lp) #[] #[]] X (ExtPost J Jx B v hd (subs xs k) pre X))
    (v : Value) (hd : List Int) (AL : Option Addr) (cL : Nat) (xs : List Int) (pre : List Slc) (X : World) (hv : X.ownsRow B 3 1 v hd.length (ic hd)) (hB : B ≤ X.heap.size) (hm : hd.length + (k + 1) ≤ 100) (hl : IRow X v.ownBlock AL cL xs) (h0 : J pre X)
    (hpre : ∀ y ∈ pre, ∀ r, y.v.ownBlock = some r → v.ownBlock ≠ some r ∧ r < X.heap.size) (hT : pre.map (·.s) ++ (subs xs (k + 1)).map (hd ++ ·) <+: T) :
    Calls Tryd.prog 55 #[v, .slice AL xs.length cL, .int .i64 (k + 1 : Nat), .func (.yield lp) #[] #[]] X (ExtPost J Jx B v hd (subs xs (k + 1)) pre X) := by
  obtain ⟨i0, hi, hz0, hz1, hz2⟩ := info_parts Tryd.infoInt
  have hcap := hl.cap
  have hbig := hl.big
  have k0 : ((k + 1 : Nat) : Int) ≠ 0 := by omega
  go_enter Tryd.func55, Tryd.ntmps55
  go_wp2
  go_loopw [9, 21] (fun _ idx wr => ExtRel J B k v hd xs pre X idx wr)
    (fun _ idx _ => xs.length - (intOf idx).toNat)
  case atStart => exact ⟨0, [], rfl, Nat.zero_le _, by simp, by simpa using h0, KInt.refl _ _, hv, by simp⟩
  case round =>
    obtain ⟨i, ys, rfl, hix, hys, hJr, hkr, hvr, hfr⟩ := hrel
    have hlw := hl.moved hkr (row' := v.ownBlock) (fun r e => .inl e)
    have hBr := Nat.le_trans hB hkr.size
    by_cases hlt : i + k < xs.length
    · obtain ⟨b, off, rfl, c1⟩ := hlw.load i (by omega)
      have hcut : IRow wr v.ownBlock (if cL = i + 1 then some ⟨b, off, none⟩ else some ⟨b, off + (i + 1), none⟩) (cL - (i + 1)) (xs.drop (i + 1)) := by
        by_cases hc : cL = i + 1
        · rw [if_pos hc]
          exact ⟨by simp; omega, by omega, fun hne => absurd (List.drop_eq_nil_of_le (by omega)) hne⟩
        · rw [if_neg hc]; exact hlw.cut (i + 1) (by omega)
      have hround := subs_round xs k i (by omega)
      obtain ⟨x, hx⟩ : ∃ x, xs[i] = x := ⟨_, rfl⟩
      rw [hx] at c1 hround
      have hmm : (subs (xs.drop i) (k + 1)).map (hd ++ ·) = (subs (xs.drop (i + 1)) k).map ((hd ++ [x]) ++ ·) ++ (subs (xs.drop (i + 1)) (k + 1)).map (hd ++ ·) := by
        rw [hround, List.map_append, List.map_map]
        congr 1
        apply List.map_congr_left
        intro t _
        simp
      have hT' : (pre ++ ys).map (·.s) ++ (subs (xs.drop (i + 1)) k).map ((hd ++ [x]) ++ ·) <+: T := by
        rw [← hys, hmm] at hT
        exact (List.prefix_append _ ((subs (xs.drop (i + 1)) (k + 1)).map (hd ++ ·))).trans (by simpa only [List.map_append, List.append_assoc] using hT)
      have hdl : (xs.drop (i + 1)).length = xs.length - (i + 1) := by simp
      have hih : ∀ W v1 w1, Below wr.heap.size wr W → Grew 3 B v hd.length (ic hd ++ [.int .i64 x]) W w1 v1 →
          Calls Tryd.prog 55 #[v1, .slice (if cL = i + 1 then some ⟨b, off, none⟩ else some ⟨b, off + (i + 1), none⟩) (xs.length - (i + 1)) (cL - (i + 1)), .int .i64 k, .func (.yield lp) #[] #[]] w1 fun e Y =>
            ∃ bb : Bool, e = .returned (.bool bb) ∧ ExtPost J Jx B v1 (hd ++ [x]) (subs (xs.drop (i + 1)) k) (pre ++ ys) w1 (.returned (.bool bb)) Y ∧ Grown B v hd x wr w1 v1 := by
        intro W v1 w1 hbW hg
        have hgr := grown_of hvr hBr hbW hg
        have hJ1 : J (pre ++ ys) w1 := by
          refine hJ _ wr w1 _ hJr hgr.grew fun r e => ?_
          rcases hvr.2 with ⟨rfl, _⟩ | ⟨g, cap, cur, rfl, hgB, hh, _⟩
          · simp [Value.ownBlock] at e
          · have hrg : r = g := by simpa [Value.ownBlock] using e.symm
            subst hrg
            refine ⟨hgB, fun y hy hyr => ?_, cur, (0, 0), hh⟩
            rcases List.mem_append.1 hy with hy | hy
            · exact (hpre y hy r hyr).1 rfl
            · have h1 := (hfr y hy r hyr).1
              have h2 := (own_lt hv (show (Value.slice (some ⟨r, 0, none⟩) hd.length cap).ownBlock = some r from rfl)).2
              omega
        have hI1 : IRow w1 v1.ownBlock (if cL = i + 1 then some ⟨b, off, none⟩ else some ⟨b, off + (i + 1), none⟩) (cL - (i + 1)) (xs.drop (i + 1)) := hcut.moved (KInt.of_grown hgr.grew) (fun r e => hgr.blk r e)
        have hsz := hgr.grew.size
        have := ih v1 (hd ++ [x]) _ (cL - (i + 1)) (xs.drop (i + 1)) (pre ++ ys) w1 hgr.own (by omega) (by simp; omega) hI1 hJ1 (by
          intro y hy r hyr
          have hyl : r < wr.heap.size := by
            rcases List.mem_append.1 hy with hy | hy
            · exact Nat.lt_of_lt_of_le (hpre y hy r hyr).2 hkr.size
            · exact (hfr y hy r hyr).2
          refine ⟨fun e => ?_, by omega⟩
          rcases hgr.blk r e with h | h
          · rcases List.mem_append.1 hy with hy | hy
            · exact (hpre y hy r hyr).1 h
            · have h1 := (hfr y hy r hyr).1
              have h2 := (own_lt hv h).2
              omega
          · omega) hT'
        rw [hdl] at this
        exact this.mono fun e Y h => by
          obtain ⟨bb, he, hp⟩ := h.cases
          exact ⟨bb, he, hp, hgr⟩
      have z1 : (0 : Int) ≤ (i : Int) := by omega
      have z2 : (i : Int) < (xs.length : Int) := by omega
      have z3 : (0 : Int) ≤ (i : Int) + 1 := by omega
      have z4 : (i : Int) + 1 ≤ (xs.length : Int) := by omega
      have e1 : IntKind.i64.wrap ((i : Int) + 1) = (i : Int) + 1 := IntWalk.i64_in _ (by omega)
      have e3 : IntKind.i64.wrap (k : Int) = (k : Int) := IntWalk.i64_in _ (by omega)
      have n1 := World.new_ne wr _ c1
      have hnc : ((wr.alloc (.cells #[.int .i64 x] 3)).drew).cell? ⟨wr.heap.size, 0, none⟩ = some (.int .i64 x) := World.cell?_alloc_new wr #[.int .i64 x] 3 0
      go_wp2_with fail
      go_region_law (first | (refine step_append_head (by rfl) (.tmp 24) (.tmp 29) 32 (by rfl) B 3 i0 (.int .i64 0) 8 Tryd.underlying32 hi hz0 hz1 hz2 (by decide) v hd.length (ic hd) (by rfl) ((hvr.alloc _).drew) ⟨wr.heap.size, 0, none⟩ 1 (.int .i64 x) (by rfl) hnc (by rfl) (by unfold maxLen; omega) (by omega) ?_; intro v1 w1 hg1) | (go_simp; go_at_call 55; refine (hih _ _ _ (((Below.refl _ wr).alloc (Nat.le_refl _) _).drew) hg1).mono ?_; rintro e Y ⟨bb, rfl, hpost, hgr⟩))
      have hsz1 := hgr.grew.size
      cases bb
      · rcases hpost with ⟨h, _⟩ | ⟨_, zs, hzs, hJz⟩
        · cases h
        · have Hp := bx (show (ys ++ zs).map (·.s) <+: (subs xs (k + 1)).map (hd ++ ·) by
            rw [← hys, hmm, List.map_append]
            exact List.prefix_append_right_inj _ |>.2 (hzs.trans (List.prefix_append _ _)))
          rw [List.append_assoc] at hJz
          go_wp2
          all_goals
            go_ret
            exact .inr ⟨rfl, ys ++ zs, Hp.out, hJz⟩
      · rcases hpost with ⟨_, zs, hzs, hJz, hkz, hoz, hfz⟩ | ⟨h, _⟩
        · obtain ⟨hk', ho'⟩ := hgr.back Y hkz hoz
          have hsz2 := hkz.size
          have hsz0 := hkr.size
          rw [List.append_assoc] at hJz
          have Hc := bx (show (ys ++ zs).map (·.s) ++ (subs (xs.drop (i + 1)) (k + 1)).map (hd ++ ·) = (subs xs (k + 1)).map (hd ++ ·) by
            rw [← hys, hmm, List.map_append, hzs, List.append_assoc])
          have Hf := bx (show ∀ y ∈ ys ++ zs, ∀ r, y.v.ownBlock = some r → X.heap.size ≤ r ∧ r < Y.heap.size by
            intro y hy r hr
            rcases List.mem_append.1 hy with hy | hy
            · obtain ⟨p, q⟩ := hfr y hy r hr; omega
            · obtain ⟨p, q⟩ := hfz y hy r hr; omega)
          go_wp2
          all_goals
            go_roundw
            case rel => exact ⟨_, _, .int .i64 (i + 1), ⟨i + 1, ys ++ zs, by go_num, by omega, Hc.out, hJz, hkr.trans hk', ho', Hf.out⟩, rfl, rfl, rfl⟩
            case measure => simp [intOf]; omega
        · cases h
    · have Hc := bx (show ys.map (·.s) = (subs xs (k + 1)).map (hd ++ ·) by
        rw [← hys, subs_short _ _ (by simp; omega)]; simp)
      go_wp2
      go_ret
      exact .inl ⟨rfl, ys, Hc.out, hJr, hkr, hvr, hfr⟩
theorem extend_calls (T : List (List Int)) (lp B : Nat) (J Jx : List Slc → World → Prop)
    (hJ : ∀ pre X Y row, J pre X → X.grownBy Y row → (∀ r, row = some r → RowS B pre r X) → J pre Y)
    (hY : ∀ m pre x X, J pre X → ElS T B pre x X → YieldAt Fence.wide m Tryd.prog lp #[x.v] X fun e Y =>
      (e = .returned (.bool true) ∧ J (pre ++ [x]) Y ∧ KInt none X Y) ∨ (e = .returned (.bool false) ∧ Jx (pre ++ [x]) Y)) (k : Nat) :
    ∀ (v : Value) (hd : List Int) (AL : Option Addr) (cL : Nat) (xs : List Int) (pre : List Slc) (X : World), X.ownsRow B 3 1 v hd.length (ic hd) → B ≤ X.heap.size → hd.length + k ≤ 100 → IRow X v.ownBlock AL cL xs → J pre X →
      (∀ y ∈ pre, ∀ r, y.v.ownBlock = some r → v.ownBlock ≠ some r ∧ r < X.heap.size) → pre.map (·.s) ++ (subs xs k).map (hd ++ ·) <+: T →
      Calls Tryd.prog 55 #[v, .slice AL xs.length cL, .int .i64 k, .func (.yield lp) #[] #[]] X (ExtPost J Jx B v hd (subs xs k) pre X) := by
  induction k with
  | zero =>
    intro v hd AL cL xs pre X hv hB hm _ h0 _ hT
    rw [subs_zero] at hT ⊢
    exact extend_zero T lp B J Jx hJ hY v hd AL xs.length cL pre X hv hB (by omega) h0 (by simpa using hT)
  | succ k ih => exact fun v hd AL cL xs pre X hv hB hm hl h0 hpre hT => extend_succ T lp B J Jx hJ k ih v hd AL cL xs pre X hv hB hm hl h0 hpre hT
end Go.Proofs.YtgfmnolghbiedaaDoor
