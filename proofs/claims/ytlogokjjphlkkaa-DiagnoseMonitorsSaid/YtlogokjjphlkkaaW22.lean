/-
  Layer 29, All: what it answers; three rows of one's own that grow, their monitors' pasts, a box.
-/
import Derived.Test.YtlogokjjphlkkaaW21
import Derived.Deep.CutRange
namespace Go.Proofs.Ytlogokjjphlkkaa
open Go.RowKit Go.Shelf

def nxM (vs : List Int) (m : Mon) : Mon := if m.par < (vs.length : Int) then stepM m (vs.getD m.par.toNat 0) else m
def uxM (vs : List Int) (m : Mon) : Bool := decide (m.par < (vs.length : Int)) && upM m (vs.getD m.par.toNat 0)
def dxM (vs : List Int) (m : Mon) : Bool := decide (m.par < (vs.length : Int)) && dnM m (vs.getD m.par.toNat 0)
def allM (vs : List Int) (ms : List Mon) : List Mon := ms.map (nxM vs)
def evs (f : Mon → Bool) (ms : List Mon) : List Int := (ms.filter f).map (·.ev)
theorem evs_succ (f : Mon → Bool) (l : List Mon) (k : Nat) (hk : k < l.length) : evs f (l.take (k + 1)) = if f l[k] then evs f (l.take k) ++ [l[k].ev] else evs f (l.take k) := by
  rw [List.take_succ_eq_append_getElem hk, evs, List.filter_append]
  cases h : f l[k] <;> simp [h, evs]
theorem evs_len (f : Mon → Bool) (l : List Mon) : (evs f l).length ≤ l.length := by
  have := List.length_filter_le f l
  simpa [evs] using this
theorem evs_append (f : Mon → Bool) (l k : List Mon) : evs f (l ++ k) = evs f l ++ evs f k := by simp [evs]
theorem allM_append (vs : List Int) (l k : List Mon) : allM vs (l ++ k) = allM vs l ++ allM vs k := by simp [allM]
theorem allM_succ (vs : List Int) (l : List Mon) (k : Nat) (hk : k < l.length) : allM vs (l.take (k + 1)) = allM vs (l.take k) ++ [nxM vs l[k]] := by
  rw [List.take_succ_eq_append_getElem hk, allM_append]
  rfl

theorem SlP.grown {P Q : Nat → Prop} {w w' : World} {row : Option Nat} {v : Value} {n : Nat} {cs : List Value} (h : SlP P w v n cs) (g : w.grownBy w' row) (hP : ∀ b, P b → row ≠ some b) (hQ : ∀ b, b < w.heap.size → P b → Q b) : SlP Q w' v n cs := by
  rcases h.out with h | ⟨a, c, e, h⟩
  · exact ⟨.inl h⟩
  · refine ⟨.inr ⟨a, c, e, fun j u hj => ?_⟩⟩
    obtain ⟨b, off, e1, e2, e3⟩ := h j u hj
    have hlt := World.block_lt_of_cell? w _ e3
    refine ⟨b, off, e1, hQ b hlt e2, ?_⟩
    have := g.block b hlt (hP b e2).symm
    simp only [World.cell?, this] at e3 ⊢
    exact e3
theorem MonC.grown {w w' : World} {row : Option Nat} {b : Nat} {m : Mon} {u : Value} (h : MonC w b m u) (g : w.grownBy w' row) (hr : row ≠ some b) : MonC w' b m u := ⟨(g.block b h.lt hr.symm).trans h.out⟩
/-- blocks that are none of three rows' own -/
def Apart (v1 v2 v3 : Value) (b : Nat) : Prop := v1.ownBlock ≠ some b ∧ v2.ownBlock ≠ some b ∧ v3.ownBlock ≠ some b
structure AllAt (w wr : World) (v1 v2 v3 : Value) (ps : List MV) (us ds : List Int) : Prop where
  from_ : From w wr
  o1 : wr.ownsRow w.heap.size 71 8 v1 ps.length (mlc ps)
  o2 : wr.ownsRow w.heap.size 3 1 v2 us.length (ic us)
  o3 : wr.ownsRow w.heap.size 3 1 v3 ds.length (ic ds)
  d12 : ∀ r, v1.ownBlock = some r → v2.ownBlock ≠ some r
  d13 : ∀ r, v1.ownBlock = some r → v3.ownBlock ≠ some r
  d23 : ∀ r, v2.ownBlock = some r → v3.ownBlock ≠ some r
  pst : ∀ a ∈ ps, SlP (Apart v1 v2 v3) wr a.2 a.1.past.length (bc a.1.past)
theorem AllAt.start (w : World) : AllAt w w (.slice none 0 0) (.slice none 0 0) (.slice none 0 0) [] [] [] :=
  ⟨From.refl _, own_nil _ _ _ _, own_nil _ _ _ _, own_nil _ _ _ _, fun r h => by simp [Value.ownBlock] at h, fun r h => by simp [Value.ownBlock] at h, fun r h => by simp [Value.ownBlock] at h, fun a ha => by cases ha⟩
theorem AllAt.call {w wr w' : World} {v1 v2 v3 : Value} {ps : List MV} {us ds : List Int} (h : AllAt w wr v1 v2 v3 ps us ds) (k : From wr w') : AllAt w w' v1 v2 v3 ps us ds :=
  ⟨h.from_.trans k, own_call h.o1 k, own_call h.o2 k, own_call h.o3 k, h.d12, h.d13, h.d23, fun a ha => (h.pst a ha).from k⟩
theorem own_kept {w w' : World} {base size n : Nat} {e : TypeId} {v : Value} {xs : List Value} {row : Option Nat} (h : w.ownsRow base e size v n xs) (g : w.grownBy w' row) (hd : ∀ r, row = some r → v.ownBlock ≠ some r) : w'.ownsRow base e size v n xs := by
  refine h.kept g ?_
  cases hv : v.ownBlock with
  | none => exact .inl rfl
  | some q =>
    refine .inr fun e => ?_
    exact hd q e.symm hv
/-- how a row's own block turns -/
def Grows (w : World) (v v' : Value) : Prop := ∀ r, v'.ownBlock = some r → v.ownBlock = some r ∨ w.heap.size ≤ r
theorem AllAt.app1 {w wr w' : World} {v1 v2 v3 v' : Value} {ps : List MV} {us ds : List Int} (h : AllAt w wr v1 v2 v3 ps us ds) (a : MV) (o : w'.ownsRow w.heap.size 71 8 v' (ps.length + 1) (mlc (ps ++ [a])))
    (g : wr.grownBy w' v1.ownBlock) (hg : Grows wr v1 v') (hp : SlP (Apart v1 v2 v3) wr a.2 a.1.past.length (bc a.1.past)) : AllAt w w' v' v2 v3 (ps ++ [a]) us ds := by
  have hP : ∀ b, Apart v1 v2 v3 b → v1.ownBlock ≠ some b := fun b hb => hb.1
  have hQ : ∀ b, b < wr.heap.size → Apart v1 v2 v3 b → Apart v' v2 v3 b := fun b hlt hb => ⟨fun e => by rcases hg b e with e' | e'; exact hb.1 e'; omega, hb.2⟩
  refine ⟨From.app h.from_ h.o1 (Nat.le_refl _) g, by rw [List.length_append]; exact o, own_kept h.o2 g h.d12, own_kept h.o3 g h.d13, fun r hr => ?_, fun r hr => ?_, h.d23, fun x hx => ?_⟩
  · rcases hg r hr with e | e
    · exact h.d12 r e
    · intro e2
      have := (h.o2.lt r e2).2; omega
  · rcases hg r hr with e | e
    · exact h.d13 r e
    · intro e2
      have := (h.o3.lt r e2).2; omega
  · rcases List.mem_append.1 hx with hx | hx
    · exact (h.pst x hx).grown g hP hQ
    · obtain rfl := List.mem_singleton.1 hx
      exact hp.grown g hP hQ
theorem AllAt.app2 {w wr w' : World} {v1 v2 v3 v' : Value} {ps : List MV} {us us' ds : List Int} (h : AllAt w wr v1 v2 v3 ps us ds) (o : w'.ownsRow w.heap.size 3 1 v' us'.length (ic us'))
    (g : wr.grownBy w' v2.ownBlock) (hg : Grows wr v2 v') : AllAt w w' v1 v' v3 ps us' ds := by
  have hP : ∀ b, Apart v1 v2 v3 b → v2.ownBlock ≠ some b := fun b hb => hb.2.1
  have hQ : ∀ b, b < wr.heap.size → Apart v1 v2 v3 b → Apart v1 v' v3 b := fun b hlt hb => ⟨hb.1, fun e => by rcases hg b e with e' | e'; exact hb.2.1 e'; omega, hb.2.2⟩
  refine ⟨From.app h.from_ h.o2 (Nat.le_refl _) g, own_kept h.o1 g (fun r hr e => h.d12 r e hr), o, own_kept h.o3 g h.d23, fun r hr e => ?_, h.d13, fun r hr => ?_, fun x hx => (h.pst x hx).grown g hP hQ⟩
  · rcases hg r e with e | e
    · exact h.d12 r hr e
    · have := (h.o1.lt r hr).2; omega
  · rcases hg r hr with e | e
    · exact h.d23 r e
    · intro e2
      have := (h.o3.lt r e2).2; omega
theorem AllAt.app3 {w wr w' : World} {v1 v2 v3 v' : Value} {ps : List MV} {us ds ds' : List Int} (h : AllAt w wr v1 v2 v3 ps us ds) (o : w'.ownsRow w.heap.size 3 1 v' ds'.length (ic ds'))
    (g : wr.grownBy w' v3.ownBlock) (hg : Grows wr v3 v') : AllAt w w' v1 v2 v' ps us ds' := by
  have hP : ∀ b, Apart v1 v2 v3 b → v3.ownBlock ≠ some b := fun b hb => hb.2.2
  have hQ : ∀ b, b < wr.heap.size → Apart v1 v2 v3 b → Apart v1 v2 v' b := fun b hlt hb => ⟨hb.1, hb.2.1, fun e => by rcases hg b e with e' | e'; exact hb.2.2 e'; omega⟩
  refine ⟨From.app h.from_ h.o3 (Nat.le_refl _) g, own_kept h.o1 g (fun r hr e => h.d13 r e hr), own_kept h.o2 g (fun r hr e => h.d23 r e hr), o, h.d12, fun r hr e => ?_, fun r hr e => ?_, fun x hx => (h.pst x hx).grown g hP hQ⟩
  · rcases hg r e with e | e
    · exact h.d13 r hr e
    · have := (h.o1.lt r hr).2; omega
  · rcases hg r e with e | e
    · exact h.d23 r hr e
    · have := (h.o2.lt r hr).2; omega
/-- the same, with a box -/
structure AllBx (w wr : World) (v1 v2 v3 : Value) (ps : List MV) (us ds : List Int) (b : Nat) (m : Mon) (u : Value) : Prop where
  at_ : AllAt w wr v1 v2 v3 ps us ds
  mon : MonC wr b m u
  apart : Apart v1 v2 v3 b
theorem AllBx.call {w wr w' : World} {v1 v2 v3 : Value} {ps : List MV} {us ds : List Int} {b : Nat} {m : Mon} {u : Value} (h : AllBx w wr v1 v2 v3 ps us ds b m u) (k : From wr w') : AllBx w w' v1 v2 v3 ps us ds b m u := ⟨h.at_.call k, h.mon.from k, h.apart⟩
theorem AllBx.ev {w wr : World} {v1 v2 v3 : Value} {ps : List MV} {us ds : List Int} {b : Nat} {m : Mon} {u : Value} (h : AllBx w wr v1 v2 v3 ps us ds b m u) : wr.cell? ⟨b, 5, none⟩ = some (.int .i64 m.ev) := h.mon.facts.2.2.2.2.2.1
theorem AllBx.app1 {w wr w' : World} {v1 v2 v3 v' : Value} {ps : List MV} {us ds : List Int} {b : Nat} {m : Mon} {u : Value} (h : AllBx w wr v1 v2 v3 ps us ds b m u) (a : MV) (o : w'.ownsRow w.heap.size 71 8 v' (ps.length + 1) (mlc (ps ++ [a])))
    (g : wr.grownBy w' v1.ownBlock) (hg : Grows wr v1 v') (hp : SlP (Apart v1 v2 v3) wr a.2 a.1.past.length (bc a.1.past)) : AllBx w w' v' v2 v3 (ps ++ [a]) us ds b m u :=
  ⟨h.at_.app1 a o g hg hp, h.mon.grown g h.apart.1, ⟨fun e => by rcases hg b e with e' | e'; exact h.apart.1 e'; have := h.mon.lt; omega, h.apart.2⟩⟩
theorem AllBx.app2 {w wr w' : World} {v1 v2 v3 v' : Value} {ps : List MV} {us us' ds : List Int} {b : Nat} {m : Mon} {u : Value} (h : AllBx w wr v1 v2 v3 ps us ds b m u) (o : w'.ownsRow w.heap.size 3 1 v' us'.length (ic us'))
    (g : wr.grownBy w' v2.ownBlock) (hg : Grows wr v2 v') : AllBx w w' v1 v' v3 ps us' ds b m u :=
  ⟨h.at_.app2 o g hg, h.mon.grown g h.apart.2.1, ⟨h.apart.1, fun e => by rcases hg b e with e' | e'; exact h.apart.2.1 e'; have := h.mon.lt; omega, h.apart.2.2⟩⟩
theorem AllBx.app3 {w wr w' : World} {v1 v2 v3 v' : Value} {ps : List MV} {us ds ds' : List Int} {b : Nat} {m : Mon} {u : Value} (h : AllBx w wr v1 v2 v3 ps us ds b m u) (o : w'.ownsRow w.heap.size 3 1 v' ds'.length (ic ds'))
    (g : wr.grownBy w' v3.ownBlock) (hg : Grows wr v3 v') : AllBx w w' v1 v2 v' ps us ds' b m u :=
  ⟨h.at_.app3 o g hg, h.mon.grown g h.apart.2.2, ⟨h.apart.1, h.apart.2.1, fun e => by rcases hg b e with e' | e'; exact h.apart.2.2 e'; have := h.mon.lt; omega⟩⟩
theorem AllBx.put2 {w wr : World} {v1 v2 v3 : Value} {ps : List MV} {us ds : List Int} {b : Nat} {m : Mon} {u : Value} (h : AllBx w wr v1 v2 v3 ps us ds b m u) (up : Bool) (x : Int) (us' : List Int) (hu : us' = if up then us ++ [x] else us) (hm : us.length ≤ 1000) :
    Calls Try.prog 109 #[v2, .bool up, .int .i64 x] wr fun e w' => ∃ A c, e = .returned (.slice A us'.length c) ∧ AllBx w w' v1 (.slice A us'.length c) v3 ps us' ds b m u := by
  refine (put_calls w.heap.size v2 us up x wr h.at_.o2 (Below.size h.at_.from_) hm).mono ?_
  rintro e w' ⟨A, n, c, ys, rfl, hys, rfl, o, g, hg⟩
  rw [← hu] at hys
  subst hys
  exact ⟨A, c, rfl, h.app2 o g hg⟩
theorem AllBx.put3 {w wr : World} {v1 v2 v3 : Value} {ps : List MV} {us ds : List Int} {b : Nat} {m : Mon} {u : Value} (h : AllBx w wr v1 v2 v3 ps us ds b m u) (dn : Bool) (x : Int) (ds' : List Int) (hu : ds' = if dn then ds ++ [x] else ds) (hm : ds.length ≤ 1000) :
    Calls Try.prog 109 #[v3, .bool dn, .int .i64 x] wr fun e w' => ∃ A c, e = .returned (.slice A ds'.length c) ∧ AllBx w w' v1 v2 (.slice A ds'.length c) ps us ds' b m u := by
  refine (put_calls w.heap.size v3 ds dn x wr h.at_.o3 (Below.size h.at_.from_) hm).mono ?_
  rintro e w' ⟨A, n, c, ys, rfl, hys, rfl, o, g, hg⟩
  rw [← hu] at hys
  subst hys
  exact ⟨A, c, rfl, h.app3 o g hg⟩
/-- what All answers -/
def AllPost (w : World) (ms : List Mon) (us ds : List Int) (e : Ending) (w' : World) : Prop :=
  ∃ A1 c1 A2 c2 A3 c3, e = .returned (.tuple #[.slice A1 ms.length c1, .slice A2 us.length c2, .slice A3 ds.length c3]) ∧ Mons w' (.slice A1 ms.length c1) ms ∧ Ints w' (.slice A2 us.length c2) us ∧ Ints w' (.slice A3 ds.length c3) ds ∧ From w w'
theorem AllAt.mons {w wr : World} {v1 v2 v3 : Value} {ps : List MV} {us ds : List Int} (h : AllAt w wr v1 v2 v3 ps us ds) {ms : List Mon} (hp : ps.map (·.1) = ms) : Mons wr v1 ms := by
  have hl : ps.length = ms.length := by rw [← hp]; simp
  exact mons_own h.o1 hl hp fun a ha => (h.pst a ha).sl
end Go.Proofs.Ytlogokjjphlkkaa
