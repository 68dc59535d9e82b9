/-
  Walk of layer 10: power.Step.
-/
import Derived.Test.YtamfifndddldcaaW10
namespace Go.Proofs.Ytamfifndddldcaa
open Go.RowKit Go.Shelf

/-- where a step stands: charge, used, served, brownout -/
structure SS where
  c : Int
  us : Int
  sv : List Int
  br : Bool
def stepL (re : Int) (s : SS) (x : Lo) : SS :=
  if s.c - x.pw < (if x.es then 0 else re) then ⟨s.c, s.us, s.sv, s.br || x.es⟩ else ⟨s.c - x.pw, s.us + x.pw, s.sv ++ [x.id], s.br⟩
def runL (re : Int) (l : List Lo) (s : SS) : SS := l.foldl (stepL re) s
theorem runL_take (re : Int) (l : List Lo) (s : SS) (k : Nat) (hk : k < l.length) : runL re (l.take (k + 1)) s = stepL re (runL re (l.take k) s) l[k] := by
  unfold runL
  rw [List.take_succ_eq_append_getElem hk, List.foldl_append]
  rfl
/-- what a battery gains in a tick -/
def gainB (C ch g : Int) : Int := min g (C - ch)
def stepB (C ch re g : Int) (l : List Lo) : SS := runL re (ordL l) ⟨ch + gainB C ch g, 0, [], false⟩
/-- a supply's cells -/
abbrev pcs (g u sp : Int) (v : Value) (b : Bool) : Array Value := #[.int .i64 g, .int .i64 u, .int .i64 sp, v, .bool b]
structure SupC (W : World) (r : Nat) (g u sp : Int) (v : Value) (b : Bool) : Prop where
  out : W.heap[r]? = some (.cells (pcs g u sp v b) 33 (0, 0))
theorem SupC.facts {W : World} {r : Nat} {g u sp : Int} {v : Value} {b : Bool} (h : SupC W r g u sp v b) :
    W.cell? ⟨r, 0, none⟩ = some (.int .i64 g) ∧ W.cell? ⟨r, 1, none⟩ = some (.int .i64 u) ∧ W.cell? ⟨r, 2, none⟩ = some (.int .i64 sp) ∧ W.cell? ⟨r, 3, none⟩ = some v ∧ W.cell? ⟨r, 4, none⟩ = some (.bool b) ∧
    W.frozen? ⟨r, 0, none⟩ = false ∧ W.frozen? ⟨r, 1, none⟩ = false ∧ W.frozen? ⟨r, 2, none⟩ = false ∧ W.frozen? ⟨r, 3, none⟩ = false ∧ W.frozen? ⟨r, 4, none⟩ = false := by
  have e := h.out
  refine ⟨?_, ?_, ?_, ?_, ?_, ?_, ?_, ?_, ?_, ?_⟩
  all_goals first | (rw [cell_of_row _ _ _ _ _ _ e]; rfl) | (simp [World.frozen?, e])
structure BatC (W : World) (r : Nat) (C ch re : Int) : Prop where
  out : W.heap[r]? = some (.cells (bcs C ch re) 23 (0, 0))
theorem BatC.facts {W : World} {r : Nat} {C ch re : Int} (h : BatC W r C ch re) :
    W.cell? ⟨r, 0, none⟩ = some (.int .i64 C) ∧ W.cell? ⟨r, 1, none⟩ = some (.int .i64 ch) ∧ W.cell? ⟨r, 2, none⟩ = some (.int .i64 re) ∧ W.frozen? ⟨r, 0, none⟩ = false ∧ W.frozen? ⟨r, 1, none⟩ = false ∧ W.frozen? ⟨r, 2, none⟩ = false := bat_soft h.out
theorem SupC.from {W W' : World} {r : Nat} {g u sp : Int} {v : Value} {b : Bool} (h : SupC W r g u sp v b) (k : From W W') : SupC W' r g u sp v b := ⟨k.heap h.out⟩
theorem BatC.from {W W' : World} {r : Nat} {C ch re : Int} (h : BatC W r C ch re) (k : From W W') : BatC W' r C ch re := ⟨k.heap h.out⟩
/-- the boxes of a step: battery, results, supply -/
structure Boxs (W : World) (b : Nat) (C ch re g u sp : Int) (v : Value) (br : Bool) : Prop where
  bat : BatC W b C ch re
  rb : BatC W (b + 1) 0 0 0
  rs : SupC W (b + 2) 0 0 0 (.slice none 0 0) false
  sup : SupC W (b + 3) g u sp v br
theorem Boxs.from {W W' : World} {b : Nat} {C ch re g u sp : Int} {v : Value} {br : Bool} (h : Boxs W b C ch re g u sp v br) (k : From W W') : Boxs W' b C ch re g u sp v br := ⟨h.bat.from k, h.rb.from k, h.rs.from k, h.sup.from k⟩
theorem Boxs.charge {W : World} {b : Nat} {C ch re g u sp : Int} {v : Value} {br : Bool} (h : Boxs W b C ch re g u sp v br) (c : Int) : Boxs (W.setCell ⟨b, 1, none⟩ (.int .i64 c)) b C c re g u sp v br :=
  ⟨⟨heap_set_at h.bat.out 1 _⟩, ⟨(heap_set_off W (by omega) _ _).trans h.rb.out⟩, ⟨(heap_set_off W (by omega) _ _).trans h.rs.out⟩, ⟨(heap_set_off W (by omega) _ _).trans h.sup.out⟩⟩
theorem Boxs.set_u {W : World} {b : Nat} {C ch re g u sp : Int} {v : Value} {br : Bool} (h : Boxs W b C ch re g u sp v br) (c : Int) : Boxs (W.setCell ⟨b + 3, 1, none⟩ (.int .i64 c)) b C ch re g c sp v br :=
  ⟨⟨(heap_set_off W (by omega) _ _).trans h.bat.out⟩, ⟨(heap_set_off W (by omega) _ _).trans h.rb.out⟩, ⟨(heap_set_off W (by omega) _ _).trans h.rs.out⟩, ⟨heap_set_at h.sup.out 1 _⟩⟩
theorem Boxs.set_g {W : World} {b : Nat} {C ch re g u sp : Int} {v : Value} {br : Bool} (h : Boxs W b C ch re g u sp v br) (c : Int) : Boxs (W.setCell ⟨b + 3, 0, none⟩ (.int .i64 c)) b C ch re c u sp v br :=
  ⟨⟨(heap_set_off W (by omega) _ _).trans h.bat.out⟩, ⟨(heap_set_off W (by omega) _ _).trans h.rb.out⟩, ⟨(heap_set_off W (by omega) _ _).trans h.rs.out⟩, ⟨heap_set_at h.sup.out 0 _⟩⟩
theorem Boxs.set_sp {W : World} {b : Nat} {C ch re g u sp : Int} {v : Value} {br : Bool} (h : Boxs W b C ch re g u sp v br) (c : Int) : Boxs (W.setCell ⟨b + 3, 2, none⟩ (.int .i64 c)) b C ch re g u c v br :=
  ⟨⟨(heap_set_off W (by omega) _ _).trans h.bat.out⟩, ⟨(heap_set_off W (by omega) _ _).trans h.rb.out⟩, ⟨(heap_set_off W (by omega) _ _).trans h.rs.out⟩, ⟨heap_set_at h.sup.out 2 _⟩⟩
theorem Boxs.set_v {W : World} {b : Nat} {C ch re g u sp : Int} {v : Value} {br : Bool} (h : Boxs W b C ch re g u sp v br) (c : Value) : Boxs (W.setCell ⟨b + 3, 3, none⟩ c) b C ch re g u sp c br :=
  ⟨⟨(heap_set_off W (by omega) _ _).trans h.bat.out⟩, ⟨(heap_set_off W (by omega) _ _).trans h.rb.out⟩, ⟨(heap_set_off W (by omega) _ _).trans h.rs.out⟩, ⟨heap_set_at h.sup.out 3 _⟩⟩
theorem Boxs.set_b {W : World} {b : Nat} {C ch re g u sp : Int} {v : Value} {br : Bool} (h : Boxs W b C ch re g u sp v br) (c : Bool) : Boxs (W.setCell ⟨b + 3, 4, none⟩ (.bool c)) b C ch re g u sp v c :=
  ⟨⟨(heap_set_off W (by omega) _ _).trans h.bat.out⟩, ⟨(heap_set_off W (by omega) _ _).trans h.rb.out⟩, ⟨(heap_set_off W (by omega) _ _).trans h.rs.out⟩, ⟨heap_set_at h.sup.out 4 _⟩⟩
theorem boxs_new (w : World) (C ch re : Int) :
    Boxs ((((w.alloc (.cells (bcs C ch re) 23)).alloc (.cells (bcs 0 0 0) 23)).alloc (.cells (pcs 0 0 0 (.slice none 0 0) false) 33)).alloc (.cells (pcs 0 0 0 (.slice none 0 0) false) 33)) w.heap.size C ch re 0 0 0 (.slice none 0 0) false := by
  obtain ⟨V1, hV1⟩ : ∃ V, w.alloc (.cells (bcs C ch re) 23) = V := ⟨_, rfl⟩
  obtain ⟨V2, hV2⟩ : ∃ V, V1.alloc (.cells (bcs 0 0 0) 23) = V := ⟨_, rfl⟩
  obtain ⟨V3, hV3⟩ : ∃ V, V2.alloc (.cells (pcs 0 0 0 (.slice none 0 0) false) 33) = V := ⟨_, rfl⟩
  obtain ⟨V4, hV4⟩ : ∃ V, V3.alloc (.cells (pcs 0 0 0 (.slice none 0 0) false) 33) = V := ⟨_, rfl⟩
  rw [hV1, hV2, hV3, hV4]
  have z1 : V1.heap.size = w.heap.size + 1 := by rw [← hV1]; simp
  have z2 : V2.heap.size = w.heap.size + 2 := by rw [← hV2]; simp [z1]
  have z3 : V3.heap.size = w.heap.size + 3 := by rw [← hV3]; simp [z2]
  have F2 : From V1 V2 := by rw [← hV2]; exact (From.refl _).alloc _
  have F3 : From V2 V3 := by rw [← hV3]; exact (From.refl _).alloc _
  have F4 : From V3 V4 := by rw [← hV4]; exact (From.refl _).alloc _
  exact ⟨⟨(F2.trans (F3.trans F4)).heap (by rw [← hV1]; exact heap_alloc_new _ _)⟩, ⟨(F3.trans F4).heap (by rw [← hV2, ← z1]; exact heap_alloc_new _ _)⟩, ⟨F4.heap (by rw [← hV3, ← z2]; exact heap_alloc_new _ _)⟩, ⟨by rw [← hV4, ← z3]; exact heap_alloc_new _ _⟩⟩
/-- a step's answer -/
def StepPost (w : World) (C re g gd : Int) (s : SS) (e : Ending) (w' : World) : Prop :=
  ∃ A c, e = .returned (.tuple #[.agg (bcs C s.c re), .agg (pcs gd s.us (g - gd) (.slice A s.sv.length c) s.br)]) ∧ SlN w.heap.size w' (.slice A s.sv.length c) s.sv.length (ic s.sv) ∧ From w w'
/-- the same, and the row's capacity -/
def StepPostC (w : World) (C re g gd : Int) (s : SS) (e : Ending) (w' : World) : Prop :=
  ∃ A c, e = .returned (.tuple #[.agg (bcs C s.c re), .agg (pcs gd s.us (g - gd) (.slice A s.sv.length c) s.br)]) ∧ SlN w.heap.size w' (.slice A s.sv.length c) s.sv.length (ic s.sv) ∧ From w w' ∧ s.sv.length ≤ c
theorem own_cap0 {w : World} {base size n c : Nat} {e : TypeId} {A : Option Addr} {xs : List Value} (h : w.ownsRow base e size (.slice A n c) n xs) : n ≤ c := by
  rcases h.2 with ⟨h1, h2⟩ | ⟨g, cap, cur, hv, _, _, hc, _⟩
  · omega
  · injection hv with _ _ e3
    omega
/-- where the step's loop stands: w the world of the call, w3 the world where the loop begins -/
structure SAt (w w3 : World) (C re g sp : Int) (st : SS) (k : Nat) (A : Option Addr) (c : Nat) (m : List Lo) (A3 : Option Addr) (c3 : Nat) (W : World) : Prop where
  box : Boxs W w.heap.size C st.c re g st.us sp (.slice A st.sv.length c) st.br
  own : W.ownsRow w3.heap.size 3 1 (.slice A st.sv.length c) st.sv.length (ic st.sv)
  fr : From w W
  sz : w3.heap.size ≤ W.heap.size
  ord : SlN (w.heap.size + 4) W (.slice A3 m.length c3) m.length (m.flatMap lcs)
  olt : ∀ a c, Value.slice A3 m.length c3 = .slice (some a) m.length c → m.flatMap lcs ≠ [] → a.block < w3.heap.size
  cb : 0 ≤ st.c ∧ st.c ≤ C
  ub : 0 ≤ st.us ∧ st.us ≤ k * 4000000000
  sl : st.sv.length ≤ k
theorem sln_lt {lo : Nat} {w : World} {v : Value} {n : Nat} {cs : List Value} (h : SlN lo w v n cs) : ∀ a c, v = .slice (some a) n c → cs ≠ [] → a.block < w.heap.size := by
  intro a c e hne
  rcases h.out with ⟨_, _, h⟩ | ⟨a', c', e', h⟩
  · exact absurd h hne
  · rw [e'] at e
    injection e with e1 _ _
    injection e1 with e1
    subst e1
    cases cs with
    | nil => exact absurd rfl hne
    | cons u t =>
      obtain ⟨b, off, rfl, _, hc⟩ := h 0 u rfl
      exact World.block_lt_of_cell? w _ hc
theorem Boxs.grown {W W' : World} {b : Nat} {C ch re g u sp : Int} {v : Value} {br : Bool} (h : Boxs W b C ch re g u sp v br) {base size n : Nat} {e : TypeId} {x : Value} {xs : List Value} (ho : W.ownsRow base e size x n xs) (hg : W.grownBy W' x.ownBlock) (hb : b + 3 < base) : Boxs W' b C ch re g u sp v br :=
  ⟨⟨heap_not_row ho hg (by omega) h.bat.out⟩, ⟨heap_not_row ho hg (by omega) h.rb.out⟩, ⟨heap_not_row ho hg (by omega) h.rs.out⟩, ⟨heap_not_row ho hg (by omega) h.sup.out⟩⟩
theorem SlN.grown {W W' : World} {lo : Nat} {v : Value} {n : Nat} {cs : List Value} (h : SlN lo W v n cs) {base size k : Nat} {e : TypeId} {x : Value} {xs : List Value} (ho : W.ownsRow base e size x k xs) (hg : W.grownBy W' x.ownBlock) (hlt : ∀ a c, v = .slice (some a) n c → cs ≠ [] → a.block < base) : SlN lo W' v n cs := by
  rcases h.out with h | ⟨a, c, e, h⟩
  · exact ⟨.inl h⟩
  · refine ⟨.inr ⟨a, c, e, fun j u hj => ?_⟩⟩
    obtain ⟨b, off, e1, e2, e3⟩ := h j u hj
    have hb : b < base := by
      have := hlt a c e (by rintro rfl; simp at hj)
      rwa [e1] at this
    refine ⟨b, off, e1, e2, ?_⟩
    have hl := World.block_lt_of_cell? W _ e3
    rw [World.cell?_of_block (a := ⟨b, off + j, none⟩) (hg.block b hl (fun e => by have := (ho.lt b e.symm).1; omega))]
    exact e3
/-- the results written into their boxes -/
abbrev putS (W : World) (b : Nat) (C c re g u sp : Int) (v : Value) (br : Bool) : World :=
  (((((((W.setCell ⟨b + 1, 0, none⟩ (.int .i64 C)).setCell ⟨b + 1, 1, none⟩ (.int .i64 c)).setCell ⟨b + 1, 2, none⟩ (.int .i64 re)).setCell ⟨b + 2, 0, none⟩ (.int .i64 g)).setCell ⟨b + 2, 1, none⟩ (.int .i64 u)).setCell ⟨b + 2, 2, none⟩ (.int .i64 sp)).setCell ⟨b + 2, 3, none⟩ v).setCell ⟨b + 2, 4, none⟩ (.bool br)
theorem putS_heap {W : World} {b : Nat} {C ch re g u sp : Int} {v : Value} {br : Bool} (h : Boxs W b C ch re g u sp v br) :
    (putS W b C ch re g u sp v br).heap[b + 1]? = some (.cells (bcs C ch re) 23 (0, 0)) ∧ (putS W b C ch re g u sp v br).heap[b + 2]? = some (.cells (pcs g u sp v br) 33 (0, 0)) := by
  have e1 := heap_set_at (heap_set_at (heap_set_at h.rb.out 0 (.int .i64 C)) 1 (.int .i64 ch)) 2 (.int .i64 re)
  have e2 : (((W.setCell ⟨b + 1, 0, none⟩ (.int .i64 C)).setCell ⟨b + 1, 1, none⟩ (.int .i64 ch)).setCell ⟨b + 1, 2, none⟩ (.int .i64 re)).heap[b + 2]? = some (.cells (pcs 0 0 0 (.slice none 0 0) false) 33 (0, 0)) :=
    (heap_set_off _ (by omega) _ _).trans ((heap_set_off _ (by omega) _ _).trans ((heap_set_off _ (by omega) _ _).trans h.rs.out))
  have e3 := heap_set_at (heap_set_at (heap_set_at (heap_set_at (heap_set_at e2 0 (.int .i64 g)) 1 (.int .i64 u)) 2 (.int .i64 sp)) 3 v) 4 (.bool br)
  refine ⟨?_, ?_⟩
  · refine (heap_set_off _ (by omega) _ _).trans ((heap_set_off _ (by omega) _ _).trans ((heap_set_off _ (by omega) _ _).trans ((heap_set_off _ (by omega) _ _).trans ((heap_set_off _ (by omega) _ _).trans (e1.trans ?_)))))
    rfl
  · exact e3
theorem From.putS {W W' : World} (h : From W W') {b : Nat} (hb : W.heap.size ≤ b + 1) (C c re g u sp : Int) (v : Value) (br : Bool) : From W (Go.Proofs.Ytamfifndddldcaa.putS W' b C c re g u sp v br) :=
  (((((((h.setCell hb _ _).setCell hb _ _).setCell hb _ _).setCell (by omega) _ _).setCell (by omega) _ _).setCell (by omega) _ _).setCell (by omega) _ _).setCell (by omega) _ _
theorem SlN.putS {lo : Nat} {w : World} {x : Value} {n : Nat} {cs : List Value} (h : SlN lo w x n cs) {b : Nat} (hb : b + 2 < lo) (C c re g u sp : Int) (v : Value) (br : Bool) : SlN lo (Go.Proofs.Ytamfifndddldcaa.putS w b C c re g u sp v br) x n cs :=
  (((((((h.setCell (by omega) _ _).setCell (by omega) _ _).setCell (by omega) _ _).setCell hb _ _).setCell hb _ _).setCell hb _ _).setCell hb _ _).setCell hb _ _
theorem drew_heap (W : World) : W.drew.heap = W.heap := rfl
theorem BatC.drew {W : World} {r : Nat} {C ch re : Int} (h : W.heap[r]? = some (.cells (bcs C ch re) 23 (0, 0))) : BatC W.drew r C ch re := ⟨by rw [drew_heap]; exact h⟩
theorem SupC.drew {W : World} {r : Nat} {g u sp : Int} {v : Value} {b : Bool} (h : W.heap[r]? = some (.cells (pcs g u sp v b) 33 (0, 0))) : SupC W.drew r g u sp v b := ⟨by rw [drew_heap]; exact h⟩

set_option maxHeartbeats 1000000 in
theorem stepC_calls (C ch re g : Int) (A0 : Option Addr) (c0 : Nat) (l : List Lo) (w : World) (h : Loads w (.slice A0 l.length c0) l) (hm : l.length ≤ 100) (hid : Ids l) (hC : 0 ≤ C ∧ C ≤ 4000000000) (hch : 0 ≤ ch ∧ ch ≤ C) (hre : 0 ≤ re ∧ re ≤ C) (hg : 0 ≤ g ∧ g ≤ 4000000000)
    (hp : ∀ x ∈ l, 0 ≤ x.pw ∧ x.pw ≤ 4000000000) (gd : Int) (hgd : gainB C ch g = gd) (s : SS) (hs : stepB C ch re g l = s) :
    Calls Try.prog 18 #[.agg (bcs C ch re), .int .i64 g, .slice A0 l.length c0] w (StepPostC w C re g gd s) := by
  have hgb : min g (C - ch) = gd := hgd
  have hgb1 : 0 ≤ gd ∧ gd ≤ C - ch ∧ gd ≤ g := by omega
  unfold stepB at hs
  rw [hgd] at hs
  have HS := bx hs
  obtain ⟨W1, hW1⟩ : ∃ V, (((w.alloc (.cells (bcs C ch re) 23)).alloc (.cells (bcs 0 0 0) 23)).alloc (.cells (pcs 0 0 0 (.slice none 0 0) false) 33)).alloc (.cells (pcs 0 0 0 (.slice none 0 0) false) 33) = V := ⟨_, rfl⟩
  have HX := boxs_new w C ch re
  rw [hW1] at HX
  have z1 : W1.heap.size = w.heap.size + 4 := by rw [← hW1]; simp
  have k1 : From w W1 := by rw [← hW1]; exact ((((From.refl _).alloc _).alloc _).alloc _).alloc _
  obtain ⟨a0, a1, a2, a3, a4, a5⟩ := HX.bat.facts
  obtain ⟨b0, b1, b2, b3, b4, b5, b6, b7, b8, b9⟩ := HX.sup.facts
  have HX1 := bx HX
  have HK1 := bx k1
  have HH := bx h
  have HI := bx hid
  have HP := bx (fun x (hx : x ∈ ordL l) => hp x ((ordL_perm l).mem_iff.1 hx))
  have HM := bx hm
  clear HX k1 h hid hp hs hgd hm
  obtain ⟨n0, hn0⟩ : ∃ n, l.length = n := ⟨_, rfl⟩
  have HN := bx hn0
  clear hn0
  go_enter Try.func18, Try.ntmps18
  go_wp2_with fail
  simp only [Nat.add_assoc, Nat.reduceAdd]
  obtain ⟨W2, hW2⟩ : ∃ V, (((W1.setCell ⟨w.heap.size + 3, 0, none⟩ (.int .i64 gd)).setCell ⟨w.heap.size + 3, 2, none⟩ (.int .i64 (g - gd))).setCell ⟨w.heap.size, 1, none⟩ (.int .i64 (ch + gd))) = V := ⟨_, rfl⟩
  rw [hW2]
  have X2 : Boxs W2 w.heap.size C (ch + gd) re gd 0 (g - gd) (.slice none 0 0) false := by rw [← hW2]; exact ((HX1.out.set_g gd).set_sp (g - gd)).charge (ch + gd)
  have K2 : From w W2 := by rw [← hW2]; exact ((HK1.out.setCell (by omega) _ _).setCell (by omega) _ _).setCell (Nat.le_refl _) _ _
  have z2 : W2.heap.size = w.heap.size + 4 := by rw [← hW2]; simp [z1]
  have HO := bx (ordered_calls (.slice A0 l.length c0) l W2 (HH.out.from K2) (by have := HM.out; omega) HI.out)
  clear hW2 hW1 a0 a1 a2 a3 a4 a5 b0 b1 b2 b3 b4 b5 b6 b7 b8 b9 hgb
  refine HO.out.mono ?_
  rintro e W3 ⟨A3, c3, rfl, o3, k3⟩
  have X3 := bx (X2.from k3)
  have K3 := bx (K2.trans k3)
  have hz3 : w.heap.size + 4 ≤ W3.heap.size := by have := Below.size k3; omega
  have hlo := ordL_len l
  obtain ⟨m, hm⟩ : ∃ m, ordL l = m := ⟨_, rfl⟩
  rw [hm] at o3 hlo HP HS ⊢
  have O3 := bx o3
  have HL := bx (show m.length ≤ 100 by have := HM.out; omega)
  clear o3 hm hlo X2 K2 k3 HO HX1 HK1
  go_wp2
  go_loopw [10, 11, 34] (fun _ _ v34 wr => ∃ (k : Nat) (st : SS) (A : Option Addr) (cc : Nat), k ≤ m.length ∧ v34 = .int .i64 k ∧ runL re (m.take k) ⟨ch + gd, 0, [], false⟩ = st ∧ SAt w W3 C re gd (g - gd) st k A cc m A3 c3 wr) (fun _ _ v34 _ => m.length - (intOf v34).toNat)
  case atStart => exact ⟨0, ⟨ch + gd, 0, [], false⟩, none, 0, by omega, rfl, rfl, ⟨X3.out, own_nil _ _ _ _, K3.out, Nat.le_refl _, (O3.out.low (by omega)), sln_lt O3.out, ⟨by show 0 ≤ ch + gd; omega, by show ch + gd ≤ C; omega⟩, ⟨Int.le_refl _, by simp⟩, Nat.le_refl _⟩⟩
  case round =>
    obtain ⟨k, st, A, cc, hk, rfl, hst, hat⟩ := hrel
    by_cases hlt : k < m.length
    · obtain ⟨b, off, rfl, hb, c0', c1', c2', c3'⟩ := loads_at hat.ord.sl hlt
      have hsu := runL_take re m ⟨ch + gd, 0, [], false⟩ k hlt
      rw [hst] at hsu
      have hpy := HP.out m[k] (List.getElem_mem hlt)
      have d0 : decide ((k : Int) < (m.length : Int)) = true := decide_eq_true (by omega)
      obtain ⟨Y, hY⟩ : ∃ Y, m[k] = Y := ⟨_, rfl⟩
      rw [hY] at c0' c1' c2' c3' hsu hpy
      obtain ⟨sc, su, ss, sb⟩ := st
      obtain ⟨cb1, cb2⟩ := hat.cb
      obtain ⟨ub1, ub2⟩ := hat.ub
      have hk100 := HL.out
      have HSB1 := bx (show (ss.length + 1) * 8 ≤ 140737488355328 by have := hat.sl; simp only at this; omega)
      have HSB2 := bx (show ss.length + 1 ≤ maxLen by have := hat.sl; simp only at this; unfold maxLen; omega)
      have HAT := bx hat
      obtain ⟨y0, y1, y2, y3⟩ := Y
      simp only at c0' c1' c2' c3' hpy cb1 cb2 ub1 ub2
      have XV := bx (hat.box.from (From.alloc (From.refl wr) (.cells #[.int .i64 y0, .int .i64 y1, .int .i64 y2, .bool y3] 41)))
      obtain ⟨a0, a1, a2, a3, a4, a5⟩ := XV.out.bat.facts
      obtain ⟨b0, b1, b2, b3, b4, b5, b6, b7, b8, b9⟩ := XV.out.sup.facts
      simp only at a0 a1 a2 a3 a4 a5 b0 b1 b2 b3 b4 b5 b6 b7 b8 b9
      clear hat hY hst
      cases y3
      case false =>
        by_cases hb : sc - y1 < re
        · have hst1 : stepL re ⟨sc, su, ss, sb⟩ ⟨y0, y1, y2, false⟩ = ⟨sc, su, ss, sb || false⟩ := by unfold stepL; exact if_pos hb
          rw [hst1] at hsu
          have HSu := bx hsu
          clear hst1 hsu
          have d1 : decide (sc - y1 < re) = true := decide_eq_true hb
          cases sb
          case false =>
            go_wp2
            go_roundw
            case rel => exact ⟨k + 1, _, A, cc, by omega, by go_num, HSu.out, ⟨XV.out.set_b _, own_step (HAT.out.own.alloc _) (by omega) _ _, (HAT.out.fr.alloc _).setCell (by omega) _ _, by have := HAT.out.sz; simp; omega, (HAT.out.ord.from (From.alloc (From.refl _) _)).setCell (by omega) _ _, HAT.out.olt, ⟨cb1, cb2⟩, ⟨ub1, by simp only at ub2 ⊢; omega⟩, by have := HAT.out.sl; simp only at this ⊢; omega⟩⟩
            case measure => simp [intOf]; omega
          case true =>
            go_wp2
            go_roundw
            case rel => exact ⟨k + 1, _, A, cc, by omega, by go_num, HSu.out, ⟨XV.out.set_b _, own_step (HAT.out.own.alloc _) (by omega) _ _, (HAT.out.fr.alloc _).setCell (by omega) _ _, by have := HAT.out.sz; simp; omega, (HAT.out.ord.from (From.alloc (From.refl _) _)).setCell (by omega) _ _, HAT.out.olt, ⟨cb1, cb2⟩, ⟨ub1, by simp only at ub2 ⊢; omega⟩, by have := HAT.out.sl; simp only at this ⊢; omega⟩⟩
            case measure => simp [intOf]; omega
        · have hst1 : stepL re ⟨sc, su, ss, sb⟩ ⟨y0, y1, y2, false⟩ = ⟨sc - y1, su + y1, ss ++ [y0], sb⟩ := by unfold stepL; exact if_neg hb
          rw [hst1] at hsu
          have HSu := bx hsu
          clear hst1 hsu
          have d1 : decide (sc - y1 < re) = false := decide_eq_false hb
          have XW := bx ((XV.out.charge (sc - y1)).set_u (su + y1))
          have OW := bx (own_step (own_step (HAT.out.own.alloc (.cells #[.int .i64 y0, .int .i64 y1, .int .i64 y2, .bool false] 41)) (show w.heap.size < W3.heap.size by omega) 1 (.int .i64 (sc - y1))) (show w.heap.size + 3 < W3.heap.size by omega) 1 (.int .i64 (su + y1)))
          have FW := bx (((HAT.out.fr.alloc (.cells #[.int .i64 y0, .int .i64 y1, .int .i64 y2, .bool false] 41)).setCell (Nat.le_refl _) 1 (.int .i64 (sc - y1))).setCell (show w.heap.size ≤ w.heap.size + 3 by omega) 1 (.int .i64 (su + y1)))
          have SW := bx (((HAT.out.ord.from (From.alloc (From.refl wr) (.cells #[.int .i64 y0, .int .i64 y1, .int .i64 y2, .bool false] 41))).setCell (show w.heap.size < w.heap.size + 4 by omega) 1 (.int .i64 (sc - y1))).setCell (show w.heap.size + 3 < w.heap.size + 4 by omega) 1 (.int .i64 (su + y1)))
          obtain ⟨e0, e1, e2, e3, e4, e5, e6, e7, e8, e9⟩ := XW.out.sup.facts
          have hzw : w.heap.size + 4 ≤ wr.heap.size := Nat.le_trans hz3 HAT.out.sz
          have l1 : ((wr.alloc (.cells #[.int .i64 y0, .int .i64 y1, .int .i64 y2, .bool false] 41)).setCell ⟨w.heap.size, 1, none⟩ (.int .i64 (sc - y1))).cell? ⟨wr.heap.size, 1, none⟩ = some (.int .i64 y1) := cell_set_off (by rw [World.cell?_alloc_new]; rfl) (by show wr.heap.size ≠ w.heap.size; omega)
          have l0 : (((wr.alloc (.cells #[.int .i64 y0, .int .i64 y1, .int .i64 y2, .bool false] 41)).setCell ⟨w.heap.size, 1, none⟩ (.int .i64 (sc - y1))).setCell ⟨w.heap.size + 3, 1, none⟩ (.int .i64 (su + y1))).cell? ⟨wr.heap.size, 0, none⟩ = some (.int .i64 y0) := cell_set_off (cell_set_off (by rw [World.cell?_alloc_new]; rfl) (by show wr.heap.size ≠ w.heap.size; omega)) (by show wr.heap.size ≠ w.heap.size + 3; omega)
          obtain ⟨e0', e1', e2', e3', e4', e5', e6', e7', e8', e9'⟩ := (XV.out.charge (sc - y1)).sup.facts
          have HN0 := bx (show Sl (((((wr.alloc (.cells #[.int .i64 y0, .int .i64 y1, .int .i64 y2, .bool false] 41)).setCell ⟨w.heap.size, 1, none⟩ (.int .i64 (sc - y1))).setCell ⟨w.heap.size + 3, 1, none⟩ (.int .i64 (su + y1)))).alloc (.cells #[.int .i64 y0] 3)) (wr.heap.size + 2) (.slice (some ⟨wr.heap.size + 1, 0, none⟩) 1 1) 1 [.int .i64 y0] by have := sl_new ((((wr.alloc (.cells #[.int .i64 y0, .int .i64 y1, .int .i64 y2, .bool false] 41)).setCell ⟨w.heap.size, 1, none⟩ (.int .i64 (sc - y1))).setCell ⟨w.heap.size + 3, 1, none⟩ (.int .i64 (su + y1)))) [.int .i64 y0] 3 1 1; simpa using this)
          go_wp2_with (at_builtin; refine app_sl rfl _ _ 31 rfl Try.elInt rfl (OW.out.alloc _) 1 [.int .i64 y0] rfl HN0.out rfl (by simp [Value.oneCell']) (HSB1.out) (HSB2.out) (by have := HAT.out.sz; simp; omega) ?_; intro A5 c5 w5 o5 g5 _; have X5 := bx ((XW.out.from (From.alloc (From.refl _) _)).grown (OW.out.alloc _) g5 (by omega)); obtain ⟨t0, t1, t2, t3, t4, t5, t6, t7, t8, t9⟩ := X5.out.sup.facts)
          go_roundw
          case rel =>
            refine ⟨k + 1, ⟨sc - y1, su + y1, ss ++ [y0], sb⟩, A5, c5, by omega, by go_num, HSu.out, ⟨?_, ?_, ?_, ?_, ?_, HAT.out.olt, ⟨by show 0 ≤ sc - y1; omega, by show sc - y1 ≤ C; omega⟩, ⟨by show 0 ≤ su + y1; omega, by show su + y1 ≤ ((k + 1 : Nat) : Int) * 4000000000; omega⟩, ?_⟩⟩
            · simpa using X5.out.set_v (.slice A5 (ss.length + 1) c5)
            · have := own_step o5 (show w.heap.size + 3 < W3.heap.size by omega) 3 (.slice A5 (ss.length + 1) c5)
              simpa [ic_append, ic] using this
            · exact (From.app (FW.out.alloc _) (OW.out.alloc _) (by omega) g5).setCell (by omega) _ _
            · have h1 := g5.size
              have h2 := HAT.out.sz
              simp at h1 ⊢
              omega
            · exact ((SW.out.from (From.alloc (From.refl _) _)).grown (OW.out.alloc _) g5 HAT.out.olt).setCell (by omega) _ _
            · have := HAT.out.sl
              simp only at this
              simp
              exact this
          case measure => simp [intOf]; omega
      case true =>
        by_cases hb : sc - y1 < 0
        · have hst1 : stepL re ⟨sc, su, ss, sb⟩ ⟨y0, y1, y2, true⟩ = ⟨sc, su, ss, sb || true⟩ := by unfold stepL; exact if_pos hb
          rw [hst1] at hsu
          have HSu := bx hsu
          clear hst1 hsu
          have d1 : decide (sc - y1 < 0) = true := decide_eq_true hb
          cases sb
          case false =>
            go_wp2
            go_roundw
            case rel => exact ⟨k + 1, _, A, cc, by omega, by go_num, HSu.out, ⟨XV.out.set_b _, own_step (HAT.out.own.alloc _) (by omega) _ _, (HAT.out.fr.alloc _).setCell (by omega) _ _, by have := HAT.out.sz; simp; omega, (HAT.out.ord.from (From.alloc (From.refl _) _)).setCell (by omega) _ _, HAT.out.olt, ⟨cb1, cb2⟩, ⟨ub1, by simp only at ub2 ⊢; omega⟩, by have := HAT.out.sl; simp only at this ⊢; omega⟩⟩
            case measure => simp [intOf]; omega
          case true =>
            go_wp2
            go_roundw
            case rel => exact ⟨k + 1, _, A, cc, by omega, by go_num, HSu.out, ⟨XV.out.set_b _, own_step (HAT.out.own.alloc _) (by omega) _ _, (HAT.out.fr.alloc _).setCell (by omega) _ _, by have := HAT.out.sz; simp; omega, (HAT.out.ord.from (From.alloc (From.refl _) _)).setCell (by omega) _ _, HAT.out.olt, ⟨cb1, cb2⟩, ⟨ub1, by simp only at ub2 ⊢; omega⟩, by have := HAT.out.sl; simp only at this ⊢; omega⟩⟩
            case measure => simp [intOf]; omega
        · have hst1 : stepL re ⟨sc, su, ss, sb⟩ ⟨y0, y1, y2, true⟩ = ⟨sc - y1, su + y1, ss ++ [y0], sb⟩ := by unfold stepL; exact if_neg hb
          rw [hst1] at hsu
          have HSu := bx hsu
          clear hst1 hsu
          have d1 : decide (sc - y1 < 0) = false := decide_eq_false hb
          have XW := bx ((XV.out.charge (sc - y1)).set_u (su + y1))
          have OW := bx (own_step (own_step (HAT.out.own.alloc (.cells #[.int .i64 y0, .int .i64 y1, .int .i64 y2, .bool true] 41)) (show w.heap.size < W3.heap.size by omega) 1 (.int .i64 (sc - y1))) (show w.heap.size + 3 < W3.heap.size by omega) 1 (.int .i64 (su + y1)))
          have FW := bx (((HAT.out.fr.alloc (.cells #[.int .i64 y0, .int .i64 y1, .int .i64 y2, .bool true] 41)).setCell (Nat.le_refl _) 1 (.int .i64 (sc - y1))).setCell (show w.heap.size ≤ w.heap.size + 3 by omega) 1 (.int .i64 (su + y1)))
          have SW := bx (((HAT.out.ord.from (From.alloc (From.refl wr) (.cells #[.int .i64 y0, .int .i64 y1, .int .i64 y2, .bool true] 41))).setCell (show w.heap.size < w.heap.size + 4 by omega) 1 (.int .i64 (sc - y1))).setCell (show w.heap.size + 3 < w.heap.size + 4 by omega) 1 (.int .i64 (su + y1)))
          obtain ⟨e0, e1, e2, e3, e4, e5, e6, e7, e8, e9⟩ := XW.out.sup.facts
          have hzw : w.heap.size + 4 ≤ wr.heap.size := Nat.le_trans hz3 HAT.out.sz
          have l1 : ((wr.alloc (.cells #[.int .i64 y0, .int .i64 y1, .int .i64 y2, .bool true] 41)).setCell ⟨w.heap.size, 1, none⟩ (.int .i64 (sc - y1))).cell? ⟨wr.heap.size, 1, none⟩ = some (.int .i64 y1) := cell_set_off (by rw [World.cell?_alloc_new]; rfl) (by show wr.heap.size ≠ w.heap.size; omega)
          have l0 : (((wr.alloc (.cells #[.int .i64 y0, .int .i64 y1, .int .i64 y2, .bool true] 41)).setCell ⟨w.heap.size, 1, none⟩ (.int .i64 (sc - y1))).setCell ⟨w.heap.size + 3, 1, none⟩ (.int .i64 (su + y1))).cell? ⟨wr.heap.size, 0, none⟩ = some (.int .i64 y0) := cell_set_off (cell_set_off (by rw [World.cell?_alloc_new]; rfl) (by show wr.heap.size ≠ w.heap.size; omega)) (by show wr.heap.size ≠ w.heap.size + 3; omega)
          obtain ⟨e0', e1', e2', e3', e4', e5', e6', e7', e8', e9'⟩ := (XV.out.charge (sc - y1)).sup.facts
          have HN0 := bx (show Sl (((((wr.alloc (.cells #[.int .i64 y0, .int .i64 y1, .int .i64 y2, .bool true] 41)).setCell ⟨w.heap.size, 1, none⟩ (.int .i64 (sc - y1))).setCell ⟨w.heap.size + 3, 1, none⟩ (.int .i64 (su + y1)))).alloc (.cells #[.int .i64 y0] 3)) (wr.heap.size + 2) (.slice (some ⟨wr.heap.size + 1, 0, none⟩) 1 1) 1 [.int .i64 y0] by have := sl_new ((((wr.alloc (.cells #[.int .i64 y0, .int .i64 y1, .int .i64 y2, .bool true] 41)).setCell ⟨w.heap.size, 1, none⟩ (.int .i64 (sc - y1))).setCell ⟨w.heap.size + 3, 1, none⟩ (.int .i64 (su + y1)))) [.int .i64 y0] 3 1 1; simpa using this)
          go_wp2_with (at_builtin; refine app_sl rfl _ _ 31 rfl Try.elInt rfl (OW.out.alloc _) 1 [.int .i64 y0] rfl HN0.out rfl (by simp [Value.oneCell']) (HSB1.out) (HSB2.out) (by have := HAT.out.sz; simp; omega) ?_; intro A5 c5 w5 o5 g5 _; have X5 := bx ((XW.out.from (From.alloc (From.refl _) _)).grown (OW.out.alloc _) g5 (by omega)); obtain ⟨t0, t1, t2, t3, t4, t5, t6, t7, t8, t9⟩ := X5.out.sup.facts)
          go_roundw
          case rel =>
            refine ⟨k + 1, ⟨sc - y1, su + y1, ss ++ [y0], sb⟩, A5, c5, by omega, by go_num, HSu.out, ⟨?_, ?_, ?_, ?_, ?_, HAT.out.olt, ⟨by show 0 ≤ sc - y1; omega, by show sc - y1 ≤ C; omega⟩, ⟨by show 0 ≤ su + y1; omega, by show su + y1 ≤ ((k + 1 : Nat) : Int) * 4000000000; omega⟩, ?_⟩⟩
            · simpa using X5.out.set_v (.slice A5 (ss.length + 1) c5)
            · have := own_step o5 (show w.heap.size + 3 < W3.heap.size by omega) 3 (.slice A5 (ss.length + 1) c5)
              simpa [ic_append, ic] using this
            · exact (From.app (FW.out.alloc _) (OW.out.alloc _) (by omega) g5).setCell (by omega) _ _
            · have h1 := g5.size
              have h2 := HAT.out.sz
              simp at h1 ⊢
              omega
            · exact ((SW.out.from (From.alloc (From.refl _) _)).grown (OW.out.alloc _) g5 HAT.out.olt).setCell (by omega) _ _
            · have := HAT.out.sl
              simp only at this
              simp
              exact this
          case measure => simp [intOf]; omega
    · obtain rfl : k = m.length := by omega
      rw [List.take_length, HS.out] at hst
      subst hst
      obtain ⟨sc, su, ss, sb⟩ := s
      obtain ⟨a0, a1, a2, a3, a4, a5⟩ := hat.box.bat.facts
      obtain ⟨r0, r1, r2, r3, r4, r5⟩ := hat.box.rb.facts
      obtain ⟨b0, b1, b2, b3, b4, b5, b6, b7, b8, b9⟩ := hat.box.sup.facts
      obtain ⟨s0, s1, s2, s3, s4, s5, s6, s7, s8, s9⟩ := hat.box.rs.facts
      have HAT := bx hat
      simp only at a0 a1 a2 a3 a4 a5 b0 b1 b2 b3 b4 b5 b6 b7 b8 b9
      clear hat
      go_wp2
      go_region
      all_goals
        go_wp2
        obtain ⟨hb1, hb2⟩ := putS_heap HAT.out.box
        have hq1 : SlN w.heap.size (putS wr w.heap.size C sc re gd su (g - gd) (.slice A ss.length cc) sb).drew (.slice A ss.length cc) ss.length (ic ss) := (((sln_of_own HAT.out.own).putS (by omega) C sc re gd su (g - gd) _ sb).low (by omega)).from (From.drew (From.refl _))
        have hq2 : From w (putS wr w.heap.size C sc re gd su (g - gd) (.slice A ss.length cc) sb).drew := (HAT.out.fr.putS (by omega) C sc re gd su (g - gd) _ sb).drew
        have hb1' : BatC (putS wr w.heap.size C sc re gd su (g - gd) (.slice A ss.length cc) sb).drew (w.heap.size + 1) C sc re := BatC.drew hb1
        have hb2' : SupC (putS wr w.heap.size C sc re gd su (g - gd) (.slice A ss.length cc) sb).drew (w.heap.size + 2) gd su (g - gd) (.slice A ss.length cc) sb := SupC.drew hb2
        clear a0 a1 a2 a3 a4 a5 b0 b1 b2 b3 b4 b5 b6 b7 b8 b9 r0 r1 r2 r3 r4 r5 s0 s1 s2 s3 s4 s5 s6 s7 s8 s9 hb1 hb2
        generalize (putS wr w.heap.size C sc re gd su (g - gd) (.slice A ss.length cc) sb).drew = W9 at *
        obtain ⟨m0, m1, m2, m3, m4, m5⟩ := hb1'.facts
        obtain ⟨n0, n1, n2, n3, n4, n5, n6, n7, n8, n9⟩ := hb2'.facts
        exact bodyPost_ret (v := .tuple #[.agg (bcs C sc re), .agg (pcs gd su (g - gd) (.slice A ss.length cc) sb)]) (by simp [results, Try.results18, go_sem, m0, m1, m2, n0, n1, n2, n3, n4]) rfl ⟨A, cc, rfl, hq1, hq2, own_cap0 HAT.out.own⟩
theorem step_calls (C ch re g : Int) (A0 : Option Addr) (c0 : Nat) (l : List Lo) (w : World) (h : Loads w (.slice A0 l.length c0) l) (hm : l.length ≤ 100) (hid : Ids l) (hC : 0 ≤ C ∧ C ≤ 4000000000) (hch : 0 ≤ ch ∧ ch ≤ C) (hre : 0 ≤ re ∧ re ≤ C) (hg : 0 ≤ g ∧ g ≤ 4000000000)
    (hp : ∀ x ∈ l, 0 ≤ x.pw ∧ x.pw ≤ 4000000000) (gd : Int) (hgd : gainB C ch g = gd) (s : SS) (hs : stepB C ch re g l = s) :
    Calls Try.prog 18 #[.agg (bcs C ch re), .int .i64 g, .slice A0 l.length c0] w (StepPost w C re g gd s) :=
  (stepC_calls C ch re g A0 c0 l w h hm hid hC hch hre hg hp gd hgd s hs).mono fun _ _ ⟨A, c, h1, h2, h3, _⟩ => ⟨A, c, h1, h2, h3⟩
end Go.Proofs.Ytamfifndddldcaa
