/-
  Walks of layer 28's reference: Decode.
-/
import Derived.Test.YtpdbdpmlppbnnaaN6
import Derived.Test.YtpdbdpmlppbnnaaU16
import Derived.Test.YtpdbdpmlppbnnaaU22
import Derived.Deep.CutRange
namespace Go.Proofs.Ytpdbdpmlppbnnaa
open Go.RowKit Go.Shelf

/-- what holds while the reference decodes -/
structure DR (w wr : World) (p7 bs : Nat) (vb : Value) (s : St) : Prop where
  from_ : From w wr
  low : w.heap.size + 1 < p7
  base : wr.heap[w.heap.size]? = some (.cells #[.int .i64 bs, vb] 24 (0, 0))
  res : wr.heap[w.heap.size + 1]? = some (.cells #[.int .i64 0, .slice none 0 0] 24 (0, 0))
  rd : RBox w wr p7 s
theorem DR.go {w wr w' : World} {p7 bs : Nat} {vb : Value} {s : St} (h : DR w wr p7 bs vb s) (k : From wr w') : DR w w' p7 bs vb s := ⟨h.from_.trans k, h.low, k.heap h.base, k.heap h.res, h.rd.from k⟩
theorem DR.put {w wr : World} {p7 bs : Nat} {vb : Value} {s s' : St} {A : Option Addr} {n c : Nat} (h : DR w wr p7 bs vb s) (hv : RfV w (.agg #[.slice A n c, .int .i64 s'.err]) s') :
    DR w ((wr.setCell ⟨p7, 0, none⟩ (.slice A n c)).setCell ⟨p7, 1, none⟩ (.int .i64 s'.err)) p7 bs vb s' := by
  obtain ⟨A0, n0, c0, hb, _⟩ := h.rd
  have hl := h.low
  refine ⟨from_set (from_set h.from_ (by omega) _ _) (by omega) _ _, h.low, ?_, ?_, ⟨A, n, c, box2_set hb _ _, hv⟩⟩
  · rw [heap_set_off _ (by omega), heap_set_off _ (by omega)]; exact h.base
  · rw [heap_set_off _ (by omega), heap_set_off _ (by omega)]; exact h.res
theorem DR.setOff {w wr : World} {p7 bs g i : Nat} {vb : Value} {s : St} {cs : Array Value} {t : TypeId} (h : DR w wr p7 bs vb s) (hg : wr.heap[g]? = some (.cells cs t (0, 0))) (h1 : t ≠ 24) (h2 : t ≠ 84) (hb : w.heap.size ≤ g) (v : Value) :
    DR w (wr.setCell ⟨g, i, none⟩ v) p7 bs vb s := by
  obtain ⟨A0, n0, c0, hr, hv⟩ := h.rd
  refine ⟨from_set h.from_ hb _ _, h.low, ?_, ?_, ⟨A0, n0, c0, ?_, hv⟩⟩
  · rw [heap_set_off _ (cells_ne hg h.base h1)]; exact h.base
  · rw [heap_set_off _ (cells_ne hg h.res h1)]; exact h.res
  · rw [heap_set_off _ (cells_ne hg hr h2)]; exact hr
/-- entries are read: besides, what is predicted, what is known, the values -/
structure DQ (w wr : World) (p7 bs : Nat) (vb : Value) (s : St) (gp cp gk gv n : Nat) (pl vals : List Int) (known : List Bool) : Prop where
  h : DR w wr p7 bs vb s
  p : wr.ownsRow w.heap.size 3 1 (.slice (some ⟨gp, 0, none⟩) n cp) n (ic pl)
  k : wr.ownsRow w.heap.size 4 1 (.slice (some ⟨gk, 0, none⟩) n n) n (bc known)
  v : wr.ownsRow w.heap.size 3 1 (.slice (some ⟨gv, 0, none⟩) n n) n (ic vals)
  ne : gp ≠ gv
theorem DQ.go {w wr w' : World} {p7 bs gp cp gk gv n : Nat} {vb : Value} {s : St} {pl vals : List Int} {known : List Bool} (h : DQ w wr p7 bs vb s gp cp gk gv n pl vals known) (k : From wr w') : DQ w w' p7 bs vb s gp cp gk gv n pl vals known :=
  ⟨h.h.go k, own_call h.p k, own_call h.k k, own_call h.v k, h.ne⟩
theorem DQ.put {w wr : World} {p7 bs gp cp gk gv n : Nat} {vb : Value} {s s' : St} {pl vals : List Int} {known : List Bool} {A : Option Addr} {m c : Nat} (h : DQ w wr p7 bs vb s gp cp gk gv n pl vals known) (hv : RfV w (.agg #[.slice A m c, .int .i64 s'.err]) s') :
    DQ w ((wr.setCell ⟨p7, 0, none⟩ (.slice A m c)).setCell ⟨p7, 1, none⟩ (.int .i64 s'.err)) p7 bs vb s' gp cp gk gv n pl vals known := by
  obtain ⟨_, cs1, h1⟩ := own_block h.p
  obtain ⟨_, cs2, h2⟩ := own_block h.k
  obtain ⟨_, cs3, h3⟩ := own_block h.v
  obtain ⟨_, _, _, hb, _⟩ := h.h.rd
  have n1 := cells_ne h1 hb (by decide)
  have n2 := cells_ne h2 hb (by decide)
  have n3 := cells_ne h3 hb (by decide)
  exact ⟨h.h.put hv, ownsRow_setCell_other (ownsRow_setCell_other h.p (by simpa [Value.ownBlock] using n1) _) (by simpa [Value.ownBlock] using n1) _,
    ownsRow_setCell_other (ownsRow_setCell_other h.k (by simpa [Value.ownBlock] using n2) _) (by simpa [Value.ownBlock] using n2) _,
    ownsRow_setCell_other (ownsRow_setCell_other h.v (by simpa [Value.ownBlock] using n3) _) (by simpa [Value.ownBlock] using n3) _, h.ne⟩
theorem DQ.setK {w wr : World} {p7 bs gp cp gk gv n : Nat} {vb : Value} {s : St} {pl vals : List Int} {known : List Bool} (h : DQ w wr p7 bs vb s gp cp gk gv n pl vals known) (j : Nat) (x : Bool) :
    DQ w (wr.setCell ⟨gk, j, none⟩ (.bool x)) p7 bs vb s gp cp gk gv n pl vals (known.set j x) := by
  obtain ⟨_, cs1, h1⟩ := own_block h.p
  obtain ⟨hg, cs2, h2⟩ := own_block h.k
  obtain ⟨_, cs3, h3⟩ := own_block h.v
  have n1 := cells_ne h1 h2 (by decide)
  have n3 := cells_ne h3 h2 (by decide)
  refine ⟨h.h.setOff h2 (by decide) (by decide) hg _, ownsRow_setCell_other h.p (by simpa [Value.ownBlock] using n1) _, ?_, ownsRow_setCell_other h.v (by simpa [Value.ownBlock] using n3) _, h.ne⟩
  have := own_put h.k j (.bool x)
  rwa [show (bc known).set j (.bool x) = bc (known.set j x) by simp [bc]] at this
theorem DQ.setV {w wr : World} {p7 bs gp cp gk gv n : Nat} {vb : Value} {s : St} {pl vals : List Int} {known : List Bool} (h : DQ w wr p7 bs vb s gp cp gk gv n pl vals known) (j : Nat) (x : Int) :
    DQ w (wr.setCell ⟨gv, j, none⟩ (.int .i64 x)) p7 bs vb s gp cp gk gv n pl (vals.set j x) known := by
  obtain ⟨_, cs2, h2⟩ := own_block h.k
  obtain ⟨hg, cs3, h3⟩ := own_block h.v
  have n2 := cells_ne h2 h3 (by decide)
  refine ⟨h.h.setOff h3 (by decide) (by decide) hg _, ownsRow_setCell_other h.p (by simpa [Value.ownBlock] using h.ne) _, ownsRow_setCell_other h.k (by simpa [Value.ownBlock] using n2) _, ?_, h.ne⟩
  have := own_put h.v j (.int .i64 x)
  rwa [show (ic vals).set j (.int .i64 x) = ic (vals.set j x) by simp [ic]] at this
theorem make_ints (w : World) (n : Nat) (hn : n ≤ 1000000) : ∃ w', (Instr.makeSlice 22 (.int .i64 (n : Int)) (.int .i64 (n : Int))).run Try.prog w = .ok (.slice (some ⟨w.heap.size, 0, none⟩) n n) w' ∧
    w'.ownsRow w.heap.size 3 1 (.slice (some ⟨w.heap.size, 0, none⟩) n n) n (ic (List.replicate n 0)) ∧ From w w' := by
  obtain ⟨i, hi, hz, hs, hb⟩ := Try.elInt.info
  obtain ⟨w', h1, h2, h3⟩ := run_make_full (P := Try.prog) w w.heap.size 22 3 i (.int .i64 0) 1 Try.underlying22 hi hz hs .i64 .i64 n (by rw [hb]; omega) (by unfold maxLen; omega) (Nat.le_refl _)
  refine ⟨w', h1, ?_, ⟨h3.os, h3.tape, h3.output, h3.size, fun k hk => h3.block k hk (by simp)⟩⟩
  have e : (madeCells (Value.int .i64 0).cells (n * 1)).toList = ic (List.replicate n 0) := by
    rw [Nat.mul_one]
    apply List.ext_getElem?
    intro i
    simp only [madeCells, ic, Value.cells, Array.toList_map, Array.toList_range, List.getElem?_map, List.getElem?_replicate]
    by_cases hi : i < n
    · simp [hi, Nat.mod_one]
    · simp [hi]
  rw [← e]
  exact h2
theorem DQ.fin {w wr : World} {p7 bs gp cp gk gv n : Nat} {vb : Value} {s : St} {pl vals : List Int} {known : List Bool} (h : DQ w wr p7 bs vb s gp cp gk gv n pl vals known) (x y : Value) :
    ((wr.setCell ⟨w.heap.size + 1, 0, none⟩ x).setCell ⟨w.heap.size + 1, 1, none⟩ y).ownsRow w.heap.size 3 1 (.slice (some ⟨gv, 0, none⟩) n n) n (ic vals) ∧ ((wr.setCell ⟨w.heap.size + 1, 0, none⟩ x).setCell ⟨w.heap.size + 1, 1, none⟩ y).ownsRow w.heap.size 4 1 (.slice (some ⟨gk, 0, none⟩) n n) n (bc known) ∧
      From w ((wr.setCell ⟨w.heap.size + 1, 0, none⟩ x).setCell ⟨w.heap.size + 1, 1, none⟩ y) ∧ ((wr.setCell ⟨w.heap.size + 1, 0, none⟩ x).setCell ⟨w.heap.size + 1, 1, none⟩ y).heap[w.heap.size + 1]? = some (.cells #[x, y] 24 (0, 0)) := by
  obtain ⟨_, cs, hv⟩ := own_block h.v
  obtain ⟨_, cs', hk⟩ := own_block h.k
  have n1 := cells_ne hv h.h.res (by decide)
  have n2 := cells_ne hk h.h.res (by decide)
  refine ⟨ownsRow_setCell_other (ownsRow_setCell_other h.v (by simpa [Value.ownBlock] using n1) _) (by simpa [Value.ownBlock] using n1) _, ownsRow_setCell_other (ownsRow_setCell_other h.k (by simpa [Value.ownBlock] using n2) _) (by simpa [Value.ownBlock] using n2) _,
    from_set (from_set h.h.from_ (by omega) _ _) (by omega) _ _, box2_set h.h.res _ _⟩
theorem hasB_len {bs q : Nat} {bv : List Int} {x : Nat × List Int} (h : hasB bs bv q = some x) : q = bs ∧ x = (bs, bv) := by
  unfold hasB at h
  split at h
  · injection h with h
    exact ⟨by assumption, h.symm⟩
  · cases h
/-- the head of the reference's Decode: where it is good -/
theorem headR_good {l : List Int} {first bs seq mark count nb : Nat} {bv : List Int} {s1 s2 s3 s4 s5 s6 s7 s8 : St} {r : List Int} (h1 : (rdS (.good l)).1 = first ∧ (rdS (.good l)).2 = s1) (h2 : (if first ≠ bs then failS s1 43 else s1) = s2)
    (h3 : (rdS s2).1 = seq ∧ (rdS s2).2 = s3) (h4 : (if seq ≤ first ∨ 1000000 < seq then failS s3 7 else s3) = s4) (h5 : (rdS s4).1 = mark ∧ (rdS s4).2 = s5) (h6 : (if 1 < mark then failS s5 7 else s5) = s6)
    (h7 : (rdS s6).1 = count ∧ (rdS s6).2 = s7) (hn : bv.length = nb) (h8 : (if nb < count then failS s7 2 else s7) = s8) (h : s8 = .good r) : first = bs ∧ headS l (hasB bs bv) = (s8, first, seq, mark, count) := by
  obtain ⟨a1, a2⟩ := if_good h8 h
  rw [← h7.2] at a2
  obtain ⟨l6, a3⟩ := rdS_good a2
  obtain ⟨a4, a5⟩ := if_good h6 a3
  rw [← h5.2] at a5
  obtain ⟨l4, a6⟩ := rdS_good a5
  obtain ⟨a7, a8⟩ := if_good h4 a6
  rw [← h3.2] at a8
  obtain ⟨l2, a9⟩ := rdS_good a8
  obtain ⟨b1, b2⟩ := if_good h2 a9
  have hf : first = bs := Classical.byContradiction fun h => b1 h
  rw [if_neg b1] at h2
  subst h2
  refine ⟨hf, headS_some (bs := bs) (bv := bv) h1 (by rw [hasB, if_pos hf]) h3 h4 h5 h6 h7 hn h8⟩
theorem failS_same {s : St} {e c : Int} (h : s = .bad e) : failS s c = .bad e := by subst h; rfl
theorem if_bad {c : Prop} [Decidable c] {s : St} {e x : Int} (h : s = .bad e) : (if c then failS s x else s) = .bad e := by subst h; simp [failS]
/-- .. where it is not -/
theorem headR_bad {l : List Int} {first bs seq mark count nb : Nat} {bv : List Int} {s1 s2 s3 s4 s5 s6 s7 s8 : St} {ec : Int} (h1 : (rdS (.good l)).1 = first ∧ (rdS (.good l)).2 = s1) (h2 : (if first ≠ bs then failS s1 43 else s1) = s2)
    (h3 : (rdS s2).1 = seq ∧ (rdS s2).2 = s3) (h4 : (if seq ≤ first ∨ 1000000 < seq then failS s3 7 else s3) = s4) (h5 : (rdS s4).1 = mark ∧ (rdS s4).2 = s5) (h6 : (if 1 < mark then failS s5 7 else s5) = s6)
    (h7 : (rdS s6).1 = count ∧ (rdS s6).2 = s7) (hn : bv.length = nb) (h8 : (if nb < count then failS s7 2 else s7) = s8) (h : s8 = .bad ec) : decP (hasB bs bv) l = .err ec := by
  by_cases hf : first = bs
  · rw [if_neg (fun h => h hf)] at h2
    subst h2
    rw [decP, headS_some (bs := bs) (bv := bv) h1 (by rw [hasB, if_pos hf]) h3 h4 h5 h6 h7 hn h8, h]
  · rw [if_pos hf] at h2
    obtain ⟨x, hx⟩ : ∃ x, failS s1 43 = .bad x := by cases s1 <;> exact ⟨_, rfl⟩
    have e2 : s2 = .bad x := by rw [← h2, hx]
    have e3 : s3 = .bad x := by rw [← h3.2, e2]; rfl
    have e4 : s4 = .bad x := by rw [← h4]; exact if_bad e3
    have e5 : s5 = .bad x := by rw [← h5.2, e4]; rfl
    have e6 : s6 = .bad x := by rw [← h6]; exact if_bad e5
    have e7 : s7 = .bad x := by rw [← h7.2, e6]; rfl
    have e8 : s8 = .bad x := by rw [← h8]; exact if_bad e7
    have : x = ec := by rw [h] at e8; injection e8 with e8; exact e8.symm
    subst this
    exact decP_none h1 (by rw [hasB, if_neg hf]) hx
set_option maxHeartbeats 4000000 in
set_option maxRecDepth 10000 in
theorem decodeR_calls (bs : Nat) (vb : Value) (bv : List Int) (v : Value) (l : List Int) (c0 : Nat) (A0 : Option Addr) (w : World) (h : BaseIn w bs vb bv) (hve : v = .slice A0 l.length c0) (hl : Byts w v l) (hll : l.length ≤ 140737488355328) (hlc : l.length ≤ c0) (hb : bytes l) (D : Dec) (hD : decP (hasB bs bv) l = D) :
    Calls Try.prog 19 #[snv bs vb, v] w (Dec3Post w D) := by
  subst hve
  obtain ⟨hi, hp, hok, hsq⟩ := h
  obtain ⟨AB, cB, rfl⟩ := hi.form
  obtain ⟨nb, hnb⟩ : ∃ nb, bv.length = nb := ⟨_, rfl⟩
  obtain ⟨W, hW⟩ : ∃ W, (w.alloc (.cells #[.int .i64 bs, .slice AB bv.length cB] 24)).alloc (.cells #[.int .i64 0, .slice none 0 0] 24) = W := ⟨_, rfl⟩
  have k0 : From w W := by rw [← hW]; exact (From.alloc (From.refl _) _).alloc _
  have b0 : W.heap[w.heap.size + 1]? = some (.cells #[.int .i64 0, .slice none 0 0] 24 (0, 0)) := by rw [← hW]; have := heap_alloc_new (w.alloc (.cells #[.int .i64 bs, .slice AB bv.length cB] 24)) (.cells #[.int .i64 0, .slice none 0 0] 24); rwa [World.size_alloc] at this
  have r0 : W.heap[w.heap.size]? = some (.cells #[.int .i64 bs, .slice AB bv.length cB] 24 (0, 0)) := by rw [← hW]; exact ((From.refl _).alloc _).heap (heap_alloc_new _ _)
  have hszW : w.heap.size + 1 < W.heap.size := (Array.getElem?_eq_some_iff.1 b0).1
  have hrf : RfV w (.agg #[.slice A0 l.length c0, .int .i64 0]) (.good l) := ⟨A0, c0, rfl, hl, hb, hll, hlc⟩
  have HRF := bx hrf
  have HI := bx hi
  have HOK := bx hok
  have HD := bx hD
  have HB0 := bx b0
  have HR0 := bx r0
  have HK0 := bx k0
  have HSQ := bx hsq
  have HNB := bx hnb
  rw [hnb] at hp HR0 hW HI ⊢
  have HP := bx hp
  clear b0 r0 k0 hi hok hD hl hb hrf hll hlc hp hnb
  go_enter Try.func19, Try.ntmps19
  go_wp2_with fail
  clear hW
  refine (fReadUint_calls _ (.good l) w W HRF.out HK0.out).mono ?_
  rintro r v1 ⟨x1, rfl, hx1, k1⟩
  obtain ⟨B1, m1, d1, rfl⟩ := hx1.form
  have hq1 := rdS_lt HRF.out.okb
  obtain ⟨first, hU⟩ : ∃ q, (rdS (.good l)).1 = q := ⟨_, rfl⟩
  obtain ⟨s1, hS⟩ : ∃ s, (rdS (.good l)).2 = s := ⟨_, rfl⟩
  rw [hU] at hq1 ⊢
  rw [hS] at hx1 ⊢
  have HS1 := bx (And.intro hU hS)
  have hs1z := Below.size k1
  obtain ⟨p7, hp7⟩ : ∃ p, v1.heap.size = p := ⟨_, rfl⟩
  obtain ⟨W1, hW1⟩ : ∃ W, v1.alloc (.cells #[.slice B1 m1 d1, .int .i64 s1.err] 84) = W := ⟨_, rfl⟩
  have H1 : DR w W1 p7 bs (.slice AB nb cB) s1 := by
    have g0 := heap_alloc_new v1 (.cells #[.slice B1 m1 d1, .int .i64 s1.err] 84)
    rw [hp7, hW1] at g0
    have hf : From w v1 := HK0.out.trans k1
    have kW : From v1 W1 := by rw [← hW1]; exact (From.refl _).alloc _
    exact ⟨hf.trans kW, by omega, (k1.trans kW).heap HR0.out, (k1.trans kW).heap HB0.out, ⟨_, _, _, g0, hx1⟩⟩
  go_upto_region 2 with fail
  try rw [hp7]
  try rw [hW1]
  have N1 := bx H1
  clear hW1 hp7 hx1 k1 hU hS H1 hs1z
  obtain ⟨s2, hs2⟩ : ∃ s, (if first ≠ bs then failS s1 43 else s1) = s := ⟨_, rfl⟩
  have HS2 := bx hs2
  clear hs2
  obtain ⟨y0, y1, _, _, _⟩ := box2 N1.out.base
  have ewb : IntKind.u64.wrap (bs : Int) = (bs : Int) := by have := HSQ.out; rw [IntKind.wrap_u64]; omega
  go_upto_if 31 with fail
  clear y0 y1
  go_cut [] from 21 (fun wx => DR w wx p7 bs (.slice AB nb cB) s2)
  case first =>
    by_cases cc : first ≠ bs
    · have dd : ((first : Int) != (bs : Int)) = true := by simp; omega
      first | rw [dd] | skip
      have e9 := HS2.out
      rw [if_pos cc] at e9
      have E9 := bx e9
      clear cc e9
      obtain ⟨A, n, c, hb, hv⟩ := N1.out.rd
      have HV := bx hv
      have HBB := bx hb
      obtain ⟨q0, q1, q2, q3, _⟩ := box2 hb
      clear hv hb
      go_wp2_with fail
      refine (fFail_calls _ s1 43 w _ HV.out (by decide)).mono ?_
      rintro e wF ⟨vF, rfl, hvF, kF⟩
      rw [E9.out] at hvF
      obtain ⟨AF, nF, cF, rfl⟩ := hvF.form
      have GP := bx ((N1.out.go kF).put hvF)
      obtain ⟨t0, t1, t2, t3, _⟩ := box2 (kF.heap HBB.out)
      clear q0 q1 q2 q3 hvF
      go_wp2
      go_meet
      case rel => exact GP.out
    · have dd : ((first : Int) != (bs : Int)) = false := by simp; omega
      first | rw [dd] | skip
      have e9 := HS2.out
      rw [if_neg cc] at e9
      have E9 := bx e9
      clear cc e9
      go_wp2
      go_meet
      case rel => rw [← E9.out]; exact N1.out
  case rest =>
    have M3 := bx hcut
    clear hcut
    obtain ⟨A, n, c, hb, hv⟩ := M3.out.rd
    have HV := bx hv
    have HBB := bx hb
    obtain ⟨q0, q1, q2, q3, _⟩ := box2 hb
    clear hv hb
    go_wp2_with fail
    refine (fReadUint_calls _ s2 w _ HV.out M3.out.from_).mono ?_
    rintro r v3 ⟨x3, rfl, hx, kx⟩
    obtain ⟨B1, m1, d1, rfl⟩ := hx.form
    have hq3 := rdS_lt HV.out.okb
    obtain ⟨seq, hU⟩ : ∃ q, (rdS s2).1 = q := ⟨_, rfl⟩
    obtain ⟨s3, hS⟩ : ∃ s, (rdS s2).2 = s := ⟨_, rfl⟩
    rw [hU] at hq3 ⊢
    rw [hS] at hx ⊢
    have HS3 := bx (And.intro hU hS)
    have NN := (M3.out.go kx).put hx
    obtain ⟨t0, t1, t2, t3, _⟩ := box2 (kx.heap HBB.out)
    go_upto_region 5 with fail
    obtain ⟨W3, hW3⟩ : ∃ W, (v3.setCell ⟨p7, 0, none⟩ (.slice B1 m1 d1)).setCell ⟨p7, 1, none⟩ (.int .i64 s3.err) = W := ⟨_, rfl⟩
    rw [hW3] at NN
    try rw [hW3]
    have N3 := bx NN
    clear hW3 NN hx kx hU hS q0 q1 q2 q3 t0 t1 t2 t3 HV HBB
    obtain ⟨s4, hs4⟩ : ∃ s, (if seq ≤ first ∨ 1000000 < seq then failS s3 7 else s3) = s := ⟨_, rfl⟩
    go_cut [45] from 21 (fun s45 wx => s45 = .bool (decide (seq ≤ first ∨ 1000000 < seq)) ∧ wx = W3)
    case first =>
      by_cases c1 : seq ≤ first
      · have d1 : decide (seq ≤ first) = true := decide_eq_true c1
        have d2 : decide (seq ≤ first ∨ 1000000 < seq) = true := decide_eq_true (.inl c1)
        go_wp2
        go_meet
        case rel => exact ⟨by rw [d2], rfl⟩
      · have d1 : decide (seq ≤ first) = false := decide_eq_false c1
        have d2 : decide (seq ≤ first ∨ 1000000 < seq) = decide ((1000000 : Int) < (seq : Int)) := decide_eq_decide.2 (by omega)
        go_wp2
        go_meet
        case rel => exact ⟨by rw [d2], rfl⟩
    case rest =>
      obtain ⟨rfl, hw3⟩ := hcut
      rw [hw3]
      clear hw3 wc hs4 s4
      obtain ⟨s4, hs4⟩ : ∃ s, (if seq ≤ first ∨ 1000000 < seq then failS s3 7 else s3) = s := ⟨_, rfl⟩
      have HS4 := bx hs4
      clear hs4
      obtain ⟨y0, y1, _, _, _⟩ := box2 N3.out.base
      go_upto_if 45 with fail
      clear y0 y1
      go_cut [] from 21 (fun wx => DR w wx p7 bs (.slice AB nb cB) s4)
      case first =>
        by_cases cc : seq ≤ first ∨ 1000000 < seq
        · have dd : decide (seq ≤ first ∨ 1000000 < seq) = true := decide_eq_true cc
          rw [dd]
          have e9 := HS4.out
          rw [if_pos cc] at e9
          have E9 := bx e9
          clear cc e9
          obtain ⟨A, n, c, hb, hv⟩ := N3.out.rd
          have HV := bx hv
          have HBB := bx hb
          obtain ⟨q0, q1, q2, q3, _⟩ := box2 hb
          clear hv hb
          go_wp2_with fail
          refine (fFail_calls _ s3 7 w _ HV.out (by decide)).mono ?_
          rintro e wF ⟨vF, rfl, hvF, kF⟩
          rw [E9.out] at hvF
          obtain ⟨AF, nF, cF, rfl⟩ := hvF.form
          have GP := bx ((N3.out.go kF).put hvF)
          obtain ⟨t0, t1, t2, t3, _⟩ := box2 (kF.heap HBB.out)
          clear q0 q1 q2 q3 hvF
          go_wp2
          go_meet
          case rel => exact GP.out
        · have dd : decide (seq ≤ first ∨ 1000000 < seq) = false := decide_eq_false cc
          rw [dd]
          have e9 := HS4.out
          rw [if_neg cc] at e9
          have E9 := bx e9
          clear cc e9
          go_wp2
          go_meet
          case rel => rw [← E9.out]; exact N3.out
      case rest =>
        have M5 := bx hcut
        clear hcut
        obtain ⟨A, n, c, hb, hv⟩ := M5.out.rd
        have HV := bx hv
        have HBB := bx hb
        obtain ⟨q0, q1, q2, q3, _⟩ := box2 hb
        clear hv hb
        go_wp2_with fail
        refine (fReadUint_calls _ s4 w _ HV.out M5.out.from_).mono ?_
        rintro r v5 ⟨x5, rfl, hx, kx⟩
        obtain ⟨B1, m1, d1, rfl⟩ := hx.form
        have hq5 := rdS_lt HV.out.okb
        obtain ⟨mark, hU⟩ : ∃ q, (rdS s4).1 = q := ⟨_, rfl⟩
        obtain ⟨s5, hS⟩ : ∃ s, (rdS s4).2 = s := ⟨_, rfl⟩
        rw [hU] at hq5 ⊢
        rw [hS] at hx ⊢
        have HS5 := bx (And.intro hU hS)
        have NN := (M5.out.go kx).put hx
        obtain ⟨t0, t1, t2, t3, _⟩ := box2 (kx.heap HBB.out)
        go_upto_region 8 with fail
        obtain ⟨W5, hW5⟩ : ∃ W, (v5.setCell ⟨p7, 0, none⟩ (.slice B1 m1 d1)).setCell ⟨p7, 1, none⟩ (.int .i64 s5.err) = W := ⟨_, rfl⟩
        rw [hW5] at NN
        try rw [hW5]
        have N5 := bx NN
        clear hW5 NN hx kx hU hS q0 q1 q2 q3 t0 t1 t2 t3 HV HBB
        obtain ⟨s6, hs6⟩ : ∃ s, (if 1 < mark then failS s5 7 else s5) = s := ⟨_, rfl⟩
        have HS6 := bx hs6
        clear hs6
        obtain ⟨y0, y1, _, _, _⟩ := box2 N5.out.base
        go_upto_if 54 with fail
        clear y0 y1
        go_cut [] from 21 (fun wx => DR w wx p7 bs (.slice AB nb cB) s6)
        case first =>
          by_cases cc : 1 < mark
          · have dd : decide ((1 : Int) < (mark : Int)) = true := decide_eq_true (by omega)
            first | rw [dd] | rw [show decide (1 < mark) = true from decide_eq_true cc] | rw [show decide ((mark : Int) > 1) = true from dd]
            have e9 := HS6.out
            rw [if_pos cc] at e9
            have E9 := bx e9
            clear cc e9
            obtain ⟨A, n, c, hb, hv⟩ := N5.out.rd
            have HV := bx hv
            have HBB := bx hb
            obtain ⟨q0, q1, q2, q3, _⟩ := box2 hb
            clear hv hb
            go_wp2_with fail
            refine (fFail_calls _ s5 7 w _ HV.out (by decide)).mono ?_
            rintro e wF ⟨vF, rfl, hvF, kF⟩
            rw [E9.out] at hvF
            obtain ⟨AF, nF, cF, rfl⟩ := hvF.form
            have GP := bx ((N5.out.go kF).put hvF)
            obtain ⟨t0, t1, t2, t3, _⟩ := box2 (kF.heap HBB.out)
            clear q0 q1 q2 q3 hvF
            go_wp2
            go_meet
            case rel => exact GP.out
          · have dd : decide ((1 : Int) < (mark : Int)) = false := decide_eq_false (by omega)
            first | rw [dd] | rw [show decide (1 < mark) = false from decide_eq_false cc] | rw [show decide ((mark : Int) > 1) = false from dd]
            have e9 := HS6.out
            rw [if_neg cc] at e9
            have E9 := bx e9
            clear cc e9
            go_wp2
            go_meet
            case rel => rw [← E9.out]; exact N5.out
        case rest =>
          have M7 := bx hcut
          clear hcut
          obtain ⟨A, n, c, hb, hv⟩ := M7.out.rd
          have HV := bx hv
          have HBB := bx hb
          obtain ⟨q0, q1, q2, q3, _⟩ := box2 hb
          clear hv hb
          go_wp2_with fail
          refine (fReadUint_calls _ s6 w _ HV.out M7.out.from_).mono ?_
          rintro r v7 ⟨x7, rfl, hx, kx⟩
          obtain ⟨B1, m1, d1, rfl⟩ := hx.form
          have hq7 := rdS_lt HV.out.okb
          obtain ⟨count, hU⟩ : ∃ q, (rdS s6).1 = q := ⟨_, rfl⟩
          obtain ⟨s7, hS⟩ : ∃ s, (rdS s6).2 = s := ⟨_, rfl⟩
          rw [hU] at hq7 ⊢
          rw [hS] at hx ⊢
          have HS7 := bx (And.intro hU hS)
          have NN := (M7.out.go kx).put hx
          obtain ⟨t0, t1, t2, t3, _⟩ := box2 (kx.heap HBB.out)
          go_upto_region 11 with fail
          obtain ⟨W7, hW7⟩ : ∃ W, (v7.setCell ⟨p7, 0, none⟩ (.slice B1 m1 d1)).setCell ⟨p7, 1, none⟩ (.int .i64 s7.err) = W := ⟨_, rfl⟩
          rw [hW7] at NN
          try rw [hW7]
          have N7 := bx NN
          clear hW7 NN hx kx hU hS q0 q1 q2 q3 t0 t1 t2 t3 HV HBB
          obtain ⟨s8, hs8⟩ : ∃ s, (if nb < count then failS s7 2 else s7) = s := ⟨_, rfl⟩
          have HS8 := bx hs8
          clear hs8
          obtain ⟨y0, y1, _, _, _⟩ := box2 N7.out.base
          have ewn : IntKind.u64.wrap (nb : Int) = (nb : Int) := by have := HP.out; rw [IntKind.wrap_u64]; omega
          go_upto_if 67 with fail
          clear y0 y1
          go_cut [] from 21 (fun wx => DR w wx p7 bs (.slice AB nb cB) s8)
          case first =>
            by_cases cc : nb < count
            · have dd : decide ((nb : Int) < (count : Int)) = true := decide_eq_true (by omega)
              first | rw [dd] | rw [show decide (nb < count) = true from decide_eq_true cc] | rw [show decide ((count : Int) > (nb : Int)) = true from dd]
              have e9 := HS8.out
              rw [if_pos cc] at e9
              have E9 := bx e9
              clear cc e9
              obtain ⟨A, n, c, hb, hv⟩ := N7.out.rd
              have HV := bx hv
              have HBB := bx hb
              obtain ⟨q0, q1, q2, q3, _⟩ := box2 hb
              clear hv hb
              go_wp2_with fail
              refine (fFail_calls _ s7 2 w _ HV.out (by decide)).mono ?_
              rintro e wF ⟨vF, rfl, hvF, kF⟩
              rw [E9.out] at hvF
              obtain ⟨AF, nF, cF, rfl⟩ := hvF.form
              have GP := bx ((N7.out.go kF).put hvF)
              obtain ⟨t0, t1, t2, t3, _⟩ := box2 (kF.heap HBB.out)
              clear q0 q1 q2 q3 hvF
              go_wp2
              go_meet
              case rel => exact GP.out
            · have dd : decide ((nb : Int) < (count : Int)) = false := decide_eq_false (by omega)
              first | rw [dd] | rw [show decide (nb < count) = false from decide_eq_false cc] | rw [show decide ((count : Int) > (nb : Int)) = false from dd]
              have e9 := HS8.out
              rw [if_neg cc] at e9
              have E9 := bx e9
              clear cc e9
              go_wp2
              go_meet
              case rel => rw [← E9.out]; exact N7.out
          case rest =>
          have M9 := bx hcut
          clear hcut
          have hlow := M9.out.low
          obtain ⟨A, n, c, hb, hv⟩ := M9.out.rd
          have HV := bx hv
          have HBB := bx hb
          clear hv hb
          cases s8 with
          | bad ec =>
            have hec : ec ≠ 0 := HV.out.1
            have d1 : (ec != 0) = true := by simpa using hec
            have HDD := bx (show D = .err ec by rw [← HD.out]; exact headR_bad HS1.out HS2.out HS3.out HS4.out HS5.out HS6.out HS7.out HNB.out HS8.out rfl)
            obtain ⟨q0, q1, _, _, _⟩ := box2 HBB.out
            obtain ⟨t0, t1, t2, t3, _⟩ := box2 M9.out.res
            simp only [St.err] at q1
            clear hec
            go_upto_region 14 with fail
            go_region
            all_goals
              go_wp2
              have b9 := box2_set M9.out.res (.int .i64 0) (.slice none 0 0)
              refine bodyPost_ret (v := .tuple #[snv 0 (.slice none 0 0), .slice none 0 0, .int .i64 ec]) (by simp [results, Try.results19, go_sem, cell_of_row _ _ _ _ _ _ b9]) rfl ?_
              rw [HDD.out]
              exact ⟨rfl, (from_set (from_set M9.out.from_ (by omega) _ _) (by omega) _ _).drew⟩
          | good r =>
            obtain ⟨hfb, hhead⟩ := headR_good HS1.out HS2.out HS3.out HS4.out HS5.out HS6.out HS7.out HNB.out HS8.out rfl
            obtain ⟨n1, n2, n3, n4⟩ := head_good HS4.out HS5.out HS6.out HS7.out HS8.out rfl
            have hnb1 := HP.out
            obtain ⟨pl, hpl⟩ : ∃ z, predP bv bs seq = z := ⟨_, rfl⟩
            have hpn : pl.length = nb := by rw [← hpl, predP_len, HNB.out]
            obtain ⟨R, hR⟩ : ∃ R, entsS count (.good r) (List.replicate nb false) pl = R := ⟨_, rfl⟩
            have HDD := bx (show D = finD nb seq mark R by
              rw [← HD.out, decP, hhead]
              simp only [hasB, if_pos hfb]
              rw [HNB.out, hpl, hR]
              cases R <;> rfl)
            have HPF := bx (show ∀ x ∈ pl, fitsV x by rw [← hpl]; exact predP_fits HOK.out (by omega))
            have HPD := bx (predR_calls bs seq (.slice AB nb cB) bv wc (HI.out.from M9.out.from_) (by rw [HNB.out]; omega) HOK.out (by omega) pl hpl)
            have HR := bx hR
            have HPN := bx hpn
            obtain ⟨q0, q1, _, _, _⟩ := box2 HBB.out
            obtain ⟨y0, y1, _, _, _⟩ := box2 M9.out.base
            simp only [St.err] at q1
            have ew2 : IntKind.i64.wrap (seq : Int) = (seq : Int) := IntWalk.i64_in _ (by omega)
            have ew3 : IntKind.i64.wrap (count : Int) = (count : Int) := IntWalk.i64_in _ (by omega)
            clear hpl hR hpn hhead
            go_wp2_with fail
            refine HPD.out.mono ?_
            rintro e wC ⟨AV, cV, rfl, oV, kC⟩
            rw [HPN.out] at oV ⊢
            obtain ⟨gp, hAV⟩ : ∃ gv, AV = some ⟨gv, 0, none⟩ := by
              obtain ⟨g, cap, hv, _⟩ := oV.form (by omega)
              injection hv with hv _ _
              exact ⟨g, hv⟩
            subst hAV
            obtain ⟨wD, hmk, oK, kD⟩ := make_bools wC nb (by omega)
            obtain ⟨wE, hmk2, oE, kE⟩ := make_ints wD nb (by omega)
            have hszB := Below.size M9.out.from_
            have hszC := Below.size kC
            have hszD := Below.size kD
            have hgp : gp < wC.heap.size := by obtain ⟨_, cs, h⟩ := own_block oV; exact (Array.getElem?_eq_some_iff.1 h).1
            have HQ0 := bx (DQ.mk ((M9.out.go kC).go (kD.trans kE)) (own_call (own_base oV hszB) (kD.trans kE)) (own_call (own_base oK (by omega)) kE) (own_base oE (by omega)) (by omega))
            obtain ⟨gk, hgk⟩ : ∃ gk, wC.heap.size = gk := ⟨_, rfl⟩
            obtain ⟨gv, hgv⟩ : ∃ gv, wD.heap.size = gv := ⟨_, rfl⟩
            rw [hgk] at hmk HQ0
            rw [hgv] at hmk2 HQ0
            clear oV oK oE kC kD kE hszB hszC hszD hgp y0 y1 q0 q1 hgk hgv HPD
            go_wp2_with fail
            clear hmk hmk2
            go_loopw [15] (fun i wr => ∃ (k : Nat) (r : List Int) (known : List Bool) (vals : List Int), k ≤ count ∧ i = .int .i64 k ∧ DQ w wr p7 bs (.slice AB nb cB) (.good r) gp cV gk gv nb pl (finV false known vals) known ∧ AsPred nb pl known vals ∧ entsS (count - k) (.good r) known vals = R) (fun i _ => count - (intOf i).toNat)
            case atStart => exact ⟨0, r, _, _, Nat.zero_le _, rfl, by rw [finV_start nb pl HPN.out]; exact HQ0.out, asPred_start pl nb HPN.out, HR.out⟩
            case round =>
              obtain ⟨k, r2, known, vals, hk, rfl, hQ, hA, hE⟩ := hrel
              have HQ := bx hQ
              have HA := bx hA
              have HE := bx hE
              clear hQ hA hE
              by_cases hlt : k < count
              · have z1 : decide ((k : Int) < (count : Int)) = true := decide_eq_true (by omega)
                have hm : count - k = (count - (k + 1)) + 1 := by omega
                have HE2 := bx (show entsS ((count - (k + 1)) + 1) (.good r2) known vals = R by rw [← hm]; exact HE.out)
                clear hm
                obtain ⟨A, n, c, hb, hv⟩ := HQ.out.h.rd
                have HV := bx hv
                have HBB := bx hb
                obtain ⟨q0, q1, q2, q3, _⟩ := box2 hb
                have HEN := bx (entryR_calls _ (.good r2) w wr hv HQ.out.h.from_ (some ⟨gp, 0, none⟩) cV pl nb HPN.out (by have := sl_of_own HQ.out.p; show Sl _ _ _ pl.length _; rw [HPN.out]; exact this) (some ⟨gk, 0, none⟩) nb known HA.out.2.1 (by have := sl_of_own HQ.out.k; show Sl _ _ _ known.length _; rw [HA.out.2.1]; exact this) HPF.out (by omega) _ rfl)
                have HEP := bx (entry_pred HA.out (.good r2))
                have HEG := bx (fun (t : List Int) (h : (entryS vals known (.good r2)).1 = .good t) => entryS_good h (by have := HA.out.1; omega))
                simp only [St.err] at q1 HEN
                clear hv hb
                go_wp2_with fail
                refine HEN.out.mono ?_
                rintro e w1 ⟨vE, pE, dE, rfl, hvE, kE, hgE⟩
                obtain ⟨A2, m2, c2, rfl⟩ := hvE.form
                obtain ⟨sE, hsE⟩ : ∃ s, (entryS pl known (.good r2)).1 = s := ⟨_, rfl⟩
                rw [hsE] at hvE hgE HEP ⊢
                obtain ⟨pN, hpN⟩ : ∃ p, w1.heap.size = p := ⟨_, rfl⟩
                obtain ⟨WA, hWA⟩ : ∃ W, w1.alloc (.cells #[.slice A2 m2 c2, .int .i64 sE.err] 84) = W := ⟨_, rfl⟩
                have gA : WA.heap[pN]? = some (.cells #[.slice A2 m2 c2, .int .i64 sE.err] 84 (0, 0)) := by rw [← hWA, ← hpN]; exact heap_alloc_new _ _
                have kA : From w1 WA := by rw [← hWA]; exact (From.refl _).alloc _
                have HQ1 := bx (HQ.out.go (kE.trans kA))
                have HQ2 := bx (HQ1.out.put hvE)
                have HVE := bx hvE
                have HGE := bx hgE
                have HSE := bx hsE
                have hrb := (kE.trans kA).heap HBB.out
                clear hvE hgE hsE q0 q1 q2 q3 kE kA
                go_upto_region 22 with fail
                try rw [hpN]
                try rw [hWA]
                clear hWA hpN
                obtain ⟨q0, q1, _, _, _⟩ := box2 gA
                obtain ⟨t0, t1, t2, t3, _⟩ := box2 hrb
                go_upto_region 23 with fail
                obtain ⟨WB, hWB⟩ : ∃ W, (WA.setCell ⟨p7, 0, none⟩ (.slice A2 m2 c2)).setCell ⟨p7, 1, none⟩ (.int .i64 sE.err) = W := ⟨_, rfl⟩
                rw [hWB] at HQ2
                try rw [hWB]
                clear hWB q0 q1 t0 t1 t2 t3 gA hrb HQ1
                obtain ⟨_, _, _, hb, hv⟩ := HQ2.out.h.rd
                obtain ⟨q0, q1, _, _, _⟩ := box2 hb
                clear hb hv
                cases sE with
                | bad ec =>
                  have hec : ec ≠ 0 := HVE.out.1
                  have d1 : (ec != 0) = true := by simpa using hec
                  have HRE := bx (show R = .err ec by
                    rw [← HE2.out, entsS]
                    have := HEP.out.1
                    generalize entryS vals known (.good r2) = z at this
                    obtain ⟨z1, z2⟩ := z
                    simp only at this
                    subst this
                    rfl)
                  have HX := bx (show D = .err ec by rw [HDD.out, HRE.out]; rfl)
                  obtain ⟨t0, t1, t2, t3, _⟩ := box2 HQ2.out.h.res
                  simp only [St.err] at q1
                  clear hec
                  go_upto_region 24 with fail
                  go_region
                  all_goals
                    go_wp2
                    have b9 := box2_set HQ2.out.h.res (.int .i64 0) (.slice none 0 0)
                    refine bodyPost_ret (v := .tuple #[snv 0 (.slice none 0 0), .slice none 0 0, .int .i64 ec]) (by simp [results, Try.results19, go_sem, cell_of_row _ _ _ _ _ _ b9]) rfl ?_
                    rw [HX.out]
                    exact ⟨rfl, (from_set (from_set HQ2.out.h.from_ (by omega) _ _) (by omega) _ _).drew⟩
                | good l5 =>
                  have h1 := HEP.out.1.symm
                  obtain ⟨g1, g2, _, _⟩ := HEG.out l5 h1
                  obtain ⟨g5, g6⟩ := HGE.out l5 rfl
                  have g7 := HEP.out.2 l5 h1
                  rw [g7] at g5 g6
                  have HNX := bx (show entsS (count - (k + 1)) (.good l5) (known.set (entryS vals known (.good r2)).2.1 true) (vals.set (entryS vals known (.good r2)).2.1 (entryS vals known (.good r2)).2.2) = R by
                    rw [← HE2.out, entsS]
                    generalize entryS vals known (.good r2) = z at h1
                    obtain ⟨z1, z2, z3⟩ := z
                    simp only at h1
                    subst h1
                    rfl)
                  obtain ⟨p, hp0⟩ : ∃ p, (entryS vals known (.good r2)).2.1 = p := ⟨_, rfl⟩
                  obtain ⟨d, hd0⟩ : ∃ d, (entryS vals known (.good r2)).2.2 = d := ⟨_, rfl⟩
                  rw [hp0] at g1 g2 g5 HNX
                  rw [hd0] at g6 HNX
                  have a1 := HA.out.1
                  have a2 := HA.out.2.1
                  have hpk : p < known.length := by omega
                  have hpv : p < (finV false known vals).length := by rw [finV_len _ _ _ (by omega)]; exact g1
                  obtain ⟨c9, f9⟩ := own_cell HQ2.out.k (j := p) (u := .bool known[p]) (by simp [bc, hpk])
                  have HK3 := HQ2.out.setK p true
                  obtain ⟨c8, f8⟩ := own_cell HK3.v (j := p) (u := .int .i64 (finV false known vals)[p]) (by simp [ic, hpv])
                  have HV3 := HK3.setV p d
                  rw [← finV_set known vals p d (by omega)] at HV3
                  have HQ3 := bx HV3
                  have HA3 := bx (asPred_step HA.out p d)
                  generalize known[p] = kp at *
                  generalize (finV false known vals)[p] = vp at *
                  have z5 : (p : Int) < (nb : Int) := by omega
                  have z6 : (0 : Int) ≤ (p : Int) := by omega
                  subst g5 g6
                  simp only [St.err] at q1
                  clear HV3 HK3 h1 g7 hp0 hd0 a1 a2 g1 g2
                  go_wp2
                  go_roundw
                  case rel => exact ⟨k + 1, l5, _, _, by omega, by go_num, HQ3.out, HA3.out, HNX.out⟩
                  case measure => simp [intOf]; omega
              · obtain rfl : k = count := by omega
                have HRE := bx (show R = .ok (.good r2) known vals by rw [← HE.out, Nat.sub_self, entsS])
                have z1 : decide ((k : Int) < (k : Int)) = false := decide_eq_false (by omega)
                obtain ⟨A, n, c, hb, hv⟩ := HQ.out.h.rd
                obtain ⟨q0, q1, q2, q3, _⟩ := box2 hb
                have HEN := bx (fEnd_calls _ (.good r2) wr (hv.from HQ.out.h.from_))
                simp only [St.err] at q1 HEN
                clear hv hb
                go_wp2_with fail
                refine HEN.out.mono ?_
                rintro e w8 ⟨rfl, k8⟩
                have L8 := bx (HQ.out.go k8)
                clear q0 q1 q2 q3
                obtain ⟨t0, t1, t2, t3, _⟩ := box2 L8.out.h.res
                cases r2 with
                | cons yy tt =>
                  have HRX := bx (show D = .err 7 by rw [HDD.out, HRE.out, finD, if_pos (by simp [endS])]; rfl)
                  simp only [endS]
                  go_wp2
                  have b9 := box2_set L8.out.h.res (.int .i64 0) (.slice none 0 0)
                  refine bodyPost_ret (v := .tuple #[snv 0 (.slice none 0 0), .slice none 0 0, .int .i64 7]) (by simp [results, Try.results19, go_sem, cell_of_row _ _ _ _ _ _ b9]) rfl ?_
                  rw [HRX.out]
                  exact ⟨rfl, from_set (from_set L8.out.h.from_ (by omega) _ _) (by omega) _ _⟩
                | nil =>
                  clear t0 t1 t2 t3
                  simp only [endS]
                  by_cases hm1 : mark = 1
                  · have a1 : ((mark : Int) == 1) = true := by simp [hm1]
                    have HD3 := bx (show D = .ok seq vals (List.replicate nb true) true by rw [HDD.out, HRE.out, finD, if_neg (by decide), if_pos hm1, hm1]; rfl)
                    clear hm1
                    go_wp2_with fail
                    go_loopw [20] (fun i wx => ∃ k : Nat, k ≤ nb ∧ i = .int .i64 k ∧ DQ w wx p7 bs (.slice AB nb cB) (.good []) gp cV gk gv nb pl (vals.take k ++ (finV false known vals).drop k) (List.replicate k true ++ known.drop k)) (fun i _ => nb - (intOf i).toNat)
                    case atStart => exact ⟨0, Nat.zero_le _, rfl, by simpa using L8.out⟩
                    case round =>
                      obtain ⟨k, hk, rfl, hL2⟩ := hrel
                      have hvl := HA.out.1
                      have hkl := HA.out.2.1
                      by_cases hlt : k < nb
                      · have z1 : decide ((k : Int) < (nb : Int)) = true := decide_eq_true (by omega)
                        have z5 : (k : Int) < (nb : Int) := by omega
                        have z6 : (0 : Int) ≤ (k : Int) := by omega
                        have hkk : k < known.length := by omega
                        have hkp : k < pl.length := by rw [HPN.out]; exact hlt
                        obtain ⟨c9, f9⟩ := own_cell hL2.k (j := k) (u := .bool known[k]) (by simp only [bc, List.getElem?_map, trues_cell known k hkk]; rfl)
                        have hset := compl_set HA.out k hlt
                        have hcell := compl_cell known vals k (by omega) (by omega)
                        have hgk2 : known.getD k false = known[k] := getD_bool known k hkk
                        have hgp2 : pl.getD k 0 = pl[k] := getD_nat pl k hkp
                        have HTS := bx (trues_set known k hkk)
                        have HTC := bx (trues_cell known k hkk)
                        rw [hgk2] at hset hcell
                        rw [hgp2] at hset
                        have HSET := bx hset
                        have HCELL := bx hcell
                        have HN := bx hL2
                        clear hset hcell hgk2 hgp2
                        obtain ⟨kk, hkk2⟩ : ∃ b, known[k] = b := ⟨_, rfl⟩
                        rw [hkk2] at c9 HSET HCELL HTC
                        cases kk
                        · have LK := hL2.setK k true
                          rw [HTS.out] at LK
                          obtain ⟨c8, f8⟩ := own_cell LK.v (j := k) (u := .int .i64 0) (by simp only [ic, List.getElem?_map, HCELL.out]; rfl)
                          obtain ⟨c7, _⟩ := own_cell LK.p (j := k) (u := .int .i64 pl[k]) (by simp [ic, hkp])
                          have LV := LK.setV k pl[k]
                          rw [show (vals.take k ++ (finV false known vals).drop k).set k pl[k] = vals.take (k + 1) ++ (finV false known vals).drop (k + 1) from HSET.out] at LV
                          have LN := bx LV
                          have hne := hL2.ne
                          generalize pl[k] = pk at *
                          clear hL2 LK LV hkk2
                          go_wp2
                          go_roundw
                          case rel => exact ⟨k + 1, by omega, by go_num, LN.out⟩
                          case measure => simp [intOf]; omega
                        · have LV := hL2
                          have e1 : List.replicate k true ++ known.drop k = List.replicate (k + 1) true ++ known.drop (k + 1) := by rw [← HTS.out]; exact (set_same HTC.out).symm
                          have e2 : vals.take k ++ (finV false known vals).drop k = vals.take (k + 1) ++ (finV false known vals).drop (k + 1) := by rw [← HSET.out]; exact (set_same HCELL.out).symm
                          rw [e1, e2] at LV
                          have LN := bx LV
                          clear hL2 LV hkk2 e1 e2
                          go_wp2
                          go_roundw
                          case rel => exact ⟨k + 1, by omega, by go_num, LN.out⟩
                          case measure => simp [intOf]; omega
                      · have hkn : k = nb := by omega
                        have z1 : decide ((k : Int) < (nb : Int)) = false := decide_eq_false (by omega)
                        have e1 : List.replicate k true ++ known.drop k = List.replicate nb true := by rw [List.drop_of_length_le (by omega), List.append_nil, hkn]
                        have e2 : vals.take k ++ (finV false known vals).drop k = vals := by rw [List.drop_of_length_le (by rw [finV_len _ _ _ (by omega)]; omega), List.append_nil, List.take_of_length_le (by omega)]
                        rw [e1, e2] at hL2
                        have LE := bx hL2
                        obtain ⟨t0, t1, t2, t3, _⟩ := box2 LE.out.h.res
                        have HFIN := bx (LE.out.fin (.int .i64 seq) (.slice (some ⟨gv, 0, none⟩) nb nb))
                        clear hL2 e1 e2
                        go_wp2
                        obtain ⟨o1, o2, f1, b9⟩ := HFIN.out
                        refine bodyPost_ret (v := .tuple #[snv seq (.slice (some ⟨gv, 0, none⟩) nb nb), .slice (some ⟨gk, 0, none⟩) nb nb, .int .i64 0]) (by simp [results, Try.results19, go_sem, cell_of_row _ _ _ _ _ _ b9]) rfl ?_
                        rw [HD3.out]
                        simp only [Dec3Post]
                        rw [hvl]
                        exact ⟨gv, nb, gk, rfl, by simp, o1, o2, f1⟩
                  · have a1 : ((mark : Int) == 1) = false := by simp; omega
                    have hm0 : mark = 0 := by omega
                    have HD3 := bx (show D = .ok seq (finV false known vals) known false by rw [HDD.out, HRE.out, finD, if_neg (by decide), if_neg hm1, hm0]; rfl)
                    clear hm1 hm0
                    go_wp2_with fail
                    go_loopw [20] (fun i wx => ∃ k : Nat, k ≤ nb ∧ i = .int .i64 k ∧ DQ w wx p7 bs (.slice AB nb cB) (.good []) gp cV gk gv nb pl (finV false known vals) known) (fun i _ => nb - (intOf i).toNat)
                    case atStart => exact ⟨0, Nat.zero_le _, rfl, L8.out⟩
                    case round =>
                      obtain ⟨k, hk, rfl, hL2⟩ := hrel
                      have hvl := HA.out.1
                      have hkl := HA.out.2.1
                      have HN := bx hL2
                      by_cases hlt : k < nb
                      · have z1 : decide ((k : Int) < (nb : Int)) = true := decide_eq_true (by omega)
                        clear hL2
                        go_wp2
                        go_roundw
                        case rel => exact ⟨k + 1, by omega, by go_num, HN.out⟩
                        case measure => simp [intOf]; omega
                      · have z1 : decide ((k : Int) < (nb : Int)) = false := decide_eq_false (by omega)
                        obtain ⟨t0, t1, t2, t3, _⟩ := box2 HN.out.h.res
                        have HFIN := bx (HN.out.fin (.int .i64 seq) (.slice (some ⟨gv, 0, none⟩) nb nb))
                        clear hL2
                        go_wp2
                        obtain ⟨o1, o2, f1, b9⟩ := HFIN.out
                        refine bodyPost_ret (v := .tuple #[snv seq (.slice (some ⟨gv, 0, none⟩) nb nb), .slice (some ⟨gk, 0, none⟩) nb nb, .int .i64 0]) (by simp [results, Try.results19, go_sem, cell_of_row _ _ _ _ _ _ b9]) rfl ?_
                        rw [HD3.out]
                        have hlen9 : (finV false known vals).length = nb := by rw [finV_len _ _ _ (by omega)]; exact hvl
                        simp only [Dec3Post]
                        rw [hlen9]
                        exact ⟨gv, nb, gk, rfl, hkl, o1, o2, f1⟩
end Go.Proofs.Ytpdbdpmlppbnnaa
