/-
  Walks of layer 28: Decode.
-/
import Derived.Test.YtpdbdpmlppbnnaaU14
namespace Go.Proofs.Ytpdbdpmlppbnnaa
open Go.RowKit Go.Shelf

theorem dec1_calls (p q bs : Nat) (v : Value) (w : World) (hp : w.heap[p]? = some (.cells #[.int .i64 bs, v] 24 (0, 0))) (hv : ∃ A n c, v = .slice A n c) (hb : bs ≤ 1000000) :
    Calls Try.prog 54 #[.int .u64 q, .pointer (some ⟨p, 0, none⟩)] w fun e w' => e = .returned (.tuple #[snv bs v, .bool (decide (q = bs))]) ∧ From w w' := by
  obtain ⟨A, n, c, rfl⟩ := hv
  obtain ⟨y0, y1, _, _, hpl⟩ := box2 hp
  have ew : IntKind.u64.wrap (bs : Int) = (bs : Int) := by rw [IntKind.wrap_u64]; omega
  have hD : decide (q = bs) = ((q : Int) == (bs : Int)) := by
    by_cases h : q = bs
    · simp [h]
    · have h2 : ¬ (q : Int) = (bs : Int) := by omega
      rw [decide_eq_false h]
      exact (beq_eq_false_iff_ne.2 h2).symm
  rw [hD]
  clear hD
  obtain ⟨W, hW⟩ : ∃ W, w.alloc (.cells #[.int .i64 0, .slice none 0 0] 24) = W := ⟨_, rfl⟩
  have k0 : From w W := by rw [← hW]; exact (From.refl _).alloc _
  have b0 : W.heap[w.heap.size]? = some (.cells #[.int .i64 0, .slice none 0 0] 24 (0, 0)) := by rw [← hW]; exact heap_alloc_new _ _
  obtain ⟨t0, t1, t2, t3, _⟩ := box2 b0
  obtain ⟨z0, z1, _, _, _⟩ := box2 (k0.heap hp)
  have HB := bx b0
  have HK := bx k0
  clear hp b0 k0
  go_enter Try.func54, Try.ntmps54
  go_wp2_with fail
  clear hW
  go_region
  all_goals
    go_wp2
    have b9 := box2_set HB.out (.int .i64 bs) (.slice A n c)
    refine bodyPost_ret (v := .tuple #[snv bs (.slice A n c), .bool ((q : Int) == (bs : Int))]) (by simp [results, Try.results54, go_sem, cell_of_row _ _ _ _ _ _ b9]) rfl ⟨rfl, (from_set (from_set HK.out (Nat.le_refl _) _ _) (Nat.le_refl _) _ _).drew⟩
/-- the look-up of a single base -/
def hasB (bs : Nat) (bv : List Int) (q : Nat) : Option (Nat × List Int) := if q = bs then some (bs, bv) else none
/-- what Decode answers -/
def Dec3Post (w : World) (x : Dec) (e : Ending) (w' : World) : Prop :=
  match x with
  | .err c => e = .returned (.tuple #[snv 0 (.slice none 0 0), .slice none 0 0, .int .i64 c]) ∧ From w w'
  | .ok seq vals known _ => ∃ gv cv gk, e = .returned (.tuple #[snv seq (.slice (some ⟨gv, 0, none⟩) vals.length cv), .slice (some ⟨gk, 0, none⟩) vals.length vals.length, .int .i64 0]) ∧ known.length = vals.length ∧
      w'.ownsRow w.heap.size 3 1 (.slice (some ⟨gv, 0, none⟩) vals.length cv) vals.length (ic vals) ∧ w'.ownsRow w.heap.size 4 1 (.slice (some ⟨gk, 0, none⟩) vals.length vals.length) vals.length (bc known) ∧ From w w'
/-- a base in memory -/
structure BaseIn (w : World) (bs : Nat) (vb : Value) (bv : List Int) : Prop where
  ints : Ints w vb bv
  pos : 0 < bv.length ∧ bv.length ≤ 100
  ok : ∀ x ∈ bv, fitsV x
  seq : bs ≤ 1000000
set_option maxHeartbeats 1000000 in
theorem decodeT_calls (bs : Nat) (vb : Value) (bv : List Int) (v : Value) (l : List Int) (w : World) (h : BaseIn w bs vb bv) (hl : Byts w v l) (hll : l.length ≤ 140737488355328) (hb : bytes l) (x : Dec) (hx : decP (hasB bs bv) l = x) :
    Calls Try.prog 18 #[snv bs vb, v] w (Dec3Post w x) := by
  obtain ⟨hi, hp, hok, hsq⟩ := h
  obtain ⟨AB, cB, rfl⟩ := hi.form
  obtain ⟨W, hW⟩ : ∃ W, (w.alloc (.cells #[.int .i64 bs, .slice AB bv.length cB] 24)).alloc (.cells #[.int .i64 0, .slice none 0 0] 24) = W := ⟨_, rfl⟩
  have k0 : From w W := by rw [← hW]; exact (From.alloc (From.refl _) _).alloc _
  have b0 : W.heap[w.heap.size + 1]? = some (.cells #[.int .i64 0, .slice none 0 0] 24 (0, 0)) := by rw [← hW]; have := heap_alloc_new (w.alloc (.cells #[.int .i64 bs, .slice AB bv.length cB] 24)) (.cells #[.int .i64 0, .slice none 0 0] 24); rwa [World.size_alloc] at this
  have r0 : W.heap[w.heap.size]? = some (.cells #[.int .i64 bs, .slice AB bv.length cB] 24 (0, 0)) := by rw [← hW]; exact ((From.refl _).alloc _).heap (heap_alloc_new _ _)
  have HD := bx (decodeD_calls (.pointer (some ⟨w.heap.size, 0, none⟩)) (hasB bs bv) v l W (hl.from k0) hll hb (fun q b2 v2 h => by
      unfold hasB at h
      split at h
      · rename_i e
        injection h with h
        injection h with h1 _
        rw [← h1, e]
      · cases h)
    (fun V q k hq => by
      refine (dec1_calls w.heap.size q bs (.slice AB bv.length cB) V (k.heap r0) ⟨_, _, _, rfl⟩ hsq).mono ?_
      rintro e V' ⟨rfl, k'⟩
      refine ⟨k', ?_⟩
      unfold hasB
      by_cases hqb : q = bs
      · rw [if_pos hqb]
        exact ⟨AB, cB, by simp [hqb], hi.from k0, by show 0 < bv.length; omega, by show bv.length ≤ 1000; omega, hsq, hok⟩
      · rw [if_neg hqb]
        exact ⟨bs, AB, bv.length, cB, by simp [hqb], by omega⟩))
  obtain ⟨A0, c0, rfl⟩ := hl.form
  have HB := bx b0
  have HK := bx k0
  rw [hx] at HD
  clear b0 r0 k0 hi hok hx
  go_enter Try.func18, Try.ntmps18
  go_wp2_with fail
  clear hW
  refine HD.out.mono ?_
  rintro e w1 hd
  cases x with
  | err c =>
    obtain ⟨rfl, k1⟩ := hd
    have b1 := k1.heap HB.out
    obtain ⟨t0, t1, t2, t3, hlt⟩ := box2 b1
    go_wp2
    have b9 := ((From.refl _).alloc (.cells #[.int .i64 0, .slice none 0 0] 24)).heap (box2_set b1 (.int .i64 0) (.slice none 0 0))
    refine bodyPost_ret (v := .tuple #[snv 0 (.slice none 0 0), .slice none 0 0, .int .i64 c]) (by simp [results, Try.results18, go_sem, cell_of_row _ _ _ _ _ _ b9]) rfl ⟨rfl, (from_set (from_set (HK.out.trans k1) (by omega) _ _) (by omega) _ _).alloc _⟩
  | ok seq vals known all =>
    obtain ⟨gv, cv, gk, rfl, hkl, o1, o2, k1⟩ := hd
    have b1 := k1.heap HB.out
    obtain ⟨t0, t1, t2, t3, hlt⟩ := box2 b1
    have hsz : w.heap.size + 1 < W.heap.size := (Array.getElem?_eq_some_iff.1 HB.out).1
    go_wp2
    have b9 := ((From.refl _).alloc (.cells #[.int .i64 seq, .slice (some ⟨gv, 0, none⟩) vals.length cv] 24)).heap (box2_set b1 (.int .i64 seq) (.slice (some ⟨gv, 0, none⟩) vals.length cv))
    have f1 := (from_set (from_set (HK.out.trans k1) (show w.heap.size ≤ w.heap.size + 1 by omega) 0 (.int .i64 seq)) (show w.heap.size ≤ w.heap.size + 1 by omega) 1 (.slice (some ⟨gv, 0, none⟩) vals.length cv)).alloc (.cells #[.int .i64 seq, .slice (some ⟨gv, 0, none⟩) vals.length cv] 24)
    have hsw := Below.size HK.out
    have p1 := own_base (((own_setCell (own_setCell o1 (a := ⟨w.heap.size + 1, 0, none⟩) hsz (.int .i64 seq)) (a := ⟨w.heap.size + 1, 1, none⟩) hsz (.slice (some ⟨gv, 0, none⟩) vals.length cv))).alloc (.cells #[.int .i64 seq, .slice (some ⟨gv, 0, none⟩) vals.length cv] 24)) hsw
    have p2 := own_base (((own_setCell (own_setCell o2 (a := ⟨w.heap.size + 1, 0, none⟩) hsz (.int .i64 seq)) (a := ⟨w.heap.size + 1, 1, none⟩) hsz (.slice (some ⟨gv, 0, none⟩) vals.length cv))).alloc (.cells #[.int .i64 seq, .slice (some ⟨gv, 0, none⟩) vals.length cv] 24)) hsw
    refine bodyPost_ret (v := .tuple #[snv seq (.slice (some ⟨gv, 0, none⟩) vals.length cv), .slice (some ⟨gk, 0, none⟩) vals.length vals.length, .int .i64 0]) (by simp [results, Try.results18, go_sem, cell_of_row _ _ _ _ _ _ b9]) rfl ⟨gv, cv, gk, rfl, hkl, p1, p2, f1⟩
end Go.Proofs.Ytpdbdpmlppbnnaa
