/-
  Walks of layer 28: Put.
-/
import Derived.Test.YtpdbdpmlppbnnaaV4
import Derived.Test.YtpdbdpmlppbnnaaN7
import Derived.Deep.CutRange
namespace Go.Proofs.Ytpdbdpmlppbnnaa
open Go.RowKit Go.Shelf

theorem wfu64 {x : Int} (h : 0 ≤ x ∧ x ≤ 18446744073709551615) : (Lit.int .u64 x).wf = true := by
  simp only [Lit.wf, Bool.and_eq_true, decide_eq_true_eq]
  show (0 : Int) ≤ _ ∧ _ ≤ (18446744073709551615 : Int)
  exact h
theorem put1_calls (S : Nat → Prop) (p n m : Nat) (H : Nat → Option (List Int)) (cb q : Nat) (w W : World) (h : Snk S w p n m H) (k : From w W) (hcb : W.heap[cb]? = some (.cells #[.pointer (some ⟨p, 0, none⟩)] 49 (0, 0))) (hq : q < 18446744073709551616) :
    Calls Try.prog 68 #[.int .u64 q, .pointer (some ⟨cb, 0, none⟩)] W (HasPost w W (hasH H q)) := by
  obtain ⟨b, M, hc0⟩ := h
  have hc := hc0.from k
  obtain ⟨y0, _, hyl⟩ := box1 hcb
  obtain ⟨x0, _, hpl⟩ := box1 hc.box
  obtain ⟨V, hV⟩ : ∃ V, W.alloc (.cells #[.int .i64 0, .slice none 0 0] 24) = V := ⟨_, rfl⟩
  have kV : From W V := by rw [← hV]; exact (From.refl _).alloc _
  have b0 : V.heap[W.heap.size]? = some (.cells #[.int .i64 0, .slice none 0 0] 24 (0, 0)) := by rw [← hV]; exact heap_alloc_new _ _
  have hlk := (hc.map.sameAt (kV.block b hc.map.lt)).look (t := 101) Try.underlying81 Try.underlying101 (zero_snap V) (x := (q : Int)) (wfu64 (by omega))
  obtain ⟨x0, _, _⟩ := box1 (kV.heap hc.box)
  obtain ⟨y0, _, _⟩ := box1 (kV.heap hcb)
  have HB := bx b0
  have HK := bx kV
  have HC := bx hc
  have HC0 := bx hc0
  clear b0 kV hc hc0 hcb
  unfold hasH
  cases hH : H q with
  | none =>
    rw [HC.out.gone q hH] at hlk
    simp only [Option.getD_none, Option.isSome_none, Option.map_none] at hlk ⊢
    clear hH hq
    go_enter Try.func68, Try.ntmps68
    go_upto_region 2 with fail
    obtain ⟨V2, hV2⟩ : ∃ W2, V.alloc (.cells #[.int .i64 0, .slice none 0 0] 24) = W2 := ⟨_, rfl⟩
    have k2 : From V V2 := by rw [← hV2]; exact (From.refl _).alloc _
    obtain ⟨t0, t1, t2, t3, _⟩ := box2 (k2.heap HB.out)
    have g2 : V2.heap[V.heap.size]? = some (.cells #[.int .i64 0, .slice none 0 0] 24 (0, 0)) := by rw [← hV2]; exact heap_alloc_new _ _
    obtain ⟨u0, u1, _, _, _⟩ := box2 g2
    try rw [hV2]
    clear hV2
    go_wp2
    have b9 := box2_set (k2.heap HB.out) (.int .i64 0) (.slice none 0 0)
    refine bodyPost_ret (v := .tuple #[snv 0 (.slice none 0 0), .bool false]) (by simp [results, Try.results68, go_sem, cell_of_row _ _ _ _ _ _ b9]) rfl ?_
    exact ⟨from_set (from_set (HK.out.trans k2) (Nat.le_refl _) _ _) (Nat.le_refl _) _ _, 0, none, 0, 0, rfl, by omega⟩
  | some l =>
    obtain ⟨v, e, r⟩ := HC0.out.there q l hH
    rw [e] at hlk
    simp only [Option.getD_some, Option.isSome_some, Option.map_some] at hlk ⊢
    obtain ⟨A, c, rfl⟩ := r.form
    have HO := bx (HC0.out.ok q l hH)
    have HI := bx r.ints
    have HNN := bx HC0.out.nn
    clear hH hq e r
    go_enter Try.func68, Try.ntmps68
    go_upto_region 2 with fail
    obtain ⟨V2, hV2⟩ : ∃ W2, V.alloc (.cells #[.int .i64 q, .slice A l.length c] 24) = W2 := ⟨_, rfl⟩
    have k2 : From V V2 := by rw [← hV2]; exact (From.refl _).alloc _
    obtain ⟨t0, t1, t2, t3, _⟩ := box2 (k2.heap HB.out)
    have g2 : V2.heap[V.heap.size]? = some (.cells #[.int .i64 q, .slice A l.length c] 24 (0, 0)) := by rw [← hV2]; exact heap_alloc_new _ _
    obtain ⟨u0, u1, _, _, _⟩ := box2 g2
    try rw [hV2]
    clear hV2
    go_wp2
    have b9 := box2_set (k2.heap HB.out) (.int .i64 q) (.slice A l.length c)
    refine bodyPost_ret (v := .tuple #[snv q (.slice A l.length c), .bool true]) (by simp [results, Try.results68, go_sem, cell_of_row _ _ _ _ _ _ b9]) rfl ?_
    obtain ⟨h1, h2, h3⟩ := HO.out
    have hnn := HNN.out
    exact ⟨from_set (from_set (HK.out.trans k2) (Nat.le_refl _) _ _) (Nat.le_refl _) _ _, A, c, rfl, HI.out, by show 0 < l.length; omega, by show l.length ≤ 1000; omega, h1, h3⟩
/-- what Put leaves -/
def SnkPost (S : Nat → Prop) (w : World) (p n m : Nat) (H : Nat → Option (List Int)) (v : Value) (e : Ending) (w' : World) : Prop :=
  e = .returned v ∧ Off S w w' ∧ Snk (GrowS S w w') w' p n m H
def SnkPostX (S : Nat → Prop) (w : World) (p n m : Nat) (H : Nat → Option (List Int)) (v : Value) (e : Ending) (w' : World) : Prop := SnkPost S w p n m H v e w' ∧ OffX p w w'
theorem Snk.grow {S : Nat → Prop} {w w' : World} {p n m m' : Nat} {H : Nat → Option (List Int)} (h : Snk S w p n m H) (k : From w w') (hm : m ≤ m') : Snk (GrowS S w w') w' p n m' H := by
  obtain ⟨b, M, h⟩ := h
  have h := h.from k
  exact ⟨b, M, { h with
    lt := fun i hi => by
      rcases hi with hi | hi
      · exact h.lt i hi
      · exact hi.2
    pS := .inl h.pS
    bS := .inl h.bS
    map := h.map.mono hm
    there := fun q l hq => by obtain ⟨v, e, r⟩ := h.there q l hq; exact ⟨v, e, r.mono fun _ => .inl⟩ }⟩
set_option maxHeartbeats 4000000 in
set_option maxRecDepth 10000 in
theorem putSX_calls (S : Nat → Prop) (p n m : Nat) (H : Nat → Option (List Int)) (v : Value) (l : List Int) (w : World) (h : Snk S w p n m H) (hl : Byts w v l) (hll : l.length ≤ 140737488355328) (hb : bytes l) (hm : m ≤ 1000000) (a c : Int) (t : Bool) (H' : Nat → Option (List Int)) (hx : putP H l = (a, t, c, H')) :
    Calls Try.prog 39 #[.pointer (some ⟨p, 0, none⟩), v] w (SnkPostX S w p n (m + 1) H' (.tuple #[.int .i64 a, .bool t, .int .i64 c])) := by
  obtain ⟨A, cv, rfl⟩ := hl.form
  obtain ⟨W, hW⟩ : ∃ W, w.alloc (.cells #[.pointer (some ⟨p, 0, none⟩)] 49) = W := ⟨_, rfl⟩
  have k0 : From w W := by rw [← hW]; exact (From.refl _).alloc _
  have r0 : W.heap[w.heap.size]? = some (.cells #[.pointer (some ⟨p, 0, none⟩)] 49 (0, 0)) := by rw [← hW]; exact heap_alloc_new _ _
  have HD := bx (decodeP_calls (.pointer (some ⟨w.heap.size, 0, none⟩)) (hasH H) (.slice A l.length cv) l W (hl.from k0) hll hb (fun q bs bv h => by
      unfold hasH at h
      cases hq : H q with
      | none => rw [hq] at h; cases h
      | some x => rw [hq] at h; injection h with h; injection h with h _; exact h.symm)
    (fun V q k hq => put1_calls S p n m H w.heap.size q W V (h.from k0) k (k.heap r0) hq))
  have HH := bx h
  have HX := bx hx
  have HK0 := bx k0
  have HR0 := bx r0
  obtain ⟨D, hD⟩ : ∃ D, decP (hasH H) l = D := ⟨_, rfl⟩
  rw [hD] at HD
  have HDD := bx hD
  clear h hx k0 r0 hl hb hD
  go_enter Try.func39, Try.ntmps39
  go_wp2_with fail
  clear hW
  refine HD.out.mono ?_
  rintro e w1 hd
  cases D with
  | err ec =>
    obtain ⟨rfl, k1⟩ := hd
    have hx := HX.out
    rw [putP, HDD.out] at hx
    simp only [Prod.mk.injEq] at hx
    obtain ⟨rfl, rfl, rfl, rfl⟩ := hx
    have d1 : (ec != 0) = true := by simpa using decP_err HDD.out
    go_wp2
    refine bodyPost_ret (v := .tuple #[.int .i64 0, .bool false, .int .i64 ec]) (by simp [results, Try.results39, go_sem]) rfl ?_
    have kE := (HK0.out.trans k1).trans ((From.refl _).alloc (.cells #[.int .i64 0, .slice none 0 0] 24))
    obtain ⟨b, M, hc⟩ := HH.out
    exact ⟨⟨rfl, Off.of kE, HH.out.grow kE (Nat.le_succ _)⟩, offX_of hc.map (Off.of kE)⟩
  | ok seq vals known all =>
    obtain ⟨gv, cg, gk, rfl, hkl, o1, o2, k1⟩ := hd
    obtain ⟨b, M, hc⟩ := HH.out
    obtain ⟨p7, hp7⟩ : ∃ x, w1.heap.size = x := ⟨_, rfl⟩
    obtain ⟨V, hV⟩ : ∃ V, w1.alloc (.cells #[.int .i64 seq, .slice (some ⟨gv, 0, none⟩) vals.length cg] 24) = V := ⟨_, rfl⟩
    have kV : From w1 V := by rw [← hV]; exact (From.refl _).alloc _
    have g7 : V.heap[p7]? = some (.cells #[.int .i64 seq, .slice (some ⟨gv, 0, none⟩) vals.length cg] 24 (0, 0)) := by rw [← hV, ← hp7]; exact heap_alloc_new _ _
    have kw : From w V := HK0.out.trans (k1.trans kV)
    have hcV := hc.from kw
    have O1 := bx (own_call o1 kV)
    have hsq := decP_ok HDD.out (show 0 < n by have := hc.nn; omega) (fun q x h => by
      unfold hasH at h
      cases hq : H q with
      | none => rw [hq] at h; cases h
      | some y => rw [hq] at h; injection h with h; subst h; have := hc.ok q y hq; exact ⟨rfl, this.2⟩)
    have hx := HX.out
    rw [putP, HDD.out] at hx
    simp only [Prod.mk.injEq] at hx
    obtain ⟨rfl, rfl, rfl, hx4⟩ := hx
    have HX4 := bx hx4
    have HSQ := bx hsq
    have HC := bx hc
    have HCV := bx hcV
    have KW := bx kw
    have G7 := bx g7
    have R2 := bx ((k1.trans kV).heap HR0.out)
    have hs1 := hsq.2.1
    have ew : IntKind.u64.wrap (seq : Int) = (seq : Int) := by rw [IntKind.wrap_u64]; omega
    have HLK := bx (fun (X : World) (k : From V X) => (hcV.from k).map.look (t := 101) Try.underlying81 Try.underlying101 (zero_snap X) (x := (seq : Int)) (wfu64 (by omega)))
    clear hx4 hsq hc hcV kw g7 k1 kV o1 o2
    obtain ⟨t0, t1, t2, t3, hlt7⟩ := box2 G7.out
    obtain ⟨u0, _, _⟩ := box1 R2.out
    obtain ⟨v0, _, _⟩ := box1 HCV.out.box
    cases hH : H seq with
    | none =>
      have hl1 := HLK.out V.drew (From.refl _).drew
      have hl2 := HLK.out (V.alloc (.cells #[.int .i64 0, .slice none 0 0] 24)).drew ((From.refl _).alloc _).drew
      rw [HC.out.gone seq hH] at hl1 hl2
      simp only [Option.getD_none, Option.isSome_none] at hl1 hl2
      go_upto_region 4 with fail
      try rw [hp7]
      try rw [hV]
      clear hV hp7
      go_region
      all_goals
        obtain ⟨X, hX⟩ : ∃ X, (V.alloc (.cells #[.int .i64 0, .slice none 0 0] 24)).drew = X := ⟨_, rfl⟩
        have kX : From V X := by rw [← hX]; exact ((From.refl _).alloc _).drew
        rw [hX]
        clear hX hl1 hl2
        have HKX := bx kX
        have b7 := kX.heap G7.out
        have bp := kX.heap HCV.out.box
        have b2 := kX.heap R2.out
        obtain ⟨t0, t1, t2, t3, hlt7⟩ := box2 b7
        have hx4 := HX4.out
        cases all
        · rw [if_neg (by simp)] at hx4
          subst hx4
          clear bp b2 kX
          go_wp2
          refine bodyPost_ret (v := .tuple #[.int .i64 seq, .bool false, .int .i64 0]) (by simp [results, Try.results39, go_sem]) rfl ?_
          exact ⟨⟨rfl, Off.of (KW.out.trans HKX.out), HH.out.grow (KW.out.trans HKX.out) (Nat.le_succ _)⟩, offX_of HC.out.map (Off.of (KW.out.trans HKX.out))⟩
        · rw [if_pos ⟨rfl, by rw [hH]; rfl⟩] at hx4
          have HX5 := bx hx4
          obtain ⟨W4, hrun, m4, u4⟩ := (show MapIs 81 .u64 X.drew b m _ _ from (HCV.out.from kX).map).put (t := 101) Try.underlying81 Try.underlying101 hm (x := (seq : Int)) (wfu64 (by omega)) (.agg #[.int .i64 seq, .slice (some ⟨gv, 0, none⟩) vals.length cg])
          have HM4 := bx m4
          have HU4 := bx u4
          have hbp := (HCV.out.map.ne HCV.out.box)
          have hb7 := (HCV.out.map.ne G7.out)
          have w7 : W4.heap[p7]? = some (.cells #[.int .i64 seq, .slice (some ⟨gv, 0, none⟩) vals.length cg] 24 (0, 0)) := (u4.grown.block p7 (show p7 < X.heap.size from (Array.getElem?_eq_some_iff.1 b7).1) (by simpa using Ne.symm hb7)).trans b7
          obtain ⟨s0, s1, s2, s3, _⟩ := box2 w7
          obtain ⟨r0, _, _⟩ := box1 (show X.drew.heap[p]? = _ from bp)
          obtain ⟨q0, _, _⟩ := box1 (show X.drew.heap[w.heap.size]? = _ from b2)
          obtain ⟨z0, z1, z2, z3, _⟩ := box2 (show X.drew.heap[p7]? = _ from b7)
          clear hx4 m4 u4 bp b2 b7 kX t0 t1 t2 t3
          go_upto_region 6 with fail
          go_region
          all_goals
            go_wp2
            refine bodyPost_ret (v := .tuple #[.int .i64 seq, .bool true, .int .i64 0]) (by simp [results, Try.results39, go_sem]) rfl ?_
            have hoff : Off S w W4 := Off.turned (b := X.drew) (Off.of (KW.out.trans HKX.out).drew) (.inl HC.out.bS) HU4.out
            have hi4 : ∀ (i : Nat) (cs : Array Value), X.heap[i]? = some (.cells cs 3 (0, 0)) → W4.heap[i]? = some (.cells cs 3 (0, 0)) := fun i cs hi => keepI_turned HU4.out i cs hi
            have hoffX : Off (fun j => j = p ∨ j = b) w W4 := Off.turned (b := X.drew) (Off.of (KW.out.trans HKX.out).drew) (.inl (.inr rfl)) HU4.out
            refine ⟨⟨rfl, hoff, b, (fun y => if y = (seq : Int) then some (.agg #[.int .i64 seq, .slice (some ⟨gv, 0, none⟩) vals.length cg]) else M y), ?_⟩, offX_of HC.out.map hoffX⟩
            rw [← HX5.out]
            obtain ⟨hq1, hq2, hq3, hq4, hq5⟩ := HSQ.out
            exact {
              lt := fun i hi => by
                rcases hi with hi | hi
                · exact Nat.lt_of_lt_of_le (HC.out.lt i hi) hoff.size
                · exact hi.2
              pS := .inl HC.out.pS
              bS := .inl HC.out.bS
              box := (HU4.out.grown.block p (by have := HKX.out.size; have := (Array.getElem?_eq_some_iff.1 HCV.out.box).1; show p < X.heap.size; omega) (by simpa using Ne.symm hbp)).trans (HKX.out.heap HCV.out.box)
              map := HM4.out
              nn := HC.out.nn
              ok := fun q l hl => by
                by_cases e : q = seq
                · subst e
                  simp only [if_true] at hl
                  injection hl with hl
                  subst hl
                  exact ⟨hq2, hq3, hq5⟩
                · simp only [if_neg e] at hl
                  exact HC.out.ok q l hl
              there := fun q l hl => by
                by_cases e : q = seq
                · subst e
                  simp only [if_true] at hl
                  injection hl with hl
                  subst hl
                  refine ⟨.slice (some ⟨gv, 0, none⟩) vals.length cg, by rw [if_pos rfl], irow_of rfl (own_heapOf (own_call O1.out HKX.out) hi4) (fun k a b => .inr ⟨Nat.le_trans HK0.out.size a, b⟩)⟩
                · simp only [if_neg e] at hl
                  obtain ⟨v, e1, r⟩ := HC.out.there q l hl
                  exact ⟨v, by rw [if_neg (by omega), e1], (r.keepI (fun i cs hi => hi4 i cs ((KW.out.trans HKX.out).heap hi))).mono fun _ => .inl⟩
              gone := fun q hq => by
                by_cases e : q = seq
                · subst e; simp at hq
                · simp only [if_neg e] at hq
                  rw [if_neg (by omega)]
                  exact HC.out.gone q hq }
    | some l0 =>
      obtain ⟨v0, e, r⟩ := HC.out.there seq l0 hH
      have hl1 := HLK.out V.drew (From.refl _).drew
      have hl2 := HLK.out (V.alloc (.cells #[.int .i64 0, .slice none 0 0] 24)).drew ((From.refl _).alloc _).drew
      rw [e] at hl1 hl2
      simp only [Option.getD_some, Option.isSome_some] at hl1 hl2
      obtain ⟨A0, c0, rfl⟩ := r.form
      clear e r
      go_upto_region 4 with fail
      try rw [hp7]
      try rw [hV]
      clear hV hp7
      go_region
      all_goals
        obtain ⟨X, hX⟩ : ∃ X, (V.alloc (.cells #[.int .i64 seq, .slice A0 l0.length c0] 24)).drew = X := ⟨_, rfl⟩
        have kX : From V X := by rw [← hX]; exact ((From.refl _).alloc _).drew
        rw [hX]
        clear hX hl1 hl2
        have HKX := bx kX
        obtain ⟨t0, t1, t2, t3, hlt7⟩ := box2 (kX.heap G7.out)
        have hx4 := HX4.out
        rw [if_neg (by rw [hH]; simp)] at hx4
        subst hx4
        clear kX
        cases all
        · go_wp2
          refine bodyPost_ret (v := .tuple #[.int .i64 seq, .bool false, .int .i64 0]) (by simp [results, Try.results39, go_sem]) rfl ?_
          exact ⟨⟨rfl, Off.of (KW.out.trans HKX.out), HH.out.grow (KW.out.trans HKX.out) (Nat.le_succ _)⟩, offX_of HC.out.map (Off.of (KW.out.trans HKX.out))⟩
        · go_wp2
          refine bodyPost_ret (v := .tuple #[.int .i64 seq, .bool true, .int .i64 0]) (by simp [results, Try.results39, go_sem]) rfl ?_
          exact ⟨⟨rfl, Off.of (KW.out.trans HKX.out), HH.out.grow (KW.out.trans HKX.out) (Nat.le_succ _)⟩, offX_of HC.out.map (Off.of (KW.out.trans HKX.out))⟩
theorem putS_calls (S : Nat → Prop) (p n m : Nat) (H : Nat → Option (List Int)) (v : Value) (l : List Int) (w : World) (h : Snk S w p n m H) (hl : Byts w v l) (hll : l.length ≤ 140737488355328) (hb : bytes l) (hm : m ≤ 1000000) (a c : Int) (t : Bool) (H' : Nat → Option (List Int)) (hx : putP H l = (a, t, c, H')) :
    Calls Try.prog 39 #[.pointer (some ⟨p, 0, none⟩), v] w (SnkPost S w p n (m + 1) H' (.tuple #[.int .i64 a, .bool t, .int .i64 c])) :=
  (putSX_calls S p n m H v l w h hl hll hb hm a c t H' hx).mono fun _ _ h => h.1
end Go.Proofs.Ytpdbdpmlppbnnaa
