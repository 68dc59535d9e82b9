/-
  Walk of layer 28: Encode.
-/
import Derived.Test.YtpdbdpmlppbnnaaU11
namespace Go.Proofs.Ytpdbdpmlppbnnaa
open Go.RowKit Go.Shelf

theorem Try.elEnt : ElT Try.prog 96 97 (.agg #[.int .i64 0, .int .i64 0]) 2 16 := ⟨Try.underlying96, info_parts (by kernel_rfl), rfl, by decide⟩
/-- bytes and an error are answered -/
def EncPost (w : World) (x : List Int × Int) (e : Ending) (w' : World) : Prop :=
  ∃ A c, e = .returned (.tuple #[.slice A x.1.length c, .int .i64 x.2]) ∧ w'.ownsRow w.heap.size 5 1 (.slice A x.1.length c) x.1.length (yc x.1) ∧ From w w'
theorem ecs_len (es : List (Nat × Int)) : (es.flatMap ecs).length = es.length * 2 := by
  induction es with
  | nil => rfl
  | cons x t ih => rw [List.flatMap_cons, List.length_append, ih, List.length_cons]; simp [ecs]; omega
theorem ecs_one (es : List (Nat × Int)) : ∀ u ∈ es.flatMap ecs, u.oneCell' = true := by
  intro u hu
  obtain ⟨x, _, hx⟩ := List.mem_flatMap.1 hu
  simp only [ecs, List.mem_cons, List.not_mem_nil, or_false] at hx
  rcases hx with rfl | rfl <;> rfl
theorem own_cap {w : World} {A : Option Addr} {n c base size : Nat} {xs : List Value} {e : TypeId} (h : w.ownsRow base e size (.slice A n c) n xs) : n ≤ c := by
  rcases h.2 with ⟨h1, h2⟩ | ⟨g, cap, cur, h1, _, _, h2, _⟩
  · omega
  · injection h1 with _ _ h3
    omega
theorem sl_prefix {w : World} {B E F c : Nat} {A : Option Addr} {cs ds : List Value} (h : Sl w B (.slice A F c) F (cs ++ ds)) (hA : A ≠ none) : Sl w B (.slice A E c) E cs := by
  rcases h.out with ⟨e, _, _⟩ | ⟨a, c', e, hc⟩
  · injection e with e _ _
    exact absurd e hA
  · injection e with e1 e2 e3
    subst e1 e3
    exact ⟨.inr ⟨a, c, rfl, fun j u hj => hc j u (by rw [List.getElem?_append_left (List.getElem?_eq_some_iff.1 hj).1]; exact hj)⟩⟩
theorem getD_nat (l : List Int) (k : Nat) (h : k < l.length) : l.getD k 0 = l[k] := by simp [List.getD_eq_getElem?_getD, List.getElem?_eq_getElem h]
theorem OkE.snoc {es : List (Nat × Int)} (h : OkE es) {p : Nat} {d : Int} (hp : p ≤ 9223372036854775807) (hd : -9223372036854775808 ≤ d ∧ d ≤ 9223372036854775807) : OkE (es ++ [(p, d)]) := by
  intro x hx
  rcases List.mem_append.1 hx with hx | hx
  · exact h x hx
  · obtain rfl := List.mem_singleton.1 hx
    exact ⟨hp, hd⟩
/-- what Encode is given -/
structure EncIn (w : World) (n bs : Nat) (vb : Value) (bv : List Int) (seq : Nat) (vn : Value) (nv : List Int) (vo : Value) (o : List Nat) : Prop where
  base : Ints w vb bv
  now : Ints w vn nv
  ord : Ints w vo (nl o)
  bl : bv.length = n
  nl_ : nv.length = n
  perm : Perm n o
  pos : 0 < n ∧ n ≤ 100
  bok : ∀ x ∈ bv, fitsV x
  nok : ∀ x ∈ nv, fitsV x
  sok : bs ≤ 1000000 ∧ seq ≤ 1000000
set_option maxHeartbeats 4000000 in
set_option maxRecDepth 10000 in
theorem encode_calls (n bs : Nat) (vb : Value) (bv : List Int) (seq : Nat) (vn : Value) (nv : List Int) (vo : Value) (o : List Nat) (room : Int) (w : World) (h : EncIn w n bs vb bv seq vn nv vo o)
    (x : List Int × Int) (hx : encP bs bv seq nv o room = x) :
    Calls Try.prog 25 #[snv bs vb, snv seq vn, vo, .int .i64 room] w (EncPost w x) := by
  obtain ⟨h1, h2, h3, hbl, hnl, hp, hn, hbok, hnok, hsok⟩ := h
  have ho : (nl o).length = n := by rw [nl_len, hp.len]
  obtain ⟨A1, c1, rfl⟩ := h1.form
  obtain ⟨A2, c2, rfl⟩ := h2.form
  obtain ⟨A3, c3, rfl⟩ := h3.form
  obtain ⟨W, hW⟩ : ∃ W, (w.alloc (.cells #[.int .i64 bs, .slice A1 bv.length c1] 24)).alloc (.cells #[.int .i64 seq, .slice A2 nv.length c2] 24) = W := ⟨_, rfl⟩
  have k0 : From w W := by rw [← hW]; exact (From.alloc (From.refl _) _).alloc _
  have b1 : W.heap[w.heap.size]? = some (.cells #[.int .i64 bs, .slice A1 bv.length c1] 24 (0, 0)) := by rw [← hW]; exact ((From.refl _).alloc _).heap (heap_alloc_new _ _)
  have b2 : W.heap[w.heap.size + 1]? = some (.cells #[.int .i64 seq, .slice A2 nv.length c2] 24 (0, 0)) := by rw [← hW]; have := heap_alloc_new (w.alloc (.cells #[.int .i64 bs, .slice A1 bv.length c1] 24)) (.cells #[.int .i64 seq, .slice A2 nv.length c2] 24); rwa [World.size_alloc] at this
  have HPR := bx (fun (V : World) (k : From w V) => perm_calls A3 c3 n o V (show Ints V (.slice A3 n c3) (nl o) by rw [← ho]; exact h3.from k) hp (by omega))
  have HCT := bx (fun (V : World) (k : From w V) => contains_calls 62 (.inl rfl) (.slice A2 nv.length c2) nv V (h2.from k) (by omega) hnok)
  have HPD := bx (fun (V : World) (k : From w V) (hq : bs ≤ seq) => predict_calls bs seq (.slice A1 bv.length c1) bv V (h1.from k) (by omega) (by omega) hbok (by omega) _ rfl)
  have HPK := bx (fun (V : World) (all : Bool) (v : Value) (es : List (Nat × Int)) (hv : Ents V v es) (hl : es.length ≤ 1000) (he : OkE es) => packet_calls bs seq all v es V hv hl he (by omega) (by omega) _ rfl)
  have HI := bx (fun (V : World) (k : From w V) => And.intro (h2.from k) (h3.from k))
  have HPL := bx hp.lt
  have HPN := bx hp.len
  have HBO := bx hbok
  have HNO := bx hnok
  rw [hbl] at hW b1 HPD ⊢
  rw [hnl] at hW b2 HCT ⊢
  rw [ho] at ⊢
  have HBL := bx hbl
  have HNL := bx hnl
  have HO := bx ho
  have HX := bx hx
  have HB1 := bx (fun (V : World) (k : From W V) => box2 (k.heap b1))
  have HB2 := bx (fun (V : World) (k : From W V) => box2 (k.heap b2))
  have HK := bx k0
  clear h1 h2 h3 hbok hnok hp hbl hnl ho hx b1 b2 k0
  obtain ⟨q0, q1, _, _, _⟩ := HB1.out W (From.refl _)
  obtain ⟨r0, r1, _, _, _⟩ := HB2.out W (From.refl _)
  go_enter Try.func25, Try.ntmps25
  go_wp2_with fail
  clear hW
  clear q0 q1 r0 r1
  refine (HPR.out W HK.out).mono ?_
  rintro e w1 ⟨rfl, k1⟩
  obtain ⟨q0, q1, _, _, _⟩ := HB1.out w1 k1
  obtain ⟨r0, r1, _, _, _⟩ := HB2.out w1 k1
  have z1 : decide ((seq : Int) < 0) = false := decide_eq_false (by omega)
  have z2 : decide ((seq : Int) > 1000000) = false := decide_eq_false (by omega)
  go_wp2_with fail
  refine (HCT.out w1 (HK.out.trans k1)).mono ?_
  rintro e w2 ⟨rfl, rfl⟩
  by_cases hsq : seq ≤ bs
  · have z3 : decide (seq ≤ bs) = true := decide_eq_true hsq
    have HXX := bx (show ([], 23) = x by rw [← HX.out, encP, if_pos hsq])
    go_wp2
    refine bodyPost_ret (v := .tuple #[.slice none 0 0, .int .i64 23]) (by simp [results, Try.results25, go_sem]) rfl ?_
    rw [← HXX.out]
    exact ⟨none, 0, rfl, own_nil _ _ _ _, HK.out.trans k1⟩
  have z3 : decide (seq ≤ bs) = false := decide_eq_false hsq
  have hsq2 : bs ≤ seq := by omega
  have HSQ := bx hsq
  clear hsq
  go_wp2_with fail
  refine (HPD.out w2 (HK.out.trans k1) hsq2).mono ?_
  rintro e w3 ⟨A4, c4, rfl, o4, k3⟩
  have k13 := k1.trans k3
  have HPRED := bx (sl_of_own o4)
  have hpl := predP_len bv bs seq
  rw [HBL.out] at hpl
  have HPF := bx (predP_fits (bs := bs) (seq := seq) HBO.out (by omega))
  have HPL1 : Bx (encP bs bv seq nv o room = if room < ((pkB bs seq 1 []).length : Int) then ([], 2) else (encGo bs seq room nv (predP bv bs seq) o [], 0)) := ⟨by rw [encP, if_neg HSQ.out]⟩
  generalize predP bv bs seq = pred at *
  rw [hpl] at HPRED ⊢
  have HPLN := bx hpl
  clear q0 q1 r0 r1 o4 hpl k1 k3 z1 z2 z3
  obtain ⟨q0, q1, _, _, _⟩ := HB1.out w3 k13
  obtain ⟨r0, r1, _, _, _⟩ := HB2.out w3 k13
  go_wp2_with fail
  refine (HPK.out w3 true (.slice none 0 0) [] (Sl.nil _ _) (by simp) (fun y hy => nomatch hy)).mono ?_
  rintro e w4 ⟨A5, c5, rfl, o5, k4⟩
  clear q0 q1 r0 r1 o5
  rw [if_pos rfl]
  generalize (pkB bs seq 1 []).length = M at *
  have k14 := k13.trans k4
  obtain ⟨q0, q1, _, _, _⟩ := HB1.out w4 k14
  obtain ⟨r0, r1, _, _, _⟩ := HB2.out w4 k14
  by_cases hrm : room < (M : Int)
  · have z4 : decide ((M : Int) > room) = true := decide_eq_true hrm
    have HXX := bx (show ([], 2) = x by rw [← HX.out, HPL1.out, if_pos hrm])
    clear hrm
    go_wp2
    refine bodyPost_ret (v := .tuple #[.slice none 0 0, .int .i64 2]) (by simp [results, Try.results25, go_sem]) rfl ?_
    rw [← HXX.out]
    exact ⟨none, 0, rfl, own_nil _ _ _ _, HK.out.trans k14⟩
  have z4 : decide ((M : Int) > room) = false := decide_eq_false hrm
  obtain ⟨R, hR⟩ : ∃ R, encGo bs seq room nv pred o [] = R := ⟨_, rfl⟩
  have HXX := bx (show (R, 0) = x by rw [← HX.out, HPL1.out, if_neg hrm, hR])
  have HRR := bx hR
  clear hR hrm
  go_wp2_with fail
  clear q0 q1 r0 r1 z4
  go_loopw [12, 68] (fun ev i wr => ∃ (k : Nat) (es : List (Nat × Int)), k ≤ n ∧ es.length ≤ k ∧ i = .int .i64 k ∧ wr.ownsRow w4.heap.size 97 2 ev es.length (es.flatMap ecs) ∧ From w4 wr ∧ OkE es ∧ encGo bs seq room nv pred (o.drop k) es = R) (fun _ i _ => n - (intOf i).toNat)
  case atStart => exact ⟨0, [], Nat.zero_le _, Nat.le_refl _, rfl, own_nil _ _ _ _, From.refl _, (fun y hy => nomatch hy), HRR.out⟩
  case round =>
    obtain ⟨k, es, hk, hel, rfl, ho, hf, hok, hg⟩ := hrel
    have HO4 := bx ho
    have HF4 := bx hf
    have HOK := bx hok
    have HG := bx hg
    obtain ⟨E, hE⟩ : ∃ E, es.length = E := ⟨_, rfl⟩
    rw [hE] at HO4 hel
    have HE := bx hE
    have k1r := k14.trans hf
    have kwr := HK.out.trans k1r
    obtain ⟨q0, q1, _, _, _⟩ := HB1.out wr k1r
    obtain ⟨r0, r1, _, _, _⟩ := HB2.out wr k1r
    have hszr := Below.size kwr
    clear ho hf hok hg hE
    by_cases hlt : k < n
    · have hlt2 : k < o.length := by rw [HPN.out]; exact hlt
      obtain ⟨hI2, hI3⟩ := HI.out wr kwr
      obtain ⟨bo, fo, rfl, _, v1⟩ := ints_at hI3 (k := k) (by rw [HO.out]; exact hlt)
      have e1 : (nl o)[k]'(by rw [HO.out]; exact hlt) = (o[k] : Int) := by simp [nl]
      rw [e1] at v1
      have hpn := HPL.out o[k] (List.getElem_mem hlt2)
      have hg2 : encGo bs seq room nv pred (o[k] :: o.drop (k + 1)) es = R := by rw [← List.drop_eq_getElem_cons hlt2]; exact HG.out
      generalize o[k] = p at *
      obtain ⟨b2, f2, rfl, _, v2⟩ := ints_at hI2 (k := p) (by rw [HNL.out]; exact hpn)
      obtain ⟨b4, f4, rfl, _, v4⟩ := ints_at (HPRED.out.from (k4.trans HF4.out)) (k := p) (by rw [HPLN.out]; exact hpn)
      have hp2 : p < nv.length := by rw [HNL.out]; exact hpn
      have hp4 : p < pred.length := by rw [HPLN.out]; exact hpn
      have hx1 := HNO.out nv[p] (List.getElem_mem hp2)
      have hx2 := HPF.out pred[p] (List.getElem_mem hp4)
      have g1 := getD_nat nv p (by rw [HNL.out]; exact hpn)
      have g2 := getD_nat pred p (by rw [HPLN.out]; exact hpn)
      rw [encGo, g1, g2] at hg2
      have HG2 := bx hg2
      generalize nv[p] = x1 at *
      generalize pred[p] = x2 at *
      unfold fitsV at hx1 hx2
      have e2 : IntKind.i64.wrap (x1 - x2) = x1 - x2 := IntWalk.i64_in _ (by omega)
      obtain ⟨d, hd⟩ : ∃ d, x1 - x2 = d := ⟨_, rfl⟩
      rw [hd] at HG2 e2
      have z1 : (k : Int) < (n : Int) := by omega
      have z2 : (0 : Int) ≤ (k : Int) := by omega
      have z3 : (p : Int) < (n : Int) := by omega
      have z4 : (0 : Int) ≤ (p : Int) := by omega
      have hdb : -9223372036854775808 ≤ d ∧ d ≤ 9223372036854775807 := by omega
      clear hI2 hI3 e1 g1 g2 hg2 hx1 hx2
      by_cases hd0 : d = 0
      · have y1 : (d != 0) = false := by simp [hd0]
        have HG3 := bx (show encGo bs seq room nv pred (o.drop (k + 1)) es = R by rw [← HG2.out, if_pos hd0])
        clear hd0
        go_wp2_with fail
        go_quiet (fail)
        go_wp2
        go_roundw
        case rel => exact ⟨k + 1, es, by omega, by rw [HE.out]; omega, by go_num, by rw [HE.out]; exact own_drewN HO4.out _, HF4.out.drewN _, HOK.out, HG3.out⟩
        case measure => simp [intOf]; omega
      · have y1 : (d != 0) = true := by simpa using hd0
        have HG3 := bx (show (if room < ((pkB bs seq 1 (es ++ [(p, d)])).length : Int) then pkB bs seq 0 es else encGo bs seq room nv pred (o.drop (k + 1)) (es ++ [(p, d)])) = R by rw [← HG2.out, if_neg hd0])
        clear hd0
        have hsz4 := Below.size HF4.out
        obtain ⟨AE, cE, rfl⟩ := slice_form HO4.out
        go_wp2_with fail
        go_quiet (fail)
        go_wp2_with (at_builtin; refine app_sl rfl _ _ 96 rfl Try.elEnt rfl ((own_drewN HO4.out nq).alloc _) 1 [.int .i64 p, .int .i64 d] rfl (sl_new (wr.drewN nq) [.int .i64 p, .int .i64 d] 97 1 1) rfl (by simp [Value.oneCell']) (by omega) (by unfold maxLen; omega) (by simp; omega) ?_; intro A6 c6 w6 o6 g6 _; have k46 := From.app ((HF4.out.drewN nq).alloc (.cells #[.int .i64 p, .int .i64 d] 97)) ((own_drewN HO4.out nq).alloc (.cells #[.int .i64 p, .int .i64 d] 97)) (Nat.le_refl _) g6; obtain ⟨s0, s1, _, _, _⟩ := HB1.out w6 (k14.trans k46); obtain ⟨t0, t1, _, _, _⟩ := HB2.out w6 (k14.trans k46))
        obtain ⟨gE, hA6e⟩ : ∃ gE, A6 = some ⟨gE, 0, none⟩ := by
          obtain ⟨g, cap, hv, _⟩ := o6.form (by omega)
          injection hv with hv _ _
          exact ⟨g, hv⟩
        subst hA6e
        have HS6 := bx (show Ents w6 (.slice (some ⟨gE, 0, none⟩) (E + 1) c6) (es ++ [(p, d)]) by
          have h := sl_of_own o6
          have e1 : (es ++ [(p, d)]).length = E + 1 := by rw [List.length_append, HE.out]; rfl
          show Sl _ _ _ _ _
          rw [e1, List.flatMap_append]
          exact h)
        have hA6 : (some (⟨gE, 0, none⟩ : Addr)) ≠ none := by simp
        have HS5 := bx (show Sl w6 w6.heap.size (.slice (some ⟨gE, 0, none⟩) E c6) E (es.flatMap ecs) from sl_prefix (sl_of_own o6) hA6)
        have HOK2 := bx (HOK.out.snoc (p := p) (d := d) (by omega) hdb)
        have HC6 := bx (own_cap o6)
        have HO6 := bx o6
        clear o6 hA6
        have e5 : (es ++ [(p, d)]).length = E + 1 := by rw [List.length_append, HE.out]; rfl
        refine (HPK.out w6 true (.slice (some ⟨gE, 0, none⟩) (E + 1) c6) _ HS6.out (by rw [e5]; omega) HOK2.out).mono ?_
        rintro e w8 ⟨A8, c8, rfl, o8, k8⟩
        rw [if_pos rfl]
        generalize (pkB bs seq 1 (es ++ [(p, d)])).length = M2 at *
        have k48 := k46.trans k8
        clear s0 s1 t0 t1 e5 o8
        obtain ⟨s0, s1, _, _, _⟩ := HB1.out w8 (k14.trans k48)
        obtain ⟨t0, t1, _, _, _⟩ := HB2.out w8 (k14.trans k48)
        by_cases hrm2 : room < (M2 : Int)
        · have z5 : decide ((M2 : Int) > room) = true := decide_eq_true hrm2
          have HG4 := bx (show pkB bs seq 0 es = R by rw [← HG3.out, if_pos hrm2])
          have e6 : IntKind.i64.wrap (E : Int) = (E : Int) := IntWalk.i64_in _ (by omega)
          have hE6 : E ≤ c6 := by have := HC6.out; omega
          have hE7 : (E : Int) ≤ (c6 : Int) := by omega
          have hc0 : ¬ c6 = 0 := by have := HC6.out; omega
          have hE8 : (0 : Int) ≤ (E : Int) := by omega
          clear hrm2
          go_wp2_with fail
          have HPK0 : Bx (∀ V, From w8 V → Calls Try.prog 64 #[.int .i64 bs, .int .i64 seq, .bool false, .slice (some ⟨gE, 0, none⟩) E c6] V (YRow V R)) := ⟨fun V k => by
            have := HPK.out V false (.slice (some ⟨gE, 0, none⟩) E c6) es (show Sl _ _ _ es.length _ by rw [HE.out]; exact HS5.out.from (k8.trans k)) (by rw [HE.out]; omega) HOK.out
            rw [if_neg (by decide), HG4.out] at this
            exact this⟩
          go_region_with (go_at_call 64; refine (HPK0.out _ (by first | exact From.refl _ | exact From.drew (From.refl _))).mono ?_; rintro e w9 ⟨A9, c9, rfl, o9, k9⟩)
          all_goals
            have kx : From w8 w9 := by first | exact k9 | exact From.trans (From.drew (From.refl _)) k9
            have ox : w9.ownsRow w8.heap.size 5 1 (.slice A9 R.length c9) R.length (yc R) := o9
            go_wp2
            refine bodyPost_ret (v := .tuple #[.slice A9 R.length c9, .int .i64 0]) (by simp [results, Try.results25, go_sem]) rfl ?_
            rw [← HXX.out]
            exact ⟨A9, c9, rfl, own_base ox (by have := Below.size (HK.out.trans (k14.trans k48)); omega), (HK.out.trans (k14.trans k48)).trans kx⟩
        · have z5 : decide ((M2 : Int) > room) = false := decide_eq_false hrm2
          have HG4 := bx (show encGo bs seq room nv pred (o.drop (k + 1)) (es ++ [(p, d)]) = R by rw [← HG3.out, if_neg hrm2])
          clear hrm2
          go_wp2
          go_roundw
          case rel =>
            have e1 : (es ++ [(p, d)]).length = E + 1 := by rw [List.length_append, HE.out]; rfl
            refine ⟨k + 1, es ++ [(p, d)], by omega, by rw [e1]; omega, by go_num, ?_, k48, HOK2.out, HG4.out⟩
            rw [e1, List.flatMap_append]
            exact own_call HO6.out k8
          case measure => simp [intOf]; omega
    · obtain rfl : k = n := by omega
      have hd : o.drop k = [] := List.drop_of_length_le (by rw [HPN.out]; exact Nat.le_refl _)
      have HG3 := bx (show pkB bs seq 1 es = R by rw [← HG.out, hd, encGo])
      obtain ⟨AE, cE, rfl⟩ := slice_form HO4.out
      clear hd
      go_wp2_with fail
      refine (HPK.out wr true (.slice AE E cE) es (show Sl _ _ _ es.length _ by rw [HE.out]; exact sl_of_own HO4.out) (by rw [HE.out]; omega) HOK.out).mono ?_
      rintro e w8 ⟨A8, c8, rfl, o8, k8⟩
      rw [if_pos rfl] at o8 ⊢
      rw [HG3.out] at o8 ⊢
      go_wp2
      refine bodyPost_ret (v := .tuple #[.slice A8 R.length c8, .int .i64 0]) (by simp [results, Try.results25, go_sem]) rfl ?_
      rw [← HXX.out]
      exact ⟨A8, c8, rfl, own_base o8 (by have := Below.size kwr; omega), kwr.trans k8⟩
end Go.Proofs.Ytpdbdpmlppbnnaa
