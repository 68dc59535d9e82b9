/-
  Walks of layer 28's reference: complete, packet.
  Walks of layer 28's reference: Encode.
  Layer 28's reference: rows of snapshots in memory; NewSource, NewSink, Take.
  Layer 28's reference: Ints, Take.
  Layer 28's reference: Ack.
  Layer 28's reference: Packet.
  Layer 28's reference: find, Get.
  Layer 28's reference: marked.
  Layer 28's reference: what Put answers (plain).
  Layer 28's reference: Put.
-/
import Derived.Test.YtpdbdpmlppbnnaaU12
import Derived.Test.YtpdbdpmlppbnnaaN4
import Derived.Test.YtpdbdpmlppbnnaaU24
import Derived.Deep.CutRange
import Derived.Test.YtpdbdpmlppbnnaaN8
import Derived.Test.YtpdbdpmlppbnnaaU20
import Derived.Test.YtpdbdpmlppbnnaaV7
import Derived.Test.YtpdbdpmlppbnnaaS4
namespace Go.Proofs.Ytpdbdpmlppbnnaa
open Go.RowKit Go.Shelf

theorem completeR_calls (A : Option Addr) (c n : Nat) (o : List Nat) (w : World) (h : Ints w (.slice A n c) (nl o)) (hp : Perm n o) (hn : n ≤ 1000000) :
    Calls Try.prog 93 #[.slice A n c, .int .i64 n] w fun e w' => e = .returned (.bool true) ∧ w' = w := by
  have hl : (nl o).length = n := by rw [nl_len, hp.len]
  have HH := bx (fun (k : Nat) (hk : k < n) => (show Calls Try.prog 106 #[.slice A n c, .int .i64 k] w fun e w' => e = .returned (.bool true) ∧ w' = w by
    have := has_val A c (nl o) (k : Int) w (by rw [hl]; exact h) (by rw [hl]; omega) true (by
      rw [List.contains_iff_mem]
      exact List.mem_map.2 ⟨k, hp.mem hk, rfl⟩)
    rwa [hl] at this))
  clear h hp hl
  have e0 : ((n : Int) != (n : Int)) = false := by simp
  go_enter Try.func93, Try.ntmps93
  go_wp2_with fail
  go_loopw [5] (fun i wr => ∃ k : Nat, k ≤ n ∧ i = .int .i64 k ∧ wr = w) (fun i _ => n - (intOf i).toNat)
  case atStart => exact ⟨0, Nat.zero_le _, rfl, rfl⟩
  case round =>
    obtain ⟨k, hk, rfl, rfl⟩ := hrel
    by_cases hlt : k < n
    · have z1 : decide ((k : Int) < (n : Int)) = true := decide_eq_true (by omega)
      have HK := bx (HH.out k hlt)
      go_wp2_with fail
      refine HK.out.mono ?_
      rintro e w1 ⟨rfl, hw⟩
      rw [hw]
      clear hw w1
      go_wp2
      go_roundw
      case rel => exact ⟨k + 1, by omega, by go_num, trivial⟩
      case measure => simp [intOf]; omega
    · obtain rfl : k = n := by omega
      have z1 : decide ((k : Int) < (k : Int)) = false := decide_eq_false (by omega)
      go_wp2
      go_ret
      exact ⟨rfl, rfl⟩
set_option maxHeartbeats 1000000 in
theorem packetR_calls (bs seq count : Nat) (all : Bool) (v : Value) (L : List Int) (w : World) (h : Byts w v L) (hl : L.length ≤ 1000000) (hbs : bs ≤ 9223372036854775807) (hsq : seq ≤ 9223372036854775807) (hct : count ≤ 9223372036854775807) (z : List Int)
    (hz : encU bs ++ encU seq ++ [if all then 1 else 0] ++ encU count ++ L = z) :
    Calls Try.prog 94 #[.int .i64 bs, .int .i64 seq, .bool all, .int .i64 count, v] w (YRow w z) := by
  obtain ⟨A, c, rfl⟩ := h.form
  have H := bx h
  have HZ := bx hz
  obtain ⟨N, hN⟩ : ∃ N, L.length = N := ⟨_, rfl⟩
  have HN := bx hN
  rw [hN] at hl H ⊢
  clear h hz hN
  have e1 : IntKind.u64.wrap (bs : Int) = (bs : Int) := by rw [IntKind.wrap_u64]; omega
  have e2 : IntKind.u64.wrap (seq : Int) = (seq : Int) := by rw [IntKind.wrap_u64]; omega
  have e3 : IntKind.u64.wrap (count : Int) = (count : Int) := by rw [IntKind.wrap_u64]; omega
  have P1 := bx (fun (V : World) => fUint_calls bs V (by omega))
  have P2 := bx (fun (V : World) => fUint_calls seq V (by omega))
  have P3 := bx (fun (V : World) => fUint_calls count V (by omega))
  obtain ⟨l1, hl1⟩ : ∃ l1, encU bs = l1 := ⟨_, rfl⟩
  obtain ⟨l2, hl2⟩ : ∃ l2, encU seq = l2 := ⟨_, rfl⟩
  obtain ⟨l3, hl3⟩ : ∃ l3, encU count = l3 := ⟨_, rfl⟩
  have n1 : l1.length ≤ 10 := by rw [← hl1]; exact encU_len 9 _ (by omega)
  have n2 : l2.length ≤ 10 := by rw [← hl2]; exact encU_len 9 _ (by omega)
  have n3 : l3.length ≤ 10 := by rw [← hl3]; exact encU_len 9 _ (by omega)
  rw [hl1] at P1 HZ
  rw [hl2] at P2 HZ
  rw [hl3] at P3 HZ
  clear hl1 hl2 hl3
  obtain ⟨m1, hm1⟩ : ∃ m, l1.length = m := ⟨_, rfl⟩
  obtain ⟨m2, hm2⟩ : ∃ m, l2.length = m := ⟨_, rfl⟩
  obtain ⟨m3, hm3⟩ : ∃ m, l3.length = m := ⟨_, rfl⟩
  have HM1 := bx hm1
  have HM2 := bx hm2
  have HM3 := bx hm3
  rw [hm1] at n1
  rw [hm2] at n2
  rw [hm3] at n3
  clear hm1 hm2 hm3
  cases all
  all_goals
    go_enter Try.func94, Try.ntmps94
    go_wp2_with fail
    refine (P1.out w).mono ?_
    rintro e w1 ⟨A1, c1, rfl, o1, k1⟩
    rw [HM1.out] at o1 ⊢
    have O1 := bx o1
    clear o1
    go_wp2_with fail
    refine (P2.out w1).mono ?_
    rintro e w2 ⟨A2, c2, rfl, o2, k2⟩
    rw [HM2.out] at o2 ⊢
    have O1 := bx (own_call O1.out k2)
    have O2 := bx (sl_of_own o2)
    have K2 := bx (k1.trans k2)
    have s2 := Below.size K2.out
    clear o2 k1 k2
    go_upto_region 2 with (at_builtin; refine app_sl rfl _ _ 31 rfl Try.elByte rfl O1.out m2 (yc l2) rfl O2.out (by simp [yc, HM2.out]) (yc_one l2) (by omega) (by unfold maxLen; omega) s2 ?_; intro A3 c3 w3 o3 g3 _)
    have O3 := bx o3
    have K3 := bx (From.app K2.out O1.out (Nat.le_refl _) g3)
    have s3 := Below.size K3.out
    clear o3 g3 s2
    go_upto_region 5 with (at_builtin; refine app_sl rfl _ _ 31 rfl Try.elByte rfl (O3.out.alloc _) 1 (yc [_]) rfl (sl_new w3 (yc [_]) 5 1 1) rfl (yc_one _) (by omega) (by unfold maxLen; omega) (by simp; omega) ?_; intro A4 c4 w4 o4 g4 _)
    have K4 := bx (From.app (K3.out.alloc _) (O3.out.alloc _) (Nat.le_refl _) g4)
    have O4 := bx o4
    have s4 := Below.size K4.out
    clear o4 g4 s3
    go_wp2_with fail
    refine (P3.out w4).mono ?_
    rintro e w5 ⟨A5, c5, rfl, o5, k5⟩
    rw [HM3.out] at o5 ⊢
    have O5 := bx (own_call O4.out k5)
    have K5 := bx (K4.out.trans k5)
    have S5 := bx (sl_of_own o5)
    have s5 := Below.size K5.out
    clear o5 k5 s4
    go_upto_region 6 with (at_builtin; refine app_sl rfl _ _ 31 rfl Try.elByte rfl O5.out m3 (yc l3) rfl S5.out (by simp [yc, HM3.out]) (yc_one l3) (by omega) (by unfold maxLen; omega) s5 ?_; intro A6 c6 w6 o6 g6 _)
    have K6 := bx (From.app K5.out O5.out (Nat.le_refl _) g6)
    have O6 := bx o6
    have s6 := Below.size K6.out
    have H6 := bx (show Sl w6 w6.heap.size (.slice A N c) N (yc L) by have := (H.out.below K6.out).more s6; rwa [HN.out] at this)
    clear o6 g6 s5
    go_wp2_with (at_builtin; refine app_sl rfl _ _ 31 rfl Try.elByte rfl O6.out N (yc L) rfl H6.out (by simp [yc, HN.out]) (yc_one L) (by omega) (by unfold maxLen; omega) s6 ?_; intro A7 c7 w7 o7 g7 _)
    go_ret
    have K7 := From.app K6.out O6.out (Nat.le_refl _) g7
    have hzl : z.length = m1 + m2 + 1 + m3 + N := by rw [← HZ.out]; simp only [List.length_append, HM1.out, HM2.out, HM3.out, HN.out, List.length_singleton]
    refine ⟨A7, c7, ret_slice hzl.symm, ?_, K7⟩
    rw [hzl, ← HZ.out]
    simp only [yc_append]
    exact o7
end Go.Proofs.Ytpdbdpmlppbnnaa

namespace Go.Proofs.Ytpdbdpmlppbnnaa
open Go.RowKit Go.Shelf

theorem pk_eq (bs seq m : Nat) (hm : m ≤ 1) (es : List (Nat × Int)) : encU bs ++ encU seq ++ [(m : Int)] ++ encU es.length ++ es.flatMap entB = pkB bs seq m es := by
  rw [pkB, encU_lt (n := m) (by omega)]
theorem ent_snoc (es : List (Nat × Int)) (p : Nat) (d : Int) : (es ++ [(p, d)]).flatMap entB = es.flatMap entB ++ encU p ++ encU (zig d) := by
  rw [List.flatMap_append]
  simp [entB]
set_option maxHeartbeats 4000000 in
set_option maxRecDepth 10000 in
theorem encodeR_calls (n bs : Nat) (vb : Value) (bv : List Int) (seq : Nat) (vn : Value) (nv : List Int) (vo : Value) (o : List Nat) (room : Int) (w : World) (h : EncIn w n bs vb bv seq vn nv vo o)
    (x : List Int × Int) (hx : encP bs bv seq nv o room = x) :
    Calls Try.prog 67 #[snv bs vb, snv seq vn, vo, .int .i64 room] w (EncPost w x) := by
  obtain ⟨h1, h2, h3, hbl, hnl, hp, hn, hbok, hnok, hsok⟩ := h
  have ho : (nl o).length = n := by rw [nl_len, hp.len]
  obtain ⟨A1, c1, rfl⟩ := h1.form
  obtain ⟨A2, c2, rfl⟩ := h2.form
  obtain ⟨A3, c3, rfl⟩ := h3.form
  obtain ⟨W, hW⟩ : ∃ W, (w.alloc (.cells #[.int .i64 bs, .slice A1 bv.length c1] 24)).alloc (.cells #[.int .i64 seq, .slice A2 nv.length c2] 24) = W := ⟨_, rfl⟩
  have k0 : From w W := by rw [← hW]; exact (From.alloc (From.refl _) _).alloc _
  have b1 : W.heap[w.heap.size]? = some (.cells #[.int .i64 bs, .slice A1 bv.length c1] 24 (0, 0)) := by rw [← hW]; exact ((From.refl _).alloc _).heap (heap_alloc_new _ _)
  have b2 : W.heap[w.heap.size + 1]? = some (.cells #[.int .i64 seq, .slice A2 nv.length c2] 24 (0, 0)) := by rw [← hW]; have := heap_alloc_new (w.alloc (.cells #[.int .i64 bs, .slice A1 bv.length c1] 24)) (.cells #[.int .i64 seq, .slice A2 nv.length c2] 24); rwa [World.size_alloc] at this
  have HCO := bx (fun (V : World) (k : From w V) => completeR_calls A3 c3 n o V (show Ints V (.slice A3 n c3) (nl o) by rw [← ho]; exact h3.from k) hp (by omega))
  have HVA := bx (fun (V : World) (k : From w V) => validR_calls seq (.slice A2 nv.length c2) nv V (h2.from k) (by omega) true ⟨fun _ => ⟨hnok, by omega, by omega⟩, fun _ => rfl⟩)
  have HPD := bx (fun (V : World) (k : From w V) (hq : bs ≤ seq) => predR_calls bs seq (.slice A1 bv.length c1) bv V (h1.from k) (by omega) hbok (by omega) _ rfl)
  have HPK := bx (fun (V : World) (all : Bool) (count : Nat) (v : Value) (L : List Int) (hv : Byts V v L) (hl : L.length ≤ 1000000) (hc : count ≤ 9223372036854775807) => packetR_calls bs seq count all v L V hv hl (by omega) (by omega) hc _ rfl)
  have HFW := bx (fun (V : World) (A : Option Addr) (c : Nat) (l : List Int) (h : Byts V (.slice A l.length c) l) (hl : l.length ≤ 1000000) (hc : l.length ≤ c) => few_calls A c l V h hl hc)
  have HUI := bx (fun (V : World) (m : Nat) (hm : m < 18446744073709551616) => fUint_calls m V hm)
  have HIN := bx (fun (V : World) (d : Int) (hd : -9223372036854775808 ≤ d ∧ d ≤ 9223372036854775807) => fInt_calls d V hd)
  have HI := bx (fun (V : World) (k : From w V) => And.intro (h2.from k) (h3.from k))
  have HPL := bx hp.lt
  have HPN := bx hp.len
  have HBO := bx hbok
  have HNO := bx hnok
  rw [hbl] at hW b1 HPD ⊢
  rw [hnl] at hW b2 HVA ⊢
  rw [ho] at ⊢
  have HBL := bx hbl
  have HNL := bx hnl
  have HO := bx ho
  have HX := bx hx
  have HB1 := bx (fun (V : World) (k : From W V) => box2 (k.heap b1))
  have HB2 := bx (fun (V : World) (k : From W V) => box2 (k.heap b2))
  have HK := bx k0
  clear h1 h2 h3 hbok hnok hp hbl hnl ho hx b1 b2 k0
  obtain ⟨q0, q1, _, _, _⟩ := HB1.out W (From.refl _)
  obtain ⟨r0, r1, _, _, _⟩ := HB2.out W (From.refl _)
  have e0 : ((n : Int) != (n : Int)) = false := by simp
  go_enter Try.func67, Try.ntmps67
  go_wp2_with fail
  clear hW
  refine (HCO.out W HK.out).mono ?_
  rintro e w1 ⟨rfl, hw1⟩
  rw [hw1]
  clear hw1 w1
  go_wp2_with fail
  clear q0 q1 r0 r1
  refine (HVA.out W HK.out).mono ?_
  rintro e w1 ⟨rfl, k1⟩
  obtain ⟨q0, q1, _, _, _⟩ := HB1.out w1 k1
  obtain ⟨r0, r1, _, _, _⟩ := HB2.out w1 k1
  by_cases hsq : seq ≤ bs
  · have z3 : decide (seq ≤ bs) = true := decide_eq_true hsq
    have HXX := bx (show ([], 23) = x by rw [← HX.out, encP, if_pos hsq])
    go_wp2
    refine bodyPost_ret (v := .tuple #[.slice none 0 0, .int .i64 23]) (by simp [results, Try.results67, go_sem]) rfl ?_
    rw [← HXX.out]
    exact ⟨none, 0, rfl, own_nil _ _ _ _, HK.out.trans k1⟩
  have z3 : decide (seq ≤ bs) = false := decide_eq_false hsq
  have hsq2 : bs ≤ seq := by omega
  have HSQ := bx hsq
  clear hsq
  go_wp2_with fail
  refine (HPK.out w1 false 0 (.slice none 0 0) [] (Sl.nil _ _) (by simp) (by omega)).mono ?_
  rintro e w2 ⟨A5, c5, rfl, _, k2⟩
  have hM : (encU bs ++ encU seq ++ [if (false = true) then (1 : Int) else 0] ++ encU 0 ++ []).length = (pkB bs seq 1 []).length := by
    have := pk_eq bs seq 0 (by omega) []
    simp only [List.length_nil, List.flatMap_nil] at this
    rw [← pkB_mark, ← this]
    simp
  rw [hM]
  clear hM q0 q1 r0 r1
  have HPL1 : Bx (encP bs bv seq nv o room = if room < ((pkB bs seq 1 []).length : Int) then ([], 2) else (encGo bs seq room nv (predP bv bs seq) o [], 0)) := ⟨by rw [encP, if_neg HSQ.out]⟩
  generalize (pkB bs seq 1 []).length = M at *
  have k12 := k1.trans k2
  obtain ⟨q0, q1, _, _, _⟩ := HB1.out w2 k12
  obtain ⟨r0, r1, _, _, _⟩ := HB2.out w2 k12
  by_cases hrm : room < (M : Int)
  · have z4 : decide ((M : Int) > room) = true := decide_eq_true hrm
    have HXX := bx (show ([], 2) = x by rw [← HX.out, HPL1.out, if_pos hrm])
    clear hrm
    go_wp2
    refine bodyPost_ret (v := .tuple #[.slice none 0 0, .int .i64 2]) (by simp [results, Try.results67, go_sem]) rfl ?_
    rw [← HXX.out]
    exact ⟨none, 0, rfl, own_nil _ _ _ _, HK.out.trans k12⟩
  have z4 : decide ((M : Int) > room) = false := decide_eq_false hrm
  go_wp2_with fail
  refine (HPD.out w2 (HK.out.trans k12) hsq2).mono ?_
  rintro e w4 ⟨A4, c4, rfl, o4, k4⟩
  have HPRED := bx (sl_of_own o4)
  have hpl := predP_len bv bs seq
  rw [HBL.out] at hpl
  have HPF := bx (predP_fits (bs := bs) (seq := seq) HBO.out (by omega))
  generalize predP bv bs seq = pred at *
  rw [hpl] at HPRED ⊢
  have HPLN := bx hpl
  have k14 := k12.trans k4
  obtain ⟨R, hR⟩ : ∃ R, encGo bs seq room nv pred o [] = R := ⟨_, rfl⟩
  have HXX := bx (show (R, 0) = x by rw [← HX.out, HPL1.out, if_neg (by omega), hR])
  have HRR := bx hR
  clear hR hrm o4 hpl q0 q1 r0 r1 z4 k4
  go_wp2_with fail
  go_loopw [11, 12, 13, 14] (fun ev cv fv i wr => ∃ (k : Nat) (es : List (Nat × Int)) (fl : Bool), k ≤ n ∧ es.length ≤ k ∧ i = .int .i64 k ∧ fv = .bool fl ∧ cv = .int .i64 es.length ∧ wr.ownsRow w4.heap.size 5 1 ev (es.flatMap entB).length (yc (es.flatMap entB)) ∧ From w4 wr ∧ OkE es ∧ (if fl then encGo bs seq room nv pred (o.drop k) es else pkB bs seq 0 es) = R) (fun _ _ _ i _ => n - (intOf i).toNat)
  case atStart => exact ⟨0, [], true, Nat.zero_le _, Nat.le_refl _, rfl, rfl, rfl, own_nil _ _ _ _, From.refl _, (fun y hy => nomatch hy), HRR.out⟩
  case round =>
    obtain ⟨k, es, fl, hk, hel, rfl, rfl, rfl, ho, hf, hok, hg⟩ := hrel
    have HOK := bx hok
    have HG := bx hg
    have hle := ents_len es hok
    have k1r := k14.trans hf
    have kwr := HK.out.trans k1r
    have HO4 := bx ho
    have HF4 := bx hf
    obtain ⟨E, hE⟩ : ∃ E, es.length = E := ⟨_, rfl⟩
    obtain ⟨ys, hys⟩ : ∃ ys, es.flatMap entB = ys := ⟨_, rfl⟩
    rw [hE] at hel hle ⊢
    rw [hys] at HO4 hle
    have HE := bx hE
    have HYS := bx hys
    have hyl : ys.length ≤ 20000 := by omega
    clear ho hf hok hg hE hys hle
    obtain ⟨AE, cE, hee⟩ := slice_form HO4.out
    subst hee
    have HCE := bx (own_cap HO4.out)
    by_cases hcont : k < n ∧ fl = true
    · obtain ⟨hlt, rfl⟩ := hcont
      have y0 : decide ((k : Int) < (n : Int)) = true := decide_eq_true (by omega)
      have hlt2 : k < o.length := by rw [HPN.out]; exact hlt
      obtain ⟨hI2, hI3⟩ := HI.out wr kwr
      obtain ⟨bo, fo, rfl, _, v1⟩ := ints_at hI3 (k := k) (by rw [HO.out]; exact hlt)
      have e1 : (nl o)[k]'(by rw [HO.out]; exact hlt) = (o[k] : Int) := by simp [nl]
      rw [e1] at v1
      have hpn := HPL.out o[k] (List.getElem_mem hlt2)
      have hg2 : encGo bs seq room nv pred (o[k] :: o.drop (k + 1)) es = R := by rw [← List.drop_eq_getElem_cons hlt2]; exact HG.out
      generalize o[k] = p at *
      obtain ⟨b2, f2, rfl, _, v2⟩ := ints_at hI2 (k := p) (by rw [HNL.out]; exact hpn)
      obtain ⟨b4, f4, rfl, _, v4⟩ := ints_at (HPRED.out.from HF4.out) (k := p) (by rw [HPLN.out]; exact hpn)
      have hp2 : p < nv.length := by rw [HNL.out]; exact hpn
      have hp4 : p < pred.length := by rw [HPLN.out]; exact hpn
      have hx1 := HNO.out nv[p] (List.getElem_mem hp2)
      have hx2 := HPF.out pred[p] (List.getElem_mem hp4)
      have g1 := getD_nat nv p (by rw [HNL.out]; exact hpn)
      have g2 := getD_nat pred p (by rw [HPLN.out]; exact hpn)
      rw [encGo, g1, g2] at hg2
      have HG2 := bx hg2
      generalize nv[p] = x1 at *
      generalize pred[p] = x2 at *
      unfold fitsV at hx1 hx2
      have e2 : IntKind.i64.wrap (x1 - x2) = x1 - x2 := IntWalk.i64_in _ (by omega)
      obtain ⟨d, hd⟩ : ∃ d, x1 - x2 = d := ⟨_, rfl⟩
      rw [hd] at HG2 e2
      have z1 : (k : Int) < (n : Int) := by omega
      have z2 : (0 : Int) ≤ (k : Int) := by omega
      have z3 : (p : Int) < (n : Int) := by omega
      have z4 : (0 : Int) ≤ (p : Int) := by omega
      have hdb : -9223372036854775808 ≤ d ∧ d ≤ 9223372036854775807 := by omega
      obtain ⟨q0, q1, _, _, _⟩ := HB1.out wr k1r
      obtain ⟨r0, r1, _, _, _⟩ := HB2.out wr k1r
      clear hI2 hI3 e1 g1 g2 hg2 hx1 hx2
      by_cases hd0 : d = 0
      · have y1 : (d == 0) = true := by simp [hd0]
        have HG3 := bx (show encGo bs seq room nv pred (o.drop (k + 1)) es = R by rw [← HG2.out, if_pos hd0])
        clear hd0
        go_wp2_with fail
        go_quiet (fail)
        go_wp2
        go_roundw
        case rel => exact ⟨k + 1, es, true, by omega, by rw [HE.out]; omega, by go_num, rfl, by rw [HE.out], by rw [HYS.out]; exact own_drewN HO4.out _, HF4.out.drewN _, HOK.out, HG3.out⟩
        case measure => simp [intOf]; omega
      · have y1 : (d == 0) = false := by simpa using hd0
        have HG3 := bx (show (if room < ((pkB bs seq 1 (es ++ [(p, d)])).length : Int) then pkB bs seq 0 es else encGo bs seq room nv pred (o.drop (k + 1)) (es ++ [(p, d)])) = R by rw [← HG2.out, if_neg hd0])
        clear hd0
        have hsz4 := Below.size HF4.out
        have ewp : IntKind.u64.wrap (p : Int) = (p : Int) := by rw [IntKind.wrap_u64]; omega
        go_wp2_with fail
        go_quiet (fail)
        go_upto_region 18 with fail
        obtain ⟨V, hV⟩ : ∃ V, wr.drewN nq = V := ⟨_, rfl⟩
        have kV : From wr V := by rw [← hV]; exact From.drewN (From.refl _) _
        try rw [hV]
        clear hV
        have HOV := bx (own_call HO4.out kV)
        have HKV := bx kV
        have v1V := kV.cell v1
        obtain ⟨U, hU⟩ : ∃ U, encU p = U := ⟨_, rfl⟩
        have HUU := bx hU
        have hul : U.length ≤ 10 := by rw [← hU]; exact encU_len 9 _ (by omega)
        obtain ⟨uN, hun⟩ : ∃ m, U.length = m := ⟨_, rfl⟩
        have HUN := bx hun
        obtain ⟨yN, hyn⟩ : ∃ m, ys.length = m := ⟨_, rfl⟩
        have HYN := bx hyn
        have HFWV := bx (fun (X : World) (k : From V X) => (show Calls Try.prog 95 #[.slice AE yN cE, .int .i64 yN] X fun e w' => ∃ A c, e = .returned (.slice A yN c) ∧ w'.ownsRow X.heap.size 5 1 (.slice A yN c) yN (yc ys) ∧ From X w' by
          have := HFW.out X AE cE ys ((sl_of_own HOV.out).from k) (by omega) HCE.out
          rw [hyn] at this
          refine this.mono ?_
          rintro e w' ⟨A, c, h1, h2, h3⟩
          rw [hyn] at h1 h2
          exact ⟨A, c, h1, h2, h3⟩))
        have HUIV := bx (fun (X : World) => (show Calls Try.prog 96 #[.int .u64 p] X fun e w' => ∃ A c, e = .returned (.slice A uN c) ∧ w'.ownsRow X.heap.size 5 1 (.slice A uN c) uN (yc U) ∧ From X w' by
          refine (HUI.out X p (by omega)).mono ?_
          rintro e w' ⟨A, c, h1, h2, h3⟩
          rw [hU, hun] at h1 h2
          exact ⟨A, c, h1, h2, h3⟩))
        rw [hun] at hul
        rw [hyn] at hyl HOV HCE ⊢
        clear hU hun hyn
        go_cut [16] from 79 to 89 (fun m wx => ∃ A c, m = .slice A (yN + uN) c ∧ wx.ownsRow V.heap.size 5 1 (.slice A (yN + uN) c) (yN + uN) (yc (ys ++ U)) ∧ From V wx)
        case first =>
          go_region_law (first
            | (refine step_sl (by rfl) (.tmp 82) (.tmp 88) 31 (by rfl) Try.elByte (by rfl) (own_call o5 k6) uN (yc U) (by rfl) (sl_of_own o6) (by simp [yc, HUN.out]) (yc_one U) (by omega) (by unfold maxLen; omega) (by have := Below.size k5; have := Below.size k6; omega) ?_; intro A7 c7 w7 o7 g7 _)
            | (go_simp; go_at_call 95; refine (HFWV.out _ (by first | exact From.refl _ | exact (From.refl _).drew)).mono ?_; rintro e w5 ⟨A5, c5, rfl, o5, k5⟩; have v15 := From.cell k5 v1V)
            | (go_simp; go_at_call 96; refine (HUIV.out _).mono ?_; rintro e w6 ⟨A6, c6, rfl, o6, k6⟩))
          all_goals
            have kx : From V w6 := From.trans (show From V w5 from ⟨k5.os, k5.tape, k5.output, k5.size, k5.block⟩) k6
            have ox : w6.ownsRow V.heap.size 5 1 (.slice A5 yN c5) yN (yc ys) := own_call o5 k6
            go_wp2
            go_meet
            case rel => exact ⟨A7, c7, rfl, by rw [yc_append]; exact o7, From.app kx ox (Nat.le_refl _) g7⟩
        case rest =>
          obtain ⟨A7, c7, rfl, o7, k7⟩ := hcut
          have HO7 := bx o7
          have HK7 := bx k7
          clear o7 k7 v1V v1 v2 v4
          obtain ⟨I, hI⟩ : ∃ I, encU (zig d) = I := ⟨_, rfl⟩
          have hzl := zig_lt d hdb
          have hil : I.length ≤ 10 := by rw [← hI]; exact encU_len 9 _ (by omega)
          obtain ⟨iN, hin⟩ : ∃ m, I.length = m := ⟨_, rfl⟩
          have HIV := bx (show Calls Try.prog 97 #[.int .i64 d] wc fun e w' => ∃ A c, e = .returned (.slice A iN c) ∧ w'.ownsRow wc.heap.size 5 1 (.slice A iN c) iN (yc I) ∧ From wc w' by
            refine (HIN.out wc d hdb).mono ?_
            rintro e w' ⟨A, c, h1, h2, h3⟩
            rw [hI, hin] at h1 h2
            exact ⟨A, c, h1, h2, h3⟩)
          have HII := bx (And.intro hI hin)
          rw [hin] at hil
          have hE8 : E ≤ 100 := by omega
          clear hI hin
          go_wp2_with fail
          refine HIV.out.mono ?_
          rintro e w8 ⟨A8, c8, rfl, o8, k8⟩
          have HO8 := bx (own_call HO7.out k8)
          have HI8 := bx (sl_of_own o8)
          have k78 := HK7.out.trans k8
          have hs8 := Below.size k78
          clear o8
          go_upto_region 20 with (at_builtin; refine app_sl rfl _ _ 31 rfl Try.elByte rfl HO8.out iN (yc I) rfl HI8.out (by simp [yc, HII.out.2]) (yc_one I) (by omega) (by unfold maxLen; omega) hs8 ?_; intro A9 c9 w9 o9 g9 _)
          have HK9 := bx (From.app k78 HO8.out (Nat.le_refl _) g9)
          have kwV : From wr w9 := HKV.out.trans HK9.out
          obtain ⟨LL, hLL⟩ : ∃ LL, ys ++ U ++ I = LL := ⟨_, rfl⟩
          obtain ⟨lN, hlN⟩ : ∃ m, yN + uN + iN = m := ⟨_, rfl⟩
          have hLN : LL.length = lN := by rw [← hLL, ← hlN]; simp only [List.length_append, HYN.out, HUN.out, HII.out.2]
          have h9 : w9.ownsRow V.heap.size 5 1 (.slice A9 lN c9) lN (yc LL) := by rw [← hlN, ← hLL, yc_append]; exact o9
          have HO9 := bx h9
          have hfl : (es ++ [(p, d)]).flatMap entB = LL := by rw [ent_snoc, HYS.out, HUU.out, HII.out.1, hLL]
          have hel2 : (es ++ [(p, d)]).length = E + 1 := by rw [List.length_append, HE.out]; rfl
          obtain ⟨M2, hM2⟩ : ∃ M2, (pkB bs seq 1 (es ++ [(p, d)])).length = M2 := ⟨_, rfl⟩
          have HPKV := bx (show Calls Try.prog 94 #[.int .i64 bs, .int .i64 seq, .bool false, .int .i64 ((E + 1 : Nat) : Int), .slice A9 lN c9] w9 fun e w' => ∃ A c, e = .returned (.slice A M2 c) ∧ From w9 w' by
            have h := HPK.out w9 false (E + 1) (.slice A9 lN c9) LL (by have := sl_of_own h9; show Sl _ _ _ LL.length _; rw [hLN]; exact this) (by rw [hLN]; omega) (by omega)
            refine h.mono ?_
            rintro e w' ⟨A, c, h1, _, h3⟩
            have e1 : (encU bs ++ encU seq ++ [if (false = true) then (1 : Int) else 0] ++ encU (E + 1) ++ LL).length = M2 := by
              have := pk_eq bs seq 0 (by omega) (es ++ [(p, d)])
              rw [hel2, hfl] at this
              rw [← hM2, ← pkB_mark, ← this]
              rfl
            rw [e1] at h1
            exact ⟨A, c, h1, h3⟩)
          have HFL := bx (And.intro hfl (And.intro hel2 hLN))
          rw [hM2] at HG3
          have HOK2 := bx (HOK.out.snoc (p := p) (d := d) (by omega) hdb)
          have ewE : IntKind.i64.wrap ((E : Int) + 1) = ((E + 1 : Nat) : Int) := by rw [IntWalk.i64_in _ (by omega)]; rfl
          obtain ⟨s0, s1, _, _, _⟩ := HB1.out w9 (k1r.trans kwV)
          obtain ⟨t0, t1, _, _, _⟩ := HB2.out w9 (k1r.trans kwV)
          clear h9 o9 g9 hM2 hfl hel2 hLN hLL q0 q1 r0 r1 k8 k78 hs8
          go_wp2_with fail
          refine HPKV.out.mono ?_
          rintro e wA ⟨AA, cA, rfl, kA⟩
          have kwA := kwV.trans kA
          by_cases hrm2 : room < (M2 : Int)
          · have z5 : decide ((M2 : Int) > room) = true := decide_eq_true hrm2
            have HG4 := bx (show pkB bs seq 0 es = R by rw [← HG3.out, if_pos hrm2])
            clear hrm2 s0 s1 t0 t1
            go_wp2
            go_roundw
            case rel =>
              exact ⟨k + 1, es, false, by omega, by rw [HE.out]; omega, by go_num, rfl, by rw [HE.out], by rw [HYS.out]; have h := own_call HO4.out kwA; rw [HYN.out] at h ⊢; exact h, HF4.out.trans kwA, HOK.out, HG4.out⟩
            case measure => simp [intOf]; omega
          · have z5 : decide ((M2 : Int) > room) = false := decide_eq_false hrm2
            have HG4 := bx (show encGo bs seq room nv pred (o.drop (k + 1)) (es ++ [(p, d)]) = R by rw [← HG3.out, if_neg hrm2])
            clear hrm2 s0 s1 t0 t1
            go_wp2
            go_roundw
            case rel =>
              obtain ⟨f1, f2, f3⟩ := HFL.out
              exact ⟨k + 1, es ++ [(p, d)], true, by omega, by rw [f2]; omega, by go_num, rfl, by rw [f2]; rfl, by rw [f1, f3]; exact own_base (own_call HO9.out kA) (by have := HF4.out.size; have := HKV.out.size; omega), HF4.out.trans kwA, HOK2.out, HG4.out⟩
            case measure => simp [intOf]; omega
    · have HEND := bx (show pkB bs seq (if fl then 1 else 0) es = R by
        cases fl
        · exact HG.out
        · have hkn : k = n := Classical.byContradiction fun h => hcont ⟨by omega, rfl⟩
          have hd : o.drop k = [] := List.drop_of_length_le (by rw [HPN.out]; omega)
          have := HG.out
          rw [if_pos rfl, hd, encGo] at this
          exact this)
      obtain ⟨q0, q1, _, _, _⟩ := HB1.out wr k1r
      obtain ⟨r0, r1, _, _, _⟩ := HB2.out wr k1r
      have HLAST := bx (show Calls Try.prog 94 #[.int .i64 bs, .int .i64 seq, .bool fl, .int .i64 E, .slice AE ys.length cE] wr (YRow wr R) by
        have h := HPK.out wr fl E (.slice AE ys.length cE) ys (sl_of_own HO4.out) (by omega) (by omega)
        have e1 : encU bs ++ encU seq ++ [if fl = true then (1 : Int) else 0] ++ encU E ++ ys = R := by
          rw [← HEND.out, ← pk_eq bs seq _ (by split <;> omega), HE.out, HYS.out]
          cases fl <;> rfl
        rwa [e1] at h)
      by_cases hlt : k < n
      · have hfl : fl = false := by
          cases fl
          · rfl
          · exact absurd ⟨hlt, rfl⟩ hcont
        subst hfl
        have y0 : decide ((k : Int) < (n : Int)) = true := decide_eq_true (by omega)
        clear hcont
        go_wp2_with fail
        refine HLAST.out.mono ?_
        rintro e w9 ⟨A9, c9, rfl, o9, k9⟩
        go_wp2
        refine bodyPost_ret (v := .tuple #[.slice A9 R.length c9, .int .i64 0]) (by simp [results, Try.results67, go_sem]) rfl ?_
        rw [← HXX.out]
        exact ⟨A9, c9, rfl, own_base o9 (Below.size kwr), kwr.trans k9⟩
      · have y0 : decide ((k : Int) < (n : Int)) = false := decide_eq_false (by omega)
        clear hcont
        go_wp2_with fail
        refine HLAST.out.mono ?_
        rintro e w9 ⟨A9, c9, rfl, o9, k9⟩
        go_wp2
        refine bodyPost_ret (v := .tuple #[.slice A9 R.length c9, .int .i64 0]) (by simp [results, Try.results67, go_sem]) rfl ?_
        rw [← HXX.out]
        exact ⟨A9, c9, rfl, own_base o9 (Below.size kwr), kwr.trans k9⟩
end Go.Proofs.Ytpdbdpmlppbnnaa

namespace Go.Proofs.Ytpdbdpmlppbnnaa
open Go.RowKit Go.Shelf

theorem Try.elSnap : ElT Try.prog 105 24 (snv 0 (.slice none 0 0)) 2 32 := ⟨Try.underlying105, info_parts (by kernel_rfl), rfl, by decide⟩
/-- the cells of snapshots -/
def snc (x : Nat × Value) : List Value := [.int .i64 x.1, x.2]
theorem snc_len (l : List (Nat × Value)) : (l.flatMap snc).length = l.length * 2 := by
  induction l with
  | nil => rfl
  | cons x r ih => simp only [List.flatMap_cons, List.length_append, ih, List.length_cons, snc, List.length_nil]; omega
theorem snc_at (l : List (Nat × Value)) : ∀ (k : Nat) (x : Nat × Value), l[k]? = some x → (l.flatMap snc)[k * 2]? = some (.int .i64 x.1) ∧ (l.flatMap snc)[k * 2 + 1]? = some x.2 := by
  induction l with
  | nil => intro k x h; simp at h
  | cons y r ih =>
    intro k x h
    cases k with
    | zero => simp at h; subst h; exact ⟨rfl, rfl⟩
    | succ k =>
      have h2 : r[k]? = some x := by simpa using h
      obtain ⟨a, b⟩ := ih k x h2
      have e : (y :: r).flatMap snc = [.int .i64 y.1, y.2] ++ r.flatMap snc := rfl
      rw [e, List.getElem?_append_right (by simp; omega), List.getElem?_append_right (by simp; omega)]
      simp only [List.length_cons, List.length_nil]
      rw [show (k + 1) * 2 - (0 + 1 + 1) = k * 2 by omega, show (k + 1) * 2 + 1 - (0 + 1 + 1) = k * 2 + 1 by omega]
      exact ⟨a, b⟩
/-- a row of snapshots of one's own, with its values, all in blocks of S -/
def SnpRow (S : Nat → Prop) (w : World) (v : Value) (l : List (Nat × List Int)) : Prop :=
  ∃ A c vs, v = .slice A l.length c ∧ w.ownsRow 0 24 2 (.slice A l.length c) l.length ((vs : List (Nat × Value)).flatMap snc) ∧ (∀ g, (Value.slice A l.length c).ownBlock = some g → S g) ∧ vs.length = l.length ∧ ∀ k (hk : k < l.length), ∃ u, vs[k]? = some (l[k].1, u) ∧ IRow S w u l[k].2
theorem SnpRow.same {S : Nat → Prop} {w w' : World} {v : Value} {l : List (Nat × List Int)} (h : SnpRow S w v l) (k : SameOn S w w') : SnpRow S w' v l := by
  obtain ⟨A, c, vs, rfl, ⟨h1, h2⟩, h3, h4, h5⟩ := h
  refine ⟨A, c, vs, rfl, ⟨h1, ?_⟩, h3, h4, fun j hj => ?_⟩
  · rcases h2 with h2 | ⟨g, cap, cur, hv, hg, hh, r⟩
    · exact .inl h2
    · exact .inr ⟨g, cap, cur, hv, hg, (k g (h3 g (by rw [hv]; simp [Value.ownBlock]))).trans hh, r⟩
  · obtain ⟨u, e, r⟩ := h5 j hj
    exact ⟨u, e, r.same k⟩
theorem SnpRow.mono {S T : Nat → Prop} {w : World} {v : Value} {l : List (Nat × List Int)} (h : SnpRow S w v l) (hs : ∀ k, S k → T k) : SnpRow T w v l := by
  obtain ⟨A, c, vs, e, h1, h3, h4, h5⟩ := h
  exact ⟨A, c, vs, e, h1, fun g hg => hs g (h3 g hg), h4, fun k hk => by obtain ⟨u, e, r⟩ := h5 k hk; exact ⟨u, e, r.mono hs⟩⟩
theorem SnpRow.at_ {S : Nat → Prop} {w : World} {v : Value} {l : List (Nat × List Int)} (h : SnpRow S w v l) {k : Nat} (hk : k < l.length) :
    ∃ g c A' c', v = .slice (some ⟨g, 0, none⟩) l.length c ∧ g < w.heap.size ∧ w.cell? ⟨g, k * 2, none⟩ = some (.int .i64 l[k].1) ∧ w.cell? ⟨g, k * 2 + 1, none⟩ = some (.slice A' l[k].2.length c') ∧ IRow S w (.slice A' l[k].2.length c') l[k].2 := by
  obtain ⟨A, c, vs, rfl, ho, _, h4, h5⟩ := h
  obtain ⟨u, e, r⟩ := h5 k hk
  obtain ⟨A', c', rfl⟩ := r.form
  obtain ⟨g, cap, hv, _⟩ := ho.form (by omega)
  injection hv with hv _ _
  subst hv
  obtain ⟨s1, s2⟩ := snc_at vs k _ e
  exact ⟨g, c, A', c', rfl, (own_lt ho rfl).2, (own_cell ho s1).1, (own_cell ho s2).1, r⟩
theorem SnpRow.low {S : Nat → Prop} {w : World} {v : Value} {l : List (Nat × List Int)} (h : SnpRow S w v l) : ∃ A c, v = .slice A l.length c := by
  obtain ⟨A, c, vs, e, _⟩ := h
  exact ⟨A, c, e⟩
/-- a block of three cells -/
theorem box3 {w : World} {b : Nat} {x0 x1 x2 : Value} {t : TypeId} (h : w.heap[b]? = some (.cells #[x0, x1, x2] t (0, 0))) :
    w.cell? ⟨b, 0, none⟩ = some x0 ∧ w.cell? ⟨b, 1, none⟩ = some x1 ∧ w.cell? ⟨b, 2, none⟩ = some x2 ∧ w.frozen? ⟨b, 0, none⟩ = false ∧ w.frozen? ⟨b, 1, none⟩ = false ∧ w.frozen? ⟨b, 2, none⟩ = false ∧ b < w.heap.size :=
  ⟨by rw [cell_of_row _ _ _ _ _ _ h]; rfl, by rw [cell_of_row _ _ _ _ _ _ h]; rfl, by rw [cell_of_row _ _ _ _ _ _ h]; rfl, by simp [World.frozen?, h], by simp [World.frozen?, h], by simp [World.frozen?, h], (Array.getElem?_eq_some_iff.1 h).1⟩
/-- the reference's source -/
structure RSrcC (S : Nat → Prop) (w : World) (p n bs : Nat) (va : Value) (l : List (Nat × List Int)) : Prop where
  lt : ∀ k, S k → k < w.heap.size
  pS : S p
  box : w.heap[p]? = some (.cells #[.int .i64 n, .int .i64 bs, va] 107 (0, 0))
  row : SnpRow S w va l
  nn : 1 ≤ n ∧ n ≤ 32
  len : l.length ≤ 1000001
  bs_lt : bs < l.length
  ok : ∀ x ∈ l, x.2.length = n ∧ ∀ y ∈ x.2, fitsV y
def numb (all : List (List Int)) : List (Nat × List Int) := (List.range all.length).map fun i => (i, all.getD i [])
def RSrc (S : Nat → Prop) (w : World) (p n : Nat) (all : List (List Int)) (bs : Nat) : Prop := ∃ va, RSrcC S w p n bs va (numb all)
/-- the reference's sink -/
structure RSnkC (S : Nat → Prop) (w : World) (p n : Nat) (va : Value) (l : List (Nat × List Int)) : Prop where
  lt : ∀ k, S k → k < w.heap.size
  pS : S p
  box : w.heap[p]? = some (.cells #[.int .i64 n, va] 109 (0, 0))
  row : SnpRow S w va l
  nn : 1 ≤ n ∧ n ≤ 32
  len : l.length ≤ 1000000
  ok : ∀ x ∈ l, x.1 ≤ 1000000 ∧ x.2.length = n ∧ ∀ y ∈ x.2, fitsV y
def RSnk (S : Nat → Prop) (w : World) (p n : Nat) (l : List (Nat × List Int)) : Prop := ∃ va, RSnkC S w p n va l
theorem RSrcC.same {S : Nat → Prop} {w w' : World} {p n bs : Nat} {va : Value} {l : List (Nat × List Int)} (h : RSrcC S w p n bs va l) (hs : w.heap.size ≤ w'.heap.size) (k : SameOn S w w') : RSrcC S w' p n bs va l :=
  { h with lt := fun i hi => Nat.lt_of_lt_of_le (h.lt i hi) hs, box := (k p h.pS).trans h.box, row := h.row.same k }
theorem RSnkC.same {S : Nat → Prop} {w w' : World} {p n : Nat} {va : Value} {l : List (Nat × List Int)} (h : RSnkC S w p n va l) (hs : w.heap.size ≤ w'.heap.size) (k : SameOn S w w') : RSnkC S w' p n va l :=
  { h with lt := fun i hi => Nat.lt_of_lt_of_le (h.lt i hi) hs, box := (k p h.pS).trans h.box, row := h.row.same k }
theorem RSrc.same {S : Nat → Prop} {w w' : World} {p n bs : Nat} {all : List (List Int)} (h : RSrc S w p n all bs) (hs : w.heap.size ≤ w'.heap.size) (k : SameOn S w w') : RSrc S w' p n all bs := by
  obtain ⟨va, h⟩ := h
  exact ⟨va, h.same hs k⟩
theorem RSnk.same {S : Nat → Prop} {w w' : World} {p n : Nat} {l : List (Nat × List Int)} (h : RSnk S w p n l) (hs : w.heap.size ≤ w'.heap.size) (k : SameOn S w w') : RSnk S w' p n l := by
  obtain ⟨va, h⟩ := h
  exact ⟨va, h.same hs k⟩
theorem RSrc.lt {S : Nat → Prop} {w : World} {p n bs : Nat} {all : List (List Int)} (h : RSrc S w p n all bs) : ∀ k, S k → k < w.heap.size := by
  obtain ⟨va, h⟩ := h
  exact h.lt
theorem RSnk.lt {S : Nat → Prop} {w : World} {p n : Nat} {l : List (Nat × List Int)} (h : RSnk S w p n l) : ∀ k, S k → k < w.heap.size := by
  obtain ⟨va, h⟩ := h
  exact h.lt
theorem RSrc.from {S : Nat → Prop} {w w' : World} {p n bs : Nat} {all : List (List Int)} (h : RSrc S w p n all bs) (k : From w w') : RSrc S w' p n all bs := h.same k.size (SameOn.of k h.lt)
theorem RSnk.from {S : Nat → Prop} {w w' : World} {p n : Nat} {l : List (Nat × List Int)} (h : RSnk S w p n l) (k : From w w') : RSnk S w' p n l := h.same k.size (SameOn.of k h.lt)
theorem snp_one {w w2 : World} {S : Nat → Prop} {n : Nat} (o : w.ownsRow w2.heap.size 3 1 (.slice (some ⟨w2.heap.size, 0, none⟩) n n) n (ic (List.replicate n 0))) (hS : ∀ k, w2.heap.size ≤ k → k ≤ w.heap.size → S k) :
    SnpRow S (w.alloc (.cells #[.int .i64 0, .slice (some ⟨w2.heap.size, 0, none⟩) n n] 24)) (.slice (some ⟨w.heap.size, 0, none⟩) 1 1) [(0, List.replicate n 0)] := by
  have hb := own_lt o (r := w2.heap.size) rfl
  refine ⟨_, 1, [(0, .slice (some ⟨w2.heap.size, 0, none⟩) n n)], rfl, own_new w 0 (Nat.zero_le _) 24 2 1 [.int .i64 0, .slice (some ⟨w2.heap.size, 0, none⟩) n n] rfl (by decide), fun g hg => ?_, rfl, fun k hk => ?_⟩
  · simp [Value.ownBlock] at hg
    subst hg
    exact hS _ (by omega) (Nat.le_refl _)
  · have hk0 : k = 0 := by simp at hk; exact hk
    subst hk0
    exact ⟨_, rfl, irow_of (by simp) (own_call o ((From.refl _).alloc _)) (fun j a b => hS j a (by simp at b; omega))⟩
theorem rNewSource_calls (n : Nat) (w : World) (h : 1 ≤ n ∧ n ≤ 32) : Calls Try.prog 33 #[.int .i64 n] w fun e w' => ∃ p, e = .returned (.pointer (some ⟨p, 0, none⟩)) ∧ From w w' ∧ RSrc (NewS w w') w' p n [List.replicate n 0] 0 := by
  obtain ⟨W1, hmk, o1, k1⟩ := make_ints w n (by omega)
  have O1 := bx o1
  have K1 := bx k1
  have HN := bx h
  clear h k1 o1
  go_enter Try.func33, Try.ntmps33
  go_wp2
  go_ret
  obtain ⟨W2, hW2⟩ : ∃ W, W1.alloc (.cells #[.int .i64 0, .slice (some ⟨w.heap.size, 0, none⟩) n n] 24) = W := ⟨_, rfl⟩
  have k2 : From W1 W2 := by rw [← hW2]; exact (From.refl _).alloc _
  have s2 : W2.heap.size = W1.heap.size + 1 := by rw [← hW2]; simp
  have k3 : From W2 (W2.alloc (.cells #[.int .i64 n, .int .i64 0, .slice (some ⟨W1.heap.size, 0, none⟩) 1 1] 107)) := (From.refl _).alloc _
  have s1 := K1.out.size
  have hrow := snp_one (S := NewS w W2) O1.out (fun k a b => ⟨a, by omega⟩)
  rw [hW2] at hrow ⊢
  skip
  refine ⟨W2.heap.size, by rw [s2]; rfl, (K1.out.trans k2).trans k3, .slice (some ⟨W1.heap.size, 0, none⟩) 1 1, ?_⟩
  exact {
    lt := fun i hi => hi.2
    pS := ⟨by omega, by rw [World.size_alloc]; omega⟩
    box := heap_alloc_new _ _
    row := (hrow.same (SameOn.of k3 (fun i hi => hi.2))).mono (fun i hi => ⟨hi.1, Nat.lt_of_lt_of_le hi.2 k3.size⟩)
    nn := HN.out
    len := by simp [numb]
    bs_lt := by simp [numb]
    ok := fun x hx => by
      simp [numb] at hx
      subst hx
      exact ⟨by simp, fits_zeros n⟩ }
theorem rNewSink_calls (n : Nat) (w : World) (h : 1 ≤ n ∧ n ≤ 32) : Calls Try.prog 34 #[.int .i64 n] w fun e w' => ∃ p, e = .returned (.pointer (some ⟨p, 0, none⟩)) ∧ From w w' ∧ RSnk (NewS w w') w' p n [(0, List.replicate n 0)] := by
  obtain ⟨W1, hmk, o1, k1⟩ := make_ints w n (by omega)
  have O1 := bx o1
  have K1 := bx k1
  have HN := bx h
  clear h k1 o1
  go_enter Try.func34, Try.ntmps34
  go_wp2
  go_ret
  obtain ⟨W2, hW2⟩ : ∃ W, W1.alloc (.cells #[.int .i64 0, .slice (some ⟨w.heap.size, 0, none⟩) n n] 24) = W := ⟨_, rfl⟩
  have k2 : From W1 W2 := by rw [← hW2]; exact (From.refl _).alloc _
  have s2 : W2.heap.size = W1.heap.size + 1 := by rw [← hW2]; simp
  have k3 : From W2 (W2.alloc (.cells #[.int .i64 n, .slice (some ⟨W1.heap.size, 0, none⟩) 1 1] 109)) := (From.refl _).alloc _
  have s1 := K1.out.size
  have hrow := snp_one (S := NewS w W2) O1.out (fun k a b => ⟨a, by omega⟩)
  rw [hW2] at hrow ⊢
  skip
  refine ⟨W2.heap.size, by rw [s2]; rfl, (K1.out.trans k2).trans k3, .slice (some ⟨W1.heap.size, 0, none⟩) 1 1, ?_⟩
  exact {
    lt := fun i hi => hi.2
    pS := ⟨by omega, by rw [World.size_alloc]; omega⟩
    box := heap_alloc_new _ _
    row := (hrow.same (SameOn.of k3 (fun i hi => hi.2))).mono (fun i hi => ⟨hi.1, Nat.lt_of_lt_of_le hi.2 k3.size⟩)
    nn := HN.out
    len := by simp
    ok := fun x hx => by
      simp at hx
      subst hx
      exact ⟨by simp, by simp, fits_zeros n⟩ }
end Go.Proofs.Ytpdbdpmlppbnnaa

namespace Go.Proofs.Ytpdbdpmlppbnnaa
open Go.RowKit Go.Shelf

theorem rInts_calls (A : Option Addr) (c : Nat) (l : List Int) (w : World) (h : Ints w (.slice A l.length c) l) (hl : l.length ≤ 1000000) (hc : l.length ≤ c) :
    Calls Try.prog 66 #[.slice A l.length c, .int .i64 l.length] w (RowPost w l) := by
  obtain ⟨N, hN⟩ : ∃ N, l.length = N := ⟨_, rfl⟩
  have HN := bx hN
  have H := bx (show Sl w w.heap.size (.slice A N c) N (ic l) by rw [← hN]; exact h)
  rw [hN] at hl hc ⊢
  clear hN h
  have z1 : min (N : Int) (N : Int) = (N : Int) := by omega
  have z2 : (0 : Int) ≤ (N : Int) := by omega
  have z3 : (N : Int) ≤ (c : Int) := by omega
  go_enter Try.func66, Try.ntmps66
  go_wp2_with (at_builtin; refine app_sl rfl _ _ 22 rfl Try.elInt rfl (own_nil w w.heap.size _ _) N (ic l) rfl H.out (by simp [ic, HN.out]) (ic_one l) (by omega) (by unfold maxLen; omega) (Nat.le_refl _) ?_; intro A2 c2 w2 o2 g2 _)
  go_ret
  rw [Nat.zero_add] at o2
  exact ⟨A2, c2, ret_slice HN.out.symm, by rw [HN.out]; exact o2, From.app (From.refl w) (own_nil w w.heap.size 3 1) (Nat.le_refl _) g2⟩
/-- a row of snapshots grows by one -/
theorem SnpRow.app {S : Nat → Prop} {w X w3 : World} {A A3 A2 : Option Addr} {N c c3 c2 : Nat} {l : List (Nat × List Int)} {q : Nat} {z : List Int} {vs : List (Nat × Value)} (hN : N = l.length) (hw : From w X)
    (ho : w.ownsRow 0 24 2 (.slice A N c) N (vs.flatMap snc)) (hS : ∀ g, (Value.slice A N c).ownBlock = some g → S g) (hv : vs.length = l.length) (h5 : ∀ k (hk : k < l.length), ∃ u, vs[k]? = some (l[k].1, u) ∧ IRow S w u l[k].2)
    (hu : X.ownsRow w.heap.size 3 1 (.slice A2 z.length c2) z.length (ic z)) (o3 : w3.ownsRow 0 24 2 (.slice A3 (N + 1) c3) (N + 1) (vs.flatMap snc ++ [.int .i64 q, .slice A2 z.length c2]))
    (g3 : X.grownBy w3 (Value.slice A N c).ownBlock) (r3 : ∀ r, (Value.slice A3 (N + 1) c3).ownBlock = some r → (Value.slice A N c).ownBlock = some r ∨ X.heap.size ≤ r) :
    SnpRow (GrowS S w w3) w3 (.slice A3 (N + 1) c3) (l ++ [(q, z)]) ∧ Off S w w3 := by
  have hl : (l ++ [(q, z)]).length = N + 1 := by simp [hN]
  have hwX := hw.size
  have hX3 := g3.size
  have hblk : ∀ (i : Nat) (cs : Array Value), X.heap[i]? = some (.cells cs 3 (0, 0)) → (Value.slice A N c).ownBlock ≠ some i := fun i cs hi e => by
    rcases ho.2 with ⟨hv, _⟩ | ⟨g, cap, cur, hv, hg, hh, _⟩
    · rw [hv] at e; simp [Value.ownBlock] at e
    · rw [hv] at e
      simp [Value.ownBlock] at e
      subst e
      rw [hw.heap hh] at hi
      cases hi
  have hk3 : ∀ (i : Nat) (cs : Array Value), X.heap[i]? = some (.cells cs 3 (0, 0)) → w3.heap[i]? = some (.cells cs 3 (0, 0)) := fun i cs hi => by
    rw [g3.block i (Array.getElem?_eq_some_iff.1 hi).1 (Ne.symm (hblk i cs hi))]
    exact hi
  refine ⟨⟨A3, c3, vs ++ [(q, .slice A2 z.length c2)], by rw [hl], ?_, fun g hg => ?_, by simp [hv], fun k hk => ?_⟩, ?_⟩
  · rw [hl, List.flatMap_append]
    exact o3
  · rw [hl] at hg
    rcases r3 g hg with h | h
    · exact .inl (hS g h)
    · exact .inr ⟨by omega, (own_lt o3 hg).2⟩
  · by_cases hk2 : k < l.length
    · obtain ⟨u', e, r⟩ := h5 k hk2
      rw [List.getElem_append_left hk2]
      refine ⟨u', by rw [List.getElem?_append_left (by omega)]; exact e, ?_⟩
      exact (r.keepI (fun i cs hi => hk3 i cs (hw.heap hi))).mono fun j => .inl
    · have hkN : k = l.length := by simp at hk; omega
      subst hkN
      refine ⟨.slice A2 z.length c2, by rw [List.getElem?_append_right (by omega), hv]; simp, ?_⟩
      have : (l ++ [(q, z)])[l.length] = (q, z) := by rw [List.getElem_append_right (by omega)]; simp
      rw [this]
      exact (irow_of rfl (own_heapOf hu hk3) (fun j a b => .inr ⟨a, b⟩))
  · exact (Off.of hw).trans ⟨g3.os, g3.tape, g3.output, g3.size, fun k hk hn => g3.block k hk (fun e => hn (hS k e.symm))⟩
theorem SnpRow.set {S : Nat → Prop} {w : World} {v : Value} {l : List (Nat × List Int)} (h : SnpRow S w v l) {p i : Nat} {cs : Array Value} {t : TypeId} (hp : w.heap[p]? = some (.cells cs t (0, 0))) (h1 : t ≠ 24) (h2 : t ≠ 3) (x : Value) : SnpRow S (w.setCell ⟨p, i, none⟩ x) v l := by
  obtain ⟨A, c, vs, e, h3, h4, h5, h6⟩ := h
  exact ⟨A, c, vs, e, own_heapOf h3 (fun j ds hj => by rw [heap_set_off _ (cells_ne hp hj h1)]; exact hj), h4, h5, fun k hk => by
    obtain ⟨u, e, r⟩ := h6 k hk
    exact ⟨u, e, r.keepI (fun j ds hj => by rw [heap_set_off _ (cells_ne hp hj h2)]; exact hj)⟩⟩
def RSrcPost (S : Nat → Prop) (w : World) (p n : Nat) (all : List (List Int)) (bs : Nat) (v : Value) (e : Ending) (w' : World) : Prop :=
  e = .returned v ∧ Off S w w' ∧ RSrc (GrowS S w w') w' p n all bs
theorem numb_len (all : List (List Int)) : (numb all).length = all.length := by simp [numb]
theorem numb_snoc (all : List (List Int)) (l : List Int) : numb (all ++ [l]) = numb all ++ [(all.length, l)] := by
  unfold numb
  rw [List.length_append, List.length_singleton, List.range_succ, List.map_append]
  congr 1
  · apply List.map_congr_left
    intro i hi
    rw [List.mem_range] at hi
    rw [List.getD_eq_getElem?_getD, List.getElem?_append_left hi, ← List.getD_eq_getElem?_getD]
  · simp [List.getD_eq_getElem?_getD]
theorem RSrc.grow {S : Nat → Prop} {w w' : World} {p n : Nat} {all : List (List Int)} {bs : Nat} (h : RSrc S w p n all bs) (k : From w w') : RSrc (GrowS S w w') w' p n all bs := by
  obtain ⟨va, h⟩ := h.from k
  exact ⟨va, { h with
    lt := fun i hi => by rcases hi with hi | hi; exact h.lt i hi; exact hi.2
    pS := .inl h.pS
    row := h.row.mono fun _ => .inl }⟩
set_option maxHeartbeats 2000000 in
set_option maxRecDepth 10000 in
theorem rTake_calls (S : Nat → Prop) (p n : Nat) (all : List (List Int)) (bs : Nat) (A : Option Addr) (cv : Nat) (l : List Int) (w : World) (h : RSrc S w p n all bs) (hl : Ints w (.slice A l.length cv) l) (hcv : l.length ≤ cv) (hm : l.length ≤ 9223372036854775807) (a c : Int) (all' : List (List Int)) (ht : takeP n all l = (a, c, all')) :
    Calls Try.prog 37 #[.pointer (some ⟨p, 0, none⟩), .slice A l.length cv] w (RSrcPost S w p n all' bs (.tuple #[.int .i64 a, .int .i64 c])) := by
  have SAME := bx (fun (w' : World) (k : From w w') => h.grow k)
  obtain ⟨va, hc⟩ := h
  have HC := bx hc
  have HL := bx hl
  have HT := bx ht
  have hnn := hc.nn
  obtain ⟨x0, x1, x2, f0, f1, f2, hpl⟩ := box3 hc.box
  clear ht hl
  by_cases c1 : l.length = n
  · have d1 : ((l.length : Int) != (n : Int)) = false := by simp; omega
    have hln : l.length ≤ 1000000 := by omega
    have C1 := bx c1
    clear c1
    have hci : ∃ t : Bool, t = true ↔ ValidP 0 l := by
      by_cases hh : ValidP 0 l
      · exact ⟨true, ⟨fun _ => hh, fun _ => rfl⟩⟩
      · exact ⟨false, ⟨fun h => Bool.noConfusion h, fun h => absurd h hh⟩⟩
    obtain ⟨t, ht⟩ := hci
    have HCT := bx (validR_calls 0 (.slice A l.length cv) l w HL.out hm t ht)
    have HTT := bx (show t = true ↔ ∀ x ∈ l, fitsV x from ht.trans ⟨fun h => h.1, fun h => ⟨h, by decide, by decide⟩⟩)
    clear ht
    obtain ⟨AV, c0, vs, e0, ho, hS, hv, h5⟩ := hc.row
    subst e0
    obtain ⟨N, hN⟩ : ∃ N, (numb all).length = N := ⟨_, rfl⟩
    have hNa : all.length = N := by rw [← hN, numb_len]
    have HLE := bx hc.len
    go_enter Try.func37, Try.ntmps37
    go_wp2_with fail
    refine HCT.out.mono ?_
    rintro e w1 ⟨rfl, k1⟩
    cases t
    · have hr : a = 0 ∧ c = 5 ∧ all' = all := by
        have h := HT.out
        rw [takeP, if_neg (fun h => h C1.out), if_pos (fun h => by have := HTT.out.2 h; cases this)] at h
        simp only [Prod.mk.injEq] at h
        exact ⟨h.1.symm, h.2.1.symm, h.2.2.symm⟩
      obtain ⟨rfl, rfl, rfl⟩ := hr
      go_wp2_with fail
      refine bodyPost_ret (v := .tuple #[.int .i64 0, .int .i64 5]) (by simp [results, Try.results37, go_sem]) rfl ?_
      exact ⟨rfl, Off.of k1, SAME.out _ k1⟩
    · obtain ⟨y0, y1, y2, g0, g1, g2, hpl1⟩ := box3 (k1.heap hc.box)
      rw [hN] at y2
      by_cases c2 : N > 1000000
      · have d2 : decide ((N : Int) > 1000000) = true := decide_eq_true (by omega)
        have hr : a = 0 ∧ c = 9 ∧ all' = all := by
          have h := HT.out
          have := HLE.out
          rw [takeP, if_neg (fun h => h C1.out), if_neg (fun h => h (HTT.out.1 rfl)), if_pos (by omega)] at h
          simp only [Prod.mk.injEq] at h
          exact ⟨h.1.symm, h.2.1.symm, h.2.2.symm⟩
        obtain ⟨rfl, rfl, rfl⟩ := hr
        go_wp2_with fail
        refine bodyPost_ret (v := .tuple #[.int .i64 0, .int .i64 9]) (by simp [results, Try.results37, go_sem]) rfl ?_
        exact ⟨rfl, Off.of k1, SAME.out _ k1⟩
      · have d2 : decide ((N : Int) > 1000000) = false := decide_eq_false (by omega)
        have HFT := bx (HTT.out.1 rfl)
        have hr : a = N ∧ c = 0 ∧ all' = all ++ [l] := by
          have h := HT.out
          rw [takeP, if_neg (fun h => h C1.out), if_neg (fun h => h (HTT.out.1 rfl)), if_neg (by omega), hNa] at h
          simp only [Prod.mk.injEq] at h
          exact ⟨h.1.symm, h.2.1.symm, h.2.2.symm⟩
        obtain ⟨rfl, rfl, rfl⟩ := hr
        have HIN := bx (fun (W : World) (k : From w1 W) => rInts_calls A cv l W (HL.out.from (k1.trans k)) hln hcv)
        have HCO := bx hc
        have HO := bx (show w.ownsRow 0 24 2 (.slice AV N c0) N (vs.flatMap snc) by rw [← hN]; exact ho)
        have HS := bx hS
        have HV := bx hv
        have H5 := bx h5
        have HB1 := bx (k1.heap hc.box)
        have HK1 := bx k1
        have HNN := bx hN
        have HNA := bx hNa
        generalize hLL : l.length = L at *
        clear ho hS hv h5 hc k1 hN hNa x0 x1 x2 f0 f1 f2
        go_upto_region 8 with fail
        go_region_law (first
          | (refine step_sl (by rfl) (.tmp 33) (.tmp 40) 105 (by rfl) Try.elSnap (by rfl) (own_call HO.out (From.alloc kw _)) 1 [.int .i64 N, .slice A2 L c2] (by rfl) (sl_new _ [.int .i64 N, .slice A2 L c2] 24 1 1) rfl (by simp [Value.oneCell']) (by omega) (by unfold maxLen; omega) (Nat.zero_le _) ?_; intro A3 c3 w3 o3 g3 r3; have hb3 := keep_box HO.out HCO.out.box (by decide) (From.alloc kw _) g3; obtain ⟨t0, t1, t2, s0, s1, s2, hpl3⟩ := box3 hb3)
          | (go_simp; go_at_call 66; refine (HIN.out _ (by first | exact From.refl _ | exact (From.refl _).drew)).mono ?_; rintro e w2 ⟨A2, c2, rfl, o2, k2⟩; have kw : From w w2 := HK1.out.trans (show From w1 w2 from ⟨k2.os, k2.tape, k2.output, k2.size, k2.block⟩); obtain ⟨q0, q1, q2, u0, u1, u2, hpl2⟩ := box3 (kw.heap HCO.out.box); rw [HNN.out] at q2))
        all_goals
          go_wp2_with fail
          refine bodyPost_ret (v := .tuple #[.int .i64 N, .int .i64 0]) (by simp [results, Try.results37, go_sem]) rfl ?_
          obtain ⟨hR, hO⟩ := SnpRow.app (q := N) (z := l) (A2 := A2) (c2 := c2) (X := w2.alloc (.cells #[.int .i64 N, .slice A2 L c2] 24)) HNN.out.symm (From.alloc kw _) HO.out (fun g hg => HS.out g (by rw [HNN.out]; exact hg)) HV.out H5.out (own_base (World.ownsRow.alloc o2 _) HK1.out.size) (by rw [hLL]; exact o3) g3 r3
          have hs3 : (w3.setCell ⟨p, 2, none⟩ (.slice A3 (N + 1) c3)).heap.size = w3.heap.size := by simp [World.setCell]
          refine ⟨rfl, hO.set (.inl HCO.out.pS) _ _, .slice A3 (N + 1) c3, ?_⟩
          have hG : ∀ k, GrowS S w w3 k → GrowS S w (w3.setCell ⟨p, 2, none⟩ (.slice A3 (N + 1) c3)) k := fun k hk => by
            rcases hk with hk | hk
            · exact .inl hk
            · exact .inr ⟨hk.1, by rw [hs3]; exact hk.2⟩
          have hOs := hO.size
          rw [numb_snoc, HNA.out]
          exact {
            lt := fun i hi => by
              rcases hi with hi | hi
              · rw [hs3]; exact Nat.lt_of_lt_of_le (HCO.out.lt i hi) hOs
              · exact hi.2
            pS := .inl HCO.out.pS
            box := heap_set_at hb3 2 _
            row := (hR.set hb3 (by decide) (by decide) _).mono hG
            nn := HCO.out.nn
            len := by simp [HNN.out]; omega
            bs_lt := by have := HCO.out.bs_lt; simp; omega
            ok := fun x hx => by
              rcases List.mem_append.1 hx with hx | hx
              · exact HCO.out.ok x hx
              · obtain rfl := List.mem_singleton.1 hx
                exact ⟨hLL.trans C1.out, HFT.out⟩ }
  · have d1 : ((l.length : Int) != (n : Int)) = true := by simp; omega
    have hr : a = 0 ∧ c = 1 ∧ all' = all := by
      have h := HT.out
      rw [takeP, if_pos c1] at h
      simp only [Prod.mk.injEq] at h
      exact ⟨h.1.symm, h.2.1.symm, h.2.2.symm⟩
    obtain ⟨rfl, rfl, rfl⟩ := hr
    go_enter Try.func37, Try.ntmps37
    go_wp2_with fail
    refine bodyPost_ret (v := .tuple #[.int .i64 0, .int .i64 1]) (by simp [results, Try.results37, go_sem]) rfl ?_
    exact ⟨rfl, Off.refl _ _, SAME.out _ (From.refl _)⟩
end Go.Proofs.Ytpdbdpmlppbnnaa

namespace Go.Proofs.Ytpdbdpmlppbnnaa
open Go.RowKit Go.Shelf

theorem RSrcC.setBs {S : Nat → Prop} {w : World} {p n bs bs' : Nat} {va : Value} {l : List (Nat × List Int)} (h : RSrcC S w p n bs va l) (hb : bs' < l.length) :
    Off S w (w.setCell ⟨p, 1, none⟩ (.int .i64 bs')) ∧ RSrcC (GrowS S w (w.setCell ⟨p, 1, none⟩ (.int .i64 bs'))) (w.setCell ⟨p, 1, none⟩ (.int .i64 bs')) p n bs' va l := by
  have hs : (w.setCell ⟨p, 1, none⟩ (.int .i64 bs')).heap.size = w.heap.size := by simp [World.setCell]
  exact ⟨(Off.refl _ _).set (.inl h.pS) _ _, { h with
    lt := fun i hi => by
      rcases hi with hi | hi
      · rw [hs]; exact h.lt i hi
      · exact hi.2
    pS := .inl h.pS
    box := heap_set_at h.box 1 _
    row := (h.row.set h.box (by decide) (by decide) _).mono fun _ => .inl
    bs_lt := hb }⟩
theorem rAck_calls (S : Nat → Prop) (p n : Nat) (all : List (List Int)) (bs : Nat) (q : Int) (w : World) (h : RSrc S w p n all bs) (hq : -9223372036854775808 ≤ q ∧ q ≤ 9223372036854775807) (c : Int) (bs' : Nat) (hr : ackP (all.length - 1) bs q = (c, bs')) :
    Calls Try.prog 41 #[.pointer (some ⟨p, 0, none⟩), .int .i64 q] w (RSrcPost S w p n all bs' (.int .i64 c)) := by
  have SAME := bx (h.grow (From.refl w))
  obtain ⟨va, hc⟩ := h
  obtain ⟨AV, c0, e0⟩ := hc.row.low
  subst e0
  have HC := bx hc
  obtain ⟨x0, x1, x2, f0, f1, f2, hpl⟩ := box3 hc.box
  obtain ⟨N, hN⟩ : ∃ N, (numb all).length = N := ⟨_, rfl⟩
  have hNa : all.length = N := by rw [← hN, numb_len]
  have hbl := hc.bs_lt
  have hle := hc.len
  rw [hN] at x2 hbl hle
  rw [hNa] at hr
  have HN := bx hN
  have HR := bx hr
  clear hc hN hr hNa
  have e1 : IntKind.i64.wrap ((N : Int) - 1) = (N : Int) - 1 := IntWalk.i64_in _ (by omega)
  have e2 : IntKind.i64.wrap ((N : Int) - 1 - 64) = (N : Int) - 1 - 64 := IntWalk.i64_in _ (by omega)
  have DONE : ∀ (r : Int × Nat), ackP (N - 1) bs q = r → c = r.1 ∧ bs' = r.2 := fun r hr => by have h := HR.out; rw [hr] at h; exact ⟨by rw [h], by rw [h]⟩
  by_cases a1 : q < 1
  · have d1 : decide (q < 1) = true := decide_eq_true a1
    obtain ⟨rfl, rfl⟩ := DONE (3, bs) (by rw [ackP, if_neg (by omega), if_neg (by omega)])
    clear DONE
    go_enter Try.func41, Try.ntmps41
    go_wp2
    go_ret
    exact ⟨rfl, Off.refl _ _, SAME.out⟩
  have d1 : decide (q < 1) = false := decide_eq_false a1
  by_cases a2 : q > (N : Int) - 1
  · have d2 : decide (q > (N : Int) - 1) = true := decide_eq_true a2
    obtain ⟨rfl, rfl⟩ := DONE (3, bs) (by rw [ackP, if_neg (by omega), if_neg (by omega)])
    clear DONE
    go_enter Try.func41, Try.ntmps41
    go_wp2
    go_ret
    exact ⟨rfl, Off.refl _ _, SAME.out⟩
  have d2 : decide (q > (N : Int) - 1) = false := decide_eq_false a2
  obtain ⟨k, rfl⟩ : ∃ k : Nat, q = (k : Int) := ⟨q.toNat, by omega⟩
  by_cases a3 : (k : Int) > (bs : Int)
  · have d3 : decide ((k : Int) > (bs : Int)) = true := decide_eq_true a3
    by_cases a4 : (k : Int) ≤ (N : Int) - 1 - 64
    · have d4 : decide ((k : Int) ≤ (N : Int) - 1 - 64) = true := decide_eq_true a4
      obtain ⟨rfl, rfl⟩ := DONE (3, bs) (by rw [ackP, if_neg (by omega), if_neg (by omega)])
      clear DONE
      go_enter Try.func41, Try.ntmps41
      go_wp2
      go_ret
      exact ⟨rfl, Off.refl _ _, SAME.out⟩
    · have d4 : decide ((k : Int) ≤ (N : Int) - 1 - 64) = false := decide_eq_false a4
      have em : max (bs : Int) (k : Int) = (k : Int) := by omega
      obtain ⟨rfl, rfl⟩ := DONE (0, k) (by rw [ackP, if_neg (by omega), if_pos (by omega)]; rfl)
      clear DONE
      go_enter Try.func41, Try.ntmps41
      go_wp2
      go_ret
      obtain ⟨h1, h2⟩ := HC.out.setBs (bs' := bs') (by rw [HN.out]; omega)
      exact ⟨rfl, h1, _, h2⟩
  · have d3 : decide ((k : Int) > (bs : Int)) = false := decide_eq_false a3
    have em : max (bs : Int) (k : Int) = (bs : Int) := by omega
    obtain ⟨rfl, rfl⟩ := DONE (0, bs) (by rw [ackP, if_pos (by omega)])
    clear DONE
    go_enter Try.func41, Try.ntmps41
    go_wp2
    go_ret
    obtain ⟨h1, h2⟩ := HC.out.setBs (bs' := bs') (by rw [HN.out]; omega)
    exact ⟨rfl, h1, _, h2⟩
end Go.Proofs.Ytpdbdpmlppbnnaa

namespace Go.Proofs.Ytpdbdpmlppbnnaa
open Go.RowKit Go.Shelf

theorem enc23 {bs : Nat} {bv : List Int} {seq : Nat} {nv : List Int} {o : List Nat} {room : Int} {L : List Int} (h : encP bs bv seq nv o room = (L, 23)) : L = [] := by
  unfold encP at h
  split at h
  · exact (Prod.mk.inj h).1.symm
  · split at h
    · exact (Prod.mk.inj h).1.symm
    · exact absurd (Prod.mk.inj h).2 (by decide)
set_option maxHeartbeats 2000000 in
set_option maxRecDepth 10000 in
theorem rPacket_calls (S : Nat → Prop) (p n : Nat) (all : List (List Int)) (bs : Nat) (vo : Value) (o : List Nat) (room : Int) (w : World) (h : RSrc S w p n all bs) (ho : all.length ≠ 1 → Ints w vo (nl o) ∧ Perm n o) (x : List Int × Int) (hx : packP all bs o room = x) :
    Calls Try.prog 38 #[.pointer (some ⟨p, 0, none⟩), vo, .int .i64 room] w (EncPost w x) := by
  obtain ⟨va, hc⟩ := h
  obtain ⟨N, hN⟩ : ∃ N, (numb all).length = N := ⟨_, rfl⟩
  have hNa : all.length = N := by rw [← hN, numb_len]
  have hbl := hc.bs_lt
  have hle := hc.len
  rw [hN] at hbl hle
  have HX := bx hx
  obtain ⟨x0, x1, x2, f0, f1, f2, hpl⟩ := box3 hc.box
  have e1 : IntKind.i64.wrap ((N : Int) - 1) = (N : Int) - 1 := IntWalk.i64_in _ (by omega)
  have HC := bx hc
  clear hx
  by_cases c1 : N = 1
  · subst c1
    have hx1 := HX.out
    rw [packP, if_pos hNa] at hx1
    subst hx1
    obtain ⟨A0, c0, e0⟩ := hc.row.low
    subst e0
    rw [hN] at x2
    clear ho hc
    go_enter Try.func38, Try.ntmps38
    go_wp2_with fail
    refine bodyPost_ret (v := .tuple #[.slice none 0 0, .int .i64 3]) (by simp [results, Try.results38, go_sem]) rfl ?_
    exact ⟨none, 0, rfl, own_nil _ _ _ _, From.refl _⟩
  obtain ⟨hio, hpo⟩ := ho (by omega)
  obtain ⟨last, rfl⟩ : ∃ last, N = last + 1 := ⟨N - 1, by omega⟩
  have el : ((last + 1 : Nat) : Int) - 1 = (last : Int) := by omega
  have d1 : ((last : Int) == 0) = false := by simp; omega
  obtain ⟨g, c0, A1, c1', e0, hg, y0, y1, r1⟩ := hc.row.at_ (k := bs) hc.bs_lt
  obtain ⟨g', c0', A2, c2, e0', hg', z0, z1, r2⟩ := hc.row.at_ (k := last) (by rw [hN]; omega)
  subst e0
  injection e0' with e01 _ e03
  injection e01 with e01
  injection e01 with e01
  subst e01 e03
  have hk1 : (numb all)[bs]'hc.bs_lt = (bs, all.getD bs []) := by simp [numb]
  have hk2 : (numb all)[last]'(by rw [hN]; omega) = (last, all.getD last []) := by simp [numb]
  have ok1 := hc.ok _ (List.getElem_mem hc.bs_lt)
  have ok2 := hc.ok _ (List.getElem_mem (show last < (numb all).length by rw [hN]; omega))
  rw [hk1] at ok1 y0 y1 r1
  rw [hk2] at ok2 z0 z1 r2
  simp only at ok1 ok2 y0 y1 z0 z1 r1 r2
  rw [hN] at x2
  obtain ⟨y, hy⟩ : ∃ y, encP bs (all.getD bs []) last (all.getD last []) o room = y := ⟨_, rfl⟩
  have hx1 : x = (y.1, if y.2 = 23 then 44 else y.2) := by
    rw [← HX.out, packP, if_neg (by omega), show all.length - 1 = last by omega, hy]
  have hnn := hc.nn
  have HE := bx (fun (V : World) (k : From w V) => encodeR_calls n bs _ (all.getD bs []) last _ (all.getD last []) vo o room V ⟨r1.ints.from k, r2.ints.from k, hio.from k, ok1.1, ok2.1, hpo, ⟨by omega, by omega⟩, ok1.2, ok2.2, ⟨by omega, by omega⟩⟩ y hy)
  have HX1 := bx hx1
  have HY := bx hy
  obtain ⟨AO, cO, rfl⟩ := hio.form
  generalize (all.getD bs []).length = N1 at *
  generalize (all.getD last []).length = N2 at *
  have b1 : (0 : Int) ≤ (bs : Int) := by omega
  have b2 : (bs : Int) < (last : Int) + 1 := by omega
  have b3 : (0 : Int) ≤ (last : Int) := by omega
  have b4 : (last : Int) < (last : Int) + 1 := by omega
  clear c1 r1 r2 hx1 hy hio hpo ho ok1 ok2 hk1 hk2 hc
  rw [el] at e1
  go_enter Try.func38, Try.ntmps38
  go_upto_region 4 with fail
  go_cut [9, 10] from 11 (fun s8 s9 wx => ∃ A c, s8 = .slice A y.1.length c ∧ s9 = .int .i64 y.2 ∧ wx.ownsRow w.heap.size 5 1 (.slice A y.1.length c) y.1.length (yc y.1) ∧ From w wx)
  case first =>
    go_region_law (first | (go_simp; go_at_call 67; refine (HE.out _ (by first | exact From.refl _ | exact (From.refl _).drew)).mono ?_; rintro e W2 ⟨A2, c2, rfl, o2, k2⟩))
    all_goals
      go_wp2
      go_meet
      case rel => exact ⟨A2, c2, rfl, rfl, o2, ⟨k2.os, k2.tape, k2.output, k2.size, k2.block⟩⟩
  case rest =>
    obtain ⟨A2, c2, rfl, rfl, o2, k2⟩ := hcut
    have HO := bx o2
    have HK := bx k2
    obtain ⟨L, ec⟩ := y
    have hy0 := HY.out
    simp only at HX1 HO ⊢
    clear o2 k2
    by_cases ce : ec = 23
    · have d2 : (ec == 23) = true := by simp [ce]
      have hx1 := HX1.out
      rw [if_pos ce] at hx1
      have hL : L = [] := enc23 (hy0.trans (by rw [ce]))
      subst hL
      subst hx1
      clear ce hy0
      go_wp2
      refine bodyPost_ret (v := .tuple #[.slice none 0 0, .int .i64 44]) (by simp [results, Try.results38, go_sem]) rfl ?_
      exact ⟨none, 0, rfl, own_nil _ _ _ _, HK.out⟩
    · have d2 : (ec == 23) = false := by simpa using ce
      have hx1 := HX1.out
      rw [if_neg ce] at hx1
      subst hx1
      clear ce
      go_wp2
      refine bodyPost_ret (v := .tuple #[.slice A2 L.length c2, .int .i64 ec]) (by simp [results, Try.results38, go_sem]) rfl ?_
      exact ⟨A2, c2, rfl, HO.out, HK.out⟩
end Go.Proofs.Ytpdbdpmlppbnnaa

namespace Go.Proofs.Ytpdbdpmlppbnnaa
open Go.RowKit Go.Shelf

def FindPost (S : Nat → Prop) (w : World) (r : Option (Nat × List Int)) (e : Ending) (w' : World) : Prop :=
  match r with
  | none => e = .returned (.tuple #[snv 0 (.slice none 0 0), .bool false]) ∧ From w w'
  | some x => ∃ A c, e = .returned (.tuple #[snv x.1 (.slice A x.2.length c), .bool true]) ∧ IRow S w' (.slice A x.2.length c) x.2 ∧ From w w'
theorem find_take {l : List (Nat × List Int)} {q : Int} {k : Nat} (hk : k < l.length) (h : ∀ j (hj : j < l.length), j < k → ((l[j].1 : Int) == q) = false) (hx : ((l[k].1 : Int) == q) = true) : l.find? (fun x => (x.1 : Int) == q) = some l[k] := by
  rw [List.find?_eq_some_iff_getElem]
  refine ⟨hx, k, hk, rfl, fun j hj => ?_⟩
  rw [h j (by omega) hj]
  rfl
theorem rFind_calls (S : Nat → Prop) (p n : Nat) (l : List (Nat × List Int)) (q : Int) (w : World) (h : RSnk S w p n l) (r : Option (Nat × List Int)) (hr : l.find? (fun x => (x.1 : Int) == q) = r) :
    Calls Try.prog 69 #[.pointer (some ⟨p, 0, none⟩), .int .i64 q] w (FindPost S w r) := by
  obtain ⟨va, hc⟩ := h
  obtain ⟨AV, c0, e0⟩ := hc.row.low
  subst e0
  obtain ⟨W0, hW0⟩ : ∃ W, w.alloc (.cells #[.int .i64 0, .slice none 0 0] 24) = W := ⟨_, rfl⟩
  have k0 : From w W0 := by rw [← hW0]; exact (From.refl _).alloc _
  have b0 : W0.heap[w.heap.size]? = some (.cells #[.int .i64 0, .slice none 0 0] 24 (0, 0)) := by rw [← hW0]; exact heap_alloc_new _ _
  have HC := bx (fun (W : World) (k : From w W) => hc.same k.size (SameOn.of k hc.lt))
  have HR := bx hr
  have HK0 := bx k0
  have HB0 := bx b0
  have HLE := bx hc.len
  have hcl := hc.lt
  obtain ⟨N, hN⟩ : ∃ N, l.length = N := ⟨_, rfl⟩
  have HN := bx hN
  have hNb : N ≤ 1000000 := by have := hc.len; omega
  clear hr hc k0 b0
  go_enter Try.func69, Try.ntmps69
  go_wp2_with fail
  try rw [hW0]
  clear hW0 hN
  go_loopw [6] (fun i wr => ∃ k : Nat, k ≤ N ∧ i = .int .i64 k ∧ (∀ j (hj : j < l.length), j < k → ((l[j].1 : Int) == q) = false) ∧ wr.heap[w.heap.size]? = some (.cells #[.int .i64 0, .slice none 0 0] 24 (0, 0)) ∧ From w wr) (fun i _ => N - (intOf i).toNat)
  case atStart => exact ⟨0, Nat.zero_le _, rfl, fun j hj h => absurd h (by omega), HB0.out, HK0.out⟩
  case round =>
    obtain ⟨k, hk, rfl, hall, hb, hf⟩ := hrel
    have HA := bx hall
    have HB := bx hb
    have HF := bx hf
    have HCW := bx (HC.out wr hf)
    obtain ⟨x0, x1, f0, f1, hpl⟩ := box2 HCW.out.box
    rw [HN.out] at x1
    clear hall hb hf
    by_cases hlt : k < N
    · have hkl : k < l.length := by have := HN.out; omega
      obtain ⟨g, c0', A1, c1, e0, hg, y0, y1, r1⟩ := HCW.out.row.at_ hkl
      injection e0 with e01 _ e03
      subst e01 e03
      have HR1 := bx r1
      have z1 : decide ((k : Int) < (N : Int)) = true := decide_eq_true (by omega)
      have z2 : (k : Int) < (N : Int) := by omega
      have z3 : (0 : Int) ≤ (k : Int) := by omega
      cases hx : ((l[k].1 : Int) == q) with
      | true =>
        have hr : r = some l[k] := HR.out.symm.trans (find_take hkl HA.out hx)
        have HRR := bx hr
        obtain ⟨t0, t1, t2, t3, _⟩ := box2 HB.out
        clear r1 hr
        go_wp2_with fail
        have b9 := box2_set HB.out (.int .i64 l[k].1) (.slice A1 l[k].2.length c1)
        refine bodyPost_ret (v := .tuple #[snv l[k].1 (.slice A1 l[k].2.length c1), .bool true]) (by simp [results, Try.results69, go_sem, cell_of_row _ _ _ _ _ _ b9]) rfl ?_
        rw [HRR.out]
        refine ⟨A1, c1, rfl, HR1.out.same (fun j hj => ?_), from_set (from_set HF.out (Nat.le_refl _) _ _) (Nat.le_refl _) _ _⟩
        have := hcl j hj
        rw [heap_set_off _ (by omega), heap_set_off _ (by omega)]
      | false =>
        have HAN := bx (show ∀ j (hj : j < l.length), j < k + 1 → ((l[j].1 : Int) == q) = false from fun j hj hj2 => by
          by_cases hq : j = k
          · subst hq; exact hx
          · exact HA.out j hj (by omega))
        clear r1
        go_wp2_with fail
        go_roundw
        case rel => exact ⟨k + 1, by omega, by go_num, HAN.out, HB.out, HF.out⟩
        case measure => simp [intOf]; omega
    · have z1 : decide ((k : Int) < (N : Int)) = false := decide_eq_false (by omega)
      have HFD := bx (show l.find? (fun x => (x.1 : Int) == q) = none from by
        rw [List.find?_eq_none]
        intro x hx
        obtain ⟨j, hj, rfl⟩ := List.getElem_of_mem hx
        rw [HA.out j hj (by have := HN.out; omega)]
        exact Bool.false_ne_true)
      obtain ⟨t0, t1, t2, t3, _⟩ := box2 HB.out
      go_wp2_with fail
      have b9 := box2_set HB.out (.int .i64 0) (.slice none 0 0)
      refine bodyPost_ret (v := .tuple #[snv 0 (.slice none 0 0), .bool false]) (by simp [results, Try.results69, go_sem, cell_of_row _ _ _ _ _ _ b9]) rfl ?_
      rw [← HR.out, HFD.out]
      exact ⟨rfl, from_set (from_set HF.out (Nat.le_refl _) _ _) (Nat.le_refl _) _ _⟩
theorem rGet_calls (S : Nat → Prop) (p n : Nat) (l : List (Nat × List Int)) (q : Int) (w : World) (h : RSnk S w p n l) (r : Option (Nat × List Int)) (hr : l.find? (fun x => (x.1 : Int) == q) = r) :
    Calls Try.prog 42 #[.pointer (some ⟨p, 0, none⟩), .int .i64 q] w fun e w' => ∃ A c, e = .returned (.tuple #[.slice A (r.elim [] (·.2)).length c, .bool r.isSome]) ∧ Ints w' (.slice A (r.elim [] (·.2)).length c) (r.elim [] (·.2)) ∧ From w w' := by
  have HF := bx (rFind_calls S p n l q w h r hr)
  have hcl := h.lt
  clear hr h
  go_enter Try.func42, Try.ntmps42
  go_wp2_with fail
  refine HF.out.mono ?_
  cases r with
  | none =>
    rintro e w1 ⟨rfl, k1⟩
    obtain ⟨W1, hW1⟩ : ∃ W, w1.alloc (.cells #[.int .i64 0, .slice none 0 0] 24) = W := ⟨_, rfl⟩
    have k2 : From w W1 := by rw [← hW1]; exact k1.alloc _
    have b0 := heap_alloc_new w1 (.cells #[.int .i64 0, .slice none 0 0] 24)
    rw [hW1] at b0
    obtain ⟨t0, t1, t2, t3, _⟩ := box2 b0
    have hs := Below.size k1
    have HB := bx (box2 (box2_set b0 (.int .i64 0) (.slice none 0 0)))
    obtain ⟨y0, y1, y2, y3, _⟩ := HB.out
    have K2 := bx k2
    clear k1 k2 b0
    go_wp2_with fail
    refine bodyPost_ret (v := .tuple #[.slice none 0 0, .bool false]) (by simp [results, Try.results42, go_sem]) rfl ?_
    exact ⟨none, 0, rfl, ⟨.inl ⟨rfl, rfl, rfl⟩⟩, from_set (from_set K2.out hs _ _) hs _ _⟩
  | some x =>
    rintro e w1 ⟨A, c, rfl, r1, k1⟩
    obtain ⟨W1, hW1⟩ : ∃ W, w1.alloc (.cells #[.int .i64 0, .slice none 0 0] 24) = W := ⟨_, rfl⟩
    have k2 : From w W1 := by rw [← hW1]; exact k1.alloc _
    have b0 := heap_alloc_new w1 (.cells #[.int .i64 0, .slice none 0 0] 24)
    rw [hW1] at b0
    obtain ⟨t0, t1, t2, t3, _⟩ := box2 b0
    have hs := Below.size k1
    obtain ⟨y0, y1, y2, y3, _⟩ := box2 (box2_set b0 (.int .i64 x.1) (.slice A x.2.length c))
    have K2 := bx k2
    have hcl2 : ∀ j, S j → j < w1.heap.size := fun j hj => Nat.lt_of_lt_of_le (hcl j hj) hs
    have R1 := bx (r1.same (SameOn.of (show From w1 W1 by rw [← hW1]; exact (From.refl _).alloc _) hcl2))
    have B0 := bx b0
    clear k1 k2 b0 r1
    go_wp2_with fail
    refine bodyPost_ret (v := .tuple #[.slice A x.2.length c, .bool true]) (by simp [results, Try.results42, go_sem]) rfl ?_
    refine ⟨A, c, rfl, (R1.out.same (fun j hj => ?_)).ints, from_set (from_set K2.out hs _ _) hs _ _⟩
    have := hcl2 j hj
    rw [heap_set_off _ (by omega), heap_set_off _ (by omega)]
end Go.Proofs.Ytpdbdpmlppbnnaa

namespace Go.Proofs.Ytpdbdpmlppbnnaa
open Go.RowKit Go.Shelf

def markP (l : List Int) : Bool := (((rdS (rdS (rdS (.good l)).2).2).1 : Int) == 1)
theorem rMarked_calls (A : Option Addr) (c : Nat) (l : List Int) (w : World) (h : RfV w (.agg #[.slice A l.length c, .int .i64 0]) (.good l)) :
    Calls Try.prog 70 #[.slice A l.length c] w fun e w' => e = .returned (.bool (markP l)) ∧ From w w' := by
  have HRF := bx h
  clear h
  go_enter Try.func70, Try.ntmps70
  go_wp2_with fail
  refine (fReadUint_calls _ (.good l) w w HRF.out (From.refl w)).mono ?_
  rintro r v1 ⟨x1, rfl, hx1, k1⟩
  obtain ⟨B1, m1, d1, rfl⟩ := hx1.form
  obtain ⟨s1, hS⟩ : ∃ s, (rdS (.good l)).2 = s := ⟨_, rfl⟩
  rw [hS] at hx1 ⊢
  have HX1 := bx hx1
  have K1 := bx k1
  have b0 := heap_alloc_new v1 (.cells #[.slice B1 m1 d1, .int .i64 s1.err] 84)
  obtain ⟨W1, hW1⟩ : ∃ W, v1.alloc (.cells #[.slice B1 m1 d1, .int .i64 s1.err] 84) = W := ⟨_, rfl⟩
  rw [hW1] at b0
  have k2 : From w W1 := by rw [← hW1]; exact k1.alloc _
  have HB0 := bx b0
  have K2 := bx k2
  obtain ⟨t0, t1, t2, t3, _⟩ := box2 b0
  have hs1 := Below.size k1
  clear hx1 k1 b0 k2
  go_wp2_with fail
  refine (fReadUint_calls _ s1 w _ HX1.out K2.out).mono ?_
  rintro r v2 ⟨x2, rfl, hx2, k3⟩
  obtain ⟨B2, m2, d2, rfl⟩ := hx2.form
  obtain ⟨s2, hS2⟩ : ∃ s, (rdS s1).2 = s := ⟨_, rfl⟩
  rw [hS2] at hx2 ⊢
  have b3 := k3.heap HB0.out
  have HX2 := bx hx2
  have K3 := bx (K2.out.trans k3)
  have HB3 := bx b3
  obtain ⟨y0, y1, y2, y3, _⟩ := box2 b3
  obtain ⟨z0, z1, z2, z3, _⟩ := box2 (box2_set b3 (.slice B2 m2 d2) (.int .i64 s2.err))
  have kst := from_set (from_set K3.out hs1 0 (.slice B2 m2 d2)) hs1 1 (.int .i64 s2.err)
  have KST := bx kst
  clear hx2 k3 b3 kst t0 t1 t2 t3
  go_wp2_with fail
  refine (fReadUint_calls _ s2 w _ HX2.out KST.out).mono ?_
  rintro r v3 ⟨x3, rfl, hx3, k4⟩
  obtain ⟨B3, m3, d3, rfl⟩ := hx3.form
  have hm : markP l = (((rdS s2).1 : Int) == 1) := by rw [markP, hS, hS2]
  have HM := bx hm
  have K4 := bx (KST.out.trans k4)
  clear hx3 k4 hm
  go_wp2_with fail
  go_ret
  exact ⟨ret_bool HM.out.symm, K4.out.alloc _⟩
end Go.Proofs.Ytpdbdpmlppbnnaa

namespace Go.Proofs.Ytpdbdpmlppbnnaa
open Go.RowKit Go.Shelf

/-- what the reference's sink has -/
def hasL (l : List (Nat × List Int)) (q : Nat) : Option (Nat × List Int) := l.find? (fun x => (x.1 : Int) == (q : Int))
def rputP (l : List (Nat × List Int)) (b : List Int) : Int × Bool × Int × List (Nat × List Int) :=
  match decP (hasL l) b with
  | .err c => (0, false, c, l)
  | .ok seq vals _ all => ((seq : Nat), all, 0, if all = true ∧ (hasL l seq).isSome = false then l ++ [(seq, vals)] else l)
theorem decP_bad {b : List Int} {has : Nat → Option (Nat × List Int)} {e : Int} (h : (rdS (.good b)).2 = .bad e) : decP has b = .err e := by
  have e1 : headS b has = (.bad e, (rdS (.good b)).1, 0, 0, 0) := by
    obtain ⟨o, ho⟩ : ∃ o, has (rdS (.good b)).1 = o := ⟨_, rfl⟩
    cases o <;> simp only [headS, ho, h, rdS_bad, failS_bad, ite_self]
  rw [decP, e1]
theorem hasL_some {l : List (Nat × List Int)} {q : Nat} {x : Nat × List Int} (h : hasL l q = some x) : x.1 = q ∧ x ∈ l := by
  have h2 := List.find?_some h
  simp only [beq_iff_eq] at h2
  exact ⟨by omega, List.mem_of_find?_eq_some h⟩
theorem hasL_min {l : List (Nat × List Int)} (q : Nat) (hl : ∀ x ∈ l, x.1 ≤ 1000000) : l.find? (fun x => (x.1 : Int) == min (q : Int) 1000001) = hasL l q := by
  by_cases h : q ≤ 1000001
  · rw [show min (q : Int) 1000001 = (q : Int) by omega]
    rfl
  · rw [show min (q : Int) 1000001 = 1000001 by omega]
    rw [hasL, List.find?_eq_none.2 (fun x hx => by have := hl x hx; simp; omega), List.find?_eq_none.2 (fun x hx => by have := hl x hx; simp; omega)]
theorem decP_mark {has : Nat → Option (Nat × List Int)} {b : List Int} {seq : Nat} {vals : List Int} {known : List Bool} {all : Bool} (h : decP has b = .ok seq vals known all) : all = markP b := by
  unfold decP at h
  obtain ⟨⟨s8, first, sq, mark, count⟩, hE⟩ : ∃ E, headS b has = E := ⟨_, rfl⟩
  rw [hE] at h
  cases s8 with
  | bad e => cases h
  | good r =>
    have hm : mark = (rdS (rdS (rdS (.good b)).2).2).1 := by
      unfold headS at hE
      simp only [Prod.mk.injEq] at hE
      obtain ⟨h8, hf, hs, hm, hc⟩ := hE
      obtain ⟨a1, a2⟩ := if_good rfl h8
      obtain ⟨l6, a3⟩ := rdS_good a2
      obtain ⟨a4, a5⟩ := if_good rfl a3
      obtain ⟨l4, a6⟩ := rdS_good a5
      obtain ⟨a7, a8⟩ := if_good rfl a6
      obtain ⟨l2, a9⟩ := rdS_good a8
      rw [if_neg a7] at hm
      obtain ⟨o, ho⟩ : ∃ o, has (rdS (.good b)).1 = o := ⟨_, rfl⟩
      cases o with
      | none => rw [ho] at a9; exact absurd a9 (fun h => failS_good h)
      | some x => rw [ho] at hm; exact hm.symm
    have ha : all = (mark == 1) := by
      simp only at h
      cases hf : has first with
      | none => rw [hf] at h; cases h
      | some x =>
        rw [hf] at h
        simp only at h
        split at h
        · cases h
        · split at h
          · cases h
          · injection h with _ _ _ h4
            exact h4.symm
    rw [ha, hm, markP, Bool.eq_iff_iff, beq_iff_eq, beq_iff_eq]
    omega
end Go.Proofs.Ytpdbdpmlppbnnaa

namespace Go.Proofs.Ytpdbdpmlppbnnaa
open Go.RowKit Go.Shelf

def RSnkPost (S : Nat → Prop) (w : World) (p n : Nat) (l : List (Nat × List Int)) (v : Value) (e : Ending) (w' : World) : Prop :=
  e = .returned v ∧ Off S w w' ∧ RSnk (GrowS S w w') w' p n l
theorem RSnk.grow {S : Nat → Prop} {w w' : World} {p n : Nat} {l : List (Nat × List Int)} (h : RSnk S w p n l) (k : From w w') : RSnk (GrowS S w w') w' p n l := by
  obtain ⟨va, h⟩ := h.from k
  exact ⟨va, { h with
    lt := fun i hi => by rcases hi with hi | hi; exact h.lt i hi; exact hi.2
    pS := .inl h.pS
    row := h.row.mono fun _ => .inl }⟩
set_option maxHeartbeats 4000000 in
set_option maxRecDepth 10000 in
theorem rPut_calls (S : Nat → Prop) (p n : Nat) (l : List (Nat × List Int)) (A0 : Option Addr) (c0 : Nat) (b : List Int) (w : World) (h : RSnk S w p n l) (hb : RfV w (.agg #[.slice A0 b.length c0, .int .i64 0]) (.good b)) (hby : Byts w (.slice A0 b.length c0) b) (hbb : bytes b) (hbl : b.length ≤ 140737488355328) (hbc : b.length ≤ c0) (hll : l.length < 1000000)
    (q : Int) (t : Bool) (ec : Int) (l' : List (Nat × List Int)) (hr : rputP l b = (q, t, ec, l')) :
    Calls Try.prog 40 #[.pointer (some ⟨p, 0, none⟩), .slice A0 b.length c0] w (RSnkPost S w p n l' (.tuple #[.int .i64 q, .bool t, .int .i64 ec])) := by
  have SAME := bx (fun (w' : World) (k : From w w') => h.grow k)
  have H := bx h
  have hok := (show ∀ x ∈ l, x.1 ≤ 1000000 ∧ x.2.length = n ∧ ∀ y ∈ x.2, fitsV y by obtain ⟨_, h⟩ := h; exact h.ok)
  have hnn := (show 1 ≤ n ∧ n ≤ 32 by obtain ⟨_, h⟩ := h; exact h.nn)
  have HRF := bx hb
  have HR := bx hr
  have HBY := bx hby
  have HOK := bx hok
  clear h hb hr hby
  go_enter Try.func40, Try.ntmps40
  go_wp2_with fail
  refine (fReadUint_calls _ (.good b) w w HRF.out (From.refl w)).mono ?_
  rintro r v1 ⟨x1, rfl, hx1, k1⟩
  obtain ⟨B1, m1, d1, rfl⟩ := hx1.form
  obtain ⟨first, hU⟩ : ∃ q, (rdS (.good b)).1 = q := ⟨_, rfl⟩
  obtain ⟨s1, hS⟩ : ∃ s, (rdS (.good b)).2 = s := ⟨_, rfl⟩
  rw [hS] at hx1 ⊢
  rw [hU]
  have HU := bx hU
  have HS := bx hS
  have b0 := heap_alloc_new v1 (.cells #[.slice B1 m1 d1, .int .i64 s1.err] 84)
  obtain ⟨W1, hW1⟩ : ∃ W, v1.alloc (.cells #[.slice B1 m1 d1, .int .i64 s1.err] 84) = W := ⟨_, rfl⟩
  rw [hW1] at b0
  have k2 : From w W1 := by rw [← hW1]; exact k1.alloc _
  have HB0 := bx b0
  have K2 := bx k2
  obtain ⟨t0, t1, t2, t3, _⟩ := box2 b0
  have hfq := rdS_lt HRF.out.okb
  rw [hU] at hfq
  have K1 := bx k1
  clear hx1 k1 b0 k2
  cases s1 with
  | bad e =>
    have hne : e ≠ 0 := decP_err (decP_bad (has := fun _ => none) hS)
    have d1 : (e != 0) = true := by simp [hne]
    have hrr : q = 0 ∧ t = false ∧ ec = e ∧ l' = l := by
      have h := HR.out
      rw [rputP, decP_bad hS] at h
      simp only [Prod.mk.injEq] at h
      exact ⟨h.1.symm, h.2.1.symm, h.2.2.1.symm, h.2.2.2.symm⟩
    obtain ⟨rfl, rfl, rfl, rfl⟩ := hrr
    simp only [St.err] at t1 ⊢
    go_upto_region 3 with fail
    go_region
    all_goals
      go_wp2
      refine bodyPost_ret (v := .tuple #[.int .i64 0, .bool false, .int .i64 ec]) (by simp [results, Try.results40, go_sem]) rfl ?_
      exact ⟨rfl, Off.of (From.alloc K1.out _).drew, SAME.out _ (From.alloc K1.out _).drew⟩
  | good l1 =>
    simp only [St.err] at t1 ⊢
    have hmin := hasL_min first (fun x hx => (hok x hx).1)
    obtain ⟨r0, hr0⟩ : ∃ r, hasL l first = r := ⟨_, rfl⟩
    have HFD := bx (fun (V : World) (k : From w V) (z : Int) (hz : min (first : Int) 1000001 = z) => rFind_calls S p n l z V (H.out.from k) r0 (by rw [← hz]; exact hmin.trans hr0))
    have HR0 := bx hr0
    clear hmin hr0
    by_cases cm : (first : Int) ≤ 1000001
    · go_wp2_with fail
      refine (HFD.out _ (From.alloc K1.out _) (first : Int) (by omega)).mono ?_
      cases r0 with
      | none =>
        rintro e v2 ⟨rfl, k3⟩
        have hrr : q = 0 ∧ t = false ∧ ec = 43 ∧ l' = l := by
          have h := HR.out
          rw [rputP, decP_none (ec := 43) ⟨HU.out, HS.out⟩ HR0.out rfl] at h
          simp only [Prod.mk.injEq] at h
          exact ⟨h.1.symm, h.2.1.symm, h.2.2.1.symm, h.2.2.2.symm⟩
        obtain ⟨rfl, rfl, rfl, rfl⟩ := hrr
        have K3 := bx (From.trans (From.alloc K1.out (.cells #[.slice B1 m1 d1, .int .i64 0] 84)) k3)
        have hs3 := Below.size K3.out
        clear k3
        go_wp2_with fail
        refine bodyPost_ret (v := .tuple #[.int .i64 0, .bool false, .int .i64 43]) (by simp [results, Try.results40, go_sem]) rfl ?_
        have kk := From.alloc K3.out (.cells #[.int .i64 0, .slice none 0 0] 24)
        exact ⟨rfl, Off.of kk, SAME.out _ kk⟩
      | some x =>
        rintro e v2 ⟨A2, c2, rfl, i2, k3⟩
        obtain ⟨hx1, hxl⟩ := hasL_some HR0.out
        have hx := HOK.out x hxl
        obtain ⟨D, hD⟩ : ∃ D, decP (hasL l) b = D := ⟨_, rfl⟩
        have hD2 : decP (hasB x.1 x.2) b = D := by
          rw [← hD]
          refine decP_congr ?_
          rw [HU.out, HR0.out, hasB, if_pos hx1.symm]
        obtain ⟨W2, hW2⟩ : ∃ W, v2.alloc (.cells #[.int .i64 x.1, .slice A2 x.2.length c2] 24) = W := ⟨_, rfl⟩
        have b2 := heap_alloc_new v2 (.cells #[.int .i64 x.1, .slice A2 x.2.length c2] 24)
        rw [hW2] at b2
        have k4 : From v2 W2 := by rw [← hW2]; exact (From.refl _).alloc _
        have K4 := bx ((From.trans (From.alloc K1.out (.cells #[.slice B1 m1 d1, .int .i64 0] 84)) k3).trans k4)
        have HDC := bx (decodeR_calls x.1 (.slice A2 x.2.length c2) x.2 (.slice A0 b.length c0) b c0 A0 W2 ⟨i2.ints.from k4, by omega, hx.2.2, hx.1⟩ rfl (HBY.out.from K4.out) hbl hbc hbb D hD2)
        obtain ⟨u0, u1, u2, u3, _⟩ := box2 b2
        have HDD := bx hD
        have HHX := bx hx
        clear b2 k3 k4 i2 hD hD2 hx hx1 hxl
        go_wp2_with fail
        try rw [hW2]
        refine HDC.out.mono ?_
        cases D with
        | err c =>
          rintro e v3 ⟨rfl, k5⟩
          have hne := decP_err HDD.out
          have hrr : q = 0 ∧ t = false ∧ ec = c ∧ l' = l := by
            have h := HR.out
            rw [rputP, HDD.out] at h
            simp only [Prod.mk.injEq] at h
            exact ⟨h.1.symm, h.2.1.symm, h.2.2.1.symm, h.2.2.2.symm⟩
          obtain ⟨rfl, rfl, rfl, rfl⟩ := hrr
          have dd : (ec != 0) = true := by simp [hne]
          have K5 := bx (K4.out.trans k5)
          clear k5
          go_wp2_with fail
          refine bodyPost_ret (v := .tuple #[.int .i64 0, .bool false, .int .i64 ec]) (by simp [results, Try.results40, go_sem]) rfl ?_
          have kk := From.alloc K5.out (.cells #[.int .i64 0, .slice none 0 0] 24)
          exact ⟨rfl, Off.of kk, SAME.out _ kk⟩
        | ok seq vals known all =>
          rintro e v3 ⟨gv, cv, gk, rfl, hkl, ov, ok_, k5⟩
          have hmk := decP_mark HDD.out
          have hdk := decP_ok HDD.out (n := n) (by omega) (fun q' x' hq' => by
            obtain ⟨a1, a2⟩ := hasL_some hq'
            exact ⟨a1, (HOK.out x' a2).2⟩)
          have hrr : q = seq ∧ t = all ∧ ec = 0 ∧ l' = if all = true ∧ (hasL l seq).isSome = false then l ++ [(seq, vals)] else l := by
            have h := HR.out
            rw [rputP, HDD.out] at h
            simp only [Prod.mk.injEq] at h
            exact ⟨h.1.symm, h.2.1.symm, h.2.2.1.symm, h.2.2.2.symm⟩
          obtain ⟨rfl, rfl, rfl, hl'⟩ := hrr
          obtain ⟨W3, hW3⟩ : ∃ W, v3.alloc (.cells #[.int .i64 seq, .slice (some ⟨gv, 0, none⟩) vals.length cv] 24) = W := ⟨_, rfl⟩
          have b3 := heap_alloc_new v3 (.cells #[.int .i64 seq, .slice (some ⟨gv, 0, none⟩) vals.length cv] 24)
          rw [hW3] at b3
          have k6 : From v3 W3 := by rw [← hW3]; exact (From.refl _).alloc _
          have K6 := bx ((K4.out.trans k5).trans k6)
          have hs3 := Below.size (K4.out.trans k5)
          have OV := bx (own_base (own_call ov k6) K4.out.size)
          have HB3 := bx b3
          have HMK := bx (rMarked_calls A0 c0 b W3 (HRF.out.from K6.out))
          have HDK := bx hdk
          have HL' := bx hl'
          have HMP := bx hmk
          obtain ⟨s0, s1', s2', s3', _⟩ := box2 b3
          clear k5 k6 ov ok_ b3 hl' hmk hdk hkl
          go_wp2_with fail
          try rw [hW3]
          refine HMK.out.mono ?_
          rintro e v4 ⟨rfl, k7⟩
          rw [← HMP.out]
          obtain ⟨o0, o1, o2, o3, _⟩ := box2 (k7.heap HB3.out)
          have K7 := bx (K6.out.trans k7)
          have OV7 := bx (own_call OV.out k7)
          have HB7 := bx (k7.heap HB3.out)
          clear k7 s0 s1' s2' s3'
          cases t with
          | false =>
            have hll' := HL'.out
            rw [if_neg (by simp)] at hll'
            subst hll'
            go_wp2_with fail
            refine bodyPost_ret (v := .tuple #[.int .i64 seq, .bool false, .int .i64 0]) (by simp [results, Try.results40, go_sem]) rfl ?_
            exact ⟨rfl, Off.of K7.out, SAME.out _ K7.out⟩
          | true =>
            obtain ⟨r2, hr2⟩ : ∃ r, hasL l seq = r := ⟨_, rfl⟩
            have HFS := bx (fun (V : World) (k : From w V) => rFind_calls S p n l (seq : Int) V (H.out.from k) r2 hr2)
            have HR2 := bx hr2
            clear hr2
            go_wp2_with fail
            refine (HFS.out _ K7.out).mono ?_
            cases r2 with
            | none =>
              rintro e v5 ⟨rfl, k8⟩
              have hll' := HL'.out
              rw [if_pos (by simp [HR2.out])] at hll'
              have k9 : From v5 (v5.alloc (.cells #[.int .i64 0, .slice none 0 0] 24)) := (From.refl _).alloc _
              have KV := bx ((K7.out.trans k8).trans k9)
              have BV := bx ((k8.trans k9).heap HB7.out)
              have OVV := bx (own_call OV7.out (k8.trans k9))
              obtain ⟨va, hc⟩ := H.out
              have HC := bx hc
              obtain ⟨AV, c9, vs, e9, ho, hS9, hv9, h59⟩ := hc.row
              subst e9
              obtain ⟨N, hN⟩ : ∃ N, l.length = N := ⟨_, rfl⟩
              have HO := bx (show w.ownsRow 0 24 2 (.slice AV N c9) N (vs.flatMap snc) by rw [← hN]; exact ho)
              have HS9 := bx hS9
              have HV9 := bx hv9
              have H59 := bx h59
              have HNN := bx hN
              have HLL := bx hll'
              obtain ⟨q0, q1, f0, f1, hpl⟩ := box2 (KV.out.heap hc.box)
              rw [hN] at q1 hll
              obtain ⟨q2, q3, f2, f3, hpl2⟩ := box2 ((From.alloc KV.out (.cells #[.int .i64 seq, .slice (some ⟨gv, 0, none⟩) vals.length cv] 24)).heap hc.box)
              rw [hN] at q3
              obtain ⟨z0, z1, z2, z3, _⟩ := box2 BV.out
              clear ho hS9 hv9 h59 hc hN hll' k8 k9 o0 o1 o2 o3
              go_wp2_with fail
              have HSL := bx (show Sl ((v5.alloc (.cells #[.int .i64 0, .slice none 0 0] 24)).alloc (.cells #[.int .i64 seq, .slice (some ⟨gv, 0, none⟩) vals.length cv] 24)) (v5.heap.size + 1 + 1) (.slice (some ⟨v5.heap.size + 1, 0, none⟩) 1 1) 1 [.int .i64 seq, .slice (some ⟨gv, 0, none⟩) vals.length cv] by
                have h := sl_new (v5.alloc (.cells #[.int .i64 0, .slice none 0 0] 24)) [.int .i64 seq, .slice (some ⟨gv, 0, none⟩) vals.length cv] 24 1 1
                rw [World.size_alloc] at h
                exact h)
              go_region_law (first
                | (refine step_sl (by rfl) (.tmp 65) (.tmp 67) 105 (by rfl) Try.elSnap (by rfl) (own_call HO.out (From.alloc KV.out _).drew) 1 [.int .i64 seq, .slice (some ⟨gv, 0, none⟩) vals.length cv] (by rfl) (HSL.out.below (Below.refl _ _).drew) rfl (by simp [Value.oneCell']) (by omega) (by unfold maxLen; omega) (Nat.zero_le _) ?_; intro A3 c3 w3 o3 g3 r3; have hb3 := keep_box HO.out HC.out.box (by decide) (From.alloc KV.out _).drew g3; obtain ⟨t0, t1, s0, s1, hpl3⟩ := box2 hb3))
              all_goals
                have hb9 : w3.heap[v3.heap.size]? = some (.cells #[.int .i64 seq, .slice (some ⟨gv, 0, none⟩) vals.length cv] 24 (0, 0)) := by
                  have hx := (From.drew ((From.refl _).alloc (.cells #[.int .i64 seq, .slice (some ⟨gv, 0, none⟩) vals.length cv] 24))).heap BV.out
                  rw [g3.block _ (Array.getElem?_eq_some_iff.1 hx).1 (fun e => by have := (own_lt HO.out e.symm).2; omega)]
                  exact hx
                have hb8 : (w3.setCell ⟨p, 1, none⟩ (.slice A3 (N + 1) c3)).heap[v3.heap.size]? = some (.cells #[.int .i64 seq, .slice (some ⟨gv, 0, none⟩) vals.length cv] 24 (0, 0)) := by
                  have hpw := HC.out.lt p HC.out.pS
                  rw [heap_set_off _ (by omega)]
                  exact hb9
                obtain ⟨y0, y1, y2, y3, _⟩ := box2 hb8
                clear hb8
                go_wp2_with fail
                refine bodyPost_ret (v := .tuple #[.int .i64 seq, .bool true, .int .i64 0]) (by simp [results, Try.results40, go_sem]) rfl ?_
                obtain ⟨hR, hO⟩ := SnpRow.app (q := seq) (z := vals) (A2 := some ⟨gv, 0, none⟩) (c2 := cv) (X := ((v5.alloc (.cells #[.int .i64 0, .slice none 0 0] 24)).alloc (.cells #[.int .i64 seq, .slice (some ⟨gv, 0, none⟩) vals.length cv] 24)).drew) HNN.out.symm (From.alloc KV.out _).drew HO.out (fun g hg => HS9.out g (by rw [HNN.out]; exact hg)) HV9.out H59.out (own_base (own_call OVV.out (From.drew ((From.refl _).alloc _))) (by omega)) o3 g3 r3
                have hs9 : (w3.setCell ⟨p, 1, none⟩ (.slice A3 (N + 1) c3)).heap.size = w3.heap.size := by simp [World.setCell]
                refine ⟨rfl, hO.set (.inl HC.out.pS) _ _, .slice A3 (N + 1) c3, ?_⟩
                have hG : ∀ k, GrowS S w w3 k → GrowS S w (w3.setCell ⟨p, 1, none⟩ (.slice A3 (N + 1) c3)) k := fun k hk => by
                  rcases hk with hk | hk
                  · exact .inl hk
                  · exact .inr ⟨hk.1, by rw [hs9]; exact hk.2⟩
                have hOs := hO.size
                rw [HLL.out]
                exact {
                  lt := fun i hi => by
                    rcases hi with hi | hi
                    · rw [hs9]; exact Nat.lt_of_lt_of_le (HC.out.lt i hi) hOs
                    · exact hi.2
                  pS := .inl HC.out.pS
                  box := heap_set_at hb3 1 _
                  row := (hR.set hb3 (by decide) (by decide) _).mono hG
                  nn := HC.out.nn
                  len := by rw [List.length_append, HNN.out]; simp; omega
                  ok := fun x hx => by
                    rcases List.mem_append.1 hx with hx | hx
                    · exact HOK.out x hx
                    · obtain rfl := List.mem_singleton.1 hx
                      exact ⟨HDK.out.2.1, HDK.out.2.2.1, HDK.out.2.2.2.2⟩ }
            | some y =>
              rintro e v5 ⟨A5, c5, rfl, _, k8⟩
              have hll' := HL'.out
              rw [if_neg (by rw [HR2.out]; simp)] at hll'
              subst hll'
              have K8 := bx (K7.out.trans k8)
              obtain ⟨z0, z1, z2, z3, _⟩ := box2 ((k8.trans ((From.refl _).alloc (.cells #[.int .i64 y.1, .slice A5 y.2.length c5] 24))).heap HB7.out)
              clear k8
              go_wp2_with fail
              refine bodyPost_ret (v := .tuple #[.int .i64 seq, .bool true, .int .i64 0]) (by simp [results, Try.results40, go_sem]) rfl ?_
              have kk := From.alloc K8.out (.cells #[.int .i64 y.1, .slice A5 y.2.length c5] 24)
              exact ⟨rfl, Off.of kk, SAME.out _ kk⟩
    · have hn : r0 = none := by
        rw [← HR0.out]
        exact List.find?_eq_none.2 (fun x hx => by have := (HOK.out x hx).1; simp; omega)
      subst hn
      go_wp2_with fail
      refine (HFD.out _ (From.alloc K1.out _) 1000001 (by omega)).mono ?_
      rintro e v2 ⟨rfl, k3⟩
      have hrr : q = 0 ∧ t = false ∧ ec = 43 ∧ l' = l := by
        have h := HR.out
        rw [rputP, decP_none (ec := 43) ⟨HU.out, HS.out⟩ HR0.out rfl] at h
        simp only [Prod.mk.injEq] at h
        exact ⟨h.1.symm, h.2.1.symm, h.2.2.1.symm, h.2.2.2.symm⟩
      obtain ⟨rfl, rfl, rfl, rfl⟩ := hrr
      have K3 := bx (From.trans (From.alloc K1.out (.cells #[.slice B1 m1 d1, .int .i64 0] 84)) k3)
      clear k3
      go_wp2_with fail
      refine bodyPost_ret (v := .tuple #[.int .i64 0, .bool false, .int .i64 43]) (by simp [results, Try.results40, go_sem]) rfl ?_
      have kk := From.alloc K3.out (.cells #[.int .i64 0, .slice none 0 0] 24)
      exact ⟨rfl, Off.of kk, SAME.out _ kk⟩
end Go.Proofs.Ytpdbdpmlppbnnaa
