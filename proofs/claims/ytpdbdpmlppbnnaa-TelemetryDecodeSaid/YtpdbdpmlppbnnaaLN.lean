/-
  TelemetryDecode: for all valid bases and all byte slices Decode answers what the reference's Decode answers.
-/
import Derived.Test.YtpdbdpmlppbnnaaU24
import Derived.Test.YtpdbdpmlppbnnaaU18
import Derived.Test.YtpdbdpmlppbnnaaR8
namespace Go.Proofs.Ytpdbdpmlppbnnaa
open Go.ChangeShapes Go.WideShapes Go.ChangeAt Go.RowKit Go.Shelf

/-- an answer of Decode in its four parts -/
def outD : Dec → Int × List Int × List Bool × Int
  | .err c => (0, [], [], c)
  | .ok seq vals known _ => (seq, vals, known, 0)
theorem own_le {w : World} {base size n : Nat} {e : TypeId} {v : Value} {xs : List Value} (h : w.ownsRow base e size v n xs) : n ≤ 9223372036854775807 := by
  rcases h.2 with ⟨_, rfl⟩ | ⟨g, cap, cur, _, _, _, hn, hc, _⟩
  · omega
  · unfold maxLen at hc; omega
theorem dec3_out {w w' : World} {x : Dec} {e : Ending} (h : Dec3Post w x e w') : ∃ q vv vk xs ks c, e = .returned (.tuple #[snv q vv, vk, .int .i64 c]) ∧ outD x = (q, xs, ks, c) ∧ Ints w' vv xs ∧ Bools w' vk ks ∧ xs.length ≤ 9223372036854775807 ∧ ks.length ≤ 9223372036854775807 ∧ From w w' := by
  cases x with
  | err c =>
    obtain ⟨rfl, k⟩ := h
    exact ⟨_, _, _, [], [], c, rfl, rfl, Sl.nil _ _, Sl.nil _ _, by simp, by simp, k⟩
  | ok seq vals known all =>
    obtain ⟨gv, cv, gk, rfl, hl, o1, o2, k⟩ := h
    refine ⟨_, _, _, vals, known, 0, rfl, rfl, sl_of_own o1, ?_, own_le o1, by rw [hl]; exact own_le o1, k⟩
    have := sl_of_own o2
    show Sl _ _ _ known.length _
    rw [hl]
    exact this
set_option maxHeartbeats 4000000 in
set_option maxRecDepth 10000 in
theorem dec_walk (q0 : Int) (A0 : Option Addr) (c0 : Nat) (l0 : List Int) (A1 : Option Addr) (c1 : Nat) (l1 : List Int) (w : World)
    (hB0 : Ints w (.slice A0 l0.length c0) l0) (hm0 : l0.length ≤ 9223372036854775807) (_ : -9223372036854775808 ≤ q0 ∧ q0 ≤ 9223372036854775807) (_ : ∀ x ∈ l0, -9223372036854775808 ≤ x ∧ x ≤ 9223372036854775807)
    (hB1 : Byts w (.slice A1 l1.length c1) l1) (hm1 : l1.length ≤ 140737488355328) (hx1 : ∀ x ∈ l1, 0 ≤ x ∧ x ≤ 255) (hc1 : l1.length ≤ c1) :
    Calls Try.prog 4 #[.agg #[.int .i64 q0, .slice A0 l0.length c0], .slice A1 l1.length c1] w fun e w' => e = .returned (.bool true) ∧ Below w.heap.size w w' := by
  obtain ⟨W, hW⟩ : ∃ W, w.alloc (.cells #[.int .i64 q0, .slice A0 l0.length c0] 24) = W := ⟨_, rfl⟩
  have k0 : From w W := by rw [← hW]; exact (From.refl _).alloc _
  have r0 : W.heap[w.heap.size]? = some (.cells #[.int .i64 q0, .slice A0 l0.length c0] 24 (0, 0)) := by rw [← hW]; exact heap_alloc_new _ _
  have hs : ∃ s : Bool, s = true ↔ BaseP q0 l0 := by
    by_cases hv : BaseP q0 l0
    · exact ⟨true, by simp [hv]⟩
    · exact ⟨false, by simp [hv]⟩
  obtain ⟨t, ht⟩ := hs
  have HBA := bx (baseR_calls q0 (.slice A0 l0.length c0) l0 W (hB0.from k0) hm0 t ht)
  have HLV := bx (fun (V : World) => lives_calls V)
  have HT := bx ht
  have HR0 := bx r0
  have HK0 := bx k0
  have HI := bx hB0
  have HY := bx hB1
  have HBY := bx hx1
  obtain ⟨q0', q1', _, _, _⟩ := box2 r0
  clear ht r0 k0 hB0 hB1 hx1
  go_enter Try.func4, Try.ntmps4
  go_wp2_with fail
  clear hW
  refine HBA.out.mono ?_
  rintro e w1 ⟨rfl, k1⟩
  clear q0' q1'
  cases t
  · go_wp2_with fail
    refine (HLV.out _).mono ?_
    rintro e w2 ⟨rfl, k2⟩
    go_wp2
    go_ret
    exact ⟨rfl, HK0.out.trans (k1.trans k2)⟩
  · obtain ⟨⟨hf, hq0, hq1⟩, hl1, hl2⟩ := HT.out.1 rfl
    obtain ⟨bs, hbs⟩ : ∃ bs : Nat, q0 = bs := ⟨q0.toNat, by omega⟩
    subst hbs
    obtain ⟨D, hD⟩ : ∃ D, decP (hasB bs l0) l1 = D := ⟨_, rfl⟩
    have HP := bx (fun (V : World) (k : From w V) => decodeT_calls bs (.slice A0 l0.length c0) l0 (.slice A1 l1.length c1) l1 V ⟨HI.out.from k, ⟨hl1, by omega⟩, hf, by omega⟩ (HY.out.from k) hm1 HBY.out D hD)
    have HQ := bx (fun (V : World) (k : From w V) => decodeR_calls bs (.slice A0 l0.length c0) l0 (.slice A1 l1.length c1) l1 c1 A1 V ⟨HI.out.from k, ⟨hl1, by omega⟩, hf, by omega⟩ rfl (HY.out.from k) hm1 hc1 HBY.out D hD)
    obtain ⟨q0', q1', _, _, _⟩ := box2 (k1.heap HR0.out)
    have K1 := bx (HK0.out.trans k1)
    have B1 := bx (k1.heap HR0.out)
    clear hf hl1 hl2 hD
    go_wp2_with fail
    refine (HP.out w1 K1.out).mono ?_
    rintro e w2 hp2
    obtain ⟨q, vv, vk, xs, ks, c, rfl, hO, hi2, hb2, hn1, hn2, k2⟩ := dec3_out hp2
    have HO := bx hO
    have HI2 := bx hi2
    have HB2 := bx hb2
    have KK2 := bx k2
    obtain ⟨A2, c2, rfl⟩ := hi2.form
    obtain ⟨q2, q3, _, _, _⟩ := box2 (k2.heap B1.out)
    clear hp2 hO hi2 hb2 q0' q1' k2
    obtain ⟨p5, hp5⟩ : ∃ p, w2.heap.size = p := ⟨_, rfl⟩
    obtain ⟨W2, hW2⟩ : ∃ W, w2.alloc (.cells #[.int .i64 q, .slice A2 xs.length c2] 24) = W := ⟨_, rfl⟩
    have g5 : W2.heap[p5]? = some (.cells #[.int .i64 q, .slice A2 xs.length c2] 24 (0, 0)) := by rw [← hW2, ← hp5]; exact heap_alloc_new _ _
    have kW2 : From w2 W2 := by rw [← hW2]; exact (From.refl _).alloc _
    go_upto_region 4 with fail
    try rw [hp5]
    try rw [hW2]
    have K2 := bx ((K1.out.trans KK2.out).trans kW2)
    have I2 := bx (HI2.out.from kW2)
    have B2 := bx (HB2.out.from kW2)
    have BX2 := bx ((KK2.out.trans kW2).heap B1.out)
    have G5 := bx g5
    clear hW2 hp5 kW2 q2 q3 g5
    obtain ⟨q2, q3, _, _, _⟩ := box2 BX2.out
    go_wp2_with fail
    refine (HQ.out W2 K2.out).mono ?_
    rintro e w3 hp3
    obtain ⟨q', vv', vk', xs', ks', c', rfl, hO', hi3, hb3, hn3, hn4, k3⟩ := dec3_out hp3
    rw [HO.out] at hO'
    simp only [Prod.mk.injEq] at hO'
    obtain ⟨rfl, rfl, rfl, rfl⟩ := hO'
    have HI3 := bx hi3
    have HB3 := bx hb3
    have K3 := bx k3
    obtain ⟨A3, c3, rfl⟩ := hi3.form
    clear hp3 hi3 hb3 q2 q3 k3
    obtain ⟨p8, hp8⟩ : ∃ p, w3.heap.size = p := ⟨_, rfl⟩
    obtain ⟨W3, hW3⟩ : ∃ W, w3.alloc (.cells #[.int .i64 q, .slice A3 xs.length c3] 24) = W := ⟨_, rfl⟩
    have g8 : W3.heap[p8]? = some (.cells #[.int .i64 q, .slice A3 xs.length c3] 24 (0, 0)) := by rw [← hW3, ← hp8]; exact heap_alloc_new _ _
    have kW3 : From w3 W3 := by rw [← hW3]; exact (From.refl _).alloc _
    go_upto_region 5 with fail
    try rw [hp8]
    try rw [hW3]
    have KA := bx (K3.out.trans kW3)
    have HSA := bx (sameS_calls q q (.slice A2 xs.length c2) (.slice A3 xs.length c3) xs xs W3 (I2.out.from KA.out) (HI3.out.from kW3) hn1)
    have HSB := bx (fun (V : World) (k : From W3 V) => sameL_val vk vk' ks ks V (B2.out.from (KA.out.trans k)) (HB3.out.from (kW3.trans k)) hn2)
    simp only [decide_true, Bool.and_true] at HSA HSB
    obtain ⟨q2, q3, _, _, _⟩ := box2 (KA.out.heap G5.out)
    obtain ⟨q4, q5, _, _, _⟩ := box2 g8
    have e1 : (c == c) = true := by simp
    clear hW3 hp8
    go_wp2_with fail
    refine HSA.out.mono ?_
    rintro e w4 ⟨rfl, k4⟩
    clear q2 q3 q4 q5
    go_wp2_with fail
    refine (HSB.out w4 k4).mono ?_
    rintro e w5 ⟨rfl, k5⟩
    go_wp2_with fail
    refine (HLV.out _).mono ?_
    rintro e w6 ⟨rfl, k6⟩
    go_wp2
    go_ret
    exact ⟨rfl, ((K2.out.trans KA.out).trans k4).trans (k5.trans k6)⟩
set_option maxRecDepth 100000 in
theorem dec_lifted (os : Os) (started : os.Started) (H : Type) (enc : TypeId × Value → H) :
    ReturnsInHanded {} Try.checked os 4 .any (Rows.telemetryDecodeSpec.pre6 enc Try.prog Try.f4 Rows.telemetryDecodeRow.domain false) (Rows.telemetryDecodeSpec.post enc Try.prog Try.f4 false true false false) := by
  refine returnsInHanded_of_change_shaped (C := Try.checked) own started (by kernel_rfl) Try.func4
    (ChangeSpec.witness6 (enc := enc) (C := Try.checked) false ⟨#[], #[.agg #[.int .i64 0, .slice none 0 0], .slice none 0 0], []⟩ 8 (by kernel_rfl) (by kernel_rfl) (by kernel_rfl) (by kernel_rfl)) ?_
  intro W base args ds gs before hval0 hW hcnd hsz0 _ _
  have hval : ∀ (j : Nat) t v, Try.f4.params[j]? = some t → args[j]? = some v → Value.okWide Try.prog W .any base t v := hval0
  have hW' := hW
  obtain ⟨p, q, hA0, hV, rfl, hfz, hnd⟩ := hW
  have hA : DataW.TrodAll enc Try.prog W 0 (fun _ => true) true Try.f4.params.toList args.toList ds p := hA0
  have hsz : (DataW.weightsEach Try.prog (Try.f4.params.toList ++ Rows.telemetryDecodeSpec.plain.varTypes Try.prog) (ds ++ gs)).all (· ≤ reachBytes) = true := hsz0
  rw [Try.params4] at hA hval hsz
  obtain ⟨v0, vs0, d0, ds0, p0, q0, hargs, rfl, rfl, h0, r0⟩ := trodAll_cons hA
  obtain ⟨v1, vs1, d1, ds1, p1, q1, rfl, rfl, rfl, h1, r1⟩ := trodAll_cons r0
  obtain ⟨rfl, rfl, rfl⟩ := trodAll_nil r1
  obtain rfl : args = #[v0, v1] := by cases args; simp_all
  obtain ⟨rfl, rfl⟩ := trodVars_none hV
  obtain ⟨q0, A0, c0, l0, rfl, hB0, hm0, hq0, hx0⟩ := open_snap (hval 0 24 v0 rfl rfl) h0
  obtain ⟨A1, c1, l1, rfl, hB1, hm1, hx1, hc1⟩ := open_bytsc (hval 1 31 v1 rfl rfl) h1 (sized_mem hsz (j := 1) rfl rfl)
  refine (dec_walk q0 A0 c0 l0 A1 c1 l1 W hB0 hm0 hq0 hx0 hB1 hm1 hx1 hc1).mono fun e W' ⟨he, hb⟩ => ?_
  subst he
  exact ⟨_, rfl, law_post Try.laid (by kernel_rfl) rfl rfl Try.underlying4 rfl hW' hb⟩
theorem dec_facts : joinedFacts Try.prog 4 Try.f4 Rows.telemetryDecodeSpec Rows.telemetryDecodeRow = true := by
  unfold joinedFacts
  rw [fact_enter, fact_lift, fact_make, fact_keys, fact_heard, fact_maps, Try.laid]
  kernel_rfl
theorem dec_holds : Rows.TelemetryDecodeSaid :=
  OpenClaim.holds_of_wide 4 Try.f4 rfl rfl rfl rfl rfl rfl rfl ⟨rfl, rfl, rfl, rfl, rfl⟩ rfl rfl rfl rfl rfl (by kernel_rfl) Try.func4 dec_facts
    (of_decide_eq_true (by kernel_rfl)) (by unfold Func.isWrapper; first | (rw [if_pos (by decide +kernel)]; kernel_rfl) | (rw [if_neg (by decide +kernel)]; exact ⟨rfl, rfl⟩))
    (fun os started H enc _ => dec_lifted os started H enc)
#print axioms dec_holds
end Go.Proofs.Ytpdbdpmlppbnnaa
