/-
  Walks of layer 28's law: whole.
-/
import Derived.Test.YtpdbdpmlppbnnaaU17
import Derived.Test.YtpdbdpmlppbnnaaN4
namespace Go.Proofs.Ytpdbdpmlppbnnaa
open Go.RowKit Go.Shelf

theorem whole_calls (bs : Nat) (vb : Value) (bv : List Int) (v : Value) (l : List Int) (w : World) (h : BaseIn w bs vb bv) (hl : Byts w v l) (hll : l.length ≤ 140737488355328) (hb : bytes l) (seq : Nat) (vals : List Int) (known : List Bool) (all : Bool) (n : Nat) (hx : decP (hasB bs bv) l = .ok seq vals known all) (hvn : vals.length = n) (hkn : known.length = n) (hn : n ≤ 1000) :
    Calls Try.prog 26 #[snv bs vb, v] w fun e w' => e = .returned (.bool (wholeP known)) ∧ From w w' := by
  have HD := bx (fun (V : World) (k : From w V) => decodeT_calls bs vb bv v l V ⟨h.ints.from k, h.pos, h.ok, h.seq⟩ (hl.from k) hll hb (.ok seq vals known all) hx)
  obtain ⟨AB, cB, rfl⟩ := h.ints.form
  have HW := bx (@wholeP_iff known n hkn)
  have HKN := bx hkn
  clear hx h hb hkn
  obtain ⟨AL, cL, rfl⟩ := hl.form
  clear hl
  obtain ⟨V, hV⟩ : ∃ V, w.alloc (.cells #[.int .i64 bs, .slice AB bv.length cB] 24) = V := ⟨_, rfl⟩
  have b0 := heap_alloc_new w (.cells #[.int .i64 bs, .slice AB bv.length cB] 24)
  rw [hV] at b0
  obtain ⟨x0, x1, _, _, _⟩ := box2 b0
  have kV : From w V := by rw [← hV]; exact (From.refl _).alloc _
  go_enter Try.func26, Try.ntmps26
  go_wp2_with fail
  clear x0 x1 b0
  refine (HD.out V kV).mono ?_
  rintro e w6 ⟨gv, cv, gk, rfl, hkl, ov, ok, k6⟩
  rw [hvn] at ok ov ⊢
  have HK := bx (sl_of_own ok)
  have HKW := bx (kV.trans k6)
  obtain ⟨V6, hV6⟩ : ∃ V, w6.alloc (.cells #[.int .i64 seq, .slice (some ⟨gv, 0, none⟩) n cv] 24) = V := ⟨_, rfl⟩
  have kV6 : From w6 V6 := by rw [← hV6]; exact (From.refl _).alloc _
  have HKV := bx kV6
  clear ok ov hkl hvn HD hV kV k6 kV6
  go_wp2_with fail
  clear hV6
  go_loopw [8] (fun i wr => ∃ k : Nat, k ≤ n ∧ i = .int .i64 k ∧ (∀ q, q < k → known.getD q false = true) ∧ From V6 wr) (fun i _ => n - (intOf i).toNat)
  case atStart => exact ⟨0, Nat.zero_le _, rfl, fun q hq => absurd hq (Nat.not_lt_zero _), From.refl _⟩
  case round =>
    obtain ⟨k, hk, rfl, hall, hf⟩ := hrel
    have HA := bx hall
    have HF := bx hf
    clear hall
    by_cases hlt : k < n
    · have hp3 : k < known.length := by rw [HKN.out]; exact hlt
      obtain ⟨b3, f3, hA3, _, v4⟩ := bools_at (HK.out.from (HKV.out.trans hf)) hp3
      injection hA3 with hA3
      injection hA3 with i1 i2 _
      subst i1 i2
      rw [Nat.zero_add] at v4
      have g3 : known.getD k false = known[k] := by simp [List.getD_eq_getElem?_getD, List.getElem?_eq_getElem hp3]
      have G3 := bx g3
      clear g3
      generalize known[k] = kp at *
      have z1 : decide ((k : Int) < (n : Int)) = true := decide_eq_true (by omega)
      have z2 : (k : Int) < (n : Int) := by omega
      have z3 : (0 : Int) ≤ (k : Int) := by omega
      clear hf
      cases kp
      · have hno : wholeP known = false := by
          cases hw : wholeP known
          · rfl
          · have := HW.out.1 hw k hlt
            rw [G3.out] at this
            cases this
        have HNO := bx hno
        clear hno
        go_wp2
        go_ret
        exact ⟨ret_bool HNO.out.symm, (HKW.out.trans HKV.out).trans HF.out⟩
      · go_wp2_with fail
        go_roundw
        case rel => exact ⟨k + 1, by omega, by go_num, (fun q hq => by
          by_cases hq2 : q = k
          · subst hq2; exact G3.out
          · exact HA.out q (by omega)), HF.out⟩
        case measure => simp [intOf]; omega
    · have z1 : decide ((k : Int) < (n : Int)) = false := decide_eq_false (by omega)
      have hyes : wholeP known = true := HW.out.2 (fun q hq => HA.out q (by omega))
      have HYES := bx hyes
      clear hf hyes
      go_wp2_with fail
      go_ret
      exact ⟨ret_bool HYES.out.symm, (HKW.out.trans HKV.out).trans HF.out⟩
end Go.Proofs.Ytpdbdpmlppbnnaa
