/-
  Walk of layer 10's specification: Step.
-/
import Derived.Test.YtamfifndddldcaaW21
namespace Go.Proofs.Ytamfifndddldcaa
open Go.RowKit Go.Shelf

/-- the reference's round is the same -/
theorem stepL_eq (re : Int) (s : SS) (x : Lo) : stepL re s x = if x.es = true ∧ s.c - x.pw < 0 then ⟨s.c, s.us, s.sv, true⟩ else if x.es = false ∧ s.c - x.pw < re then s else ⟨s.c - x.pw, s.us + x.pw, s.sv ++ [x.id], s.br⟩ := by
  obtain ⟨c, u, v, b⟩ := s
  unfold stepL
  cases he : x.es
  · simp
  · simp
theorem SAt.from {w w3 : World} {C re g sp : Int} {st : SS} {k : Nat} {A : Option Addr} {c : Nat} {m : List Lo} {A3 : Option Addr} {c3 : Nat} {W W' : World} (h : SAt w w3 C re g sp st k A c m A3 c3 W) (kk : From W W') : SAt w w3 C re g sp st k A c m A3 c3 W' :=
  ⟨h.box.from kk, own_call h.own kk, h.fr.trans kk, Nat.le_trans h.sz (Below.size kk), h.ord.from kk, h.olt, h.cb, h.ub, h.sl⟩
set_option maxHeartbeats 8000000 in
set_option maxRecDepth 10000 in
theorem refStep_calls (C ch re g : Int) (A0 : Option Addr) (c0 : Nat) (l : List Lo) (w : World) (h : Loads w (.slice A0 l.length c0) l) (hm : l.length ≤ 100) (hC : 0 ≤ C ∧ C ≤ 4000000000) (hch : 0 ≤ ch ∧ ch ≤ C) (hre : 0 ≤ re ∧ re ≤ C) (hg : 0 ≤ g ∧ g ≤ 4000000000)
    (hp : ∀ x ∈ l, 0 ≤ x.pw ∧ x.pw ≤ 4000000000) (gd : Int) (hgd : gainB C ch g = gd) (s : SS) (hs : stepB C ch re g l = s) :
    Calls Try.prog 19 #[.agg (bcs C ch re), .int .i64 g, .slice A0 l.length c0] w (StepPost w C re g gd s) := by
  have hgb : min g (C - ch) = gd := hgd
  have hgb1 : 0 ≤ gd ∧ gd ≤ C - ch ∧ gd ≤ g := by omega
  unfold stepB at hs
  rw [hgd] at hs
  have HS := bx hs
  obtain ⟨W1, hW1⟩ : ∃ V, (((w.alloc (.cells (bcs C ch re) 23)).alloc (.cells (bcs 0 0 0) 23)).alloc (.cells (pcs 0 0 0 (.slice none 0 0) false) 33)).alloc (.cells (pcs 0 0 0 (.slice none 0 0) false) 33) = V := ⟨_, rfl⟩
  have HX := boxs_new w C ch re
  rw [hW1] at HX
  have z1 : W1.heap.size = w.heap.size + 4 := by rw [← hW1]; simp
  have k1 : From w W1 := by rw [← hW1]; exact ((((From.refl _).alloc _).alloc _).alloc _).alloc _
  obtain ⟨a0, a1, a2, a3, a4, a5⟩ := HX.bat.facts
  obtain ⟨b0, b1, b2, b3, b4, b5, b6, b7, b8, b9⟩ := HX.sup.facts
  have HX1 := bx HX
  have HK1 := bx k1
  have HH := bx h
  have HP := bx (fun x (hx : x ∈ ordL l) => hp x ((ordL_perm l).mem_iff.1 hx))
  have HM := bx hm
  clear HX k1 h hp hs hgd hm
  go_enter Try.func19, Try.ntmps19
  go_wp2_with fail
  simp only [Nat.add_assoc, Nat.reduceAdd]
  obtain ⟨W2, hW2⟩ : ∃ V, (((W1.setCell ⟨w.heap.size + 3, 0, none⟩ (.int .i64 gd)).setCell ⟨w.heap.size + 3, 2, none⟩ (.int .i64 (g - gd))).setCell ⟨w.heap.size, 1, none⟩ (.int .i64 (ch + gd))) = V := ⟨_, rfl⟩
  rw [hW2]
  have X2 : Boxs W2 w.heap.size C (ch + gd) re gd 0 (g - gd) (.slice none 0 0) false := by rw [← hW2]; exact ((HX1.out.set_g gd).set_sp (g - gd)).charge (ch + gd)
  have K2 : From w W2 := by rw [← hW2]; exact ((HK1.out.setCell (by omega) _ _).setCell (by omega) _ _).setCell (Nat.le_refl _) _ _
  have z2 : W2.heap.size = w.heap.size + 4 := by rw [← hW2]; simp [z1]
  have HO := bx (refOrder_calls A0 c0 l W2 (HH.out.from K2) (by have := HM.out; omega))
  clear hW2 hW1 a0 a1 a2 a3 a4 a5 b0 b1 b2 b3 b4 b5 b6 b7 b8 b9 hgb
  refine HO.out.mono ?_
  rintro e W3 ⟨A3, c3, rfl, o3, k3⟩
  have X3 := bx (X2.from k3)
  have K3 := bx (K2.trans k3)
  have hz3 : w.heap.size + 4 ≤ W3.heap.size := by have := Below.size k3; omega
  have hlo := ordL_len l
  obtain ⟨m, hm⟩ : ∃ m, ordL l = m := ⟨_, rfl⟩
  rw [hm] at o3 hlo HP HS ⊢
  have O3 := bx (sln_of_own o3)
  have HL := bx (show m.length ≤ 100 by have := HM.out; omega)
  rw [z2] at O3
  clear o3 hm hlo X2 K2 k3 HO HX1 HK1
  go_wp2
  go_loopw [10, 11] (fun v10 _ wr => ∃ (k : Nat) (st : SS) (A : Option Addr) (cc : Nat), k ≤ m.length ∧ v10 = .int .i64 k ∧ runL re (m.take k) ⟨ch + gd, 0, [], false⟩ = st ∧ SAt w W3 C re gd (g - gd) st k A cc m A3 c3 wr) (fun v10 _ _ => m.length - (intOf v10).toNat)
  case atStart => exact ⟨0, ⟨ch + gd, 0, [], false⟩, none, 0, by omega, rfl, rfl, ⟨X3.out, own_nil _ _ _ _, K3.out, Nat.le_refl _, (O3.out.low (by omega)), sln_lt O3.out, ⟨by show 0 ≤ ch + gd; omega, by show ch + gd ≤ C; omega⟩, ⟨Int.le_refl _, by simp⟩, Nat.le_refl _⟩⟩
  case round =>
    obtain ⟨k, st, A, cc, hk, rfl, hst, hat⟩ := hrel
    by_cases hlt : k < m.length
    case neg =>
      obtain rfl : k = m.length := by omega
      have d0 : decide (((m.length : Nat) : Int) < (m.length : Int)) = false := decide_eq_false (by omega)
      rw [List.take_length, HS.out] at hst
      subst hst
      obtain ⟨sc, su, ss, sb⟩ := s
      obtain ⟨a0, a1, a2, a3, a4, a5⟩ := hat.box.bat.facts
      obtain ⟨r0, r1, r2, r3, r4, r5⟩ := hat.box.rb.facts
      obtain ⟨b0, b1, b2, b3, b4, b5, b6, b7, b8, b9⟩ := hat.box.sup.facts
      obtain ⟨s0, s1, s2, s3, s4, s5, s6, s7, s8, s9⟩ := hat.box.rs.facts
      have HAT := bx hat
      simp only at a0 a1 a2 a3 a4 a5 b0 b1 b2 b3 b4 b5 b6 b7 b8 b9
      clear hat
      go_wp2
      go_region
      all_goals
        go_wp2
        obtain ⟨hb1, hb2⟩ := putS_heap HAT.out.box
        have hq1 : SlN w.heap.size (putS wr w.heap.size C sc re gd su (g - gd) (.slice A ss.length cc) sb).drew (.slice A ss.length cc) ss.length (ic ss) := (((sln_of_own HAT.out.own).putS (by omega) C sc re gd su (g - gd) _ sb).low (by omega)).from (From.drew (From.refl _))
        have hq2 : From w (putS wr w.heap.size C sc re gd su (g - gd) (.slice A ss.length cc) sb).drew := (HAT.out.fr.putS (by omega) C sc re gd su (g - gd) _ sb).drew
        have hb1' : BatC (putS wr w.heap.size C sc re gd su (g - gd) (.slice A ss.length cc) sb).drew (w.heap.size + 1) C sc re := BatC.drew hb1
        have hb2' : SupC (putS wr w.heap.size C sc re gd su (g - gd) (.slice A ss.length cc) sb).drew (w.heap.size + 2) gd su (g - gd) (.slice A ss.length cc) sb := SupC.drew hb2
        clear a0 a1 a2 a3 a4 a5 b0 b1 b2 b3 b4 b5 b6 b7 b8 b9 r0 r1 r2 r3 r4 r5 s0 s1 s2 s3 s4 s5 s6 s7 s8 s9 hb1 hb2
        generalize (putS wr w.heap.size C sc re gd su (g - gd) (.slice A ss.length cc) sb).drew = W9 at *
        obtain ⟨m0, m1, m2, m3, m4, m5⟩ := hb1'.facts
        obtain ⟨n0, n1, n2, n3, n4, n5, n6, n7, n8, n9⟩ := hb2'.facts
        exact bodyPost_ret (v := .tuple #[.agg (bcs C sc re), .agg (pcs gd su (g - gd) (.slice A ss.length cc) sb)]) (by simp [results, Try.results19, go_sem, m0, m1, m2, n0, n1, n2, n3, n4]) rfl ⟨A, cc, rfl, hq1, hq2⟩
    have hfr := From.refl wr
    obtain ⟨b, off, rfl, hb0, c0', c1', c2', c3'⟩ := loads_at hat.ord.sl hlt
    have hsu := runL_take re m ⟨ch + gd, 0, [], false⟩ k hlt
    rw [hst] at hsu
    have hpy := HP.out m[k] (List.getElem_mem hlt)
    have d0 : decide ((k : Int) < (m.length : Int)) = true := decide_eq_true (by omega)
    obtain ⟨Y, hY⟩ : ∃ Y, m[k] = Y := ⟨_, rfl⟩
    rw [hY] at c0' c1' c2' c3' hsu hpy
    obtain ⟨sc, su, ss, sb⟩ := st
    obtain ⟨cb1, cb2⟩ := hat.cb
    obtain ⟨ub1, ub2⟩ := hat.ub
    have hk100 := HL.out
    have HSB1 := bx (show (ss.length + 1) * 8 ≤ 140737488355328 by have := hat.sl; simp only at this; omega)
    have HSB2 := bx (show ss.length + 1 ≤ maxLen by have := hat.sl; simp only at this; unfold maxLen; omega)
    obtain ⟨y0, y1, y2, y3⟩ := Y
    simp only at c0' c1' c2' c3' hpy cb1 cb2 ub1 ub2
    obtain ⟨a0, a1, a2, a3, a4, a5⟩ := hat.box.bat.facts
    simp only at a0 a1 a2 a3 a4 a5
    have HAW := bx hat
    have HYY := bx hY
    clear hat hst hY
    go_wp2_with fail
    go_quiet (fail)
    obtain ⟨V, hV⟩ : ∃ X, wr.drewN nq = X := ⟨_, rfl⟩
    have kV : From wr V := by rw [← hV]; exact hfr.drewN nq
    rw [hV]
    have HAT := bx (HAW.out.from kV)
    have XV := bx HAT.out.box
    clear a0 a1 a2 a3 a4 a5 c0' c1' c2' c3' hV hfr kV HAW
    obtain ⟨b', off', e', hb', c0', c1', c2', c3'⟩ := loads_at HAT.out.ord.sl hlt
    simp only [Option.some.injEq, Addr.mk.injEq, and_true] at e'
    obtain ⟨rfl, rfl⟩ := e'
    have hY := HYY.out
    rw [hY] at c0' c1' c2' c3'
    obtain ⟨a0, a1, a2, a3, a4, a5⟩ := XV.out.bat.facts
    obtain ⟨b0, b1, b2, b3, b4, b5, b6, b7, b8, b9⟩ := XV.out.sup.facts
    simp only at a0 a1 a2 a3 a4 a5 b0 b1 b2 b3 b4 b5 b6 b7 b8 b9 c0' c1' c2' c3'
    cases y3
    case false =>
      by_cases hb : sc - y1 < re
      case pos =>
        have hst1 : stepL re ⟨sc, su, ss, sb⟩ ⟨y0, y1, y2, false⟩ = ⟨sc, su, ss, sb⟩ := by unfold stepL; rw [if_pos (by simpa using hb)]; simp
        rw [hst1] at hsu
        have HSu := bx hsu
        clear hst1 hsu
        have d1 : decide (sc - y1 < re) = true := decide_eq_true hb
        go_wp2
        go_roundw
        case rel => exact ⟨k + 1, ⟨sc, su, ss, sb⟩, A, cc, by omega, by go_num, HSu.out, ⟨HAT.out.box, HAT.out.own, HAT.out.fr, HAT.out.sz, HAT.out.ord, HAT.out.olt, ⟨cb1, cb2⟩, ⟨ub1, by simp only at ub2 ⊢; omega⟩, by have := HAT.out.sl; simp only at this ⊢; omega⟩⟩
        case measure => simp [intOf]; omega
      case neg =>
        have hst1 : stepL re ⟨sc, su, ss, sb⟩ ⟨y0, y1, y2, false⟩ = ⟨sc - y1, su + y1, ss ++ [y0], sb⟩ := by unfold stepL; exact if_neg hb
        rw [hst1] at hsu
        have HSu := bx hsu
        clear hst1 hsu
        have d1 : decide (sc - y1 < re) = false := decide_eq_false hb
        have hzw : w.heap.size + 4 ≤ V.heap.size := Nat.le_trans hz3 HAT.out.sz
        go_wp2_with fail
        obtain ⟨V1, hV1⟩ : ∃ X, V.setCell ⟨w.heap.size, 1, none⟩ (.int .i64 (sc - y1)) = X := ⟨_, rfl⟩
        rw [hV1]
        have X1 := bx (show Boxs V1 w.heap.size C (sc - y1) re gd su (g - gd) (.slice A ss.length cc) sb by rw [← hV1]; exact XV.out.charge (sc - y1))
        have O1 := bx (show V1.ownsRow W3.heap.size 3 1 (.slice A ss.length cc) ss.length (ic ss) by rw [← hV1]; exact own_step HAT.out.own (show w.heap.size < W3.heap.size by omega) 1 _)
        have F1 := bx (show From w V1 by rw [← hV1]; exact HAT.out.fr.setCell (Nat.le_refl _) 1 _)
        have S1 := bx (show SlN (w.heap.size + 4) V1 (.slice (some ⟨b, off, none⟩) m.length c3) m.length (m.flatMap lcs) by rw [← hV1]; exact HAT.out.ord.setCell (by omega) 1 _)
        have zV1 := bx (show V1.heap.size = V.heap.size by rw [← hV1]; simp)
        obtain ⟨b', off', e', hb', c0', c1', c2', c3'⟩ := loads_at S1.out.sl hlt
        simp only [Option.some.injEq, Addr.mk.injEq, and_true] at e'
        obtain ⟨rfl, rfl⟩ := e'
        rw [hY] at c0' c1' c2' c3'
        simp only at c0' c1' c2' c3'
        obtain ⟨e0, e1, e2, e3, e4, e5, e6, e7, e8, e9⟩ := X1.out.sup.facts
        clear hV1
        have hws : IntKind.i64.wrap (su + y1) = su + y1 := IntWalk.i64_in _ (by omega)
        go_region_with (fail)
        all_goals
          obtain ⟨V2, hV2⟩ : ∃ X, (V1.setCell ⟨w.heap.size + 3, 1, none⟩ (.int .i64 (su + y1))).drew = X := ⟨_, rfl⟩
          rw [hV2]
          have X2 := bx (show Boxs V2 w.heap.size C (sc - y1) re gd (su + y1) (g - gd) (.slice A ss.length cc) sb by rw [← hV2]; exact (X1.out.set_u (su + y1)).from (From.drew (From.refl _)))
          have O2 := bx (show V2.ownsRow W3.heap.size 3 1 (.slice A ss.length cc) ss.length (ic ss) by rw [← hV2]; exact own_drewN (own_step O1.out (show w.heap.size + 3 < W3.heap.size by omega) 1 _) 1)
          have F2 := bx (show From w V2 by rw [← hV2]; exact (F1.out.setCell (by omega) 1 _).drew)
          have S2 := bx (show SlN (w.heap.size + 4) V2 (.slice (some ⟨b, off, none⟩) m.length c3) m.length (m.flatMap lcs) by rw [← hV2]; exact (S1.out.setCell (by omega) 1 _).from (From.drew (From.refl _)))
          have zV2 := bx (show W3.heap.size ≤ V2.heap.size by rw [← hV2]; have := HAT.out.sz; simp [zV1.out]; exact this)
          clear hV2 e0 e1 e2 e3 e4 e5 e6 e7 e8 e9 c0' c1' c2' c3'
          obtain ⟨b', off', e', hb', c0', c1', c2', c3'⟩ := loads_at S2.out.sl hlt
          simp only [Option.some.injEq, Addr.mk.injEq, and_true] at e'
          obtain ⟨rfl, rfl⟩ := e'
          rw [hY] at c0' c1' c2' c3'
          simp only at c0' c1' c2' c3'
          obtain ⟨e0, e1, e2, e3, e4, e5, e6, e7, e8, e9⟩ := X2.out.sup.facts
          have hzz := HAT.out.sz
          have hzv : w.heap.size + 3 < V2.heap.size := by have := zV2.out; omega
          go_wp2_with fail
          go_region_law (first
            | (refine step_sl (by rfl) (.tmp 81) (.tmp 87) 31 (by rfl) Try.elInt (by rfl) (own_drewN (O2.out.alloc (.cells #[.int .i64 y0] 3)) 1) 1 [.int .i64 y0] (by rfl) ((sl_new V2 [.int .i64 y0] 3 1 1).below (Below.refl _ _).drew) rfl (by simp [Value.oneCell']) HSB1.out HSB2.out (by have := zV2.out; simp; omega) ?_; intro A5 c5 w5 o5 g5 _; have X5 := bx ((X2.out.from ((From.alloc (From.refl _) (.cells #[.int .i64 y0] 3)).drew)).grown (own_drewN (O2.out.alloc _) 1) g5 (by omega)); obtain ⟨t0, t1, t2, t3, t4, t5, t6, t7, t8, t9⟩ := X5.out.sup.facts) | fail)
          all_goals
            go_wp2
            go_roundw
            case rel =>
              refine ⟨k + 1, ⟨sc - y1, su + y1, ss ++ [y0], sb⟩, A5, c5, by omega, by go_num, HSu.out, ⟨?_, ?_, ?_, ?_, ?_, HAT.out.olt, ⟨by show 0 ≤ sc - y1; omega, by show sc - y1 ≤ C; omega⟩, ⟨by show 0 ≤ su + y1; omega, by show su + y1 ≤ ((k + 1 : Nat) : Int) * 4000000000; omega⟩, ?_⟩⟩
              · simpa using X5.out.set_v (.slice A5 (ss.length + 1) c5)
              · have := own_step o5 (show w.heap.size + 3 < W3.heap.size by omega) 3 (.slice A5 (ss.length + 1) c5)
                simpa [ic_append, ic] using this
              · exact (From.app ((F2.out.alloc _).drew) (own_drewN (O2.out.alloc _) 1) (by omega) g5).setCell (by omega) _ _
              · have h1 := g5.size
                have h2 := zV2.out
                simp at h1 ⊢
                omega
              · exact ((S2.out.from ((From.alloc (From.refl _) _).drew)).grown (own_drewN (O2.out.alloc _) 1) g5 HAT.out.olt).setCell (by omega) _ _
              · have := HAT.out.sl
                simp only at this
                simp
                exact this
            case measure => simp [intOf]; omega
    case true =>
      by_cases hb : sc - y1 < 0
      case pos =>
        have hst1 : stepL re ⟨sc, su, ss, sb⟩ ⟨y0, y1, y2, true⟩ = ⟨sc, su, ss, true⟩ := by unfold stepL; rw [if_pos (by simpa using hb)]; simp
        rw [hst1] at hsu
        have HSu := bx hsu
        clear hst1 hsu
        have d1 : decide (sc - y1 < 0) = true := decide_eq_true hb
        go_wp2
        go_roundw
        case rel => exact ⟨k + 1, ⟨sc, su, ss, true⟩, A, cc, by omega, by go_num, HSu.out, ⟨XV.out.set_b true, own_step HAT.out.own (by omega) _ _, HAT.out.fr.setCell (by omega) _ _, by have := HAT.out.sz; simpa using this, HAT.out.ord.setCell (by omega) _ _, HAT.out.olt, ⟨cb1, cb2⟩, ⟨ub1, by simp only at ub2 ⊢; omega⟩, by have := HAT.out.sl; simp only at this ⊢; omega⟩⟩
        case measure => simp [intOf]; omega
      case neg =>
        have hst1 : stepL re ⟨sc, su, ss, sb⟩ ⟨y0, y1, y2, true⟩ = ⟨sc - y1, su + y1, ss ++ [y0], sb⟩ := by unfold stepL; exact if_neg hb
        rw [hst1] at hsu
        have HSu := bx hsu
        clear hst1 hsu
        have d1 : decide (sc - y1 < 0) = false := decide_eq_false hb
        have hzw : w.heap.size + 4 ≤ V.heap.size := Nat.le_trans hz3 HAT.out.sz
        go_wp2_with fail
        obtain ⟨V1, hV1⟩ : ∃ X, V.setCell ⟨w.heap.size, 1, none⟩ (.int .i64 (sc - y1)) = X := ⟨_, rfl⟩
        rw [hV1]
        have X1 := bx (show Boxs V1 w.heap.size C (sc - y1) re gd su (g - gd) (.slice A ss.length cc) sb by rw [← hV1]; exact XV.out.charge (sc - y1))
        have O1 := bx (show V1.ownsRow W3.heap.size 3 1 (.slice A ss.length cc) ss.length (ic ss) by rw [← hV1]; exact own_step HAT.out.own (show w.heap.size < W3.heap.size by omega) 1 _)
        have F1 := bx (show From w V1 by rw [← hV1]; exact HAT.out.fr.setCell (Nat.le_refl _) 1 _)
        have S1 := bx (show SlN (w.heap.size + 4) V1 (.slice (some ⟨b, off, none⟩) m.length c3) m.length (m.flatMap lcs) by rw [← hV1]; exact HAT.out.ord.setCell (by omega) 1 _)
        have zV1 := bx (show V1.heap.size = V.heap.size by rw [← hV1]; simp)
        obtain ⟨b', off', e', hb', c0', c1', c2', c3'⟩ := loads_at S1.out.sl hlt
        simp only [Option.some.injEq, Addr.mk.injEq, and_true] at e'
        obtain ⟨rfl, rfl⟩ := e'
        rw [hY] at c0' c1' c2' c3'
        simp only at c0' c1' c2' c3'
        obtain ⟨e0, e1, e2, e3, e4, e5, e6, e7, e8, e9⟩ := X1.out.sup.facts
        clear hV1
        have hws : IntKind.i64.wrap (su + y1) = su + y1 := IntWalk.i64_in _ (by omega)
        go_region_with (fail)
        all_goals
          obtain ⟨V2, hV2⟩ : ∃ X, (V1.setCell ⟨w.heap.size + 3, 1, none⟩ (.int .i64 (su + y1))).drew = X := ⟨_, rfl⟩
          rw [hV2]
          have X2 := bx (show Boxs V2 w.heap.size C (sc - y1) re gd (su + y1) (g - gd) (.slice A ss.length cc) sb by rw [← hV2]; exact (X1.out.set_u (su + y1)).from (From.drew (From.refl _)))
          have O2 := bx (show V2.ownsRow W3.heap.size 3 1 (.slice A ss.length cc) ss.length (ic ss) by rw [← hV2]; exact own_drewN (own_step O1.out (show w.heap.size + 3 < W3.heap.size by omega) 1 _) 1)
          have F2 := bx (show From w V2 by rw [← hV2]; exact (F1.out.setCell (by omega) 1 _).drew)
          have S2 := bx (show SlN (w.heap.size + 4) V2 (.slice (some ⟨b, off, none⟩) m.length c3) m.length (m.flatMap lcs) by rw [← hV2]; exact (S1.out.setCell (by omega) 1 _).from (From.drew (From.refl _)))
          have zV2 := bx (show W3.heap.size ≤ V2.heap.size by rw [← hV2]; have := HAT.out.sz; simp [zV1.out]; exact this)
          clear hV2 e0 e1 e2 e3 e4 e5 e6 e7 e8 e9 c0' c1' c2' c3'
          obtain ⟨b', off', e', hb', c0', c1', c2', c3'⟩ := loads_at S2.out.sl hlt
          simp only [Option.some.injEq, Addr.mk.injEq, and_true] at e'
          obtain ⟨rfl, rfl⟩ := e'
          rw [hY] at c0' c1' c2' c3'
          simp only at c0' c1' c2' c3'
          obtain ⟨e0, e1, e2, e3, e4, e5, e6, e7, e8, e9⟩ := X2.out.sup.facts
          have hzz := HAT.out.sz
          have hzv : w.heap.size + 3 < V2.heap.size := by have := zV2.out; omega
          go_wp2_with fail
          go_region_law (first
            | (refine step_sl (by rfl) (.tmp 81) (.tmp 87) 31 (by rfl) Try.elInt (by rfl) (own_drewN (O2.out.alloc (.cells #[.int .i64 y0] 3)) 1) 1 [.int .i64 y0] (by rfl) ((sl_new V2 [.int .i64 y0] 3 1 1).below (Below.refl _ _).drew) rfl (by simp [Value.oneCell']) HSB1.out HSB2.out (by have := zV2.out; simp; omega) ?_; intro A5 c5 w5 o5 g5 _; have X5 := bx ((X2.out.from ((From.alloc (From.refl _) (.cells #[.int .i64 y0] 3)).drew)).grown (own_drewN (O2.out.alloc _) 1) g5 (by omega)); obtain ⟨t0, t1, t2, t3, t4, t5, t6, t7, t8, t9⟩ := X5.out.sup.facts) | fail)
          all_goals
            go_wp2
            go_roundw
            case rel =>
              refine ⟨k + 1, ⟨sc - y1, su + y1, ss ++ [y0], sb⟩, A5, c5, by omega, by go_num, HSu.out, ⟨?_, ?_, ?_, ?_, ?_, HAT.out.olt, ⟨by show 0 ≤ sc - y1; omega, by show sc - y1 ≤ C; omega⟩, ⟨by show 0 ≤ su + y1; omega, by show su + y1 ≤ ((k + 1 : Nat) : Int) * 4000000000; omega⟩, ?_⟩⟩
              · simpa using X5.out.set_v (.slice A5 (ss.length + 1) c5)
              · have := own_step o5 (show w.heap.size + 3 < W3.heap.size by omega) 3 (.slice A5 (ss.length + 1) c5)
                simpa [ic_append, ic] using this
              · exact (From.app ((F2.out.alloc _).drew) (own_drewN (O2.out.alloc _) 1) (by omega) g5).setCell (by omega) _ _
              · have h1 := g5.size
                have h2 := zV2.out
                simp at h1 ⊢
                omega
              · exact ((S2.out.from ((From.alloc (From.refl _) _).drew)).grown (own_drewN (O2.out.alloc _) 1) g5 HAT.out.olt).setCell (by omega) _ _
              · have := HAT.out.sl
                simp only at this
                simp
                exact this
            case measure => simp [intOf]; omega
end Go.Proofs.Ytamfifndddldcaa
