/-
  Walks of layer 28: Ack, Packet.
-/
import Derived.Test.YtpdbdpmlppbnnaaV3
import Derived.Test.YtpdbdpmlppbnnaaV4
import Derived.Test.YtpdbdpmlppbnnaaU12
import Derived.Deep.CutRange
namespace Go.Proofs.Ytpdbdpmlppbnnaa
open Go.RowKit Go.Shelf

/-- what Ack answers: an error and the base then -/
def ackP (last bs : Nat) (q : Int) : Int × Nat := if 1 ≤ q ∧ q ≤ bs then (0, bs) else if 1 ≤ q ∧ q ≤ last ∧ last < q + 64 then (0, q.toNat) else (3, bs)
theorem wf64 {x : Int} (h : -9223372036854775808 ≤ x ∧ x ≤ 9223372036854775807) : (Lit.int .i64 x).wf = true := by
  simp only [Lit.wf, Bool.and_eq_true, decide_eq_true_eq]
  show -9223372036854775808 ≤ _ ∧ _ ≤ (9223372036854775807 : Int)
  exact h
theorem Src.grow {S : Nat → Prop} {w w' : World} {p n bs : Nat} {all : List (List Int)} (h : Src S w p n all bs) (k : From w w') : Src (GrowS S w w') w' p n all bs := by
  obtain ⟨b, last, m, vb, M, h⟩ := h
  have h := h.from k
  exact ⟨b, last, m, vb, M, { h with
    lt := fun i hi => by
      rcases hi with hi | hi
      · exact h.lt i hi
      · exact hi.2
    pS := .inl h.pS
    bS := .inl h.bS
    base := h.base.mono fun _ => .inl
    there := fun x h1 h2 h3 => by obtain ⟨v, e, r⟩ := h.there x h1 h2 h3; exact ⟨v, e, r.mono fun _ => .inl⟩ }⟩
set_option maxHeartbeats 2000000 in
set_option maxRecDepth 10000 in
theorem ackX_calls (S : Nat → Prop) (p n : Nat) (all : List (List Int)) (bs : Nat) (q : Int) (w : World) (h : Src S w p n all bs) (hq : -9223372036854775808 ≤ q ∧ q ≤ 9223372036854775807) (c : Int) (bs' : Nat) (hr : ackP (all.length - 1) bs q = (c, bs')) :
    Calls Try.prog 32 #[.pointer (some ⟨p, 0, none⟩), .int .i64 q] w (SrcPostX S w p n all bs' (.int .i64 c)) := by
  have SAME := bx (fun (w' : World) (k : From w w') => h.grow k)
  obtain ⟨b, last, m, vb, M, hc⟩ := h
  rw [show all.length - 1 = last by rw [hc.len]; rfl] at hr
  have HC := bx hc
  have HR := bx hr
  obtain ⟨x0, x1, x2, x3, x4, f0, f1, f2, f3, f4, hpl⟩ := box5 hc.box
  clear hr hc
  have hlk := HC.out.map.look (t := 98) Try.underlying3 Try.underlying98 (zero_snap w) (wf64 hq)
  by_cases c1 : 1 ≤ q ∧ q ≤ bs
  · have d1 : decide (q ≥ 1) = true := decide_eq_true c1.1
    have d2 : decide (q ≤ (bs : Int)) = true := decide_eq_true c1.2
    have h1 := HR.out
    rw [ackP, if_pos c1] at h1
    obtain ⟨rfl, rfl⟩ := Prod.mk.inj h1
    clear h1 c1 hlk hq
    go_enter Try.func32, Try.ntmps32
    go_wp2_with fail
    go_ret
    exact ⟨⟨rfl, Off.refl _ _, SAME.out _ (From.refl _)⟩, offX_of HC.out.map (Off.refl _ _)⟩
  · obtain ⟨cb, hcb⟩ : ∃ cb, cb = (decide (q ≥ 1) && decide (q ≤ (bs : Int))) := ⟨_, rfl⟩
    have hcf : cb = false := by
      rw [hcb]
      cases h : decide (q ≥ 1)
      · rfl
      · have h1 : 1 ≤ q := of_decide_eq_true h
        exact decide_eq_false (fun h2 => c1 ⟨h1, h2⟩)
    have h1 := HR.out
    rw [ackP, if_neg c1] at h1
    have HR1 := bx h1
    have HCF := bx (hcb.symm.trans hcf)
    clear h1 hcb hcf c1
    by_cases c2 : 1 ≤ q ∧ q ≤ last ∧ (last : Int) < q + 64
    · obtain ⟨k, hk⟩ : ∃ k : Nat, q = k := ⟨q.toNat, by omega⟩
      subst hk
      have h1 := HR1.out
      rw [if_pos c2, show ((k : Int)).toNat = k by omega] at h1
      obtain ⟨rfl, rfl⟩ := Prod.mk.inj h1
      obtain ⟨v, e, r⟩ := HC.out.there k (by omega) (by omega) (by omega)
      rw [e] at hlk
      simp only [Option.getD_some, Option.isSome_some] at hlk
      obtain ⟨A, cA, rfl⟩ := r.form
      have hkb : ¬ (k : Int) ≤ (bs : Int) := fun h => by
        have h3 := HCF.out
        rw [decide_eq_true (show (k : Int) ≥ 1 by omega), decide_eq_true h] at h3
        cases h3
      have d1 : decide ((k : Int) ≥ 1) = true := decide_eq_true c2.1
      have d2 : decide ((k : Int) ≤ (bs : Int)) = false := decide_eq_false hkb
      have d3 : decide (k ≤ bs) = false := decide_eq_false (by omega)
      have d4 : (k ≤ bs) = False := eq_false (by omega)
      have HRW := bx r
      have hkl : k ≤ last := by omega
      clear h1 c2 e r hkb hq
      go_enter Try.func32, Try.ntmps32
      obtain ⟨lk, hlk2⟩ : ∃ lk, all.getD k [] = lk := ⟨_, rfl⟩
      rw [hlk2] at hlk HRW
      have HLK := bx hlk2
      obtain ⟨N, hN⟩ : ∃ N, lk.length = N := ⟨_, rfl⟩
      rw [hN] at hlk HRW
      clear hN hlk2
      go_wp2_with fail
      go_ret
      obtain ⟨W1, hW1⟩ : ∃ W, (w.setCell ⟨p, 2, none⟩ (.int .i64 k)).setCell ⟨p, 3, none⟩ (.slice A N cA) = W := ⟨_, rfl⟩
      have hbx : W1.heap[p]? = some (.cells #[.int .i64 n, .int .i64 last, .int .i64 k, .slice A N cA, .map (some b)] 100 (0, 0)) := by rw [← hW1]; exact heap_set_at (heap_set_at HC.out.box 2 (.int .i64 k)) 3 (.slice A N cA)
      have hoff : Off S w W1 := by rw [← hW1]; exact ((Off.refl _ _).set (.inl HC.out.pS) _ _).set (.inl HC.out.pS) _ _
      have hoffX : Off (fun j => j = p ∨ j = b) w W1 := by rw [← hW1]; exact ((Off.refl _ _).set (.inl (.inl rfl)) _ _).set (.inl (.inl rfl)) _ _
      have hi1 : ∀ (i : Nat) (cs : Array Value), w.heap[i]? = some (.cells cs 3 (0, 0)) → W1.heap[i]? = some (.cells cs 3 (0, 0)) := fun i cs hi => by
        rw [← hW1]
        exact keepI_set (heap_set_at HC.out.box 2 (.int .i64 k)) (by decide) _ i cs (keepI_set HC.out.box (by decide) _ i cs hi)
      have hmb : W1.heap[b]? = w.heap[b]? := by
        have hne := HC.out.map.ne HC.out.box
        rw [← hW1, heap_set_off _ (Ne.symm hne), heap_set_off _ (Ne.symm hne)]
      rw [hW1]
      have kA : From W1 (W1.alloc (.cells #[.int .i64 k, .slice A N cA] 24)) := (From.refl _).alloc _
      have hi2 : ∀ (i : Nat) (cs : Array Value), w.heap[i]? = some (.cells cs 3 (0, 0)) → (W1.alloc (.cells #[.int .i64 k, .slice A N cA] 24)).heap[i]? = some (.cells cs 3 (0, 0)) := fun i cs hi => kA.heap (hi1 i cs hi)
      have hG : ∀ j, S j → GrowS S w (W1.alloc (.cells #[.int .i64 k, .slice A N cA] 24)) j := fun j hj => .inl hj
      refine ⟨⟨rfl, hoff.from kA, b, last, m, .slice A N cA, M, ?_⟩, offX_of HC.out.map (hoffX.from kA)⟩
      exact {
        lt := fun i hi => by
          rcases hi with hi | hi
          · exact Nat.lt_of_lt_of_le (HC.out.lt i hi) (Nat.le_trans hoff.size kA.size)
          · exact hi.2
        pS := .inl HC.out.pS
        bS := .inl HC.out.bS
        box := kA.heap hbx
        map := (HC.out.map.sameAt hmb).sameAt (kA.block _ (by have := HC.out.map.lt; have := hoff.size; omega))
        m_le := HC.out.m_le
        len := HC.out.len
        tick := HC.out.tick
        nn := HC.out.nn
        ok := HC.out.ok
        bs_le := hkl
        base := by rw [HLK.out]; exact (HRW.out.keepI hi2).mono hG
        there := fun x h1 h2 h3 => by
          obtain ⟨v, e, r⟩ := HC.out.there x h1 h2 h3
          exact ⟨v, e, (r.keepI hi2).mono hG⟩
        gone := HC.out.gone }
    · have h1 := HR1.out
      rw [if_neg c2] at h1
      obtain ⟨rfl, rfl⟩ := Prod.mk.inj h1
      rw [HC.out.gone q (by omega)] at hlk
      simp only [Option.getD_none, Option.isSome_none] at hlk
      clear h1 c2
      by_cases d : q ≥ 1
      · have d1 : decide (q ≥ 1) = true := decide_eq_true d
        have d2 : decide (q ≤ (bs : Int)) = false := by have := HCF.out; rw [d1] at this; exact this
        clear d hq
        go_enter Try.func32, Try.ntmps32
        go_wp2_with fail
        go_ret
        exact ⟨⟨rfl, Off.of ((From.refl _).alloc _), SAME.out _ ((From.refl _).alloc _)⟩, offX_of HC.out.map (Off.of ((From.refl _).alloc _))⟩
      · have d1 : decide (q ≥ 1) = false := decide_eq_false d
        clear d hq
        go_enter Try.func32, Try.ntmps32
        go_wp2_with fail
        go_ret
        exact ⟨⟨rfl, Off.of ((From.refl _).alloc _), SAME.out _ ((From.refl _).alloc _)⟩, offX_of HC.out.map (Off.of ((From.refl _).alloc _))⟩
theorem ack_calls (S : Nat → Prop) (p n : Nat) (all : List (List Int)) (bs : Nat) (q : Int) (w : World) (h : Src S w p n all bs) (hq : -9223372036854775808 ≤ q ∧ q ≤ 9223372036854775807) (c : Int) (bs' : Nat) (hr : ackP (all.length - 1) bs q = (c, bs')) :
    Calls Try.prog 32 #[.pointer (some ⟨p, 0, none⟩), .int .i64 q] w (SrcPost S w p n all bs' (.int .i64 c)) :=
  (ackX_calls S p n all bs q w h hq c bs' hr).mono fun _ _ h => h.1
/-- what Packet answers -/
def packP (all : List (List Int)) (bs : Nat) (o : List Nat) (room : Int) : List Int × Int :=
  if all.length = 1 then ([], 3) else
    let x := encP bs (all.getD bs []) (all.length - 1) (all.getD (all.length - 1) []) o room
    (x.1, if x.2 = 23 then 44 else x.2)
set_option maxHeartbeats 4000000 in
set_option maxRecDepth 10000 in
theorem srcPacket_calls (S : Nat → Prop) (p n : Nat) (all : List (List Int)) (bs : Nat) (vo : Value) (o : List Nat) (room : Int) (w : World) (h : Src S w p n all bs) (ho : all.length ≠ 1 → Ints w vo (nl o) ∧ Perm n o) (x : List Int × Int) (hx : packP all bs o room = x) :
    Calls Try.prog 31 #[.pointer (some ⟨p, 0, none⟩), vo, .int .i64 room] w (EncPost w x) := by
  obtain ⟨b, last, m, vb, M, hc⟩ := h
  have HC := bx hc
  have HX := bx hx
  obtain ⟨x0, x1, x2, x3, x4, _, _, _, _, _, hpl⟩ := box5 hc.box
  have hlen := hc.len
  clear hx hc
  by_cases c1 : last = 0
  · subst c1
    have hx1 := HX.out
    rw [packP, if_pos hlen] at hx1
    subst hx1
    clear ho
    go_enter Try.func31, Try.ntmps31
    go_wp2_with fail
    refine bodyPost_ret (v := .tuple #[.slice none 0 0, .int .i64 3]) (by simp [results, Try.results31, go_sem]) rfl ?_
    exact ⟨none, 0, rfl, own_nil _ _ _ _, From.refl _⟩
  · obtain ⟨hio, hpo⟩ := ho (by omega)
    have d1 : ((last : Int) == 0) = false := by simpa using c1
    obtain ⟨v, e, r⟩ := HC.out.there last (by omega) (Nat.le_refl _) (by omega)
    have hlk := HC.out.map.get (t := 98) Try.underlying3 Try.underlying98 (zero_snap w) (x := (last : Int)) (wf64 (by have := HC.out.tick; omega))
    have hlkd := HC.out.map.get (t := 98) (w := w.drew) Try.underlying3 Try.underlying98 (zero_snap w.drew) (x := (last : Int)) (wf64 (by have := HC.out.tick; omega))
    rw [e] at hlk hlkd
    simp only [Option.getD_some] at hlk hlkd
    obtain ⟨y, hy⟩ : ∃ y, encP bs (all.getD bs []) last (all.getD last []) o room = y := ⟨_, rfl⟩
    have hx1 : x = (y.1, if y.2 = 23 then 44 else y.2) := by
      rw [← HX.out, packP, if_neg (by omega), show all.length - 1 = last by omega, hy]
    have hmem : ∀ k, k ≤ last → all.getD k [] ∈ all := fun k hk => by
      rw [List.getD_eq_getElem?_getD, List.getElem?_eq_getElem (by omega)]
      exact List.getElem_mem _
    have k1 := HC.out.ok _ (hmem bs HC.out.bs_le)
    have k2 := HC.out.ok _ (hmem last (Nat.le_refl _))
    have HE := bx (fun (V : World) (k : From w V) => encode_calls n bs vb (all.getD bs []) last v (all.getD last []) vo o room V ⟨HC.out.base.ints.from k, r.ints.from k, hio.from k, k1.1, k2.1, hpo, ⟨by have := HC.out.nn; omega, by have := HC.out.nn; omega⟩, k1.2, k2.2, ⟨by have := HC.out.bs_le; have := HC.out.tick; omega, HC.out.tick⟩⟩ y hy)
    have HX1 := bx hx1
    have HY := bx hy
    obtain ⟨AB, cB, rfl⟩ := HC.out.base.form
    obtain ⟨AV, cV, rfl⟩ := r.form
    obtain ⟨AO, cO, rfl⟩ := hio.form
    generalize (all.getD bs []).length = N1 at *
    generalize (all.getD last []).length = N2 at *
    clear c1 e r hx1 hy hio hpo ho k1 k2 hmem
    go_enter Try.func31, Try.ntmps31
    go_upto_region 3 with fail
    go_cut [8, 9] from 10 (fun s8 s9 wx => ∃ A c, s8 = .slice A y.1.length c ∧ s9 = .int .i64 y.2 ∧ wx.ownsRow w.heap.size 5 1 (.slice A y.1.length c) y.1.length (yc y.1) ∧ From w wx)
    case first =>
      go_region_with (go_at_call 25; refine (HE.out _ (by first | exact From.refl _ | exact (From.refl _).drew)).mono ?_; rintro e W2 ⟨A2, c2, rfl, o2, k2⟩)
      all_goals
        go_wp2
        go_meet
        case rel => exact ⟨A2, c2, rfl, rfl, o2, ⟨k2.os, k2.tape, k2.output, k2.size, k2.block⟩⟩
    case rest =>
      obtain ⟨A2, c2, rfl, rfl, o2, k2⟩ := hcut
      have HO := bx o2
      have HK := bx k2
      obtain ⟨L, ec⟩ := y
      simp only at HX1 HO ⊢
      clear o2 k2
      by_cases ce : ec = 23
      · have d2 : (ec == 23) = true := by simp [ce]
        have hx1 := HX1.out
        rw [if_pos ce] at hx1
        subst hx1
        clear ce
        go_wp2
        refine bodyPost_ret (v := .tuple #[.slice A2 L.length c2, .int .i64 44]) (by simp [results, Try.results31, go_sem]) rfl ?_
        exact ⟨A2, c2, rfl, HO.out, HK.out⟩
      · have d2 : (ec == 23) = false := by simpa using ce
        have hx1 := HX1.out
        rw [if_neg ce] at hx1
        subst hx1
        clear ce
        go_wp2
        refine bodyPost_ret (v := .tuple #[.slice A2 L.length c2, .int .i64 ec]) (by simp [results, Try.results31, go_sem]) rfl ?_
        exact ⟨A2, c2, rfl, HO.out, HK.out⟩
end Go.Proofs.Ytpdbdpmlppbnnaa
