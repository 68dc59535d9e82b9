/-
  Layer 28: the state of TelemetrySync's loop; taken.
-/
import Derived.Test.YtpdbdpmlppbnnaaV7
import Derived.Test.YtpdbdpmlppbnnaaS4
namespace Go.Proofs.Ytpdbdpmlppbnnaa
open Go.RowKit Go.Shelf

def Disj (S T : Nat → Prop) : Prop := ∀ k, S k → T k → False
theorem Disj.symm {S T : Nat → Prop} (h : Disj S T) : Disj T S := fun k a b => h k b a
theorem Disj.grow {S T : Nat → Prop} {w w' : World} (h : Disj S T) (hT : ∀ k, T k → k < w.heap.size) : Disj (GrowS S w w') T := fun k a b => by
  rcases a with a | a
  · exact h k a b
  · have := hT k b; omega
theorem RowsOf.low {E : (Nat → Prop) → World → Value → List Int → Prop} {S : Nat → Prop} {t : TypeId} {w : World} {v : Value} {ls : List (List Int)} (h : RowsOf E S t w v ls) : ∃ A c, v = .slice A ls.length c := by
  obtain ⟨A, c, vs, rfl, _⟩ := h
  exact ⟨A, c, rfl⟩
/-- a source, a sink, what was taken, what was sent: all apart from each other and behind the world w0 -/
structure Sy (w0 w : World) (p1 p2 n m bs : Nat) (va vs : Value) (allS all sent : List (List Int)) (H : Nat → Option (List Int)) (S1 S2 S3 S4 : Nat → Prop) : Prop where
  f : From w0 w
  s : Src S1 w p1 n allS bs
  k : Snk S2 w p2 n m H
  a : RowsOf IRow S3 22 w va all
  t : RowsOf YRw S4 31 w vs sent
  l3 : ∀ i, S3 i → i < w.heap.size
  l4 : ∀ i, S4 i → i < w.heap.size
  b1 : ∀ i, S1 i → w0.heap.size ≤ i
  b2 : ∀ i, S2 i → w0.heap.size ≤ i
  b3 : ∀ i, S3 i → w0.heap.size ≤ i
  b4 : ∀ i, S4 i → w0.heap.size ≤ i
  d12 : Disj S1 S2
  d13 : Disj S1 S3
  d14 : Disj S1 S4
  d23 : Disj S2 S3
  d24 : Disj S2 S4
  d34 : Disj S3 S4
section
variable {w0 w w' : World} {p1 p2 n m bs : Nat} {va vs : Value} {allS all sent : List (List Int)} {H : Nat → Option (List Int)} {S1 S2 S3 S4 : Nat → Prop}
theorem Sy.go (h : Sy w0 w p1 p2 n m bs va vs allS all sent H S1 S2 S3 S4) (k : From w w') : Sy w0 w' p1 p2 n m bs va vs allS all sent H S1 S2 S3 S4 :=
  { h with
    f := h.f.trans k
    s := h.s.from k
    k := h.k.from k
    a := h.a.same iElK (SameOn.of k h.l3)
    t := h.t.same yElK (SameOn.of k h.l4)
    l3 := fun i hi => Nat.lt_of_lt_of_le (h.l3 i hi) k.size
    l4 := fun i hi => Nat.lt_of_lt_of_le (h.l4 i hi) k.size }
theorem Sy.src (h : Sy w0 w p1 p2 n m bs va vs allS all sent H S1 S2 S3 S4) {allS' : List (List Int)} {bs' : Nat} (o : Off S1 w w') (s' : Src (GrowS S1 w w') w' p1 n allS' bs') : Sy w0 w' p1 p2 n m bs' va vs allS' all sent H (GrowS S1 w w') S2 S3 S4 :=
  { h with
    f := From.off h.f o h.b1
    s := s'
    k := h.k.same o.size (o.same fun i hi => ⟨h.k.lt i hi, fun hs => h.d12 i hs hi⟩)
    a := h.a.same iElK (o.same fun i hi => ⟨h.l3 i hi, fun hs => h.d13 i hs hi⟩)
    t := h.t.same yElK (o.same fun i hi => ⟨h.l4 i hi, fun hs => h.d14 i hs hi⟩)
    l3 := fun i hi => Nat.lt_of_lt_of_le (h.l3 i hi) o.size
    l4 := fun i hi => Nat.lt_of_lt_of_le (h.l4 i hi) o.size
    b1 := fun i hi => by
      rcases hi with hi | hi
      · exact h.b1 i hi
      · have := h.f.size; omega
    d12 := h.d12.grow h.k.lt
    d13 := h.d13.grow h.l3
    d14 := h.d14.grow h.l4 }
theorem Sy.snk (h : Sy w0 w p1 p2 n m bs va vs allS all sent H S1 S2 S3 S4) {H' : Nat → Option (List Int)} {m' : Nat} (o : Off S2 w w') (k' : Snk (GrowS S2 w w') w' p2 n m' H') : Sy w0 w' p1 p2 n m' bs va vs allS all sent H' S1 (GrowS S2 w w') S3 S4 :=
  { h with
    f := From.off h.f o h.b2
    s := h.s.same o.size (o.same fun i hi => ⟨h.s.lt i hi, fun hs => h.d12 i hi hs⟩)
    k := k'
    a := h.a.same iElK (o.same fun i hi => ⟨h.l3 i hi, fun hs => h.d23 i hs hi⟩)
    t := h.t.same yElK (o.same fun i hi => ⟨h.l4 i hi, fun hs => h.d24 i hs hi⟩)
    l3 := fun i hi => Nat.lt_of_lt_of_le (h.l3 i hi) o.size
    l4 := fun i hi => Nat.lt_of_lt_of_le (h.l4 i hi) o.size
    b2 := fun i hi => by
      rcases hi with hi | hi
      · exact h.b2 i hi
      · have := h.f.size; omega
    d12 := (h.d12.symm.grow h.s.lt).symm
    d23 := h.d23.grow h.l3
    d24 := h.d24.grow h.l4 }
/-- an element is appended to what was taken; its blocks T are new and apart -/
theorem Sy.app3 (h : Sy w0 w p1 p2 n m bs va vs allS all sent H S1 S2 S3 S4) {T : Nat → Prop} {va' : Value} {all' : List (List Int)} (o : Off S3 w w') (a' : RowsOf IRow (fun k => S3 k ∨ T k ∨ (w.heap.size ≤ k ∧ k < w'.heap.size)) 22 w' va' all')
    (tb : ∀ i, T i → w0.heap.size ≤ i ∧ i < w.heap.size) (t1 : Disj T S1) (t2 : Disj T S2) (t4 : Disj T S4) : Sy w0 w' p1 p2 n m bs va' vs allS all' sent H S1 S2 (fun k => S3 k ∨ T k ∨ (w.heap.size ≤ k ∧ k < w'.heap.size)) S4 := by
  have hd : ∀ (U : Nat → Prop), (∀ i, U i → i < w.heap.size) → Disj S3 U → Disj T U → Disj (fun k => S3 k ∨ T k ∨ (w.heap.size ≤ k ∧ k < w'.heap.size)) U := fun U hU h1 h2 i hi hu => by
    rcases hi with hi | hi | hi
    · exact h1 i hi hu
    · exact h2 i hi hu
    · have := hU i hu; omega
  exact { h with
    f := From.off h.f o h.b3
    s := h.s.same o.size (o.same fun i hi => ⟨h.s.lt i hi, fun hs => h.d13 i hi hs⟩)
    k := h.k.same o.size (o.same fun i hi => ⟨h.k.lt i hi, fun hs => h.d23 i hi hs⟩)
    a := a'
    t := h.t.same yElK (o.same fun i hi => ⟨h.l4 i hi, fun hs => h.d34 i hs hi⟩)
    l3 := fun i hi => by
      have := o.size
      rcases hi with hi | hi | hi
      · exact Nat.lt_of_lt_of_le (h.l3 i hi) o.size
      · have := tb i hi; omega
      · exact hi.2
    l4 := fun i hi => Nat.lt_of_lt_of_le (h.l4 i hi) o.size
    b3 := fun i hi => by
      rcases hi with hi | hi | hi
      · exact h.b3 i hi
      · exact (tb i hi).1
      · have := h.f.size; omega
    d13 := (hd S1 h.s.lt h.d13.symm t1).symm
    d23 := (hd S2 h.k.lt h.d23.symm t2).symm
    d34 := hd S4 h.l4 h.d34 t4 }
/-- .. to what was sent -/
theorem Sy.app4 (h : Sy w0 w p1 p2 n m bs va vs allS all sent H S1 S2 S3 S4) {T : Nat → Prop} {vs' : Value} {sent' : List (List Int)} (o : Off S4 w w') (a' : RowsOf YRw (fun k => S4 k ∨ T k ∨ (w.heap.size ≤ k ∧ k < w'.heap.size)) 31 w' vs' sent')
    (tb : ∀ i, T i → w0.heap.size ≤ i ∧ i < w.heap.size) (t1 : Disj T S1) (t2 : Disj T S2) (t3 : Disj T S3) : Sy w0 w' p1 p2 n m bs va vs' allS all sent' H S1 S2 S3 (fun k => S4 k ∨ T k ∨ (w.heap.size ≤ k ∧ k < w'.heap.size)) := by
  have hd : ∀ (U : Nat → Prop), (∀ i, U i → i < w.heap.size) → Disj S4 U → Disj T U → Disj (fun k => S4 k ∨ T k ∨ (w.heap.size ≤ k ∧ k < w'.heap.size)) U := fun U hU h1 h2 i hi hu => by
    rcases hi with hi | hi | hi
    · exact h1 i hi hu
    · exact h2 i hi hu
    · have := hU i hu; omega
  exact { h with
    f := From.off h.f o h.b4
    s := h.s.same o.size (o.same fun i hi => ⟨h.s.lt i hi, fun hs => h.d14 i hi hs⟩)
    k := h.k.same o.size (o.same fun i hi => ⟨h.k.lt i hi, fun hs => h.d24 i hi hs⟩)
    a := h.a.same iElK (o.same fun i hi => ⟨h.l3 i hi, fun hs => h.d34 i hi hs⟩)
    t := a'
    l3 := fun i hi => Nat.lt_of_lt_of_le (h.l3 i hi) o.size
    l4 := fun i hi => by
      have := o.size
      rcases hi with hi | hi | hi
      · exact Nat.lt_of_lt_of_le (h.l4 i hi) o.size
      · have := tb i hi; omega
      · exact hi.2
    b4 := fun i hi => by
      rcases hi with hi | hi | hi
      · exact h.b4 i hi
      · exact (tb i hi).1
      · have := h.f.size; omega
    d14 := (hd S1 h.s.lt h.d14.symm t1).symm
    d24 := (hd S2 h.k.lt h.d24.symm t2).symm
    d34 := (hd S3 h.l3 h.d34.symm t3).symm }
end
set_option maxHeartbeats 1000000 in
set_option maxRecDepth 10000 in
theorem taken_calls (n : Nat) (A : Option Addr) (c : Nat) (l : List Int) (w : World) (h : Ints w (.slice A l.length c) l) (hx : ∀ x ∈ l, -9223372036854775808 ≤ x ∧ x ≤ 9223372036854775807) (hn : n ≤ 1000) :
    Calls Try.prog 35 #[.int .i64 n, .slice A l.length c] w (RowPost w (mkV l n)) := by
  have HPK := bx (fun (W : World) (k : From w W) (i y : Int) (hy : pickI l i 8589934588 = y) => pick_calls A c l i 8589934588 W (h.from k) hx (by decide) (by decide) y hy)
  have HBD := bx (fun (W : World) (y : Int) (h0 : -9223372036854775808 ≤ y) (h1 : y ≤ 9223372036854775807) => bound_calls y 2147483647 W h0 h1 (by decide) (by decide))
  obtain ⟨N, hN⟩ : ∃ N, l.length = N := ⟨_, rfl⟩
  rw [hN] at HPK ⊢
  clear h hx hN
  go_enter Try.func35, Try.ntmps35
  go_wp2_with fail
  go_loopw [5, 6] (fun o i wr => ∃ k : Nat, k ≤ n ∧ i = .int .i64 k ∧ wr.ownsRow w.heap.size 3 1 o k (ic (mkV l k)) ∧ From w wr) (fun _ i _ => n - (intOf i).toNat)
  case atStart => exact ⟨0, Nat.zero_le _, rfl, own_nil _ _ _ _, From.refl _⟩
  case round =>
    obtain ⟨k, hk, rfl, ho, hf⟩ := hrel
    have HO := bx ho
    have HF := bx hf
    clear ho hf
    by_cases hlt : k < n
    · have z1 : decide ((k : Int) < (n : Int)) = true := decide_eq_true (by omega)
      obtain ⟨y, hy⟩ : ∃ y, pickI l k 8589934588 = y := ⟨_, rfl⟩
      have hyb := pick_bd l k 8589934588 (by decide)
      rw [hy] at hyb
      have HP := bx (fun W hk => HPK.out W hk k y hy)
      have HC := bx (fun W => HBD.out W y (by omega) (by omega))
      obtain ⟨z, hz⟩ : ∃ z, boundI y 2147483647 = z := ⟨_, rfl⟩
      rw [hz] at HC
      have HMK := bx (show mkV l (k + 1) = mkV l k ++ [z] by rw [mkV_succ, hy, hz])
      clear hy hz hyb
      go_wp2_with fail
      refine (HP.out wr HF.out).mono ?_
      rintro e w1 ⟨rfl, rfl⟩
      go_wp2_with fail
      refine (HC.out _).mono ?_
      rintro e w1 ⟨rfl, rfl⟩
      go_wp2_with (at_builtin; refine app_sl rfl _ _ 22 rfl Try.elInt rfl (HO.out.alloc _) 1 [.int .i64 z] rfl (sl_new _ [.int .i64 z] 3 1 1) rfl (by simp [Value.oneCell']) (by omega) (by unfold maxLen; omega) (by have := Below.size HF.out; simp; omega) ?_; intro A3 c3 w3 o3 g3 _)
      go_roundw
      case rel => exact ⟨k + 1, by omega, by go_num, by rw [HMK.out, ic_append]; exact o3, From.app (HF.out.alloc _) (HO.out.alloc _) (Nat.le_refl _) g3⟩
      case measure => simp [intOf]; omega
    · obtain rfl : k = n := by omega
      have z1 : decide ((k : Int) < (k : Int)) = false := decide_eq_false (by omega)
      obtain ⟨AO, cO, rfl⟩ := slice_form HO.out
      go_wp2_with fail
      go_ret
      refine ⟨AO, cO, by rw [mkV_len]; rfl, by rw [mkV_len]; exact HO.out, HF.out⟩
end Go.Proofs.Ytpdbdpmlppbnnaa
