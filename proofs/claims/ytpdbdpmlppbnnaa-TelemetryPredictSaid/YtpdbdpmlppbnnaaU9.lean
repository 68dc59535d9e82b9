/-
  Walks of layer 1's reference: Around, Pick, Bound, SameInts, Has, SameBytes, Few; Predict.
-/
import Derived.Test.YtpdbdpmlppbnnaaU8
import Derived.Laws.IdiomStrings
namespace Go.Proofs.Ytpdbdpmlppbnnaa
open Go.RowKit Go.Shelf

/-- a number that fits -/
abbrev Fits (x : Int) : Prop := -9223372036854775808 ≤ x ∧ x ≤ 9223372036854775807
def around (n m : Int) : Int := (if n < 0 then -(n + 1) else n) % m
theorem around_bd (n m : Int) (hm : 0 < m) : 0 ≤ around n m ∧ around n m < m := ⟨Int.emod_nonneg _ (by omega), Int.emod_lt_of_pos _ hm⟩
theorem around_calls (n m : Int) (w : World) (h0 : -9223372036854775808 ≤ n) (h1 : n ≤ 9223372036854775807) (hm0 : 0 < m) (hm1 : m ≤ 9223372036854775807) :
    Calls Try.prog 23 #[.int .i64 n, .int .i64 m] w fun e w' => e = .returned (.int .i64 (around n m)) ∧ w' = w := by
  have hz : ¬ m = 0 := by omega
  by_cases hn : n < 0
  · have e1 : IntKind.i64.wrap (n + 1) = n + 1 := IntWalk.i64_in _ (by omega)
    have e2 : IntKind.i64.wrap (-(n + 1)) = -(n + 1) := IntWalk.i64_in _ (by omega)
    have HX := bx (show (-(n + 1)).tmod m = around n m by rw [around, if_pos hn, Int.tmod_eq_emod_of_nonneg (by omega)])
    have hb := around_bd n m hm0
    rw [← HX.out] at hb
    go_enter Try.func23, Try.ntmps23
    go_wp2
    go_ret
    exact ⟨ret_int (by first | exact HX.out | (rw [← HX.out, Int.neg_tmod])), rfl⟩
  · have HX := bx (show n % m = around n m by rw [around, if_neg hn])
    have hb := around_bd n m hm0
    rw [← HX.out] at hb
    go_enter Try.func23, Try.ntmps23
    go_wp2
    go_ret
    exact ⟨ret_int HX.out, rfl⟩
def pickI (l : List Int) (i m : Int) : Int := if 0 ≤ i ∧ i < l.length then around (l.getD i.toNat 0) m else 0
theorem pick_bd (l : List Int) (i m : Int) (hm : 0 < m) : 0 ≤ pickI l i m ∧ pickI l i m < m := by
  unfold pickI
  split
  · exact around_bd _ _ hm
  · omega
theorem pick_calls (A : Option Addr) (c : Nat) (l : List Int) (i m : Int) (w : World) (h : Ints w (.slice A l.length c) l) (hx : ∀ x ∈ l, -9223372036854775808 ≤ x ∧ x ≤ 9223372036854775807) (hm0 : 0 < m) (hm1 : m ≤ 9223372036854775807) (y : Int) (hy : pickI l i m = y) :
    Calls Try.prog 59 #[.slice A l.length c, .int .i64 i, .int .i64 m] w fun e w' => e = .returned (.int .i64 y) ∧ w' = w := by
  by_cases h0 : i < 0
  · have HY := bx (show (0 : Int) = y by rw [← hy, pickI, if_neg (by omega)])
    clear hy hx
    go_enter Try.func59, Try.ntmps59
    go_wp2
    go_ret
    exact ⟨ret_int HY.out, rfl⟩
  by_cases h1 : (l.length : Int) ≤ i
  · have HY := bx (show (0 : Int) = y by rw [← hy, pickI, if_neg (by omega)])
    clear hy hx
    go_enter Try.func59, Try.ntmps59
    go_wp2
    go_ret
    exact ⟨ret_int HY.out, rfl⟩
  · obtain ⟨k, rfl⟩ : ∃ k : Nat, i = k := ⟨i.toNat, by omega⟩
    have hk : k < l.length := by omega
    obtain ⟨b, off, rfl, hb, c1⟩ := ints_at h hk
    obtain ⟨x0, x1⟩ := hx l[k] (List.getElem_mem hk)
    have HY := bx (show around l[k] m = y by rw [← hy, pickI, if_pos (by omega)]; simp [List.getD_eq_getElem?_getD, List.getElem?_eq_getElem hk])
    generalize l[k] = u at *
    have z1 : (k : Int) < (l.length : Int) := by omega
    have z2 : (0 : Int) ≤ (k : Int) := by omega
    clear hy hx
    go_enter Try.func59, Try.ntmps59
    go_wp2_with fail
    refine (around_calls u m w x0 x1 hm0 hm1).mono ?_
    rintro e w1 ⟨rfl, rfl⟩
    go_wp2
    go_ret
    exact ⟨ret_int HY.out, rfl⟩
def boundI (n m : Int) : Int := around n (2 * m + 1) - m
theorem bound_bd (n m : Int) (hm : 0 ≤ m) : -m ≤ boundI n m ∧ boundI n m ≤ m := by
  have := around_bd n (2 * m + 1) (by omega)
  unfold boundI
  omega
theorem bound_calls (n m : Int) (w : World) (h0 : -9223372036854775808 ≤ n) (h1 : n ≤ 9223372036854775807) (hm0 : 0 ≤ m) (hm1 : m ≤ 2305843009213693952) :
    Calls Try.prog 44 #[.int .i64 n, .int .i64 m] w fun e w' => e = .returned (.int .i64 (boundI n m)) ∧ w' = w := by
  have e1 : IntKind.i64.wrap (2 * m) = 2 * m := IntWalk.i64_in _ (by omega)
  have e2 : IntKind.i64.wrap (2 * m + 1) = 2 * m + 1 := IntWalk.i64_in _ (by omega)
  have hb := around_bd n (2 * m + 1) (by omega)
  have HA := bx (around_calls n (2 * m + 1) w h0 h1 (by omega) (by omega))
  have HX := bx (show around n (2 * m + 1) - m = boundI n m from rfl)
  generalize around n (2 * m + 1) = y at *
  have e3 : IntKind.i64.wrap (y - m) = y - m := IntWalk.i64_in _ (by omega)
  go_enter Try.func44, Try.ntmps44
  go_wp2_with fail
  refine HA.out.mono ?_
  rintro e w1 ⟨rfl, rfl⟩
  go_wp2
  go_ret
  exact ⟨ret_int HX.out, rfl⟩
theorem take_eq {xs ys : List Int} {k : Nat} (h1 : k < xs.length) (h2 : k < ys.length) : (xs.take (k + 1) = ys.take (k + 1)) ↔ (xs.take k = ys.take k ∧ xs[k] = ys[k]) := by
  rw [List.take_succ_eq_append_getElem h1, List.take_succ_eq_append_getElem h2]
  constructor
  · intro h
    have := List.append_inj h (by simp; omega)
    exact ⟨this.1, by simpa using this.2⟩
  · rintro ⟨h, e⟩
    rw [h, e]
/-- what SameInts answers -/
def SamePost (xs ys : List Int) (w : World) (e : Ending) (w' : World) : Prop := e = .returned (.bool (decide (xs = ys))) ∧ ∃ m, w' = w.drewN m
theorem same_calls (A B : Option Addr) (c d : Nat) (xs ys : List Int) (w : World) (h1 : Ints w (.slice A xs.length c) xs) (h2 : Ints w (.slice B ys.length d) ys) (hm : xs.length ≤ 9223372036854775807) :
    Calls Try.prog 11 #[.slice A xs.length c, .slice B ys.length d] w (SamePost xs ys w) := by
  by_cases hl : xs.length = ys.length
  case neg =>
    have hd : decide (xs = ys) = false := decide_eq_false (fun e => hl (by rw [e]))
    have hi : ((xs.length : Int) != (ys.length : Int)) = true := by simp; omega
    have HD := bx hd
    clear hd
    go_enter Try.func11, Try.ntmps11
    go_wp2
    go_ret
    exact ⟨ret_bool HD.out.symm, 0, rfl⟩
  have hi : ((xs.length : Int) != (ys.length : Int)) = false := by simp; omega
  have HL := bx hl
  clear hl
  go_enter Try.func11, Try.ntmps11
  go_wp2
  go_loopw [5] (fun i wr => ∃ k : Nat, k ≤ xs.length ∧ i = .int .i64 k ∧ xs.take k = ys.take k ∧ ∃ m, wr = w.drewN m) (fun i _ => xs.length - (intOf i).toNat)
  case atStart => exact ⟨0, Nat.zero_le _, rfl, by simp, 0, rfl⟩
  case round =>
    obtain ⟨k, hk, rfl, hno, m, hm'⟩ := hrel
    have hbw : Below w.heap.size w wr := by rw [hm']; exact below_drewN (Below.refl _ _) m
    have HM := bx hm'
    have Hno := bx hno
    clear hno hm'
    by_cases hlt : k < xs.length
    · obtain ⟨b, off, rfl, hb, g1⟩ := ints_at (h1.below hbw) hlt
      obtain ⟨b', off', rfl, hb', g2⟩ := ints_at (h2.below hbw) (k := k) (by have := HL.out; omega)
      have Ht := bx (@take_eq xs ys k hlt (by have := HL.out; omega))
      have z1 : (0 : Int) ≤ (k : Int) := by omega
      have z2 : (k : Int) < (xs.length : Int) := by omega
      have z3 : (k : Int) < (ys.length : Int) := by have := HL.out; omega
      generalize xs[k] = x at *
      generalize ys[k]'(by have := HL.out; omega) = y at *
      by_cases hxy : x = y
      · subst hxy
        have t0 : (x != x) = false := by simp
        go_wp2_with fail
        go_quiet (fail)
        go_wp2
        go_roundw
        case rel => exact ⟨k + 1, by omega, by go_num, Ht.out.2 ⟨Hno.out, trivial⟩, m + nq, by rw [HM.out, drewN_add]⟩
        case measure => simp [intOf]; omega
      · have t0 : (x != y) = true := by simp [hxy]
        have HD := bx (show decide (xs = ys) = false from decide_eq_false (fun e => hxy (Ht.out.1 (by rw [e])).2))
        go_wp2_with fail
        go_quiet (fail)
        go_wp2
        go_ret
        exact ⟨ret_bool HD.out.symm, m + nq, by rw [HM.out, drewN_add]⟩
    · obtain rfl : k = xs.length := by omega
      have HD := bx (show decide (xs = ys) = true from decide_eq_true (by have := Hno.out; rwa [List.take_of_length_le (Nat.le_refl _), List.take_of_length_le (by have := HL.out; omega)] at this))
      go_wp2
      go_ret
      exact ⟨ret_bool HD.out.symm, m, HM.out⟩
theorem has_calls (A : Option Addr) (c : Nat) (xs : List Int) (v : Int) (w : World) (h : Ints w (.slice A xs.length c) xs) (hm : xs.length ≤ 9223372036854775807) :
    Calls Try.prog 106 #[.slice A xs.length c, .int .i64 v] w fun e w' => e = .returned (.bool (xs.contains v)) ∧ w' = w := by
  go_enter Try.func106, Try.ntmps106
  go_wp2
  go_loopw [5] (fun i wr => ∃ k : Nat, k ≤ xs.length ∧ i = .int .i64 k ∧ (xs.take k).contains v = false ∧ wr = w) (fun i _ => xs.length - (intOf i).toNat)
  case atStart => exact ⟨0, Nat.zero_le _, rfl, by simp, rfl⟩
  case round =>
    obtain ⟨k, hk, rfl, hno, rfl⟩ := hrel
    have Hno := bx hno
    clear hno
    by_cases hlt : k < xs.length
    · obtain ⟨b, off, rfl, hb, c1⟩ := ints_at h hlt
      have Hs := bx (show (xs.take (k + 1)).contains v = ((xs.take k).contains v || v == xs[k]) by
        rw [List.take_succ_eq_append_getElem hlt]; simp only [List.contains_append, List.contains_cons, List.contains_nil, Bool.or_false])
      have Hm := bx (fun hv : v = xs[k] => show xs.contains v = true by rw [hv]; simp)
      generalize xs[k] = y at *
      by_cases hv : v = y
      · subst hv
        have Ht := bx (Hm.out rfl)
        go_wp2
        go_ret
        exact ⟨ret_bool (by rw [← Ht.out]; simp), rfl⟩
      · have Hv := bx (show (v == y) = false by simp [hv])
        have hv' : ¬ y = v := fun e => hv e.symm
        go_wp2
        go_roundw
        case rel => exact ⟨k + 1, by omega, by go_num, by rw [Hs.out, Hno.out, Hv.out]; rfl, trivial⟩
        case measure => simp [intOf]; omega
    · obtain rfl : k = xs.length := by omega
      have Hc := bx (show xs.contains v = false by have := Hno.out; rwa [List.take_of_length_le (Nat.le_refl _)] at this)
      go_wp2
      go_ret
      exact ⟨ret_bool (by rw [Hc.out]), rfl⟩
theorem same_val (A B : Option Addr) (c d : Nat) (xs ys : List Int) (w : World) (h1 : Ints w (.slice A xs.length c) xs) (h2 : Ints w (.slice B ys.length d) ys) (hm : xs.length ≤ 9223372036854775807) (t : Bool) (ht : decide (xs = ys) = t) :
    Calls Try.prog 11 #[.slice A xs.length c, .slice B ys.length d] w fun e w' => e = .returned (.bool t) ∧ ∃ m, w' = w.drewN m := by
  subst ht
  exact same_calls A B c d xs ys w h1 h2 hm
theorem has_val (A : Option Addr) (c : Nat) (xs : List Int) (v : Int) (w : World) (h : Ints w (.slice A xs.length c) xs) (hm : xs.length ≤ 9223372036854775807) (t : Bool) (ht : xs.contains v = t) :
    Calls Try.prog 106 #[.slice A xs.length c, .int .i64 v] w fun e w' => e = .returned (.bool t) ∧ w' = w := by
  have := has_calls A c xs v w h hm
  rwa [ht] at this
/-- the bytes of a string -/
def ub (l : List Int) : List UInt8 := l.map fun x => UInt8.ofNat x.toNat
theorem ub_inj {a b : List Int} (ha : bytes a) (hb : bytes b) (h : ub a = ub b) : a = b := by
  induction a generalizing b with
  | nil => cases b with
    | nil => rfl
    | cons y t => simp [ub] at h
  | cons x s ih =>
    cases b with
    | nil => simp [ub] at h
    | cons y t =>
      simp only [ub, List.map_cons, List.cons.injEq] at h
      have h1 := ha x (by simp)
      have h2 := hb y (by simp)
      have h3 := congrArg UInt8.toNat h.1
      simp only [UInt8.toNat_ofNat'] at h3
      rw [ih (fun z hz => ha z (by simp [hz])) (fun z hz => hb z (by simp [hz])) h.2]
      congr 1
      omega
set_option maxRecDepth 10000 in
theorem ub_string {w : World} {v : Value} {l : List Int} (h : Byts w v l) (hb : bytes l) : (convert 31 9 v).run Try.prog w = .ok (.string ⟨(ub l).toArray⟩) w := by
  rcases h.out with ⟨rfl, h0, _⟩ | ⟨a0, c, rfl, hc⟩
  · obtain rfl := List.eq_nil_of_length_eq_zero h0
    rw [run_convert_bytes_string w _ _ 5 none 0 0 Try.underlying31 Try.underlying5 Try.underlying9]
    rfl
  · have e := run_convert_bytes_back (P := Try.prog) w 31 9 5 a0 c (ub l) Try.underlying31 Try.underlying5 Try.underlying9 (fun j hj => by
      have hj' : j < l.length := by simpa [ub] using hj
      obtain ⟨b, off, e1, _, e3⟩ := hc j (.int .u8 l[j]) (by simp [yc, hj'])
      subst e1
      rw [Addr.add_mid, e3]
      have hx := hb l[j] (List.getElem_mem hj')
      have h2 : (((ub l)[j]'hj).toNat : Int) = l[j] := by
        simp only [ub, List.getElem_map, UInt8.toNat_ofNat']
        omega
      rw [h2])
    have hl : (ub l).length = l.length := by simp [ub]
    rwa [hl] at e
theorem sameB_calls (v u : Value) (a b : List Int) (w : World) (h1 : Byts w v a) (h2 : Byts w u b) (ha : bytes a) (hb : bytes b) :
    Calls Try.prog 27 #[v, u] w fun e w' => e = .returned (.bool (decide (a = b))) ∧ w' = w := by
  have e1 := ub_string h1 ha
  have e2 := ub_string h2 hb
  obtain ⟨A, c, rfl⟩ := h1.form
  obtain ⟨B, d, rfl⟩ := h2.form
  have H := bx (And.intro ha hb)
  clear h1 h2 ha hb
  go_enter Try.func27, Try.ntmps27
  go_wp2
  go_ret
  refine ⟨ret_bool ?_, rfl⟩
  by_cases h : a = b
  · subst h; simp
  · have h2 : ¬ ub a = ub b := fun e => h (ub_inj H.out.1 H.out.2 e)
    simp [h, h2]
theorem few_calls (A : Option Addr) (c : Nat) (l : List Int) (w : World) (h : Byts w (.slice A l.length c) l) (hl : l.length ≤ 1000000) (hc : l.length ≤ c) :
    Calls Try.prog 95 #[.slice A l.length c, .int .i64 l.length] w (YRow w l) := by
  obtain ⟨N, hN⟩ : ∃ N, l.length = N := ⟨_, rfl⟩
  have HN := bx hN
  have H := bx (show Sl w w.heap.size (.slice A N c) N (yc l) by rw [← hN]; exact h)
  rw [hN] at hl hc ⊢
  clear hN h
  have z1 : min (N : Int) (N : Int) = (N : Int) := by omega
  have z2 : (0 : Int) ≤ (N : Int) := by omega
  have z3 : (N : Int) ≤ (c : Int) := by omega
  go_enter Try.func95, Try.ntmps95
  go_wp2_with (at_builtin; refine app_sl rfl _ _ 31 rfl Try.elByte rfl (own_nil w w.heap.size _ _) N (yc l) rfl H.out (by simp [yc, HN.out]) (yc_one l) (by omega) (by unfold maxLen; omega) (Nat.le_refl _) ?_; intro A2 c2 w2 o2 g2 _)
  go_ret
  rw [Nat.zero_add] at o2
  exact ⟨A2, c2, ret_slice HN.out.symm, by rw [HN.out]; exact o2, From.app (From.refl w) (own_nil w w.heap.size 5 1) (Nat.le_refl _) g2⟩
theorem fits_calls (n : Int) (w : World) : Calls Try.prog 63 #[.int .i64 n] w fun e w' => e = .returned (.bool (decide (fitsV n))) ∧ w' = w := by
  by_cases h : fitsV n
  · have h2 := h
    unfold fitsV at h2
    obtain ⟨a, b⟩ := h2
    have z1 : decide (n ≥ -2147483647) = true := decide_eq_true a
    have z2 : decide (n ≤ 2147483647) = true := decide_eq_true b
    have HD := bx (show decide (fitsV n) = true from decide_eq_true h)
    clear h
    go_enter Try.func63, Try.ntmps63
    go_wp2
    go_ret
    exact ⟨ret_bool HD.out.symm, rfl⟩
  · have HD := bx (show decide (fitsV n) = false from decide_eq_false h)
    have HN := bx h
    clear h
    by_cases a : n ≥ -2147483647
    · have hb : ¬ n ≤ 2147483647 := fun b => HN.out ⟨a, b⟩
      have z1 : decide (n ≥ -2147483647) = true := decide_eq_true a
      have z2 : decide (n ≤ 2147483647) = false := decide_eq_false hb
      go_enter Try.func63, Try.ntmps63
      go_wp2
      go_ret
      exact ⟨ret_bool HD.out.symm, rfl⟩
    · have z1 : decide (n ≥ -2147483647) = false := decide_eq_false a
      go_enter Try.func63, Try.ntmps63
      go_wp2
      go_ret
      exact ⟨ret_bool HD.out.symm, rfl⟩
end Go.Proofs.Ytpdbdpmlppbnnaa
