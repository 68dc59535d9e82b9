/-
  Monitors, walked and in plain Lean, joined from the texts W11, W12, W13, W14, W15, W16, W17, W18, W19, W20, W21, W22, W23, W24.
-/
import Derived.Test.YtpdbdpmlppbnnaaMA
import Derived.Deep.CutRange
namespace Go.Proofs.Ytpdbdpmlppbnnaa.Mo
open Go.RowKit Go.Shelf

theorem take_eq {xs ys : List Int} {k : Nat} (h1 : k < xs.length) (h2 : k < ys.length) : (xs.take (k + 1) = ys.take (k + 1)) ↔ (xs.take k = ys.take k ∧ xs[k] = ys[k]) := by
  rw [List.take_succ_eq_append_getElem h1, List.take_succ_eq_append_getElem h2]
  constructor
  · intro h
    have := List.append_inj h (by simp; omega)
    exact ⟨this.1, by simpa using this.2⟩
  · rintro ⟨h, e⟩
    rw [h, e]
/-- what SameInts answers -/
def SamePost (xs ys : List Int) (w : World) (e : Ending) (w' : World) : Prop := e = .returned (.bool (decide (xs = ys))) ∧ ∃ m, w' = w.drewN m
set_option maxRecDepth 100000 in
theorem same_calls (A B : Option Addr) (c d : Nat) (xs ys : List Int) (w : World) (h1 : Ints w (.slice A xs.length c) xs) (h2 : Ints w (.slice B ys.length d) ys) (hm : xs.length ≤ 9223372036854775807) :
    Calls Try.prog 11 #[.slice A xs.length c, .slice B ys.length d] w (SamePost xs ys w) := by
  by_cases hl : xs.length = ys.length
  case neg =>
    have hd : decide (xs = ys) = false := decide_eq_false (fun e => hl (by rw [e]))
    have hi : ((xs.length : Int) != (ys.length : Int)) = true := by simp; omega
    have HD := bx hd
    clear hd
    go_enter Try.func11, Try.ntmps11
    go_wp2
    go_ret
    exact ⟨ret_bool HD.out.symm, 0, rfl⟩
  have hi : ((xs.length : Int) != (ys.length : Int)) = false := by simp; omega
  have HL := bx hl
  clear hl
  go_enter Try.func11, Try.ntmps11
  go_wp2
  go_loopw [5] (fun i wr => ∃ k : Nat, k ≤ xs.length ∧ i = .int .i64 k ∧ xs.take k = ys.take k ∧ ∃ m, wr = w.drewN m) (fun i _ => xs.length - (intOf i).toNat)
  case atStart => exact ⟨0, Nat.zero_le _, rfl, by simp, 0, rfl⟩
  case round =>
    obtain ⟨k, hk, rfl, hno, m, hm'⟩ := hrel
    have hbw : Below w.heap.size w wr := by rw [hm']; exact below_drewN (Below.refl _ _) m
    have HM := bx hm'
    have Hno := bx hno
    clear hno hm'
    by_cases hlt : k < xs.length
    · obtain ⟨b, off, rfl, hb, g1⟩ := ints_at (h1.below hbw) hlt
      obtain ⟨b', off', rfl, hb', g2⟩ := ints_at (h2.below hbw) (k := k) (by have := HL.out; omega)
      have Ht := bx (@take_eq xs ys k hlt (by have := HL.out; omega))
      have z1 : (0 : Int) ≤ (k : Int) := by omega
      have z2 : (k : Int) < (xs.length : Int) := by omega
      have z3 : (k : Int) < (ys.length : Int) := by have := HL.out; omega
      generalize xs[k] = x at *
      generalize ys[k]'(by have := HL.out; omega) = y at *
      by_cases hxy : x = y
      · subst hxy
        have t0 : (x != x) = false := by simp
        go_wp2_with fail
        go_quiet (fail)
        go_wp2
        go_roundw
        case rel => exact ⟨k + 1, by omega, by go_num, Ht.out.2 ⟨Hno.out, trivial⟩, m + nq, by rw [HM.out, drewN_add]⟩
        case measure => simp [intOf]; omega
      · have t0 : (x != y) = true := by simp [hxy]
        have HD := bx (show decide (xs = ys) = false from decide_eq_false (fun e => hxy (Ht.out.1 (by rw [e])).2))
        go_wp2_with fail
        go_quiet (fail)
        go_wp2
        go_ret
        exact ⟨ret_bool HD.out.symm, m + nq, by rw [HM.out, drewN_add]⟩
    · obtain rfl : k = xs.length := by omega
      have HD := bx (show decide (xs = ys) = true from decide_eq_true (by have := Hno.out; rwa [List.take_of_length_le (Nat.le_refl _), List.take_of_length_le (by have := HL.out; omega)] at this))
      go_wp2
      go_ret
      exact ⟨ret_bool HD.out.symm, m, HM.out⟩
set_option maxRecDepth 100000 in
theorem has_calls (A : Option Addr) (c : Nat) (xs : List Int) (v : Int) (w : World) (h : Ints w (.slice A xs.length c) xs) (hm : xs.length ≤ 9223372036854775807) :
    Calls Try.prog 106 #[.slice A xs.length c, .int .i64 v] w fun e w' => e = .returned (.bool (xs.contains v)) ∧ w' = w := by
  go_enter Try.func106, Try.ntmps106
  go_wp2
  go_loopw [5] (fun i wr => ∃ k : Nat, k ≤ xs.length ∧ i = .int .i64 k ∧ (xs.take k).contains v = false ∧ wr = w) (fun i _ => xs.length - (intOf i).toNat)
  case atStart => exact ⟨0, Nat.zero_le _, rfl, by simp, rfl⟩
  case round =>
    obtain ⟨k, hk, rfl, hno, rfl⟩ := hrel
    have Hno := bx hno
    clear hno
    by_cases hlt : k < xs.length
    · obtain ⟨b, off, rfl, hb, c1⟩ := ints_at h hlt
      have Hs := bx (show (xs.take (k + 1)).contains v = ((xs.take k).contains v || v == xs[k]) by
        rw [List.take_succ_eq_append_getElem hlt]; simp only [List.contains_append, List.contains_cons, List.contains_nil, Bool.or_false])
      have Hm := bx (fun hv : v = xs[k] => show xs.contains v = true by rw [hv]; simp)
      generalize xs[k] = y at *
      by_cases hv : v = y
      · subst hv
        have Ht := bx (Hm.out rfl)
        go_wp2
        go_ret
        exact ⟨ret_bool (by rw [← Ht.out]; simp), rfl⟩
      · have Hv := bx (show (v == y) = false by simp [hv])
        have hv' : ¬ y = v := fun e => hv e.symm
        go_wp2
        go_roundw
        case rel => exact ⟨k + 1, by omega, by go_num, by rw [Hs.out, Hno.out, Hv.out]; rfl, trivial⟩
        case measure => simp [intOf]; omega
    · obtain rfl : k = xs.length := by omega
      have Hc := bx (show xs.contains v = false by have := Hno.out; rwa [List.take_of_length_le (Nat.le_refl _)] at this)
      go_wp2
      go_ret
      exact ⟨ret_bool (by rw [Hc.out]), rfl⟩
theorem same_val (A B : Option Addr) (c d : Nat) (xs ys : List Int) (w : World) (h1 : Ints w (.slice A xs.length c) xs) (h2 : Ints w (.slice B ys.length d) ys) (hm : xs.length ≤ 9223372036854775807) (t : Bool) (ht : decide (xs = ys) = t) :
    Calls Try.prog 11 #[.slice A xs.length c, .slice B ys.length d] w fun e w' => e = .returned (.bool t) ∧ ∃ m, w' = w.drewN m := by
  subst ht
  exact same_calls A B c d xs ys w h1 h2 hm
theorem has_val (A : Option Addr) (c : Nat) (xs : List Int) (v : Int) (w : World) (h : Ints w (.slice A xs.length c) xs) (hm : xs.length ≤ 9223372036854775807) (t : Bool) (ht : xs.contains v = t) :
    Calls Try.prog 106 #[.slice A xs.length c, .int .i64 v] w fun e w' => e = .returned (.bool t) ∧ w' = w := by
  have := has_calls A c xs v w h hm
  rwa [ht] at this
end Go.Proofs.Ytpdbdpmlppbnnaa.Mo
namespace Go.Proofs.Ytpdbdpmlppbnnaa.Mo
open Go.RowKit Go.Shelf

/-- monitors' cells, each with the value of its past -/
abbrev MV := Mon × Value
def mlc (l : List MV) : List Value := l.flatMap fun a => (mcs a.1 a.2).toList
theorem mlc_len (l : List MV) : (mlc l).length = l.length * 8 := by
  induction l with
  | nil => rfl
  | cons a t ih => simp only [mlc, List.flatMap_cons, List.length_append, List.length_cons] at *; rw [ih]; simp; omega
theorem mlc_append (l m : List MV) : mlc (l ++ m) = mlc l ++ mlc m := by simp [mlc]
theorem mlc_one (l : List MV) (h : ∀ a ∈ l, a.2.oneCell' = true) : ∀ u ∈ mlc l, u.oneCell' = true := by
  intro u hu
  obtain ⟨a, ha, hu⟩ := List.mem_flatMap.1 hu
  simp at hu
  rcases hu with rfl | rfl | rfl | rfl | rfl | rfl | rfl | rfl <;> first | rfl | exact h a ha
set_option maxRecDepth 100000 in
theorem mlc_at (l : List MV) : ∀ k (hk : k < l.length) i u, (mcs l[k].1 l[k].2)[i]? = some u → (mlc l)[k * 8 + i]? = some u := by
  induction l with
  | nil => intro k hk; simp at hk
  | cons a t ih =>
    intro k hk i u hu
    have h8 : (mcs a.1 a.2).toList.length = 8 := rfl
    cases k with
    | zero =>
      simp only [mlc, List.flatMap_cons]
      have hi : i < 8 := by
        have := (Array.getElem?_eq_some_iff.1 hu).1
        simpa [mcs] using this
      rw [List.getElem?_append_left (by rw [h8]; omega)]
      simpa using hu
    | succ k =>
      simp only [mlc, List.flatMap_cons]
      rw [List.getElem?_append_right (by rw [h8]; omega), h8, show (k + 1) * 8 + i - 8 = k * 8 + i by omega]
      exact ih k (by simpa using hk) i u (by simpa using hu)
/-- the slice v holds the monitors ms -/
structure Mons (w : World) (v : Value) (ms : List Mon) : Prop where
  out : ∃ ps : List MV, ps.map (·.1) = ms ∧ Sl w w.heap.size v ms.length (mlc ps) ∧ ∀ a ∈ ps, Bools w a.2 a.1.past
theorem Mons.from {w w' : World} {v : Value} {ms : List Mon} (h : Mons w v ms) (hb : From w w') : Mons w' v ms := by
  obtain ⟨ps, h1, h2, h3⟩ := h.out
  exact ⟨ps, h1, h2.from hb, fun a ha => (h3 a ha).from hb⟩
theorem Mons.form {w : World} {v : Value} {ms : List Mon} (h : Mons w v ms) : ∃ A c, v = .slice A ms.length c := by
  obtain ⟨ps, h1, h2, h3⟩ := h.out
  exact h2.form
set_option maxRecDepth 100000 in
theorem Mons.at_ {w : World} {n c : Nat} {A : Option Addr} {ms : List Mon} (h : Mons w (.slice A n c) ms) {k : Nat} (hk : k < ms.length) : ∃ b off AP cP, A = some ⟨b, off, none⟩ ∧ b < w.heap.size ∧ Bools w (.slice AP ms[k].past.length cP) ms[k].past ∧
    w.cell? ⟨b, off + k * 8, none⟩ = some (.int .i64 ms[k].par) ∧ w.cell? ⟨b, off + k * 8 + 1, none⟩ = some (.int .i64 ms[k].low) ∧ w.cell? ⟨b, off + k * 8 + 2, none⟩ = some (.int .i64 ms[k].high) ∧ w.cell? ⟨b, off + k * 8 + 3, none⟩ = some (.int .i64 ms[k].need) ∧
    w.cell? ⟨b, off + k * 8 + 4, none⟩ = some (.int .i64 ms[k].of) ∧ w.cell? ⟨b, off + k * 8 + 5, none⟩ = some (.int .i64 ms[k].ev) ∧ w.cell? ⟨b, off + k * 8 + 6, none⟩ = some (.slice AP ms[k].past.length cP) ∧ w.cell? ⟨b, off + k * 8 + 7, none⟩ = some (.bool ms[k].raised) := by
  obtain ⟨ps, h1, h2, h3⟩ := h.out
  have hkp : k < ps.length := by rw [← h1] at hk; simpa using hk
  have hms : ms[k] = ps[k].1 := by subst h1; simp
  have hp := h3 ps[k] (List.getElem_mem hkp)
  obtain ⟨AP, cP, hv⟩ := hp.form
  rw [hms]
  have at_ : ∀ i u, (mcs ps[k].1 ps[k].2)[i]? = some u → ∃ b off, A = some ⟨b, off, none⟩ ∧ b < w.heap.size ∧ w.cell? ⟨b, off + (k * 8 + i), none⟩ = some u := fun i u hu => h2.at_ (mlc_at ps k hkp i u hu)
  obtain ⟨b, off, hA, hb, c0⟩ := at_ 0 _ rfl
  have f : ∀ i u, (mcs ps[k].1 ps[k].2)[i]? = some u → w.cell? ⟨b, off + k * 8 + i, none⟩ = some u := fun i u hu => by
    obtain ⟨b', off', hA', _, c⟩ := at_ i u hu
    rw [hA] at hA'
    cases hA'
    rw [Nat.add_assoc]; exact c
  rw [hv] at hp
  exact ⟨b, off, AP, cP, hA, hb, hp, f 0 _ rfl, f 1 _ rfl, f 2 _ rfl, f 3 _ rfl, f 4 _ rfl, f 5 _ rfl, by rw [← hv]; exact f 6 _ rfl, f 7 _ rfl⟩
/-- what put answers -/
def PutPost (w : World) (base : Nat) (v : Value) (xs : List Int) (b : Bool) (x : Int) (e : Ending) (w' : World) : Prop :=
  ∃ A n c ys, n = ys.length ∧ ys = (if b then xs ++ [x] else xs) ∧ e = .returned (.slice A n c) ∧ w'.ownsRow base 3 1 (.slice A n c) n (ic ys) ∧ w.grownBy w' v.ownBlock ∧ (∀ r, (Value.slice A n c).ownBlock = some r → v.ownBlock = some r ∨ w.heap.size ≤ r)
set_option maxRecDepth 100000 in
theorem put_calls (base : Nat) (v : Value) (xs : List Int) (b : Bool) (x : Int) (w : World) (h : w.ownsRow base 3 1 v xs.length (ic xs)) (hb : base ≤ w.heap.size) (hm : xs.length ≤ 1000) :
    Calls Try.prog 74 #[v, .bool b, .int .i64 x] w (PutPost w base v xs b x) := by
  obtain ⟨A, c, rfl⟩ := slice_form h
  cases b
  · have H := bx h
    clear h
    go_enter Try.func74, Try.ntmps74
    go_wp2
    go_ret
    exact ⟨A, _, c, xs, rfl, rfl, rfl, H.out, World.grownBy.refl _ _, fun r hr => .inl hr⟩
  · have H := bx h
    clear h
    go_enter Try.func74, Try.ntmps74
    go_wp2_with (at_builtin; refine app_sl rfl _ _ 22 rfl Try.elInt rfl (H.out.alloc _) 1 [.int .i64 x] rfl (sl_new w [.int .i64 x] 3 1 1) rfl (by simp [Value.oneCell']) (by omega) (by unfold maxLen; omega) (by simp; omega) ?_; intro A3 c3 w3 o3 g3 b3)
    go_ret
    exact ⟨A3, _, c3, xs ++ [x], by simp, rfl, rfl, by rw [ic_append]; exact o3, (World.grownBy_alloc w _ _).trans g3, fun r hr => (b3 r hr).imp id (fun h => by simp at h; omega)⟩
end Go.Proofs.Ytpdbdpmlppbnnaa.Mo
namespace Go.Proofs.Ytpdbdpmlppbnnaa.Mo
open Go.RowKit Go.Shelf

theorem from_put {w W : World} (h : From w W) (n blk off : Nat) (d : Array Int) (hb : w.heap.size ≤ blk) : From w (Sort.putRow (Value.int .i64) (Sort.ahead W n) blk off d) :=
  ⟨h.os, h.tape, h.output, by simpa [Sort.ahead] using h.size, fun i hi => by
    rw [← h.block i hi]
    simp only [Sort.putRow, Sort.mapBlock, Array.getElem?_modify, Sort.ahead]
    rw [if_neg (by omega)]⟩
/-- the events of the raised monitors -/
def evsM (l : List Mon) : List Int := (l.filter (·.raised)).map (·.ev)
theorem evsM_succ (l : List Mon) (k : Nat) (hk : k < l.length) : evsM (l.take (k + 1)) = if l[k].raised then evsM (l.take k) ++ [l[k].ev] else evsM (l.take k) := by
  rw [List.take_succ_eq_append_getElem hk, evsM, List.filter_append]
  cases h : l[k].raised <;> simp [h, evsM]
theorem evsM_len (l : List Mon) : (evsM l).length ≤ l.length := by
  have := List.length_filter_le (fun m : Mon => m.raised) l
  simpa [evsM] using this
def raisedM (l : List Mon) : List Int := adj (Sort.insertionSort Sort.ltInt (evsM l).toArray 0 (evsM l).toArray.size).toList
/-- what a call with a new list of numbers that lies anywhere answers -/
def IntsPost (w : World) (l : List Int) (e : Ending) (w' : World) : Prop := ∃ A c, e = .returned (.slice A l.length c) ∧ Ints w' (.slice A l.length c) l ∧ From w w'
set_option maxRecDepth 100000 in
theorem holds_of_own {w : World} {base n c : Nat} {A : Option Addr} {l : List Int} (h : w.ownsRow base 3 1 (.slice A n c) n (ic l)) (hn : 0 < n) : ∃ g, A = some ⟨g, 0, none⟩ ∧ base ≤ g ∧ n ≤ c ∧ c ≤ maxLen ∧ Sort.Holds (Value.int .i64) w g 0 l.toArray := by
  rcases h.2 with ⟨_, rfl⟩ | ⟨g, cap, cur, hv, hg, hh, hnc, hcm, hcs, htk⟩
  · omega
  · injection hv with e1 _ e3
    subst e1 e3
    refine ⟨g, rfl, hg, hnc, hcm, fun j hj => ⟨?_, ?_⟩⟩
    · have hj' : j < l.length := by simpa using hj
      have := h.cells (g := g) rfl j (.int .i64 l[j]) (by simp [ic, hj'])
      rw [Addr.add_mid] at this
      rw [this]
      simp [hj']
    · simp [World.frozen?, hh]
theorem ins0_calls (A : Option Addr) (c : Nat) (w : World) : Calls Try.prog 101 #[.slice A 0 c, .int .i64 0, .int .i64 0, .func (.func 50) #[] #[]] w fun e w' => e = .returned (.tuple #[]) ∧ w' = w := by
  go_enter Try.func101, Try.ntmps101
  go_wp2_with fail
  refine wp_loop_rounds 1 ?_
  rw [rounds_succ]
  go_wp2
  go_end0
  exact ⟨rfl, rfl⟩
set_option maxRecDepth 100000 in
theorem pdq0_calls (A : Option Addr) (c : Nat) (k : Int) (w : World) : Calls Try.prog 108 #[.slice A 0 c, .int .i64 0, .int .i64 0, .int .i64 k, .func (.func 50) #[] #[]] w fun e w' => e = .returned (.tuple #[]) ∧ w' = w := by
  go_enter Try.func108, Try.ntmps108
  go_wp2_with fail
  refine wp_loop_rounds 1 ?_
  rw [rounds_succ]
  go_wp2_with fail
  refine (ins0_calls A c w).mono ?_
  rintro e w1 ⟨rfl, rfl⟩
  go_wp2
  refine bodyPost_ret (v := .tuple #[]) (by simp [results, Try.results108, go_sem]) rfl ⟨rfl, rfl⟩
set_option maxRecDepth 100000 in
theorem sort0_calls (A : Option Addr) (c : Nat) (w : World) : Calls Try.prog 99 #[.slice A 0 c, .func (.func 50) #[] #[]] w fun e w' => e = .returned (.tuple #[]) ∧ w' = w := by
  have HL := bx (len_calls 0 w (by omega) (by omega))
  go_enter Try.func99, Try.ntmps99
  go_wp2_with fail
  refine HL.out.mono ?_
  rintro e w1 ⟨⟨k, rfl⟩, rfl⟩
  go_wp2_with fail
  refine (pdq0_calls A c k w1).mono ?_
  rintro e w2 ⟨rfl, rfl⟩
  go_wp2
  go_end0
  exact ⟨rfl, rfl⟩
theorem compact0_calls (A : Option Addr) (c : Nat) (w : World) : Calls Try.prog 100 #[.slice A 0 c] w fun e w' => e = .returned (.slice A 0 c) ∧ w' = w := by
  go_enter Try.func100, Try.ntmps100
  go_wp2
  go_ret
  exact ⟨rfl, rfl⟩
set_option maxRecDepth 100000 in
set_option maxHeartbeats 1000000 in
theorem raised_calls (A : Option Addr) (c : Nat) (ms : List Mon) (w : World) (h : Mons w (.slice A ms.length c) ms) (hm : ms.length ≤ 12) (r : List Int) (hr : raisedM ms = r) :
    Calls Try.prog 77 #[.slice A ms.length c] w (IntsPost w r) := by
  have H := bx h
  have HR := bx hr
  clear h hr
  go_enter Try.func77, Try.ntmps77
  go_wp2_with fail
  go_loopw [3, 5, 8] (fun v _ i wr => ∃ k : Nat, k ≤ ms.length ∧ i = .int .i64 k ∧ wr.ownsRow w.heap.size 3 1 v (evsM (ms.take k)).length (ic (evsM (ms.take k))) ∧ From w wr) (fun _ _ i _ => ms.length - (intOf i).toNat)
  case atStart => exact ⟨0, Nat.zero_le _, rfl, own_nil _ _ _ _, From.refl _⟩
  case round =>
    obtain ⟨k, hk, rfl, hown, hbw⟩ := hrel
    have hl1 := evsM_len (ms.take k)
    rw [List.length_take] at hl1
    have HO := bx hown
    by_cases hlt : k < ms.length
    · obtain ⟨b, off, AP, cP, rfl, hb, hP, c0, c1, c2, c3, c4, c5, c6, c7⟩ := (H.out.from hbw).at_ hlt
      have hS := evsM_succ ms k hlt
      have HS := bx hS
      clear hS hP hown
      generalize ms[k] = m at *
      obtain ⟨mp, ml, mh, mn, mo, me, mps, mr⟩ := m
      simp only at c0 c1 c2 c3 c4 c5 c6 c7 HS
      have hsz := Below.size hbw
      go_wp2_with fail
      refine (put_calls w.heap.size u3 (evsM (ms.take k)) mr me _ (HO.out.alloc _) (by simp; omega) (by omega)).mono ?_
      rintro e w3 ⟨A3, n3, c3, ys, rfl, hys, rfl, o3, g3, _⟩
      have hy : ys = evsM (ms.take (k + 1)) := by rw [hys, HS.out]
      have hf3 : From w w3 := From.app (hbw.alloc _) (HO.out.alloc _) (Nat.le_refl _) g3
      have HY := bx hy
      clear hy hys
      go_wp2
      go_roundw
      case rel => exact ⟨k + 1, by omega, by go_num, by rw [← HY.out]; exact o3, hf3⟩
      case measure => simp [intOf]; omega
    · obtain rfl : k = ms.length := by omega
      rw [List.take_of_length_le (Nat.le_refl _)] at HO hl1
      clear hown
      obtain ⟨l, hl⟩ : ∃ l, evsM ms = l := ⟨_, rfl⟩
      have hr := HR.out
      rw [raisedM, hl] at hr
      replace HR := bx hr
      rw [hl] at HO hl1
      obtain ⟨A3, c3, rfl⟩ := slice_form HO.out
      by_cases h0 : l.length = 0
      · have hl0 := List.eq_nil_of_length_eq_zero h0
        subst hl0
        obtain rfl : r = [] := by rw [← hr]; simp [Sort.insertionSort, Sort.insOuter, adj]
        have HB := bx hbw
        go_wp2_with fail
        refine (sort0_calls A3 c3 wr).mono ?_
        rintro e w4 ⟨rfl, rfl⟩
        go_wp2_with fail
        refine (compact0_calls A3 c3 _).mono ?_
        rintro e w5 ⟨rfl, rfl⟩
        go_wp2
        go_ret
        exact ⟨A3, c3, rfl, sl_of_own HO.out, HB.out⟩
      · obtain ⟨g, rfl, hg, hnc, hcm, hH⟩ := holds_of_own HO.out (by omega)
        have hls : l.toArray.size = l.length := by simp
        have HS := bx (sortF_calls g 0 c3 l.toArray wr hH (by omega))
        rw [hls] at HS
        have HH := bx hH
        obtain ⟨d, hd⟩ : ∃ d, Sort.insertionSort Sort.ltInt l.toArray 0 l.toArray.size = d := ⟨_, rfl⟩
        have hds : d.size = l.length := by
          rw [← hd]
          have := (Sort.insertionSort_holds (lt := Sort.ltInt) Sort.swo_ltInt l.toArray 0 l.toArray.size (Nat.zero_le _) (Nat.le_refl _)).1.1
          rw [this]; exact hls
        have hd' := hd
        rw [hls] at hd
        rw [hd] at HS
        rw [hd'] at hr
        clear hd hd' hH
        replace HR := bx hr
        clear hr
        have HB := bx hbw
        go_wp2_with fail
        refine HS.out.mono ?_
        rintro e w4 ⟨rfl, n4, rfl⟩
        have hH4 := Sort.holds_putRow (Value.int .i64) (Sort.ahead wr n4) g 0 l.toArray d (Sort.holds_ahead _ _ _ _ _ _ HH.out) (by rw [hds, hls])
        have HC := bx (compact_calls g 0 c3 d _ hH4 (by omega) (by unfold maxLen at hcm; omega))
        rw [hds] at HC
        go_wp2_with fail
        refine HC.out.mono ?_
        rintro e w5 ⟨rfl, n5, d5, rfl, hs5, hp5⟩
        go_wp2
        go_ret
        rw [Sort.putRow_ahead_putRow _ _ _ _ _ _ _ _ hs5]
        rw [HR.out] at hp5 ⊢
        have hrl : r.length ≤ d.size := by rw [← HR.out]; have := adj_len d.toList; simpa using this
        refine ⟨_, _, rfl, ⟨.inr ⟨_, _, rfl, fun j u hj => ?_⟩⟩, from_put HB.out _ _ _ _ hg⟩
        have hjr : j < r.length := by have := (List.getElem?_eq_some_iff.1 hj).1; simpa [ic] using this
        have hH5 := Sort.holds_putRow (Value.int .i64) (Sort.ahead wr (n4 + n5)) g 0 l.toArray d5 (Sort.holds_ahead _ _ _ _ _ _ HH.out) (by rw [hs5, hds, hls])
        have hc := (hH5 j (by omega)).1
        refine ⟨g, 0, rfl, World.block_lt_of_cell? _ _ hc, hc.trans ?_⟩
        rw [← hj]
        have := hp5 j hjr
        rw [Array.getElem?_eq_getElem (by omega)] at this
        rw [List.getElem?_eq_getElem hjr] at this
        simp only [ic, List.getElem?_map, List.getElem?_eq_getElem hjr, Option.map_some]
        rw [getElem!_pos d5 j (by omega)]
        injection this with this
        rw [this]
end Go.Proofs.Ytpdbdpmlppbnnaa.Mo
namespace Go.Proofs.Ytpdbdpmlppbnnaa.Mo
open Go.RowKit Go.Shelf

/-- a cut behind a piece of code: what is known there -/
theorem region_cut {P : Program} {c : Code} {K : Act → World → Prop} {Q : Exit → Act → World → Prop} {a : Act} {w : World} (R : Act → Act → World → Prop)
    (h : ∀ K' : Act → World → Prop, Bx (∀ a' w', R a a' w' → K' a' w') → Code.wp P c (Exit.then K' Q) a w) (hR : ∀ a' w', R a a' w' → K a' w') : Code.wp P c (Exit.then K Q) a w :=
  Code.wp_mono (fun e a' w' he => by cases e <;> first | exact hR _ _ he | exact he) (h (R a) ⟨fun _ _ h => h⟩)
/-- slots that are written one behind the other -/
def puts (a : Act) : List (Nat × Value) → Act
  | [] => a
  | (d, v) :: r => puts (a.put (some d) v) r
def exM : Mon := ⟨0, 0, 10, 2, 3, 7, [], false⟩
def exV : List Int := [11, 5, 12, 1, 2, 3]
def exUp : List Int := [-1, -1, -1, 2, 2, 2, 2]
def exDn : List Int := [-1, -1, -1, -1, -1, -1, 5]
set_option maxRecDepth 100000 in
theorem ex_round : ∀ k, k < 6 → (upM (runM exM (exV.take k)) (exV.getD k 0) = true → exUp.getD (k + 1) 0 = k) ∧ (upM (runM exM (exV.take k)) (exV.getD k 0) = false → exUp.getD (k + 1) 0 = exUp.getD k 0) ∧
    (dnM (runM exM (exV.take k)) (exV.getD k 0) = true → exDn.getD (k + 1) 0 = k) ∧ (dnM (runM exM (exV.take k)) (exV.getD k 0) = false → exDn.getD (k + 1) 0 = exDn.getD k 0) ∧ (runM exM (exV.take k)).past.length ≤ 3 ∧
    runM exM (exV.take (k + 1)) = stepM (runM exM (exV.take k)) (exV.getD k 0) := by
  intro k hk
  match k, hk with
  | 0, _ => exact ⟨by decide +kernel, by decide +kernel, by decide +kernel, by decide +kernel, by decide +kernel, rfl⟩
  | 1, _ => exact ⟨by decide +kernel, by decide +kernel, by decide +kernel, by decide +kernel, by decide +kernel, rfl⟩
  | 2, _ => exact ⟨by decide +kernel, by decide +kernel, by decide +kernel, by decide +kernel, by decide +kernel, rfl⟩
  | 3, _ => exact ⟨by decide +kernel, by decide +kernel, by decide +kernel, by decide +kernel, by decide +kernel, rfl⟩
  | 4, _ => exact ⟨by decide +kernel, by decide +kernel, by decide +kernel, by decide +kernel, by decide +kernel, rfl⟩
  | 5, _ => exact ⟨by decide +kernel, by decide +kernel, by decide +kernel, by decide +kernel, by decide +kernel, rfl⟩
/-- the head of the loop -/
structure ExAt (w : World) (k : Nat) (wr : World) : Prop where
  from_ : From w wr
  vals : ∀ k (hk : k < 6), wr.cell? ⟨w.heap.size + 1, k, none⟩ = some (.int .i64 (exV[k]'hk))
  size : w.heap.size + 2 ≤ wr.heap.size
  mon : ∃ A c, MonC wr w.heap.size (runM exM (exV.take k)) (.slice A (runM exM (exV.take k)).past.length c) ∧ SlN (w.heap.size + 2) wr (.slice A (runM exM (exV.take k)).past.length c) (runM exM (exV.take k)).past.length (bc (runM exM (exV.take k)).past)
theorem cell_set8_off {W : World} {a : Addr} {u : Value} (h : W.cell? a = some u) {r : Nat} (hr : a.block ≠ r) (m : Mon) (v : Value) : (set8 W r m v).cell? a = some u :=
  cell_set_off (cell_set_off (cell_set_off (cell_set_off (cell_set_off (cell_set_off (cell_set_off (cell_set_off h hr) hr) hr) hr) hr) hr) hr) hr
theorem size_set8 (W : World) (r : Nat) (m : Mon) (v : Value) : (set8 W r m v).heap.size = W.heap.size := by simp
theorem ExAt.next {w wr w4 : World} {k : Nat} {m0 n : Mon} {u : Value} {A3 : Option Addr} {c3 : Nat} (h : ExAt w k wr) (k4 : From wr w4) (hn : runM exM (exV.take (k + 1)) = n) (hM : MonC w4 w.heap.size m0 u)
    (hS : SlN wr.heap.size w4 (.slice A3 n.past.length c3) n.past.length (bc n.past)) : ExAt w (k + 1) (set8 w4 w.heap.size n (.slice A3 n.past.length c3)) := by
  have hsz := h.size
  have hs4 := Below.size k4
  refine ⟨From.set8 (h.from_.trans k4) (Nat.le_refl _) _ _, fun j hj => cell_set8_off (k4.cell (h.vals j hj)) (by simp) _ _, by rw [size_set8]; omega, ?_⟩
  rw [hn]
  exact ⟨A3, c3, MonC.set8 hM, (hS.set8 (by omega) _ _).low (by omega)⟩
set_option maxRecDepth 100000 in
set_option maxHeartbeats 2000000 in
theorem livesM_calls (w : World) : Calls Try.prog 47 #[] w fun e w' => e = .returned (.bool true) ∧ From w w' := by
  go_enter Try.func47, Try.ntmps47
  go_wp2_with fail
  obtain ⟨Z1, hZ1⟩ : ∃ V, w.alloc (.cells (mcs exM (.slice none 0 0)) 114) = V := ⟨_, rfl⟩
  obtain ⟨Z, hZ⟩ : ∃ V, Z1.alloc (.cells (ic exV).toArray 3) = V := ⟨_, rfl⟩
  have s1 : Z1.heap.size = w.heap.size + 1 := by rw [← hZ1]; simp
  have s2 : Z.heap.size = w.heap.size + 2 := by rw [← hZ]; simp [s1]
  have k1 : From w Z1 := by rw [← hZ1]; exact From.alloc (From.refl _) _
  have k2 : From Z1 Z := by rw [← hZ]; exact From.alloc (From.refl _) _
  have HX0 := bx (show ExAt w 0 Z from ⟨k1.trans k2, by
      intro j hj
      have h1 : Z.cell? ⟨Z1.heap.size, j, none⟩ = some (.int .i64 (exV[j]'hj)) := by
        rw [← hZ, World.cell?_alloc_new]
        simp [ic, List.getElem?_eq_getElem (show j < exV.length from hj)]
        rfl
      rw [s1] at h1
      exact h1, by omega, ⟨none, 0, MonC.from (by rw [← hZ1]; exact MonC.new w exM _) k2, ⟨.inl ⟨rfl, rfl, rfl⟩⟩⟩⟩)
  rw [show w.alloc (.cells #[.int .i64 0, .int .i64 0, .int .i64 10, .int .i64 2, .int .i64 3, .int .i64 7, .slice none 0 0, .bool false] 114) = Z1 from hZ1,
    show Z1.alloc (.cells #[.int .i64 11, .int .i64 5, .int .i64 12, .int .i64 1, .int .i64 2, .int .i64 3] 3) = Z from hZ]
  clear hZ1 hZ k1 k2 s1 s2
  go_loopw [3, 4, 5, 6, 7, 8] (fun up dn i _ _ _ wr => ∃ k : Nat, k ≤ 6 ∧ i = .int .i64 k ∧ up = .int .i64 (exUp.getD k 0) ∧ dn = .int .i64 (exDn.getD k 0) ∧ ExAt w k wr) (fun _ _ i _ _ _ _ => 6 - (intOf i).toNat)
  case atStart => exact ⟨0, by omega, rfl, rfl, rfl, HX0.out⟩
  case round =>
    clear HX0
    obtain ⟨k, hk, rfl, rfl, rfl, hat⟩ := hrel
    obtain ⟨hfr, hvals, hsz, A, c, hmc, hpast⟩ := hat
    by_cases hlt : k < 6
    · obtain ⟨r1, r2, r3, r4, r5, r6⟩ := ex_round k hlt
      have v1 := hvals k hlt
      have hv : exV.getD k 0 = exV[k]'hlt := by rw [List.getD_eq_getElem?_getD, List.getElem?_eq_getElem (show k < exV.length from hlt)]; rfl
      rw [hv] at r1 r2 r3 r4 r6
      obtain ⟨m, hm⟩ : ∃ m, runM exM (exV.take k) = m := ⟨_, rfl⟩
      rw [hm] at r1 r2 r3 r4 r5 r6 hmc hpast
      generalize exV[k]'hlt = v at *
      obtain ⟨n, hn⟩ : ∃ n, stepM m v = n := ⟨_, rfl⟩
      obtain ⟨up, hup⟩ : ∃ u, upM m v = u := ⟨_, rfl⟩
      obtain ⟨dn, hdn⟩ : ∃ u, dnM m v = u := ⟨_, rfl⟩
      rw [hup] at r1 r2
      rw [hdn] at r3 r4
      rw [hn] at r6
      have HST := bx (fun (W : World) (kk : From wr W) => step_calls m A c v W (hpast.sl.from kk) (by omega) n hn up dn hup hdn)
      have HMC := bx hmc
      have HR := bx r6
      have HAT := bx (show ExAt w k wr from ⟨hfr, hvals, hsz, A, c, by rw [hm]; exact hmc, by rw [hm]; exact hpast⟩)
      obtain ⟨np, nl, nh, nn, no, ne, nps, nr⟩ := n
      have HRS := bx (And.intro r1 (And.intro r2 (And.intro r3 r4)))
      obtain ⟨a0, a1, a2, a3, a4, a5, a6, a7⟩ := hmc.facts
      have hm3 : m.past.length ≤ 3 := r5
      obtain ⟨mp, ml, mh, mn, mo, me, mps, mr⟩ := m
      simp only at a0 a1 a2 a3 a4 a5 a6 a7
      have z1 : (k : Int) < 6 := by omega
      have z2 : (0 : Int) ≤ (k : Int) := by omega
      have HK := bx (fun (W : World) (kk : From wr W) => (show From wr W ∧ W.cell? ⟨w.heap.size + 1, k, none⟩ = some (.int .i64 v) ∧ W.cell? ⟨w.heap.size, 0, none⟩ = some (.int .i64 mp) ∧ W.cell? ⟨w.heap.size, 1, none⟩ = some (.int .i64 ml) ∧ W.cell? ⟨w.heap.size, 2, none⟩ = some (.int .i64 mh) ∧ W.cell? ⟨w.heap.size, 3, none⟩ = some (.int .i64 mn) ∧ W.cell? ⟨w.heap.size, 4, none⟩ = some (.int .i64 mo) ∧ W.cell? ⟨w.heap.size, 5, none⟩ = some (.int .i64 me) ∧ W.cell? ⟨w.heap.size, 6, none⟩ = some (.slice A mps.length c) ∧ W.cell? ⟨w.heap.size, 7, none⟩ = some (.bool mr) from ⟨kk, kk.cell v1, kk.cell a0, kk.cell a1, kk.cell a2, kk.cell a3, kk.cell a4, kk.cell a5, kk.cell a6, kk.cell a7⟩))
      have hFF : From wr wr := From.refl _
      clear hvals hpast hmc hm hn hup hdn r1 r2 r3 r4 r5 r6 hv
      go_wp2_with fail
      refine region_cut (fun a0 a' w' => ∃ (x18 x19 x20 x21 x22 x23 x24 x25 x26 x27 : Value) (b : Nat) (A3 : Option Addr) (c3 : Nat), a' = puts a0 [(18, x18), (19, x19), (20, x20), (21, x21), (22, x22), (23, x23), (24, x24), (25, x25), (26, x26), (27, x27), (6, .pointer (some ⟨b, 0, none⟩)), (7, .bool up), (8, .bool dn)] ∧ From wr w' ∧ wr.heap.size ≤ b ∧ MonC w' b ⟨np, nl, nh, nn, no, ne, nps, nr⟩ (.slice A3 nps.length c3) ∧ SlN wr.heap.size w' (.slice A3 nps.length c3) nps.length (bc nps)) (fun K' HKK => ?_) ?_
      · go_region_held3 (fun W => From wr W ∧ W.cell? ⟨w.heap.size + 1, k, none⟩ = some (.int .i64 v) ∧ W.cell? ⟨w.heap.size, 0, none⟩ = some (.int .i64 mp) ∧ W.cell? ⟨w.heap.size, 1, none⟩ = some (.int .i64 ml) ∧ W.cell? ⟨w.heap.size, 2, none⟩ = some (.int .i64 mh) ∧ W.cell? ⟨w.heap.size, 3, none⟩ = some (.int .i64 mn) ∧ W.cell? ⟨w.heap.size, 4, none⟩ = some (.int .i64 mo) ∧ W.cell? ⟨w.heap.size, 5, none⟩ = some (.int .i64 me) ∧ W.cell? ⟨w.heap.size, 6, none⟩ = some (.slice A mps.length c) ∧ W.cell? ⟨w.heap.size, 7, none⟩ = some (.bool mr))
          (first | (go_split_ands; with_reducible refine HK.out _ ?_; repeat' (first | with_reducible assumption | with_reducible exact Nat.le_refl _ | with_reducible refine From.drew ?_ | with_reducible refine From.alloc ?_ _ | with_reducible refine From.setCell ?_ ?_ _ _)))
          (first | (go_at_call 72; (with_reducible refine (HST.out _ (by go_split_ands; assumption)).mono ?_); rintro e w3 ⟨A3, c3, rfl, q3, k3⟩; have hkeep := From.trans (show From wr _ by go_split_ands; assumption) k3; first | (have HRD : MonC w3 wr.heap.size ⟨0, 0, 0, 0, 0, 0, [], false⟩ (.slice none 0 0) := (by first | with_reducible exact MonC.from (MonC.new wr.drew ⟨0, 0, 0, 0, 0, 0, [], false⟩ (.slice none 0 0)) k3 | with_reducible exact MonC.from (MonC.from (MonC.new wr ⟨0, 0, 0, 0, 0, 0, [], false⟩ (.slice none 0 0)) (From.drew (From.refl _))) k3); have t0 := HRD.soft 0; have t1 := HRD.soft 1; have t2 := HRD.soft 2; have t3 := HRD.soft 3; have t4 := HRD.soft 4; have t5 := HRD.soft 5; have t6 := HRD.soft 6; have t7 := HRD.soft 7; obtain ⟨s0, s1, s2, s3, s4, s5, s6, s7⟩ := HRD.facts) | skip))
        · exact HKK.out _ _ ⟨_, _, _, _, _, _, _, _, _, _, w3.heap.size, A3, c3, (by simp only [puts, Act.put, List.setIfInBounds_toArray, List.set_cons_zero, List.set_cons_succ]; rfl), From.alloc hkeep _, Below.size hkeep, MonC.new w3 ⟨np, nl, nh, nn, no, ne, nps, nr⟩ _, (q3.low (by simp)).from (From.alloc (From.refl _) _)⟩
        · refine HKK.out _ _ ⟨_, _, _, _, _, _, _, _, _, _, wr.heap.size, A3, c3, (by simp only [puts, Act.put, List.setIfInBounds_toArray, List.set_cons_zero, List.set_cons_succ]; rfl), ?_, Nat.le_refl _, ?_, ?_⟩
          · with_reducible exact From.set8 hkeep (Nat.le_refl _) ⟨np, nl, nh, nn, no, ne, nps, nr⟩ _
          · with_reducible exact HRD.set8 (m := ⟨np, nl, nh, nn, no, ne, nps, nr⟩)
          · have hq := q3.set8 (show wr.heap.size < _ by simp) ⟨np, nl, nh, nn, no, ne, nps, nr⟩ (.slice A3 nps.length c3)
            have hq2 := hq.low (show wr.heap.size ≤ _ by simp)
            with_reducible exact hq2
      · rintro a' w4 ⟨x18, x19, x20, x21, x22, x23, x24, x25, x26, x27, b, A3, c3, rfl, k4, hb4, hM4, hS4⟩
        rename_i K0 hK0
        apply hK0
        simp only [puts, Act.put, List.setIfInBounds_toArray, List.set_cons_zero, List.set_cons_succ]
        have hMm := HMC.out.from k4
        obtain ⟨b0, b1, b2, b3, b4, b5, b6, b7⟩ := hM4.facts
        obtain ⟨e0, e1, e2, e3, e4, e5, e6, e7⟩ := hMm.facts
        have t0 := hMm.soft 0
        have t1 := hMm.soft 1
        have t2 := hMm.soft 2
        have t3 := hMm.soft 3
        have t4 := hMm.soft 4
        have t5 := hMm.soft 5
        have t6 := hMm.soft 6
        have t7 := hMm.soft 7
        simp only at b0 b1 b2 b3 b4 b5 b6 b7 e0 e1 e2 e3 e4 e5 e6 e7
        have HN := bx (HAT.out.next k4 HR.out hMm hS4)
        clear hM4 hMm hS4
        cases up
        · cases dn
          · go_wp2
            go_roundw
            case rel => exact ⟨k + 1, by omega, by go_num, by rw [HRS.out.2.1 rfl]; simp, by rw [HRS.out.2.2.2 rfl]; simp, HN.out⟩
            case measure => simp [intOf]; omega
          · go_wp2
            go_roundw
            case rel => exact ⟨k + 1, by omega, by go_num, by rw [HRS.out.2.1 rfl]; simp, by rw [HRS.out.2.2.1 rfl], HN.out⟩
            case measure => simp [intOf]; omega
        · cases dn
          · go_wp2
            go_roundw
            case rel => exact ⟨k + 1, by omega, by go_num, by rw [HRS.out.1 rfl], by rw [HRS.out.2.2.2 rfl]; simp, HN.out⟩
            case measure => simp [intOf]; omega
          · go_wp2
            go_roundw
            case rel => exact ⟨k + 1, by omega, by go_num, by rw [HRS.out.1 rfl], by rw [HRS.out.2.2.1 rfl], HN.out⟩
            case measure => simp [intOf]; omega
    · obtain rfl : k = 6 := by omega
      have hm : runM exM (exV.take 6) = ⟨0, 0, 10, 2, 3, 7, [false, false, false], false⟩ := by kernel_rfl
      rw [hm] at hmc
      have HFR := bx hfr
      obtain ⟨a0, a1, a2, a3, a4, a5, a6, a7⟩ := hmc.facts
      simp only [List.length_cons, List.length_nil] at a0 a1 a2 a3 a4 a5 a6 a7
      have u2 : exUp.getD 6 0 = 2 := by decide
      have d5 : exDn.getD 6 0 = 5 := by decide
      have b6 := fun o => cell_alloc a6 o
      have b7 := fun o => cell_alloc a7 o
      have hms : Mons (wr.alloc (.cells (mlc [(⟨0, 0, 0, 0, 0, 7, [], true⟩, .slice none 0 0), (⟨0, 0, 0, 0, 0, 2, [], true⟩, .slice none 0 0), (⟨0, 0, 0, 0, 0, 7, [], true⟩, .slice none 0 0)]).toArray 114)) (.slice (some ⟨wr.heap.size, 0, none⟩) 3 3) [⟨0, 0, 0, 0, 0, 7, [], true⟩, ⟨0, 0, 0, 0, 0, 2, [], true⟩, ⟨0, 0, 0, 0, 0, 7, [], true⟩] :=
        ⟨_, rfl, by have := sl_new wr (mlc [(⟨0, 0, 0, 0, 0, 7, [], true⟩, .slice none 0 0), (⟨0, 0, 0, 0, 0, 2, [], true⟩, .slice none 0 0), (⟨0, 0, 0, 0, 0, 7, [], true⟩, .slice none 0 0)]) 114 3 3; exact this.more (by simp), by
          intro a ha
          simp at ha
          rcases ha with rfl | rfl | rfl <;> exact ⟨.inl ⟨rfl, rfl, rfl⟩⟩⟩
      have HMS := bx hms
      have hfw : From w (wr.alloc (.cells (mlc [(⟨0, 0, 0, 0, 0, 7, [], true⟩, .slice none 0 0), (⟨0, 0, 0, 0, 0, 2, [], true⟩, .slice none 0 0), (⟨0, 0, 0, 0, 0, 7, [], true⟩, .slice none 0 0)]).toArray 114)) := hfr.alloc _
      have HFW := bx hfw
      clear hmc hpast hvals hfr hm hms hfw
      have HC := bx (fun (W : World) => check_calls ⟨0, 0, 0, 4, 3, 0, [], false⟩ none 0 1 W 5 (by decide))
      have hrm : raisedM [⟨0, 0, 0, 0, 0, 7, [], true⟩, ⟨0, 0, 0, 0, 0, 2, [], true⟩, ⟨0, 0, 0, 0, 0, 7, [], true⟩] = [2, 7] := by kernel_rfl
      have HRM := bx hrm
      clear hrm
      go_wp2_with fail
      refine (HC.out _).mono ?_
      rintro e w5 ⟨rfl, k5⟩
      go_wp2_with fail
      refine (raised_calls _ 3 _ w5 (HMS.out.from k5) (by decide) [2, 7] HRM.out).mono ?_
      rintro e w6 ⟨A6, c6, rfl, hI6, k6⟩
      have HI6 := bx (hI6.from (From.alloc (From.refl w6) (.cells #[.int .i64 2, .int .i64 7] 3)))
      clear hI6
      go_wp2_with fail
      refine (same_val A6 _ c6 2 [2, 7] [2, 7] _ HI6.out ((sl_new w6 (ic [2, 7]) 3 2 2).more (by simp)) (by decide) true (by decide)).mono ?_
      rintro e w7 ⟨rfl, q, rfl⟩
      go_wp2
      go_ret
      exact ⟨rfl, From.drewN (From.alloc ((HFW.out.trans k5).trans k6) _) q⟩
end Go.Proofs.Ytpdbdpmlppbnnaa.Mo
namespace Go.Proofs.Ytpdbdpmlppbnnaa.Mo
open Go.RowKit Go.Shelf

/-- the monitor m in the box r, its past behind it; nothing of w has turned -/
structure RunAt (w : World) (r : Nat) (m : Mon) (wr : World) : Prop where
  from_ : From w wr
  low : w.heap.size ≤ r
  mon : ∃ A c, MonC wr r m (.slice A m.past.length c) ∧ SlN (r + 1) wr (.slice A m.past.length c) m.past.length (bc m.past)
theorem RunAt.step {w wr w4 : World} {r : Nat} {m n : Mon} {A3 : Option Addr} {c3 : Nat} (h : RunAt w r m wr) (k4 : From wr w4) (hS : SlN wr.heap.size w4 (.slice A3 n.past.length c3) n.past.length (bc n.past)) :
    RunAt w r n (set8 w4 r n (.slice A3 n.past.length c3)) := by
  obtain ⟨A, c, hM, _⟩ := h.mon
  have hlt := hM.lt
  refine ⟨From.set8 (h.from_.trans k4) h.low _ _, h.low, A3, c3, MonC.set8 (hM.from k4), (hS.set8 (by omega) _ _).low (by omega)⟩
theorem RunAt.call {w wr w4 : World} {r : Nat} {m : Mon} (h : RunAt w r m wr) (k4 : From wr w4) : RunAt w r m w4 := by
  obtain ⟨A, c, hM, hS⟩ := h.mon
  exact ⟨h.from_.trans k4, h.low, A, c, hM.from k4, hS.from k4⟩
theorem RunAt.new {w w1 : World} (h : From w w1) (m : Mon) (hp : m.past = []) : RunAt w w1.heap.size m (w1.alloc (.cells (mcs m (.slice none 0 0)) 114)) := by
  refine ⟨h.alloc _, Below.size h, none, 0, ?_, ?_⟩
  · rw [hp]; exact MonC.new w1 m _
  · rw [hp]; exact ⟨.inl ⟨rfl, rfl, rfl⟩⟩
theorem run_fine {m : Mon} (hg : GoodM m) (hp : m.past = []) (xs : List Int) : (runM m xs).past.length ≤ 16 ∧ 1 ≤ (runM m xs).need ∧ Like m (runM m xs) := by
  have hl := like_run m xs
  refine ⟨?_, by rw [hl.2.2.2.1]; exact hg.need.1, hl⟩
  have ho := hg.of
  rw [run_past m hp m.of.toNat (by omega) (by omega) xs, lastN_len]
  omega
end Go.Proofs.Ytpdbdpmlppbnnaa.Mo
namespace Go.Proofs.Ytpdbdpmlppbnnaa.Mo
open Go.RowKit Go.Shelf

set_option maxRecDepth 100000 in
theorem sl_take {w : World} {B n c : Nat} {A : Option Addr} {cs : List Value} (h : Sl w B (.slice A n c) n cs) (k : Nat) (hk : k ≤ n) : Sl w B (.slice A k c) k (cs.take k) := by
  rcases h.out with ⟨e, rfl, rfl⟩ | ⟨a, c', e, hc⟩
  · injection e with e1 e2 e3
    subst e1 e3
    obtain rfl : k = 0 := by omega
    exact ⟨.inl ⟨rfl, rfl, by simp⟩⟩
  · injection e with e1 _ e3
    subst e1 e3
    refine ⟨.inr ⟨_, _, rfl, fun j u hj => ?_⟩⟩
    rw [List.getElem?_take] at hj
    split at hj
    · exact hc j u hj
    · cases hj
set_option maxRecDepth 100000 in
theorem sl_drop {w : World} {B n c : Nat} {A : Option Addr} {cs : List Value} (h : Sl w B (.slice A n c) n cs) (k : Nat) : Sl w B (.slice (Option.map (fun x : Addr => (⟨x.block, x.off + k, none⟩ : Addr)) A) (n - k) (c - k)) (n - k) (cs.drop k) := by
  rcases h.out with ⟨e, rfl, rfl⟩ | ⟨a, c', e, hc⟩
  · injection e with e1 e2 e3
    subst e1 e3
    exact ⟨.inl ⟨by simp, by simp, by simp⟩⟩
  · injection e with e1 _ e3
    subst e1 e3
    refine ⟨.inr ⟨_, _, rfl, fun j u hj => ?_⟩⟩
    rw [List.getElem?_drop] at hj
    obtain ⟨b, off, rfl, e2, e3⟩ := hc _ u hj
    exact ⟨b, off + k, rfl, e2, by rw [Nat.add_assoc]; exact e3⟩
theorem sl_none {w : World} {B n c : Nat} {A : Option Addr} {cs : List Value} (h : Sl w B (.slice A n c) n cs) : (A = none ∧ n = 0 ∧ c = 0 ∧ cs = []) ∨ ∃ a, A = some a := by
  rcases h.out with ⟨e, rfl, rfl⟩ | ⟨a, c', e, hc⟩
  · injection e with e1 e2 e3
    exact .inl ⟨e1, rfl, e3, rfl⟩
  · injection e with e1 _ e3
    exact .inr ⟨a, e1⟩
set_option maxRecDepth 100000 in
theorem sl_add {w : World} {B n c : Nat} {A : Option Addr} {cs : List Value} (h : Sl w B (.slice A n c) n cs) (k : Nat) : Sl w B (.slice (Option.map (fun x : Addr => x.add k) A) (n - k) (c - k)) (n - k) (cs.drop k) := by
  rcases h.out with ⟨e, rfl, rfl⟩ | ⟨a, c', e, hc⟩
  · injection e with e1 e2 e3
    subst e1 e3
    exact ⟨.inl ⟨by simp, by simp, by simp⟩⟩
  · injection e with e1 _ e3
    subst e1 e3
    refine ⟨.inr ⟨_, _, rfl, fun j u hj => ?_⟩⟩
    rw [List.getElem?_drop] at hj
    obtain ⟨b, off, rfl, e2, e3⟩ := hc _ u hj
    exact ⟨b, off + k, Addr.add_mid _ _ _, e2, by rw [Nat.add_assoc]; exact e3⟩
/-- a part of a slice of numbers is answered; the world is as it was -/
def PartPost (w : World) (A : Option Addr) (c : Nat) (l0 l : List Int) (e : Ending) (w' : World) : Prop := ∃ A' c', e = .returned (.slice A' l.length c') ∧ (∀ W B, Sl W B (.slice A l0.length c) l0.length (ic l0) → Sl W B (.slice A' l.length c') l.length (ic l)) ∧ w' = w
theorem ints_take {w : World} {B c : Nat} {A : Option Addr} {l : List Int} (h : Sl w B (.slice A l.length c) l.length (ic l)) (k : Nat) : Sl w B (.slice A (l.take k).length c) (l.take k).length (ic (l.take k)) := by
  by_cases hk : k ≤ l.length
  · have := sl_take h k hk
    rw [List.length_take, Nat.min_eq_left hk, show ic (l.take k) = (ic l).take k by simp [ic]]
    exact this
  · rw [List.take_of_length_le (by omega)]; exact h
theorem outs_take (m : Mon) (l : List Int) (k : Nat) (hk : k < l.length) : (trues ((l.take (k + 1)).map (outB m)) : Int) = (trues ((l.take k).map (outB m)) : Int) + if outB m l[k] then 1 else 0 := by
  rw [List.take_succ_eq_append_getElem hk, List.map_append, trues_append]
  cases h : outB m l[k] <;> simp [trues, h]
theorem drop_map_last (f : Int → Bool) (xs : List Int) (j : Nat) : (xs.drop (xs.length - j)).map f = lastN (xs.map f) j := by
  unfold lastN
  rw [List.map_drop, List.length_map]
theorem outs_last {m0 n : Mon} (hl : Like m0 n) (xs : List Int) (j : Nat) : trues ((xs.drop (xs.length - j)).map (outB n)) = trues (lastN (xs.map (outB m0)) j) := by
  rw [drop_map_last]
  congr 2
  exact List.map_congr_left fun v _ => outB_like hl v
end Go.Proofs.Ytpdbdpmlppbnnaa.Mo
namespace Go.Proofs.Ytpdbdpmlppbnnaa.Mo
open Go.RowKit Go.Shelf

/-- a cut behind a piece of code at a block's end -/
theorem region_cut_end {P : Program} {c : Code} {Q : Exit → Act → World → Prop} {a : Act} {w : World} (R : Act → Act → World → Prop)
    (h : ∀ K' : Act → World → Prop, Bx (∀ a' w', R a a' w' → K' a' w') → Code.wp P c (Exit.then K' Q) a w) (hR : ∀ a' w', R a a' w' → Q .normal a' w') : Code.wp P c Q a w :=
  Code.wp_mono (fun e a' w' he => by cases e <;> first | exact hR _ _ he | exact he) (h (R a) ⟨fun _ _ h => h⟩)
/-- the slice v holds n elements, in the cells cs, in a block of which P holds -/
structure SlP (P : Nat → Prop) (w : World) (v : Value) (n : Nat) (cs : List Value) : Prop where
  out : (v = .slice none 0 0 ∧ n = 0 ∧ cs = []) ∨ ∃ a c, v = .slice (some a) n c ∧ ∀ j u, cs[j]? = some u → ∃ b off, a = ⟨b, off, none⟩ ∧ P b ∧ w.cell? ⟨b, off + j, none⟩ = some u
theorem SlP.sl {P : Nat → Prop} {w : World} {v : Value} {n : Nat} {cs : List Value} (h : SlP P w v n cs) : Sl w w.heap.size v n cs := by
  rcases h.out with h | ⟨a, c, e, h⟩
  · exact ⟨.inl h⟩
  · refine ⟨.inr ⟨a, c, e, fun j u hj => ?_⟩⟩
    obtain ⟨b, off, e1, _, e3⟩ := h j u hj
    exact ⟨b, off, e1, World.block_lt_of_cell? w _ e3, e3⟩
theorem SlP.from {P : Nat → Prop} {w w' : World} {v : Value} {n : Nat} {cs : List Value} (h : SlP P w v n cs) (hb : From w w') : SlP P w' v n cs := by
  rcases h.out with h | ⟨a, c, e, h⟩
  · exact ⟨.inl h⟩
  · refine ⟨.inr ⟨a, c, e, fun j u hj => ?_⟩⟩
    obtain ⟨b, off, e1, e2, e3⟩ := h j u hj
    exact ⟨b, off, e1, e2, hb.cell e3⟩
theorem SlP.imp {P Q : Nat → Prop} {w : World} {v : Value} {n : Nat} {cs : List Value} (h : SlP P w v n cs) (hi : ∀ b, b < w.heap.size → P b → Q b) : SlP Q w v n cs := by
  rcases h.out with h | ⟨a, c, e, h⟩
  · exact ⟨.inl h⟩
  · refine ⟨.inr ⟨a, c, e, fun j u hj => ?_⟩⟩
    obtain ⟨b, off, e1, e2, e3⟩ := h j u hj
    exact ⟨b, off, e1, hi b (World.block_lt_of_cell? w _ e3) e2, e3⟩
theorem SlP.setCell {P : Nat → Prop} {r : Nat} {w : World} {v : Value} {n : Nat} {cs : List Value} (h : SlP P w v n cs) (hr : ¬ P r) (i : Nat) (x : Value) : SlP P (w.setCell ⟨r, i, none⟩ x) v n cs := by
  rcases h.out with h | ⟨a, c, e, h⟩
  · exact ⟨.inl h⟩
  · refine ⟨.inr ⟨a, c, e, fun j u hj => ?_⟩⟩
    obtain ⟨b, off, e1, e2, e3⟩ := h j u hj
    exact ⟨b, off, e1, e2, cell_set_off e3 (by show b ≠ r; rintro rfl; exact hr e2)⟩
theorem SlP.set8 {P : Nat → Prop} {r : Nat} {w : World} {v : Value} {n : Nat} {cs : List Value} (h : SlP P w v n cs) (hr : ¬ P r) (m : Mon) (u : Value) : SlP P (Go.Proofs.Ytpdbdpmlppbnnaa.Mo.set8 w r m u) v n cs :=
  (((((((h.setCell hr _ _).setCell hr _ _).setCell hr _ _).setCell hr _ _).setCell hr _ _).setCell hr _ _).setCell hr _ _).setCell hr _ _
theorem SlN.slp {P : Nat → Prop} {l : Nat} {w : World} {v : Value} {n : Nat} {cs : List Value} (h : SlN l w v n cs) (hr : ∀ b, l ≤ b → P b) : SlP P w v n cs := by
  rcases h.out with h | ⟨a, c, e, h⟩
  · exact ⟨.inl h⟩
  · refine ⟨.inr ⟨a, c, e, fun j u hj => ?_⟩⟩
    obtain ⟨b, off, e1, e2, e3⟩ := h j u hj
    exact ⟨b, off, e1, hr b e2, e3⟩
theorem Sl.slp {P : Nat → Prop} {B : Nat} {w : World} {v : Value} {n : Nat} {cs : List Value} (h : Sl w B v n cs) (hr : ∀ b, b < B → P b) : SlP P w v n cs := by
  rcases h.out with h | ⟨a, c, e, h⟩
  · exact ⟨.inl h⟩
  · refine ⟨.inr ⟨a, c, e, fun j u hj => ?_⟩⟩
    obtain ⟨b, off, e1, e2, e3⟩ := h j u hj
    exact ⟨b, off, e1, hr b e2, e3⟩
/-- the monitor m in the box r, its past in blocks of which P holds; nothing of w has turned -/
structure RunX (w : World) (P : Nat → Prop) (r : Nat) (m : Mon) (wr : World) : Prop where
  from_ : From w wr
  low : w.heap.size ≤ r ∧ ¬ P r ∧ ∀ b, wr.heap.size ≤ b → P b
  mon : ∃ A c, MonC wr r m (.slice A m.past.length c) ∧ SlP P wr (.slice A m.past.length c) m.past.length (bc m.past)
theorem RunX.step {w wr w4 : World} {P : Nat → Prop} {r : Nat} {m n : Mon} {A3 : Option Addr} {c3 : Nat} (h : RunX w P r m wr) (k4 : From wr w4) (hS : SlN wr.heap.size w4 (.slice A3 n.past.length c3) n.past.length (bc n.past)) :
    RunX w P r n (set8 w4 r n (.slice A3 n.past.length c3)) := by
  obtain ⟨A, c, hM, _⟩ := h.mon
  obtain ⟨l1, l2, l3⟩ := h.low
  have hs := Below.size k4
  exact ⟨From.set8 (h.from_.trans k4) l1 _ _, ⟨l1, l2, fun b hb => l3 b (by rw [size_set8] at hb; omega)⟩, A3, c3, MonC.set8 (hM.from k4), (hS.slp l3).set8 l2 _ _⟩
theorem RunX.call {w wr w4 : World} {P : Nat → Prop} {r : Nat} {m : Mon} (h : RunX w P r m wr) (k4 : From wr w4) : RunX w P r m w4 := by
  obtain ⟨A, c, hM, hS⟩ := h.mon
  obtain ⟨l1, l2, l3⟩ := h.low
  exact ⟨h.from_.trans k4, ⟨l1, l2, fun b hb => l3 b (Nat.le_trans (Below.size k4) hb)⟩, A, c, hM.from k4, hS.from k4⟩
/-- another box turns -/
theorem RunX.other {w wr : World} {P : Nat → Prop} {r r' : Nat} {m : Mon} (h : RunX w P r m wr) (h1 : w.heap.size ≤ r') (h2 : ¬ P r') (hne : r' ≠ r) (n : Mon) (u : Value) : RunX w P r m (set8 wr r' n u) := by
  obtain ⟨A, c, hM, hS⟩ := h.mon
  obtain ⟨l1, l2, l3⟩ := h.low
  exact ⟨From.set8 h.from_ h1 _ _, ⟨l1, l2, fun b hb => l3 b (by rwa [size_set8] at hb)⟩, A, c, hM.off8 hne, hS.set8 h2 _ _⟩
/-- a past that fits -/
def Small (m : Mon) : Prop := (m.past.length : Int) ≤ m.of ∧ m.of ≤ 16
theorem small_step {m : Mon} (h : Small m) (v : Int) : Small (stepM m v) := by
  obtain ⟨h1, h2⟩ := h
  refine ⟨?_, h2⟩
  show ((pushP m.past m.of (outB m v)).length : Int) ≤ m.of
  unfold pushP
  split
  · simp; exact h1
  · simp; omega
theorem small_run {m : Mon} (h : Small m) (l : List Int) : Small (runM m l) := by
  induction l generalizing m with
  | nil => exact h
  | cons a t ih => exact ih (small_step h a)
/-- a monitor is answered, its past readable -/
def SeePost (w : World) (Q : Nat → Prop) (m : Mon) (e : Ending) (w' : World) : Prop := ∃ A c, e = .returned (.agg (mcs m (.slice A m.past.length c))) ∧ SlP Q w' (.slice A m.past.length c) m.past.length (bc m.past) ∧ From w w'
end Go.Proofs.Ytpdbdpmlppbnnaa.Mo
namespace Go.Proofs.Ytpdbdpmlppbnnaa.Mo
open Go.RowKit Go.Shelf

set_option maxHeartbeats 4000000 in
set_option maxRecDepth 100000 in
theorem same29_calls (m : Mon) (A B : Option Addr) (c d : Nat) (w : World) (hA : Bools w (.slice A m.past.length c) m.past) (hB : Bools w (.slice B m.past.length d) m.past) (hm : m.past.length ≤ 1000) :
    Calls Try.prog 75 #[.agg (mcs m (.slice A m.past.length c)), .agg (mcs m (.slice B m.past.length d))] w fun e w' => e = .returned (.bool true) ∧ From w w' := by
  obtain ⟨W1, hW1⟩ : ∃ V, w.alloc (.cells (mcs m (.slice A m.past.length c)) 114) = V := ⟨_, rfl⟩
  obtain ⟨W2, hW2⟩ : ∃ V, W1.alloc (.cells (mcs m (.slice B m.past.length d)) 114) = V := ⟨_, rfl⟩
  have k1 : From w W1 := by rw [← hW1]; exact From.alloc (From.refl _) _
  have k2 : From W1 W2 := by rw [← hW2]; exact From.alloc (From.refl _) _
  have s1 : W1.heap.size = w.heap.size + 1 := by rw [← hW1]; simp
  have M1 : MonC W2 w.heap.size m (.slice A m.past.length c) := MonC.from (by rw [← hW1]; exact MonC.new w m _) k2
  have M2 : MonC W2 (w.heap.size + 1) m (.slice B m.past.length d) := by rw [← hW2, ← s1]; exact MonC.new W1 _ _
  have HA := bx (hA.from (k1.trans k2))
  have HB := bx (hB.from (k1.trans k2))
  have HM1 := bx M1
  have HM2 := bx M2
  obtain ⟨a0, a1, a2, a3, a4, a5, a6, a7⟩ := M1.facts
  obtain ⟨b0, b1, b2, b3, b4, b5, b6, b7⟩ := M2.facts
  clear M1 M2 hA hB
  obtain ⟨mp, ml, mh, mn, mo, me, mps, mr⟩ := m
  simp only at a0 a1 a2 a3 a4 a5 a6 a7 b0 b1 b2 b3 b4 b5 b6 b7 HA HB hm
  go_enter Try.func75, Try.ntmps75
  go_wp2_with fail
  clear hW1 hW2
  clear a0 a1 a2 a3 a4 a5 a6 a7 b0 b1 b2 b3 b4 b5 b6 b7
  go_loopw [5] (fun i wr => ∃ k : Nat, k ≤ mps.length ∧ i = .int .i64 k ∧ From W2 wr) (fun i _ => mps.length - (intOf i).toNat)
  case atStart => exact ⟨0, Nat.zero_le _, rfl, From.refl _⟩
  case round =>
    obtain ⟨k, hk, rfl, hfr⟩ := hrel
    obtain ⟨_, _, _, _, _, _, a6, _⟩ := (HM1.out.from hfr).facts
    obtain ⟨_, _, _, _, _, _, b6, _⟩ := (HM2.out.from hfr).facts
    by_cases hlt : k < mps.length
    · obtain ⟨ba, oa, rfl, _, v1⟩ := bools_at (HA.out.from hfr) hlt
      obtain ⟨bb, ob, rfl, _, v2⟩ := bools_at (HB.out.from hfr) hlt
      have z1 : (k : Int) < (mps.length : Int) := by omega
      have z2 : (0 : Int) ≤ (k : Int) := by omega
      generalize mps[k] = y at *
      have e1 : (y != y) = false := by simp
      go_wp2_with fail
      go_quiet (fail)
      go_wp2
      go_roundw
      case rel => exact ⟨k + 1, by omega, by go_num, From.drewN hfr nq⟩
      case measure => simp [intOf]; omega
    · obtain rfl : k = mps.length := by omega
      go_wp2
      go_ret
      exact ⟨rfl, (k1.trans k2).trans hfr⟩
end Go.Proofs.Ytpdbdpmlppbnnaa.Mo
namespace Go.Proofs.Ytpdbdpmlppbnnaa.Mo
open Go.RowKit Go.Shelf

theorem trues_takeS (bs : List Bool) (k : Nat) (hk : k < bs.length) : trues (bs.take (k + 1)) = trues (bs.take k) + if bs[k] then 1 else 0 := by
  rw [List.take_add_one, List.getElem?_eq_getElem hk]
  cases hb : bs[k] <;> simp [trues, List.count_append]
end Go.Proofs.Ytpdbdpmlppbnnaa.Mo
namespace Go.Proofs.Ytpdbdpmlppbnnaa.Mo
open Go.RowKit Go.Shelf

end Go.Proofs.Ytpdbdpmlppbnnaa.Mo
namespace Go.Proofs.Ytpdbdpmlppbnnaa.Mo
open Go.RowKit Go.Shelf

theorem Try.elMon : ElT Try.prog 71 114 (.agg #[.int .i64 0, .int .i64 0, .int .i64 0, .int .i64 0, .int .i64 0, .int .i64 0, .slice none 0 0, .bool false]) 8 80 := ⟨Try.underlying71, info_parts (by kernel_rfl), rfl, by decide⟩
/-- rows of numbers in memory -/
structure Rows (w : World) (v : Value) (ls : List (List Int)) : Prop where
  out : ∃ cs : List Value, Sl w w.heap.size v ls.length cs ∧ ∀ k (hk : k < ls.length), ∃ A c, cs[k]? = some (.slice A ls[k].length c) ∧ Ints w (.slice A ls[k].length c) ls[k] ∧ ls[k].length ≤ 9223372036854775807 ∧ ∀ x ∈ ls[k], -9223372036854775808 ≤ x ∧ x ≤ 9223372036854775807
theorem Rows.from {w w' : World} {v : Value} {ls : List (List Int)} (h : Rows w v ls) (hb : From w w') : Rows w' v ls := by
  obtain ⟨cs, h1, h2⟩ := h.out
  refine ⟨cs, h1.from hb, fun k hk => ?_⟩
  obtain ⟨A, c, e1, e2, e3⟩ := h2 k hk
  exact ⟨A, c, e1, e2.from hb, e3⟩
theorem Rows.at_ {w : World} {n c : Nat} {A : Option Addr} {ls : List (List Int)} (h : Rows w (.slice A n c) ls) {k : Nat} (hk : k < ls.length) :
    ∃ b off A' c', A = some ⟨b, off, none⟩ ∧ b < w.heap.size ∧ w.cell? ⟨b, off + k, none⟩ = some (.slice A' ls[k].length c') ∧ Ints w (.slice A' ls[k].length c') ls[k] ∧ ls[k].length ≤ 9223372036854775807 ∧ ∀ x ∈ ls[k], -9223372036854775808 ≤ x ∧ x ≤ 9223372036854775807 := by
  obtain ⟨cs, h1, h2⟩ := h.out
  obtain ⟨A', c', e1, e2, e3, e4⟩ := h2 k hk
  obtain ⟨b, off, f1, f2, f3⟩ := h1.at_ e1
  exact ⟨b, off, A', c', f1, f2, f3, e2, e3, e4⟩
def makesM (rows : List (List Int)) : List Mon := (rows.take 8).map makeM
/-- monitors are answered -/
def MonsPost (w : World) (ms : List Mon) (e : Ending) (w' : World) : Prop := ∃ A c, e = .returned (.slice A ms.length c) ∧ Mons w' (.slice A ms.length c) ms ∧ From w w' ∧ ms.length ≤ c ∧ (A = none → c = 0)
theorem own_room {w : World} {base size n m c : Nat} {e : TypeId} {A : Option Addr} {xs : List Value} (h : w.ownsRow base e size (.slice A m c) n xs) (hm : m = n) : m ≤ c ∧ (A = none → c = 0) := by
  rcases h.2 with ⟨e1, rfl⟩ | ⟨g, cap, cur, e1, hg, hh, hnc, _⟩
  · injection e1 with e1 e2 e3
    subst e1 e2 e3
    exact ⟨Nat.le_refl _, fun _ => rfl⟩
  · injection e1 with e1 e2 e3
    subst e1 e2 e3
    exact ⟨hnc, fun h => by cases h⟩
/-- monitors that saw nothing -/
def fresh (ms : List Mon) : List MV := ms.map fun m => (m, .slice none 0 0)
theorem fresh_len (ms : List Mon) : (fresh ms).length = ms.length := by simp [fresh]
theorem fresh_fst (ms : List Mon) : (fresh ms).map (·.1) = ms := by
  induction ms with
  | nil => rfl
  | cons a t ih => simp only [fresh, List.map_cons] at *; rw [ih]
theorem mons_own {w : World} {base n : Nat} {v : Value} {ps : List MV} {ms : List Mon} (h : w.ownsRow base 114 8 v n (mlc ps)) (hn : n = ms.length) (hp : ps.map (·.1) = ms) (hb : ∀ a ∈ ps, Bools w a.2 a.1.past) : Mons w v ms :=
  ⟨ps, hp, by rw [← hn]; exact sl_of_own h, hb⟩
set_option maxRecDepth 100000 in
set_option maxHeartbeats 1000000 in
theorem makes_calls (A : Option Addr) (c : Nat) (rows : List (List Int)) (w : World) (h : Rows w (.slice A rows.length c) rows) (hm : rows.length ≤ 9223372036854775807) (ms : List Mon) (hms : makesM rows = ms) :
    Calls Try.prog 43 #[.slice A rows.length c] w (MonsPost w ms) := by
  have H := bx h
  have HMS := bx hms
  clear h hms
  go_enter Try.func43, Try.ntmps43
  go_wp2_with fail
  go_loopw [3, 4] (fun v i wr => ∃ k : Nat, k ≤ rows.length ∧ k ≤ 8 ∧ i = .int .i64 k ∧ wr.ownsRow w.heap.size 114 8 v k (mlc (fresh ((rows.take k).map makeM))) ∧ From w wr) (fun _ i _ => 8 - (intOf i).toNat)
  case atStart => exact ⟨0, Nat.zero_le _, by omega, rfl, own_nil _ _ _ _, From.refl _⟩
  case round =>
    obtain ⟨k, hk, hk8, rfl, hown, hbw⟩ := hrel
    have HO := bx hown
    by_cases hlt : k < rows.length
    · have z3 : decide ((k : Int) < (rows.length : Int)) = true := decide_eq_true (by omega)
      by_cases hl8 : k < 8
      · have z4 : decide ((k : Int) < 8) = true := decide_eq_true (by omega)
        obtain ⟨b, off, A', c', rfl, hb, hcell, hI, hl, hx⟩ := (H.out.from hbw).at_ hlt
        obtain ⟨m, hmm⟩ : ∃ m, makeM rows[k] = m := ⟨_, rfl⟩
        have hS : fresh ((rows.take (k + 1)).map makeM) = fresh ((rows.take k).map makeM) ++ [(m, .slice none 0 0)] := by
          rw [List.take_succ_eq_append_getElem hlt, List.map_append, List.map_cons, List.map_nil, hmm]
          simp [fresh]
        have HS := bx hS
        have HMK := bx (makeM_calls A' c' rows[k] wr hI hx m hmm)
        have HB := bx hbw
        clear hS hmm hI hx hown
        generalize rows[k] = row at *
        obtain ⟨mp, ml, mh, mn, mo, me, mps, mr⟩ := m
        go_wp2_with fail
        refine HMK.out.mono ?_
        rintro e w2 ⟨rfl, k2⟩
        have ho2 := own_call HO.out k2
        have HO2 := bx ho2
        clear ho2
        have hb2 := HB.out.trans k2
        have hs2 := Below.size hb2
        go_wp2_with (at_builtin; refine app_sl rfl _ _ 71 rfl Try.elMon rfl (HO2.out.alloc _) 1 (mcs ⟨mp, ml, mh, mn, mo, me, mps, mr⟩ (.slice none 0 0)).toList rfl (sl_new w2 (mcs ⟨mp, ml, mh, mn, mo, me, mps, mr⟩ (.slice none 0 0)).toList 114 1 1) rfl (by simp [Value.oneCell']) (by omega) (by unfold maxLen; omega) (by simp; omega) ?_; intro A3 c3 w3 o3 g3 _)
        have k3 : From w w3 := From.app (hb2.alloc _) (HO2.out.alloc _) (Nat.le_refl _) g3
        have ho3 : w3.ownsRow w.heap.size 114 8 (.slice A3 (k + 1) c3) (k + 1) (mlc (fresh ((rows.take (k + 1)).map makeM))) := by
          rw [HS.out, mlc_append]; simpa [mlc] using o3
        have HO3 := bx ho3
        clear o3 g3 ho3
        go_wp2
        go_roundw
        case rel => exact ⟨k + 1, by omega, by omega, by go_num, HO3.out, k3⟩
        case measure => simp [intOf]; omega
      · have z4 : decide ((k : Int) < 8) = false := decide_eq_false (by omega)
        obtain rfl : k = 8 := by omega
        clear hown
        obtain ⟨A3, c3, rfl⟩ := slice_form HO.out
        have hml : ms.length = 8 := by rw [← HMS.out, makesM, List.length_map, List.length_take]; omega
        have HML := bx hml
        clear hml
        go_wp2
        go_ret
        refine ⟨A3, c3, by rw [HML.out]; rfl, ?_, hbw, by rw [HML.out]; exact own_room HO.out rfl⟩
        rw [HML.out]
        exact mons_own HO.out HML.out.symm (by rw [fresh_fst, ← HMS.out]; rfl) (by intro a ha; simp only [fresh, List.map_map, List.mem_map] at ha; obtain ⟨x, _, rfl⟩ := ha; exact Sl.nil _ _)
    · have z3 : decide ((k : Int) < (rows.length : Int)) = false := decide_eq_false (by omega)
      obtain rfl : k = rows.length := by omega
      clear hown
      obtain ⟨A3, c3, rfl⟩ := slice_form HO.out
      have hml : ms.length = rows.length := by rw [← HMS.out, makesM, List.length_map, List.length_take]; omega
      have HML := bx hml
      clear hml
      go_wp2
      go_ret
      refine ⟨A3, c3, by rw [HML.out]; rfl, ?_, hbw, by rw [HML.out]; exact own_room HO.out rfl⟩
      rw [HML.out]
      exact mons_own HO.out HML.out.symm (by rw [fresh_fst, ← HMS.out, makesM, List.take_of_length_le hk8, List.take_of_length_le (Nat.le_refl _)]) (by intro a ha; simp only [fresh, List.map_map, List.mem_map] at ha; obtain ⟨x, _, rfl⟩ := ha; exact Sl.nil _ _)
end Go.Proofs.Ytpdbdpmlppbnnaa.Mo
namespace Go.Proofs.Ytpdbdpmlppbnnaa.Mo
open Go.RowKit Go.Shelf

def nxM (vs : List Int) (m : Mon) : Mon := if m.par < (vs.length : Int) then stepM m (vs.getD m.par.toNat 0) else m
def uxM (vs : List Int) (m : Mon) : Bool := decide (m.par < (vs.length : Int)) && upM m (vs.getD m.par.toNat 0)
def dxM (vs : List Int) (m : Mon) : Bool := decide (m.par < (vs.length : Int)) && dnM m (vs.getD m.par.toNat 0)
def allM (vs : List Int) (ms : List Mon) : List Mon := ms.map (nxM vs)
def evs (f : Mon → Bool) (ms : List Mon) : List Int := (ms.filter f).map (·.ev)
theorem evs_succ (f : Mon → Bool) (l : List Mon) (k : Nat) (hk : k < l.length) : evs f (l.take (k + 1)) = if f l[k] then evs f (l.take k) ++ [l[k].ev] else evs f (l.take k) := by
  rw [List.take_succ_eq_append_getElem hk, evs, List.filter_append]
  cases h : f l[k] <;> simp [h, evs]
theorem evs_len (f : Mon → Bool) (l : List Mon) : (evs f l).length ≤ l.length := by
  have := List.length_filter_le f l
  simpa [evs] using this
theorem evs_append (f : Mon → Bool) (l k : List Mon) : evs f (l ++ k) = evs f l ++ evs f k := by simp [evs]
theorem allM_append (vs : List Int) (l k : List Mon) : allM vs (l ++ k) = allM vs l ++ allM vs k := by simp [allM]
theorem allM_succ (vs : List Int) (l : List Mon) (k : Nat) (hk : k < l.length) : allM vs (l.take (k + 1)) = allM vs (l.take k) ++ [nxM vs l[k]] := by
  rw [List.take_succ_eq_append_getElem hk, allM_append]
  rfl

set_option maxRecDepth 100000 in
theorem SlP.grown {P Q : Nat → Prop} {w w' : World} {row : Option Nat} {v : Value} {n : Nat} {cs : List Value} (h : SlP P w v n cs) (g : w.grownBy w' row) (hP : ∀ b, P b → row ≠ some b) (hQ : ∀ b, b < w.heap.size → P b → Q b) : SlP Q w' v n cs := by
  rcases h.out with h | ⟨a, c, e, h⟩
  · exact ⟨.inl h⟩
  · refine ⟨.inr ⟨a, c, e, fun j u hj => ?_⟩⟩
    obtain ⟨b, off, e1, e2, e3⟩ := h j u hj
    have hlt := World.block_lt_of_cell? w _ e3
    refine ⟨b, off, e1, hQ b hlt e2, ?_⟩
    have := g.block b hlt (hP b e2).symm
    simp only [World.cell?, this] at e3 ⊢
    exact e3
theorem MonC.grown {w w' : World} {row : Option Nat} {b : Nat} {m : Mon} {u : Value} (h : MonC w b m u) (g : w.grownBy w' row) (hr : row ≠ some b) : MonC w' b m u := ⟨(g.block b h.lt hr.symm).trans h.out⟩
/-- blocks that are none of three rows' own -/
def Apart (v1 v2 v3 : Value) (b : Nat) : Prop := v1.ownBlock ≠ some b ∧ v2.ownBlock ≠ some b ∧ v3.ownBlock ≠ some b
structure AllAt (w wr : World) (v1 v2 v3 : Value) (ps : List MV) (us ds : List Int) : Prop where
  from_ : From w wr
  o1 : wr.ownsRow w.heap.size 114 8 v1 ps.length (mlc ps)
  o2 : wr.ownsRow w.heap.size 3 1 v2 us.length (ic us)
  o3 : wr.ownsRow w.heap.size 3 1 v3 ds.length (ic ds)
  d12 : ∀ r, v1.ownBlock = some r → v2.ownBlock ≠ some r
  d13 : ∀ r, v1.ownBlock = some r → v3.ownBlock ≠ some r
  d23 : ∀ r, v2.ownBlock = some r → v3.ownBlock ≠ some r
  pst : ∀ a ∈ ps, SlP (Apart v1 v2 v3) wr a.2 a.1.past.length (bc a.1.past)
theorem AllAt.start (w : World) : AllAt w w (.slice none 0 0) (.slice none 0 0) (.slice none 0 0) [] [] [] :=
  ⟨From.refl _, own_nil _ _ _ _, own_nil _ _ _ _, own_nil _ _ _ _, fun r h => by simp [Value.ownBlock] at h, fun r h => by simp [Value.ownBlock] at h, fun r h => by simp [Value.ownBlock] at h, fun a ha => by cases ha⟩
theorem AllAt.call {w wr w' : World} {v1 v2 v3 : Value} {ps : List MV} {us ds : List Int} (h : AllAt w wr v1 v2 v3 ps us ds) (k : From wr w') : AllAt w w' v1 v2 v3 ps us ds :=
  ⟨h.from_.trans k, own_call h.o1 k, own_call h.o2 k, own_call h.o3 k, h.d12, h.d13, h.d23, fun a ha => (h.pst a ha).from k⟩
theorem own_kept {w w' : World} {base size n : Nat} {e : TypeId} {v : Value} {xs : List Value} {row : Option Nat} (h : w.ownsRow base e size v n xs) (g : w.grownBy w' row) (hd : ∀ r, row = some r → v.ownBlock ≠ some r) : w'.ownsRow base e size v n xs := by
  refine h.kept g ?_
  cases hv : v.ownBlock with
  | none => exact .inl rfl
  | some q =>
    refine .inr fun e => ?_
    exact hd q e.symm hv
/-- how a row's own block turns -/
def Grows (w : World) (v v' : Value) : Prop := ∀ r, v'.ownBlock = some r → v.ownBlock = some r ∨ w.heap.size ≤ r
set_option maxRecDepth 100000 in
theorem AllAt.app1 {w wr w' : World} {v1 v2 v3 v' : Value} {ps : List MV} {us ds : List Int} (h : AllAt w wr v1 v2 v3 ps us ds) (a : MV) (o : w'.ownsRow w.heap.size 114 8 v' (ps.length + 1) (mlc (ps ++ [a])))
    (g : wr.grownBy w' v1.ownBlock) (hg : Grows wr v1 v') (hp : SlP (Apart v1 v2 v3) wr a.2 a.1.past.length (bc a.1.past)) : AllAt w w' v' v2 v3 (ps ++ [a]) us ds := by
  have hP : ∀ b, Apart v1 v2 v3 b → v1.ownBlock ≠ some b := fun b hb => hb.1
  have hQ : ∀ b, b < wr.heap.size → Apart v1 v2 v3 b → Apart v' v2 v3 b := fun b hlt hb => ⟨fun e => by rcases hg b e with e' | e'; exact hb.1 e'; omega, hb.2⟩
  refine ⟨From.app h.from_ h.o1 (Nat.le_refl _) g, by rw [List.length_append]; exact o, own_kept h.o2 g h.d12, own_kept h.o3 g h.d13, fun r hr => ?_, fun r hr => ?_, h.d23, fun x hx => ?_⟩
  · rcases hg r hr with e | e
    · exact h.d12 r e
    · intro e2
      have := (h.o2.lt r e2).2; omega
  · rcases hg r hr with e | e
    · exact h.d13 r e
    · intro e2
      have := (h.o3.lt r e2).2; omega
  · rcases List.mem_append.1 hx with hx | hx
    · exact (h.pst x hx).grown g hP hQ
    · obtain rfl := List.mem_singleton.1 hx
      exact hp.grown g hP hQ
set_option maxRecDepth 100000 in
theorem AllAt.app2 {w wr w' : World} {v1 v2 v3 v' : Value} {ps : List MV} {us us' ds : List Int} (h : AllAt w wr v1 v2 v3 ps us ds) (o : w'.ownsRow w.heap.size 3 1 v' us'.length (ic us'))
    (g : wr.grownBy w' v2.ownBlock) (hg : Grows wr v2 v') : AllAt w w' v1 v' v3 ps us' ds := by
  have hP : ∀ b, Apart v1 v2 v3 b → v2.ownBlock ≠ some b := fun b hb => hb.2.1
  have hQ : ∀ b, b < wr.heap.size → Apart v1 v2 v3 b → Apart v1 v' v3 b := fun b hlt hb => ⟨hb.1, fun e => by rcases hg b e with e' | e'; exact hb.2.1 e'; omega, hb.2.2⟩
  refine ⟨From.app h.from_ h.o2 (Nat.le_refl _) g, own_kept h.o1 g (fun r hr e => h.d12 r e hr), o, own_kept h.o3 g h.d23, fun r hr e => ?_, h.d13, fun r hr => ?_, fun x hx => (h.pst x hx).grown g hP hQ⟩
  · rcases hg r e with e | e
    · exact h.d12 r hr e
    · have := (h.o1.lt r hr).2; omega
  · rcases hg r hr with e | e
    · exact h.d23 r e
    · intro e2
      have := (h.o3.lt r e2).2; omega
set_option maxRecDepth 100000 in
theorem AllAt.app3 {w wr w' : World} {v1 v2 v3 v' : Value} {ps : List MV} {us ds ds' : List Int} (h : AllAt w wr v1 v2 v3 ps us ds) (o : w'.ownsRow w.heap.size 3 1 v' ds'.length (ic ds'))
    (g : wr.grownBy w' v3.ownBlock) (hg : Grows wr v3 v') : AllAt w w' v1 v2 v' ps us ds' := by
  have hP : ∀ b, Apart v1 v2 v3 b → v3.ownBlock ≠ some b := fun b hb => hb.2.2
  have hQ : ∀ b, b < wr.heap.size → Apart v1 v2 v3 b → Apart v1 v2 v' b := fun b hlt hb => ⟨hb.1, hb.2.1, fun e => by rcases hg b e with e' | e'; exact hb.2.2 e'; omega⟩
  refine ⟨From.app h.from_ h.o3 (Nat.le_refl _) g, own_kept h.o1 g (fun r hr e => h.d13 r e hr), own_kept h.o2 g (fun r hr e => h.d23 r e hr), o, h.d12, fun r hr e => ?_, fun r hr e => ?_, fun x hx => (h.pst x hx).grown g hP hQ⟩
  · rcases hg r e with e | e
    · exact h.d13 r hr e
    · have := (h.o1.lt r hr).2; omega
  · rcases hg r e with e | e
    · exact h.d23 r hr e
    · have := (h.o2.lt r hr).2; omega
/-- the same, with a box -/
structure AllBx (w wr : World) (v1 v2 v3 : Value) (ps : List MV) (us ds : List Int) (b : Nat) (m : Mon) (u : Value) : Prop where
  at_ : AllAt w wr v1 v2 v3 ps us ds
  mon : MonC wr b m u
  apart : Apart v1 v2 v3 b
theorem AllBx.call {w wr w' : World} {v1 v2 v3 : Value} {ps : List MV} {us ds : List Int} {b : Nat} {m : Mon} {u : Value} (h : AllBx w wr v1 v2 v3 ps us ds b m u) (k : From wr w') : AllBx w w' v1 v2 v3 ps us ds b m u := ⟨h.at_.call k, h.mon.from k, h.apart⟩
theorem AllBx.ev {w wr : World} {v1 v2 v3 : Value} {ps : List MV} {us ds : List Int} {b : Nat} {m : Mon} {u : Value} (h : AllBx w wr v1 v2 v3 ps us ds b m u) : wr.cell? ⟨b, 5, none⟩ = some (.int .i64 m.ev) := h.mon.facts.2.2.2.2.2.1
theorem AllBx.app1 {w wr w' : World} {v1 v2 v3 v' : Value} {ps : List MV} {us ds : List Int} {b : Nat} {m : Mon} {u : Value} (h : AllBx w wr v1 v2 v3 ps us ds b m u) (a : MV) (o : w'.ownsRow w.heap.size 114 8 v' (ps.length + 1) (mlc (ps ++ [a])))
    (g : wr.grownBy w' v1.ownBlock) (hg : Grows wr v1 v') (hp : SlP (Apart v1 v2 v3) wr a.2 a.1.past.length (bc a.1.past)) : AllBx w w' v' v2 v3 (ps ++ [a]) us ds b m u :=
  ⟨h.at_.app1 a o g hg hp, h.mon.grown g h.apart.1, ⟨fun e => by rcases hg b e with e' | e'; exact h.apart.1 e'; have := h.mon.lt; omega, h.apart.2⟩⟩
theorem AllBx.app2 {w wr w' : World} {v1 v2 v3 v' : Value} {ps : List MV} {us us' ds : List Int} {b : Nat} {m : Mon} {u : Value} (h : AllBx w wr v1 v2 v3 ps us ds b m u) (o : w'.ownsRow w.heap.size 3 1 v' us'.length (ic us'))
    (g : wr.grownBy w' v2.ownBlock) (hg : Grows wr v2 v') : AllBx w w' v1 v' v3 ps us' ds b m u :=
  ⟨h.at_.app2 o g hg, h.mon.grown g h.apart.2.1, ⟨h.apart.1, fun e => by rcases hg b e with e' | e'; exact h.apart.2.1 e'; have := h.mon.lt; omega, h.apart.2.2⟩⟩
theorem AllBx.app3 {w wr w' : World} {v1 v2 v3 v' : Value} {ps : List MV} {us ds ds' : List Int} {b : Nat} {m : Mon} {u : Value} (h : AllBx w wr v1 v2 v3 ps us ds b m u) (o : w'.ownsRow w.heap.size 3 1 v' ds'.length (ic ds'))
    (g : wr.grownBy w' v3.ownBlock) (hg : Grows wr v3 v') : AllBx w w' v1 v2 v' ps us ds' b m u :=
  ⟨h.at_.app3 o g hg, h.mon.grown g h.apart.2.2, ⟨h.apart.1, h.apart.2.1, fun e => by rcases hg b e with e' | e'; exact h.apart.2.2 e'; have := h.mon.lt; omega⟩⟩
theorem AllBx.put2 {w wr : World} {v1 v2 v3 : Value} {ps : List MV} {us ds : List Int} {b : Nat} {m : Mon} {u : Value} (h : AllBx w wr v1 v2 v3 ps us ds b m u) (up : Bool) (x : Int) (us' : List Int) (hu : us' = if up then us ++ [x] else us) (hm : us.length ≤ 1000) :
    Calls Try.prog 74 #[v2, .bool up, .int .i64 x] wr fun e w' => ∃ A c, e = .returned (.slice A us'.length c) ∧ AllBx w w' v1 (.slice A us'.length c) v3 ps us' ds b m u := by
  refine (put_calls w.heap.size v2 us up x wr h.at_.o2 (Below.size h.at_.from_) hm).mono ?_
  rintro e w' ⟨A, n, c, ys, rfl, hys, rfl, o, g, hg⟩
  rw [← hu] at hys
  subst hys
  exact ⟨A, c, rfl, h.app2 o g hg⟩
theorem AllBx.put3 {w wr : World} {v1 v2 v3 : Value} {ps : List MV} {us ds : List Int} {b : Nat} {m : Mon} {u : Value} (h : AllBx w wr v1 v2 v3 ps us ds b m u) (dn : Bool) (x : Int) (ds' : List Int) (hu : ds' = if dn then ds ++ [x] else ds) (hm : ds.length ≤ 1000) :
    Calls Try.prog 74 #[v3, .bool dn, .int .i64 x] wr fun e w' => ∃ A c, e = .returned (.slice A ds'.length c) ∧ AllBx w w' v1 v2 (.slice A ds'.length c) ps us ds' b m u := by
  refine (put_calls w.heap.size v3 ds dn x wr h.at_.o3 (Below.size h.at_.from_) hm).mono ?_
  rintro e w' ⟨A, n, c, ys, rfl, hys, rfl, o, g, hg⟩
  rw [← hu] at hys
  subst hys
  exact ⟨A, c, rfl, h.app3 o g hg⟩
/-- what All answers -/
def AllPost (w : World) (ms : List Mon) (us ds : List Int) (e : Ending) (w' : World) : Prop :=
  ∃ A1 c1 A2 c2 A3 c3, e = .returned (.tuple #[.slice A1 ms.length c1, .slice A2 us.length c2, .slice A3 ds.length c3]) ∧ Mons w' (.slice A1 ms.length c1) ms ∧ Ints w' (.slice A2 us.length c2) us ∧ Ints w' (.slice A3 ds.length c3) ds ∧ From w w'
theorem AllAt.mons {w wr : World} {v1 v2 v3 : Value} {ps : List MV} {us ds : List Int} (h : AllAt w wr v1 v2 v3 ps us ds) {ms : List Mon} (hp : ps.map (·.1) = ms) : Mons wr v1 ms := by
  have hl : ps.length = ms.length := by rw [← hp]; simp
  exact mons_own h.o1 hl hp fun a ha => (h.pst a ha).sl
end Go.Proofs.Ytpdbdpmlppbnnaa.Mo
namespace Go.Proofs.Ytpdbdpmlppbnnaa.Mo
open Go.RowKit Go.Shelf

set_option maxRecDepth 100000 in
set_option maxHeartbeats 8000000 in
theorem all_calls (A : Option Addr) (c : Nat) (ms : List Mon) (AV : Option Addr) (cV : Nat) (vs : List Int) (w : World) (h : Mons w (.slice A ms.length c) ms) (hv : Ints w (.slice AV vs.length cV) vs) (hm : ms.length ≤ 1000)
    (hp : ∀ m ∈ ms, 0 ≤ m.par ∧ m.past.length ≤ 900) (as_ : List Mon) (us ds : List Int) (ha : allM vs ms = as_) (hu : evs (uxM vs) ms = us) (hd : evs (dxM vs) ms = ds) :
    Calls Try.prog 45 #[.slice A ms.length c, .slice AV vs.length cV] w (AllPost w as_ us ds) := by
  have H := bx h
  have HV := bx hv
  have HP := bx hp
  have HA := bx ha
  have HU := bx hu
  have HD := bx hd
  clear h hv hp ha hu hd
  go_enter Try.func45, Try.ntmps45
  go_wp2_with fail
  go_loopw [7, 8, 9, 11, 12, 13, 16] (fun v1 v2 v3 _ _ _ i wr => ∃ (k : Nat) (ps : List MV), k ≤ ms.length ∧ i = .int .i64 k ∧ ps.map (·.1) = allM vs (ms.take k) ∧ AllAt w wr v1 v2 v3 ps (evs (uxM vs) (ms.take k)) (evs (dxM vs) (ms.take k))) (fun _ _ _ _ _ _ i _ => ms.length - (intOf i).toNat)
  case atStart => exact ⟨0, [], Nat.zero_le _, rfl, rfl, AllAt.start w⟩
  case round =>
    obtain ⟨k, ps, hk, rfl, hps, hat⟩ := hrel
    have HAT := bx hat
    have HPS := bx hps
    by_cases hlt : k < ms.length
    · have z3 : decide ((k : Int) < (ms.length : Int)) = true := decide_eq_true (by omega)
      have hpl : ps.length = k := by have := congrArg List.length hps; simpa [allM, Nat.min_eq_left hk] using this
      have hul : (evs (uxM vs) (ms.take k)).length ≤ 1000 := Nat.le_trans (evs_len _ _) (by rw [List.length_take]; omega)
      have hdl : (evs (dxM vs) (ms.take k)).length ≤ 1000 := Nat.le_trans (evs_len _ _) (by rw [List.length_take]; omega)
      have HSA := bx (allM_succ vs ms k hlt)
      have HSU := bx (evs_succ (uxM vs) ms k hlt)
      have HSD := bx (evs_succ (dxM vs) ms k hlt)
      obtain ⟨hp0, hp9⟩ := HP.out ms[k] (List.getElem_mem hlt)
      obtain ⟨b, off, AP, cP, rfl, hb, hBP, g0, g1, g2, g3, g4, g5, g6, g7⟩ := (H.out.from hat.from_).at_ hlt
      have HBP := bx hBP
      clear hBP hat hps
      generalize ms[k] = m at *
      obtain ⟨n, hn⟩ : ∃ n, nxM vs m = n := ⟨_, rfl⟩
      obtain ⟨up, hup⟩ : ∃ u, uxM vs m = u := ⟨_, rfl⟩
      obtain ⟨dn, hdn⟩ : ∃ u, dxM vs m = u := ⟨_, rfl⟩
      rw [hn] at HSA
      rw [hup] at HSU
      rw [hdn] at HSD
      have hev : n.ev = m.ev := by rw [← hn]; unfold nxM; split <;> rfl
      have hn9 : n.past.length ≤ 901 := by
        rw [← hn]; unfold nxM; split
        · show (pushP m.past m.of _).length ≤ 901
          unfold pushP; split <;> simp <;> omega
        · omega
      have HN := bx hn
      have HUP := bx hup
      have HDN := bx hdn
      have HEV := bx hev
      have HMM := bx (show mcs m (.slice AP m.past.length cP) = mcs m (.slice AP m.past.length cP) from rfl)
      obtain ⟨j, hj⟩ : ∃ j : Nat, m.par = (j : Int) := ⟨m.par.toNat, by omega⟩
      obtain ⟨Z1, hZ1⟩ : ∃ V, wr.alloc (.cells (mcs ⟨0, 0, 0, 0, 0, 0, [], false⟩ (.slice none 0 0)) 114) = V := ⟨_, rfl⟩
      have kz : From wr Z1 := by rw [← hZ1]; exact From.alloc (From.refl _) _
      have sz : Z1.heap.size = wr.heap.size + 1 := by rw [← hZ1]; simp
      have hZM : MonC Z1 wr.heap.size ⟨0, 0, 0, 0, 0, 0, [], false⟩ (.slice none 0 0) := by rw [← hZ1]; exact MonC.new wr _ _
      have HZM := bx hZM
      have hub := Below.size HAT.out.from_
      have t0 := hZM.soft 0
      have t1 := hZM.soft 1
      have t2 := hZM.soft 2
      have t3 := hZM.soft 3
      have t4 := hZM.soft 4
      have t5 := hZM.soft 5
      have t6 := hZM.soft 6
      have t7 := hZM.soft 7
      obtain ⟨e0, e1, e2, e3, e4, e5, e6, e7⟩ := hZM.facts
      simp only at e0 e1 e2 e3 e4 e5 e6 e7
      clear hZM hn hup hdn hev
      obtain ⟨mp, ml, mh, mn, mo, me, mps, mr⟩ := m
      simp only at g0 g1 g2 g3 g4 g5 g6 g7 hp0 hp9 HBP HEV

      obtain rfl := hj
      go_upto_region 6 with fail
      obtain ⟨W2, hW2⟩ : ∃ V, set8 Z1 wr.heap.size ⟨(j : Int), ml, mh, mn, mo, me, mps, mr⟩ (.slice AP mps.length cP) = V := ⟨_, rfl⟩
      have hW3 := hW2
      unfold set8 at hW3
      simp only at hW3
      rw [hW3]
      have k2 : From wr W2 := by rw [← hW2]; exact From.set8 kz (Nat.le_refl _) _ _
      have s2 : W2.heap.size = wr.heap.size + 1 := by rw [← hW2, size_set8]; exact sz
      have HMC := bx (show MonC W2 wr.heap.size ⟨(j : Int), ml, mh, mn, mo, me, mps, mr⟩ (.slice AP mps.length cP) by rw [← hW2]; exact MonC.set8 HZM.out)
      have HBP := bx (HBP.out.from k2)
      clear hW2 hW3 hZ1 kz sz HZM e0 e1 e2 e3 e4 e5 e6 e7 t0 t1 t2 t3 t4 t5 t6 t7 g0 g1 g2 g3 g4 g5 g6 g7 HMM
      obtain ⟨np, nl, nh, nn, no, ne, nps, nr⟩ := n
      obtain ⟨a0, a1, a2, a3, a4, a5, a6, a7⟩ := HMC.out.facts
      simp only at a0 a1 a2 a3 a4 a5 a6 a7

      go_upto_if 24 with fail
      go_cut [12, 13] from 20 to 39 (fun s12 s13 wx => s12 = .bool up ∧ s13 = .bool dn ∧ ∃ A3 c3, From wr wx ∧ MonC wx wr.heap.size ⟨np, nl, nh, nn, no, ne, nps, nr⟩ (.slice A3 nps.length c3) ∧ SlN (wr.heap.size + 1) wx (.slice A3 nps.length c3) nps.length (bc nps))
      case first =>
        have hnn := HN.out
        have huu := HUP.out
        have hdd := HDN.out
        simp only [nxM, uxM, dxM] at hnn huu hdd
        by_cases hj : (j : Int) < (vs.length : Int)
        · have z4 : (0 : Int) ≤ (j : Int) := by omega
          rw [if_pos hj] at hnn
          have hjl : j < vs.length := by omega
          simp only [hj, decide_true, Bool.true_and, Int.toNat_natCast] at hnn huu hdd
          obtain ⟨vb, vo, rfl, _, vcell⟩ := ints_at (HV.out.from (HAT.out.from_.trans k2)) hjl
          have hgv : vs.getD j 0 = vs[j]'hjl := by rw [List.getD_eq_getElem?_getD, List.getElem?_eq_getElem (by omega)]; rfl
          rw [hgv] at hnn huu hdd
          obtain ⟨v, hvv⟩ : ∃ v, vs[j]'hjl = v := ⟨_, rfl⟩
          rw [hvv] at hnn huu hdd vcell
          clear hvv
          have HST := bx (fun (W : World) (kk : From W2 W) => step_calls ⟨(j : Int), ml, mh, mn, mo, me, mps, mr⟩ AP cP v W (HBP.out.from kk) (by show mps.length ≤ 1000; omega) ⟨np, nl, nh, nn, no, ne, nps, nr⟩ hnn up dn huu hdd)
          clear hnn huu hdd hgv
          go_wp2_with fail
          refine region_cut (fun q0 a' w' => ∃ (x25 x26 x27 x28 x29 x30 x31 x32 x33 x34 x35 : Value) (A3 : Option Addr) (c3 : Nat) (w4 : World), a' = puts q0 [(25, x25), (26, x26), (27, x27), (28, x28), (29, x29), (30, x30), (31, x31), (32, x32), (33, x33), (34, x34), (35, x35), (12, .bool up), (13, .bool dn)] ∧ From W2 w4 ∧ SlN W2.heap.size w4 (.slice A3 nps.length c3) nps.length (bc nps) ∧ w' = set8 w4 wr.heap.size ⟨np, nl, nh, nn, no, ne, nps, nr⟩ (.slice A3 nps.length c3)) (fun K' HKK => ?_) ?_
          · go_region_with (go_at_call 72; refine (HST.out _ (by first | exact From.refl _ | exact From.drew (From.refl _))).mono ?_; rintro e w3 ⟨A3, c3, rfl, q3, k3⟩; have hkeep : From W2 w3 := (by first | exact k3 | exact From.trans (From.drew (From.refl _)) k3); have hMm := HMC.out.from hkeep; have t0 := hMm.soft 0; have t1 := hMm.soft 1; have t2 := hMm.soft 2; have t3 := hMm.soft 3; have t4 := hMm.soft 4; have t5 := hMm.soft 5; have t6 := hMm.soft 6; have t7 := hMm.soft 7; obtain ⟨e0, e1, e2, e3, e4, e5, e6, e7⟩ := hMm.facts)
            all_goals
              refine HKK.out _ _ ⟨_, _, _, _, _, _, _, _, _, _, _, A3, c3, w3, (by simp only [puts, Act.put, List.setIfInBounds_toArray, List.set_cons_zero, List.set_cons_succ]; rfl), hkeep, ?_, ?_⟩
              · exact q3.low (by simp)
              · with_reducible rfl
          rintro a' w' ⟨x25, x26, x27, x28, x29, x30, x31, x32, x33, x34, x35, A3, c3, w4, rfl, k4, hS4, rfl⟩
          simp only [puts, Act.put, List.setIfInBounds_toArray, List.set_cons_zero, List.set_cons_succ]

          go_wp2_with fail
          go_meet
          case rel => exact ⟨rfl, rfl, A3, c3, From.set8 (k2.trans k4) (Nat.le_refl _) ⟨np, nl, nh, nn, no, ne, nps, nr⟩ _, MonC.set8 (HMC.out.from k4), (hS4.low (by omega)).set8 (by omega) ⟨np, nl, nh, nn, no, ne, nps, nr⟩ _⟩
        · rw [if_neg hj] at hnn
          simp only [hj, decide_false, Bool.false_and] at hnn huu hdd
          simp only [Mon.mk.injEq] at hnn
          obtain ⟨rfl, rfl, rfl, rfl, rfl, rfl, rfl, rfl⟩ := hnn
          obtain rfl := huu
          obtain rfl := hdd
          go_wp2_with fail
          refine (cloneB_calls (.slice AP mps.length cP) mps W2 HBP.out (by omega)).mono ?_
          rintro e w3 ⟨A3, c3, rfl, o3, k3⟩
          have hM3 := HMC.out.from k3
          have HM3 := bx hM3
          have HO3 := bx o3
          clear o3
          have t0 := hM3.soft 0
          have t1 := hM3.soft 1
          have t2 := hM3.soft 2
          have t3 := hM3.soft 3
          have t4 := hM3.soft 4
          have t5 := hM3.soft 5
          have t6 := hM3.soft 6
          have t7 := hM3.soft 7
          obtain ⟨e0, e1, e2, e3, e4, e5, e6, e7⟩ := hM3.facts
          simp only at e0 e1 e2 e3 e4 e5 e6 e7
          clear hM3
          go_wp2_with fail
          go_meet
          case rel => exact ⟨rfl, rfl, A3, c3, (k2.trans k3).setCell (Nat.le_refl _) _ _, HM3.out.past (.slice A3 mps.length c3) mps, ((sln_of_own HO3.out).setCell (by omega) _ _).low (by omega)⟩
      case rest =>
        clear a0 a1 a2 a3 a4 a5 a6 a7
        obtain ⟨rfl, rfl, A3, c3, k4, hM4, hS4⟩ := hcut
        have HB0 := HAT.out.call k4
        have hap : Apart u7 u8 u9 wr.heap.size := ⟨fun e => by have := (HAT.out.o1.lt _ e).2; omega, fun e => by have := (HAT.out.o2.lt _ e).2; omega, fun e => by have := (HAT.out.o3.lt _ e).2; omega⟩
        have HB1 := bx (show AllBx w wc u7 u8 u9 ps _ _ wr.heap.size _ _ from ⟨HB0, hM4, hap⟩)
        have HPA := bx (show SlP (Apart u7 u8 u9) wc (.slice A3 nps.length c3) nps.length (bc nps) from hS4.slp fun b hb => ⟨fun e => by have := (HAT.out.o1.lt _ e).2; omega, fun e => by have := (HAT.out.o2.lt _ e).2; omega, fun e => by have := (HAT.out.o3.lt _ e).2; omega⟩)
        obtain ⟨e0, e1, e2, e3, e4, e5, e6, e7⟩ := hM4.facts
        simp only at e0 e1 e2 e3 e4 e5 e6 e7
        clear hM4 hS4 HB0 hap
        have hw0 := Below.size HB1.out.at_.from_
        go_wp2_with (at_builtin; refine app_sl rfl _ _ 71 rfl Try.elMon rfl (HB1.out.at_.o1.alloc _) 1 (mcs ⟨np, nl, nh, nn, no, ne, nps, nr⟩ (.slice A3 nps.length c3)).toList rfl (sl_new wc (mcs ⟨np, nl, nh, nn, no, ne, nps, nr⟩ (.slice A3 nps.length c3)).toList 114 1 1) rfl (by simp [Value.oneCell']) (by omega) (by unfold maxLen; omega) (by simp; omega) ?_; intro A5 c5 w5 o5 g5 b5)
        have o6 : w5.ownsRow w.heap.size 114 8 (.slice A5 (ps.length + 1) c5) (ps.length + 1) (mlc (ps ++ [(⟨np, nl, nh, nn, no, ne, nps, nr⟩, .slice A3 nps.length c3)])) := by rw [mlc_append]; simpa [mlc] using o5
        have HB5 := bx ((HB1.out.call (From.alloc (From.refl _) _)).app1 (⟨np, nl, nh, nn, no, ne, nps, nr⟩, .slice A3 nps.length c3) o6 g5 b5 (HPA.out.from (From.alloc (From.refl _) _)))
        have HP2 := bx (fun (W : World) (v3 : Value) (ds' : List Int) (hh : AllBx w W (.slice A5 (ps.length + 1) c5) u8 v3 (ps ++ [(⟨np, nl, nh, nn, no, ne, nps, nr⟩, .slice A3 nps.length c3)]) (evs (uxM vs) (ms.take k)) ds' wr.heap.size ⟨np, nl, nh, nn, no, ne, nps, nr⟩ (.slice A3 nps.length c3)) => hh.put2 up ne (evs (uxM vs) (ms.take (k + 1))) (by rw [HSU.out, HEV.out]) hul)
        have HP3 := bx (fun (W : World) (v2 : Value) (us' : List Int) (hh : AllBx w W (.slice A5 (ps.length + 1) c5) v2 u9 (ps ++ [(⟨np, nl, nh, nn, no, ne, nps, nr⟩, .slice A3 nps.length c3)]) us' (evs (dxM vs) (ms.take k)) wr.heap.size ⟨np, nl, nh, nn, no, ne, nps, nr⟩ (.slice A3 nps.length c3)) => hh.put3 dn ne (evs (dxM vs) (ms.take (k + 1))) (by rw [HSD.out, HEV.out]) hdl)
        have HPX := bx (show (ps ++ [((⟨np, nl, nh, nn, no, ne, nps, nr⟩, Value.slice A3 nps.length c3) : MV)]).map (·.1) = allM vs (ms.take (k + 1)) by rw [HSA.out, List.map_append, HPS.out]; rfl)
        have hev5 := HB5.out.ev
        simp only at hev5
        clear HSA HSU HSD o6 o5 g5 b5 HB1 HPA HPS e0 e1 e2 e3 e4 e5 e6 e7 HAT
        go_region_held3 (fun W => W.cell? ⟨wr.heap.size, 5, none⟩ = some (.int .i64 ne))
          (first | with_reducible assumption | with_reducible exact (HB5.out.call (From.drew (From.refl _))).ev)
          (first
            | (go_at_call 74; (with_reducible refine (HP2.out _ _ _ (by first | with_reducible assumption | with_reducible exact HB5.out | with_reducible exact HB5.out.call (From.drew (From.refl _)))).mono ?_); rintro e w6 ⟨A6, c6, rfl, q6⟩; have hk6 := q6.ev)
            | (go_at_call 74; (with_reducible refine (HP3.out _ _ _ (by first | with_reducible assumption | with_reducible exact HB5.out | with_reducible exact HB5.out.call (From.drew (From.refl _)))).mono ?_); rintro e w7 ⟨A7, c7, rfl, q7⟩; have hk7 := q7.ev))
        all_goals
          go_wp2
          go_roundw
          case rel => exact ⟨k + 1, ps ++ [(⟨np, nl, nh, nn, no, ne, nps, nr⟩, .slice A3 nps.length c3)], by omega, by go_num, HPX.out, by first | (have hq := q7.at_; rw [hpl] at hq; exact hq) | (have hq := q6.at_; rw [hpl] at hq; exact hq)⟩
          case measure => simp [intOf]; omega
    · have z3 : decide ((k : Int) < (ms.length : Int)) = false := decide_eq_false (by omega)
      obtain rfl : k = ms.length := by omega
      clear hat hps
      obtain ⟨A1, c1, rfl⟩ := slice_form HAT.out.o1
      obtain ⟨A2, c2, rfl⟩ := slice_form HAT.out.o2
      obtain ⟨A3, c3, rfl⟩ := slice_form HAT.out.o3
      have hta : ms.take ms.length = ms := List.take_of_length_le (Nat.le_refl _)
      rw [hta] at HAT HPS
      have hpl : ps.length = as_.length := by rw [← HA.out, ← HPS.out]; simp
      have hq := HAT.out
      rw [hta, HU.out, HD.out, hpl] at *
      rw [HA.out] at HPS
      clear HAT
      have HQ := bx hq
      have HPL := bx hpl
      clear hq hta hpl
      go_wp2_with fail
      refine bodyPost_ret (v := .tuple #[.slice A1 as_.length c1, .slice A2 us.length c2, .slice A3 ds.length c3]) (by simp [results, Try.results45, go_sem]) rfl ⟨A1, c1, A2, c2, A3, c3, rfl, HQ.out.mons HPS.out, sl_of_own HQ.out.o2, sl_of_own HQ.out.o3, HQ.out.from_⟩
end Go.Proofs.Ytpdbdpmlppbnnaa.Mo
namespace Go.Proofs.Ytpdbdpmlppbnnaa.Mo
open Go.RowKit Go.Shelf

set_option maxRecDepth 100000 in
set_option maxHeartbeats 4000000 in
theorem sameAll_calls (A B : Option Addr) (c d : Nat) (ms : List Mon) (w : World) (hA : Mons w (.slice A ms.length c) ms) (hB : Mons w (.slice B ms.length d) ms) (hm : ms.length ≤ 1000) (hp : ∀ m ∈ ms, m.past.length ≤ 1000) :
    Calls Try.prog 46 #[.slice A ms.length c, .slice B ms.length d] w fun e w' => e = .returned (.bool true) ∧ From w w' := by
  have HA := bx hA
  have HB := bx hB
  have HP := bx hp
  clear hA hB hp
  go_enter Try.func46, Try.ntmps46
  go_wp2_with fail
  go_loopw [5] (fun i wr => ∃ k : Nat, k ≤ ms.length ∧ i = .int .i64 k ∧ From w wr) (fun i _ => ms.length - (intOf i).toNat)
  case atStart => exact ⟨0, Nat.zero_le _, rfl, From.refl _⟩
  case round =>
    obtain ⟨k, hk, rfl, hbw⟩ := hrel
    by_cases hlt : k < ms.length
    · have z3 : decide ((k : Int) < (ms.length : Int)) = true := decide_eq_true (by omega)
      have z1 : (k : Int) < (ms.length : Int) := by omega
      have z2 : (0 : Int) ≤ (k : Int) := by omega
      have hpk := HP.out ms[k] (List.getElem_mem hlt)
      obtain ⟨b, off, AP, cP, rfl, _, hBP, a0, a1, a2, a3, a4, a5, a6, a7⟩ := (HA.out.from hbw).at_ hlt
      obtain ⟨b', off', AQ, cQ, rfl, _, hBQ, b0, b1, b2, b3, b4, b5, b6, b7⟩ := (HB.out.from hbw).at_ hlt
      have HS := bx (fun (W : World) (kk : From wr W) => same29_calls ms[k] AP AQ cP cQ W (hBP.from kk) (hBQ.from kk) hpk)
      clear hBP hBQ
      generalize ms[k] = m at *
      obtain ⟨mp, ml, mh, mn, mo, me, mps, mr⟩ := m
      simp only at a0 a1 a2 a3 a4 a5 a6 a7 b0 b1 b2 b3 b4 b5 b6 b7
      go_wp2_with fail
      refine region_cut (fun q0 a' w' => ∃ (x17 x18 x19 x20 x21 x22 x23 x24 x25 : Value), a' = puts q0 [(17, x17), (18, x18), (19, x19), (20, x20), (21, x21), (22, x22), (23, x23), (24, x24), (25, x25), (26, .bool false)] ∧ From wr w') (fun K' HKK => ?_) ?_
      · go_region_with (go_at_call 75; refine (HS.out _ (by first | exact From.refl _ | exact From.drew (From.refl _))).mono ?_; rintro e w3 ⟨rfl, k3⟩; have hkeep : From wr w3 := (by first | exact k3 | exact From.trans (From.drew (From.refl _)) k3))
        all_goals
          exact HKK.out _ _ ⟨_, _, _, _, _, _, _, _, _, (by simp only [puts, Act.put, List.setIfInBounds_toArray, List.set_cons_zero, List.set_cons_succ]; rfl), hkeep⟩
      rintro a' w4 ⟨x17, x18, x19, x20, x21, x22, x23, x24, x25, rfl, k4⟩
      clear a0 a1 a2 a3 a4 a5 a6 a7 b0 b1 b2 b3 b4 b5 b6 b7
      have hf4 := hbw.trans k4
      simp only [puts, Act.put, List.setIfInBounds_toArray, List.set_cons_zero, List.set_cons_succ]
      go_wp2_with fail
      exact ⟨⟨k + 1, by omega, by go_num, hf4⟩, by simp [intOf]; omega⟩
    · have z3 : decide ((k : Int) < (ms.length : Int)) = false := decide_eq_false (by omega)
      go_wp2
      go_ret
      exact ⟨rfl, hbw⟩
set_option maxRecDepth 100000 in
/-- lists of monitors: parts, appended -/
theorem Mons.take {w : World} {A : Option Addr} {n c : Nat} {ms : List Mon} (h : Mons w (.slice A n c) ms) (k : Nat) (hk : k ≤ ms.length) (c' : Nat) (hc : A = none → c' = 0) : Mons w (.slice A k c') (ms.take k) := by
  obtain ⟨ps, h1, h2, h3⟩ := h.out
  refine ⟨ps.take k, by rw [List.map_take, h1], ?_, fun a ha => h3 a (List.mem_of_mem_take ha)⟩
  have hl : (ms.take k).length = k := by rw [List.length_take]; omega
  rw [hl]
  rcases h2.out with ⟨e, e2, e3⟩ | ⟨a, c0, e, hc0⟩
  · injection e with e1 _ _
    subst e1
    have hk0 : k = 0 := by omega
    subst hk0
    rw [hc rfl]
    exact ⟨.inl ⟨rfl, rfl, rfl⟩⟩
  · injection e with e1 _ _
    subst e1
    refine ⟨.inr ⟨a, c', rfl, fun j u hj => hc0 j u ?_⟩⟩
    have : mlc ps = mlc (ps.take k) ++ mlc (ps.drop k) := by rw [← mlc_append, List.take_append_drop]
    rw [this, List.getElem?_append_left (List.getElem?_eq_some_iff.1 hj).1]
    exact hj
set_option maxRecDepth 100000 in
theorem Mons.drop {w : World} {b off n c : Nat} {ms : List Mon} (h : Mons w (.slice (some ⟨b, off, none⟩) n c) ms) (k : Nat) (hk : k ≤ ms.length) (c' : Nat) : Mons w (.slice (some ⟨b, off + k * 8, none⟩) (ms.length - k) c') (ms.drop k) := by
  obtain ⟨ps, h1, h2, h3⟩ := h.out
  have hpl : k ≤ ps.length := by rw [← h1] at hk; simpa using hk
  refine ⟨ps.drop k, by rw [List.map_drop, h1], ?_, fun a ha => h3 a (List.mem_of_mem_drop ha)⟩
  rw [List.length_drop]
  rcases h2.out with ⟨e, e2, e3⟩ | ⟨a, c0, e, hc0⟩
  · injection e with e1 _ _
    cases e1
  · injection e with e1 _ _
    injection e1 with e1
    subst e1
    refine ⟨.inr ⟨_, _, rfl, fun j u hj => ?_⟩⟩
    have hs : mlc ps = mlc (ps.take k) ++ mlc (ps.drop k) := by rw [← mlc_append, List.take_append_drop]
    have hl : (mlc (ps.take k)).length = k * 8 := by rw [mlc_len, List.length_take]; congr 1; omega
    have hj' : (mlc ps)[k * 8 + j]? = some u := by
      rw [hs, List.getElem?_append_right (by omega), hl]
      rw [show k * 8 + j - k * 8 = j by omega]
      exact hj
    obtain ⟨b', off', e2, e3, e4⟩ := hc0 _ u hj'
    injection e2 with e5 e6 _
    subst e5 e6
    exact ⟨_, _, rfl, e3, by rw [Nat.add_assoc]; exact e4⟩
theorem Mons.none (w : World) (a : Option Addr) (c : Nat) (hc : a = Option.none → c = 0) : Mons w (.slice a 0 c) [] := by
  refine ⟨[], rfl, ?_, fun x hx => by cases hx⟩
  cases a with
  | none => rw [hc rfl]; exact Sl.nil _ _
  | some a => exact ⟨.inr ⟨_, _, rfl, fun j u hj => by simp [mlc] at hj⟩⟩
theorem cells_ones {w : World} {ps : List MV} (h : ∀ a ∈ ps, Bools w a.2 a.1.past) : ∀ u ∈ mlc ps, u.oneCell' = true :=
  mlc_one ps fun a ha => by
    obtain ⟨A, c, e⟩ := (h a ha).form
    rw [e]
    rfl
end Go.Proofs.Ytpdbdpmlppbnnaa.Mo
