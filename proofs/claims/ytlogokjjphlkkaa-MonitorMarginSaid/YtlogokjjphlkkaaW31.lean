/-
  Walks of layer 11 (thermal): the reference's Zones.
-/
import Derived.Test.YtlogokjjphlkkaaW30
namespace Go.Proofs.Ytlogokjjphlkkaa
open Go.RowKit Go.Shelf

/-- zones' cells -/
abbrev ZT := Int × Int × Int
def zlc (l : List ZT) : List Value := l.flatMap fun a => (zv a.1 a.2.1 a.2.2).toList
theorem zlc_append (l m : List ZT) : zlc (l ++ m) = zlc l ++ zlc m := by simp [zlc]
structure GoodZ (z : ZT) : Prop where
  temp : -1000000 ≤ z.1 ∧ z.1 ≤ 1000000
  leak : 1 ≤ z.2.2 ∧ z.2.2 ≤ 1000
/-- zones are answered: none, or a first one -/
def ZonesPost (w : World) (e : Ending) (w' : World) : Prop :=
  ∃ A n c, e = .returned (.slice A n c) ∧ From w w' ∧ n ≤ 8 ∧ (n = 0 ∨ ∃ t l k, GoodZ (t, l, k) ∧ 1 ≤ n ∧ n ≤ c ∧ Z1 w' (.slice A 1 c) t l k)
theorem first_zone {w : World} {base n c : Nat} {A : Option Addr} {zs : List ZT} (h : w.ownsRow base 98 3 (.slice A n c) n (zlc zs)) (hn : zs.length = n) (hg : ∀ z ∈ zs, GoodZ z) :
    n = 0 ∨ ∃ t l k, GoodZ (t, l, k) ∧ 1 ≤ n ∧ n ≤ c ∧ Z1 w (.slice A 1 c) t l k := by
  cases zs with
  | nil => exact .inl hn.symm
  | cons z zs =>
    right
    obtain ⟨t, l, k⟩ := z
    have hr := own_room h rfl
    have hs := sl_of_own h
    have hn1 : 1 ≤ n := by rw [← hn]; simp
    have hat : ∀ j u, (zlc ((t, l, k) :: zs))[j]? = some u → ∃ b off, A = some ⟨b, off, none⟩ ∧ b < w.heap.size ∧ w.cell? ⟨b, off + j, none⟩ = some u := fun j u hj => hs.at_ hj
    obtain ⟨b, off, rfl, _, h0⟩ := hat 0 (.int .i64 t) (by simp [zlc])
    obtain ⟨b1, off1, e1, _, h1⟩ := hat 1 (.int .i64 l) (by simp [zlc])
    obtain ⟨b2, off2, e2, _, h2⟩ := hat 2 (.int .i64 k) (by simp [zlc])
    cases e1
    cases e2
    exact ⟨t, l, k, hg _ (by simp), hn1, hr.1, ⟨b, off, c, rfl, Nat.le_trans hn1 hr.1, h0, h1, h2⟩⟩
set_option maxRecDepth 100000 in
set_option maxHeartbeats 8000000 in
theorem zones_calls (A : Option Addr) (c : Nat) (l : List Int) (w : World) (h : Ints w (.slice A l.length c) l) (hx : ∀ x ∈ l, -9223372036854775808 ≤ x ∧ x ≤ 9223372036854775807) :
    Calls Try.prog 71 #[.slice A l.length c] w (ZonesPost w) := by
  have H := bx h
  have HX := bx hx
  clear h hx
  go_enter Try.func71, Try.ntmps71
  go_wp2_with fail
  go_loopw [3, 4] (fun v i wr => ∃ (n q : Nat) (zs : List ZT), 3 * n = q ∧ n ≤ 8 ∧ q ≤ l.length + 2 ∧ i = .int .i64 q ∧ zs.length = n ∧ (∀ z ∈ zs, GoodZ z) ∧ wr.ownsRow w.heap.size 98 3 v n (zlc zs) ∧ From w wr) (fun _ i _ => 24 - (intOf i).toNat)
  case atStart => exact ⟨0, 0, [], rfl, by omega, by omega, rfl, rfl, fun z hz => (by cases hz), own_nil _ _ _ _, From.refl _⟩
  case round =>
    obtain ⟨n, q, zs, hnq, hn8, hnl, rfl, hzl, hgz, hown, hbw⟩ := hrel
    have HO := bx hown
    have HB := bx hbw
    have HG := bx hgz
    clear hown hgz
    by_cases hlt : q + 2 < l.length
    · have z3 : decide ((q : Int) + 2 < (l.length : Int)) = true := decide_eq_true (by omega)
      by_cases hl24 : n < 8
      · have z4 : decide ((q : Int) < 24) = true := decide_eq_true (by omega)
        obtain ⟨b, off, rfl, hb, x0⟩ := ints_at H.out (show q < l.length by omega)
        obtain ⟨b', off', e1, _, x1⟩ := ints_at H.out (show q + 1 < l.length by omega)
        cases e1
        obtain ⟨b', off', e1, _, x2⟩ := ints_at H.out (show q + 2 < l.length by omega)
        cases e1
        have v0 := HX.out (l[q]'(by omega)) (List.getElem_mem _)
        have v1 := HX.out (l[q + 1]'(by omega)) (List.getElem_mem _)
        have v2 := HX.out (l[q + 2]'(by omega)) (List.getElem_mem _)
        obtain ⟨a0, ha0⟩ : ∃ z, l[q]'(by omega) = z := ⟨_, rfl⟩
        obtain ⟨a1, ha1⟩ : ∃ z, l[q + 1]'(by omega) = z := ⟨_, rfl⟩
        obtain ⟨a2, ha2⟩ : ∃ z, l[q + 2]'(by omega) = z := ⟨_, rfl⟩
        rw [ha0] at x0 v0
        rw [ha1] at x1 v1
        rw [ha2] at x2 v2
        clear ha0 ha1 ha2
        have hb0 := bound_bd a0 1000000 (by omega)
        have hb2 := around_bd a2 1000 (by omega)
        obtain ⟨y0, e0⟩ : ∃ z, boundI a0 1000000 = z := ⟨_, rfl⟩
        obtain ⟨y1, e1⟩ : ∃ z, boundI a1 1000000 = z := ⟨_, rfl⟩
        obtain ⟨y2, e2⟩ : ∃ z, around a2 1000 = z := ⟨_, rfl⟩
        have HC0 := bx (fun (W : World) => bound_calls a0 1000000 W v0.1 v0.2 (by omega) (by omega))
        have HC1 := bx (fun (W : World) => bound_calls a1 1000000 W v1.1 v1.2 (by omega) (by omega))
        have HC2 := bx (fun (W : World) => around_calls a2 1000 W v2.1 v2.2 (by omega) (by omega))
        rw [e0] at HC0 hb0
        rw [e1] at HC1
        rw [e2] at HC2 hb2
        clear e0 e1 e2 v0 v1 v2
        have w1 : IntKind.i64.wrap (1 + y2) = 1 + y2 := IntWalk.i64_in _ (by omega)
        have w2 : IntKind.i64.wrap ((q : Int) + 1) = (q : Int) + 1 := IntWalk.i64_in _ (by omega)
        have w3 : IntKind.i64.wrap ((q : Int) + 2) = (q : Int) + 2 := IntWalk.i64_in _ (by omega)
        have hGN := bx (show ∀ z ∈ zs ++ [((y0, y1, 1 + y2) : ZT)], GoodZ z from fun z hz => by
          rcases List.mem_append.1 hz with h | h
          · exact HG.out z h
          · obtain rfl := List.mem_singleton.1 h
            exact ⟨hb0, by show 1 ≤ 1 + y2 ∧ 1 + y2 ≤ 1000; omega⟩)
        have hFF : From w wr := HB.out
        have hsz := Below.size HB.out
        have g0 := hFF.cell x0
        have g1 := hFF.cell x1
        have g2 := hFF.cell x2
        have z21 : (0 : Int) ≤ (q : Int) := by omega
        have z22 : (q : Int) < (l.length : Int) := by omega
        have z23 : (q : Int) + 1 < (l.length : Int) := by omega
        have z24 : (q : Int) + 2 < (l.length : Int) := by omega
        have z25 : (0 : Int) ≤ (q : Int) + 1 := by omega
        have z26 : (0 : Int) ≤ (q : Int) + 2 := by omega
        have z27 : ((q : Int) + 1).toNat = q + 1 := by omega
        have z28 : ((q : Int) + 2).toNat = q + 2 := by omega
        clear x0 x1 x2 hb0 hb2
        go_wp2_with fail
        go_region_law (first
          | (refine step_sl (by rfl) (.tmp 16) (.tmp 36) 94 (by rfl) Try.elZone (by rfl) (HO.out.alloc _).drew 1 (zv y0 y1 (1 + y2)).toList (by rfl) ((sl_new wr (zv y0 y1 (1 + y2)).toList 98 1 1).below (Below.refl _ _).drew) rfl (by simp [Value.oneCell']) (by omega) (by unfold maxLen; omega) (by simp; omega) ?_; intro A3 c3 w3 o3 g3 _)
          | (go_simp; go_at_call 72; with_reducible refine (HC0.out _).mono ?_; rintro e wX ⟨rfl, rfl⟩)
          | (go_simp; go_at_call 72; with_reducible refine (HC1.out _).mono ?_; rintro e wX ⟨rfl, rfl⟩)
          | (go_simp; go_at_call 34; with_reducible refine (HC2.out _).mono ?_; rintro e wX ⟨rfl, rfl⟩))
        all_goals
          have k3 : From w w3 := From.app (HB.out.alloc _).drew (HO.out.alloc _).drew (Nat.le_refl _) g3
          have o4 : w3.ownsRow w.heap.size 98 3 (.slice A3 (n + 1) c3) (n + 1) (zlc (zs ++ [((y0, y1, 1 + y2) : ZT)])) := by rw [zlc_append]; simpa [zlc] using o3
          have HO4 := bx o4
          clear o3 g3 o4
          go_wp2
          go_roundw
          case rel => exact ⟨n + 1, q + 3, _, by omega, by omega, by omega, by go_num, by simp [hzl], hGN.out, HO4.out, k3⟩
          case measure => simp [intOf]; omega
      · have z4 : decide ((q : Int) < 24) = false := decide_eq_false (by omega)
        obtain ⟨A3, c3, rfl⟩ := slice_form HO.out
        go_wp2
        go_ret
        exact ⟨A3, n, c3, rfl, HB.out, hn8, first_zone HO.out hzl HG.out⟩
    · have z3 : decide ((q : Int) + 2 < (l.length : Int)) = false := decide_eq_false (by omega)
      obtain ⟨A3, c3, rfl⟩ := slice_form HO.out
      go_wp2
      go_ret
      exact ⟨A3, n, c3, rfl, HB.out, hn8, first_zone HO.out hzl HG.out⟩
end Go.Proofs.Ytlogokjjphlkkaa
