/-
  Walks of layer 29: rows of numbers in memory, perigeeref29.Makes.
-/
import Derived.Test.YtlogokjjphlkkaaW20
namespace Go.Proofs.Ytlogokjjphlkkaa
open Go.RowKit Go.Shelf

theorem Try.elMon : ElT Try.prog 85 71 (.agg #[.int .i64 0, .int .i64 0, .int .i64 0, .int .i64 0, .int .i64 0, .int .i64 0, .slice none 0 0, .bool false]) 8 80 := ⟨Try.underlying85, info_parts (by kernel_rfl), rfl, by decide⟩
/-- rows of numbers in memory -/
structure Rows (w : World) (v : Value) (ls : List (List Int)) : Prop where
  out : ∃ cs : List Value, Sl w w.heap.size v ls.length cs ∧ ∀ k (hk : k < ls.length), ∃ A c, cs[k]? = some (.slice A ls[k].length c) ∧ Ints w (.slice A ls[k].length c) ls[k] ∧ ls[k].length ≤ 9223372036854775807 ∧ ∀ x ∈ ls[k], -9223372036854775808 ≤ x ∧ x ≤ 9223372036854775807
theorem Rows.from {w w' : World} {v : Value} {ls : List (List Int)} (h : Rows w v ls) (hb : From w w') : Rows w' v ls := by
  obtain ⟨cs, h1, h2⟩ := h.out
  refine ⟨cs, h1.from hb, fun k hk => ?_⟩
  obtain ⟨A, c, e1, e2, e3⟩ := h2 k hk
  exact ⟨A, c, e1, e2.from hb, e3⟩
theorem Rows.at_ {w : World} {n c : Nat} {A : Option Addr} {ls : List (List Int)} (h : Rows w (.slice A n c) ls) {k : Nat} (hk : k < ls.length) :
    ∃ b off A' c', A = some ⟨b, off, none⟩ ∧ b < w.heap.size ∧ w.cell? ⟨b, off + k, none⟩ = some (.slice A' ls[k].length c') ∧ Ints w (.slice A' ls[k].length c') ls[k] ∧ ls[k].length ≤ 9223372036854775807 ∧ ∀ x ∈ ls[k], -9223372036854775808 ≤ x ∧ x ≤ 9223372036854775807 := by
  obtain ⟨cs, h1, h2⟩ := h.out
  obtain ⟨A', c', e1, e2, e3, e4⟩ := h2 k hk
  obtain ⟨b, off, f1, f2, f3⟩ := h1.at_ e1
  exact ⟨b, off, A', c', f1, f2, f3, e2, e3, e4⟩
def makesM (rows : List (List Int)) : List Mon := (rows.take 8).map makeM
/-- monitors are answered -/
def MonsPost (w : World) (ms : List Mon) (e : Ending) (w' : World) : Prop := ∃ A c, e = .returned (.slice A ms.length c) ∧ Mons w' (.slice A ms.length c) ms ∧ From w w' ∧ ms.length ≤ c ∧ (A = none → c = 0)
theorem own_room {w : World} {base size n m c : Nat} {e : TypeId} {A : Option Addr} {xs : List Value} (h : w.ownsRow base e size (.slice A m c) n xs) (hm : m = n) : m ≤ c ∧ (A = none → c = 0) := by
  rcases h.2 with ⟨e1, rfl⟩ | ⟨g, cap, cur, e1, hg, hh, hnc, _⟩
  · injection e1 with e1 e2 e3
    subst e1 e2 e3
    exact ⟨Nat.le_refl _, fun _ => rfl⟩
  · injection e1 with e1 e2 e3
    subst e1 e2 e3
    exact ⟨hnc, fun h => by cases h⟩
/-- monitors that saw nothing -/
def fresh (ms : List Mon) : List MV := ms.map fun m => (m, .slice none 0 0)
theorem fresh_len (ms : List Mon) : (fresh ms).length = ms.length := by simp [fresh]
theorem fresh_fst (ms : List Mon) : (fresh ms).map (·.1) = ms := by
  induction ms with
  | nil => rfl
  | cons a t ih => simp only [fresh, List.map_cons] at *; rw [ih]
theorem mons_own {w : World} {base n : Nat} {v : Value} {ps : List MV} {ms : List Mon} (h : w.ownsRow base 71 8 v n (mlc ps)) (hn : n = ms.length) (hp : ps.map (·.1) = ms) (hb : ∀ a ∈ ps, Bools w a.2 a.1.past) : Mons w v ms :=
  ⟨ps, hp, by rw [← hn]; exact sl_of_own h, hb⟩
set_option maxHeartbeats 1000000 in
theorem makes_calls (A : Option Addr) (c : Nat) (rows : List (List Int)) (w : World) (h : Rows w (.slice A rows.length c) rows) (hm : rows.length ≤ 9223372036854775807) (ms : List Mon) (hms : makesM rows = ms) :
    Calls Try.prog 65 #[.slice A rows.length c] w (MonsPost w ms) := by
  have H := bx h
  have HMS := bx hms
  clear h hms
  go_enter Try.func65, Try.ntmps65
  go_wp2_with fail
  go_loopw [3, 4] (fun v i wr => ∃ k : Nat, k ≤ rows.length ∧ k ≤ 8 ∧ i = .int .i64 k ∧ wr.ownsRow w.heap.size 71 8 v k (mlc (fresh ((rows.take k).map makeM))) ∧ From w wr) (fun _ i _ => 8 - (intOf i).toNat)
  case atStart => exact ⟨0, Nat.zero_le _, by omega, rfl, own_nil _ _ _ _, From.refl _⟩
  case round =>
    obtain ⟨k, hk, hk8, rfl, hown, hbw⟩ := hrel
    have HO := bx hown
    by_cases hlt : k < rows.length
    · have z3 : decide ((k : Int) < (rows.length : Int)) = true := decide_eq_true (by omega)
      by_cases hl8 : k < 8
      · have z4 : decide ((k : Int) < 8) = true := decide_eq_true (by omega)
        obtain ⟨b, off, A', c', rfl, hb, hcell, hI, hl, hx⟩ := (H.out.from hbw).at_ hlt
        obtain ⟨m, hmm⟩ : ∃ m, makeM rows[k] = m := ⟨_, rfl⟩
        have hS : fresh ((rows.take (k + 1)).map makeM) = fresh ((rows.take k).map makeM) ++ [(m, .slice none 0 0)] := by
          rw [List.take_succ_eq_append_getElem hlt, List.map_append, List.map_cons, List.map_nil, hmm]
          simp [fresh]
        have HS := bx hS
        have HMK := bx (makeM_calls A' c' rows[k] wr hI hx m hmm)
        have HB := bx hbw
        clear hS hmm hI hx hown
        generalize rows[k] = row at *
        obtain ⟨mp, ml, mh, mn, mo, me, mps, mr⟩ := m
        go_wp2_with fail
        refine HMK.out.mono ?_
        rintro e w2 ⟨rfl, k2⟩
        have ho2 := own_call HO.out k2
        have HO2 := bx ho2
        clear ho2
        have hb2 := HB.out.trans k2
        have hs2 := Below.size hb2
        go_wp2_with (at_builtin; refine app_sl rfl _ _ 85 rfl Try.elMon rfl (HO2.out.alloc _) 1 (mcs ⟨mp, ml, mh, mn, mo, me, mps, mr⟩ (.slice none 0 0)).toList rfl (sl_new w2 (mcs ⟨mp, ml, mh, mn, mo, me, mps, mr⟩ (.slice none 0 0)).toList 71 1 1) rfl (by simp [Value.oneCell']) (by omega) (by unfold maxLen; omega) (by simp; omega) ?_; intro A3 c3 w3 o3 g3 _)
        have k3 : From w w3 := From.app (hb2.alloc _) (HO2.out.alloc _) (Nat.le_refl _) g3
        have ho3 : w3.ownsRow w.heap.size 71 8 (.slice A3 (k + 1) c3) (k + 1) (mlc (fresh ((rows.take (k + 1)).map makeM))) := by
          rw [HS.out, mlc_append]; simpa [mlc] using o3
        have HO3 := bx ho3
        clear o3 g3 ho3
        go_wp2
        go_roundw
        case rel => exact ⟨k + 1, by omega, by omega, by go_num, HO3.out, k3⟩
        case measure => simp [intOf]; omega
      · have z4 : decide ((k : Int) < 8) = false := decide_eq_false (by omega)
        obtain rfl : k = 8 := by omega
        clear hown
        obtain ⟨A3, c3, rfl⟩ := slice_form HO.out
        have hml : ms.length = 8 := by rw [← HMS.out, makesM, List.length_map, List.length_take]; omega
        have HML := bx hml
        clear hml
        go_wp2
        go_ret
        refine ⟨A3, c3, by rw [HML.out]; rfl, ?_, hbw, by rw [HML.out]; exact own_room HO.out rfl⟩
        rw [HML.out]
        exact mons_own HO.out HML.out.symm (by rw [fresh_fst, ← HMS.out]; rfl) (by intro a ha; simp only [fresh, List.map_map, List.mem_map] at ha; obtain ⟨x, _, rfl⟩ := ha; exact Sl.nil _ _)
    · have z3 : decide ((k : Int) < (rows.length : Int)) = false := decide_eq_false (by omega)
      obtain rfl : k = rows.length := by omega
      clear hown
      obtain ⟨A3, c3, rfl⟩ := slice_form HO.out
      have hml : ms.length = rows.length := by rw [← HMS.out, makesM, List.length_map, List.length_take]; omega
      have HML := bx hml
      clear hml
      go_wp2
      go_ret
      refine ⟨A3, c3, by rw [HML.out]; rfl, ?_, hbw, by rw [HML.out]; exact own_room HO.out rfl⟩
      rw [HML.out]
      exact mons_own HO.out HML.out.symm (by rw [fresh_fst, ← HMS.out, makesM, List.take_of_length_le hk8, List.take_of_length_le (Nat.le_refl _)]) (by intro a ha; simp only [fresh, List.map_map, List.mem_map] at ha; obtain ⟨x, _, rfl⟩ := ha; exact Sl.nil _ _)
end Go.Proofs.Ytlogokjjphlkkaa
