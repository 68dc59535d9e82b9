/-
  Walks of layer 10: slices.Clone of loads, the criteria, power.ordered.
-/
import Derived.Test.YtamfifndddldcaaM3
import Derived.Shelf.SlSortCmp.NoneTotal
namespace Go.Proofs.Ytamfifndddldcaa
open Go.RowKit Go.Shelf Go.Sort

theorem Try.elLo : ElT Try.prog 24 41 (.agg #[.int .i64 0, .int .i64 0, .int .i64 0, .bool false]) 4 32 := ⟨Try.underlying24, info_parts (by kernel_rfl), rfl, by decide⟩
/-- a new row of loads -/
def LoPost (w : World) (l : List Lo) (e : Ending) (w' : World) : Prop :=
  ∃ A c, e = .returned (.slice A l.length c) ∧ w'.ownsRow w.heap.size 41 4 (.slice A l.length c) l.length (l.flatMap lcs) ∧ From w w'
theorem loads_of_own {w : World} {base c : Nat} {A : Option Addr} {t : List Lo} (h : w.ownsRow base 41 4 (.slice A t.length c) t.length (t.flatMap lcs)) : Loads w (.slice A t.length c) t := sl_of_own h
theorem cloneL_calls (v : Value) (l : List Lo) (w : World) (h : Loads w v l) (hm : l.length ≤ 1000000) :
    Calls Try.prog 45 #[v] w (LoPost w l) := by
  rcases h.out with ⟨rfl, h0, _⟩ | ⟨a0, c, rfl, _⟩
  · have hl := List.eq_nil_of_length_eq_zero h0
    subst hl
    have hnil : ∀ W, (binOp .eql 24 (.slice none 0 0) (.slice none 0 0)).run Try.prog W = .ok (.bool true) W := fun W => Lib.run_eql_slice_nil_nil W _ _ Try.underlying24
    go_enter Try.func45, Try.ntmps45
    go_wp2
    go_ret
    exact ⟨none, 0, rfl, own_nil _ _ _ _, From.refl _⟩
  · have H := bx h
    clear h
    have hnil : ∀ W, (binOp .eql 24 (.slice (some a0) l.length c) (.slice none 0 0)).run Try.prog W = .ok (.bool false) W := fun W => Lib.run_eql_slice_some_nil W _ _ _ Try.underlying24
    have hb1 : From w (w.alloc (.cells #[] 41)) := From.alloc (From.refl _) _
    go_enter Try.func45, Try.ntmps45
    go_wp2_with (at_builtin; refine app_sl rfl _ _ 24 rfl Try.elLo rfl (owns_empty w w.heap.size (Nat.le_refl _) 41 4) l.length (l.flatMap lcs) rfl (H.out.from hb1) (flat_len lcs_len l) (flat_one lcs_one l) (by omega) (by unfold maxLen; omega) (by simp) ?_; intro A2 c2 w2 o2 g2 _)
    go_ret
    have hb : From w w2 := From.app hb1 (owns_empty w w.heap.size (Nat.le_refl _) 41 4) (Nat.le_refl _) g2
    simp only [Nat.zero_add, List.nil_append] at o2
    exact ⟨A2, c2, ret_slice (by simp), o2, hb⟩
theorem criteria_calls (w : World) : Calls Try.prog 46 #[] w fun e w' => ∃ bc br, e = .returned (.slice (some ⟨bc, 0, none⟩) 3 3) ∧ (w.heap.size ≤ bc ∧ w.heap.size ≤ br) ∧ From w w' ∧
    w'.cell? ⟨bc, 0, none⟩ = some (.func (.func 55) #[] #[.pointer (some ⟨br, 0, none⟩)]) ∧ w'.cell? ⟨bc, 1, none⟩ = some (.func (.func 57) #[] #[.pointer (some ⟨br, 0, none⟩)]) ∧
    w'.cell? ⟨bc, 2, none⟩ = some (.func (.func 58) #[] #[]) ∧ w'.cell? ⟨br, 0, none⟩ = some (.func (.func 54) #[] #[]) := by
  go_enter Try.func46, Try.ntmps46
  go_wp2
  go_ret
  have h0 := heap_alloc_new w (.cells #[.func (.func 54) #[] #[]] 94)
  have h1 := heap_alloc_new (w.alloc (.cells #[.func (.func 54) #[] #[]] 94)) (.cells #[.func (.func 55) #[] #[.pointer (some ⟨w.heap.size, 0, none⟩)], .func (.func 57) #[] #[.pointer (some ⟨w.heap.size, 0, none⟩)], .func (.func 58) #[] #[]] 89)
  rw [World.size_alloc] at h1
  refine ⟨w.heap.size + 1, w.heap.size, rfl, ⟨by omega, by omega⟩, ((From.refl _).alloc _).alloc _, ?_, ?_, ?_, ?_⟩
  · rw [cell_of_row _ _ _ _ _ _ h1]; rfl
  · rw [cell_of_row _ _ _ _ _ _ h1]; rfl
  · rw [cell_of_row _ _ _ _ _ _ h1]; rfl
  · refine ((From.refl _).alloc _).cell (W0 := w.alloc (.cells #[.func (.func 54) #[] #[]] 94)) ?_
    rw [cell_of_row _ _ _ _ _ _ h0]; rfl
/-- a sort's world keeps whatever lies below its row -/
theorem sort_below {α : Type} [Inhabited α] (enc : α → List Value) (k : Nat) (w : World) (g off n : Nat) (d : Array α) (os : Array Obj) (B : Nat) (hB : B ≤ g) (hB2 : B ≤ w.heap.size) : Below B w (sortWorldK enc k w g off n d os) := by
  have hs : (putRowK enc k (Sort.ahead w n) g off d).heap.size = w.heap.size := by rw [size_putRowK]; exact size_drewN w n
  refine ⟨rfl, rfl, rfl, ?_, fun i hi => ?_⟩
  · unfold sortWorldK
    rw [size_grow, hs]
    omega
  · unfold sortWorldK
    rw [heap_grow_old _ _ (by rw [hs]; omega)]
    show ((Sort.ahead w n).heap.modify g _)[i]? = _
    rw [Array.getElem?_modify, if_neg (by omega)]
    exact heap_drewN w n i
theorem sort_other {α : Type} [Inhabited α] (enc : α → List Value) (k : Nat) (w : World) (g off n : Nat) (d : Array α) (os : Array Obj) (i : Nat) (hi : i < w.heap.size) (hg : i ≠ g) : (sortWorldK enc k w g off n d os).heap[i]? = w.heap[i]? := by
  have hs : (putRowK enc k (Sort.ahead w n) g off d).heap.size = w.heap.size := by rw [size_putRowK]; exact size_drewN w n
  unfold sortWorldK
  rw [heap_grow_old _ _ (by rw [hs]; omega)]
  show ((Sort.ahead w n).heap.modify g _)[i]? = _
  rw [Array.getElem?_modify, if_neg (by omega)]
  exact heap_drewN w n i
theorem flatK_list {α : Type} [Inhabited α] {enc : α → List Value} {k : Nat} (hk : ∀ x, (enc x).length = k) (d : Array α) (t : Nat) (ht : t < d.size * k) : (d.toList.flatMap enc)[t]? = some (flatK enc k d)[t]! := by
  have hk0 : 0 < k := by rcases Nat.eq_zero_or_pos k with h | h; · subst h; omega
                         · exact h
  have h1 : t / k < d.size := (Nat.div_lt_iff_lt_mul hk0).2 ht
  have h2 : t % k < k := Nat.mod_lt _ hk0
  have e : t = t / k * k + t % k := by have := Nat.div_add_mod t k; rw [Nat.mul_comm] at this; omega
  have h3 := flat_at hk d.toList (t / k) (by simpa using h1) (t % k) h2
  rw [← e] at h3
  rw [h3, get_flatK enc k d t ht]
  simp only [Array.getElem_toList]
  rw [getElem!_pos d (t / k) h1]
  rw [List.getElem?_eq_getElem (by rw [hk]; exact h2), getElem!_pos (enc d[t / k]) (t % k) (by rw [hk]; exact h2)]
theorem holdsK_of_own {w : World} {base g cap : Nat} {l : List Lo} (h : w.ownsRow base 41 4 (.slice (some ⟨g, 0, none⟩) l.length cap) l.length (l.flatMap lcs)) : HoldsK lcs 4 w g 0 l.toArray := by
  intro j hj
  rw [size_flatK] at hj
  have hj' : j < l.length * 4 := by simpa using hj
  have h1 := flatK_list lcs_len l.toArray j (by simpa using hj')
  have h2 := h.cells (g := g) rfl j _ h1
  rw [Addr.add_mid, Nat.zero_add] at h2
  refine ⟨by rw [Nat.zero_add]; exact h2, ?_⟩
  rcases h.2 with ⟨hv, _⟩ | ⟨g', cap', cur, hv, _, hgb, _⟩
  · cases hv
  · injection hv with e _ _
    injection e with e
    injection e with e _ _
    subst e
    simp [World.frozen?, hgb]
structure SlN (lo : Nat) (w : World) (v : Value) (n : Nat) (cs : List Value) : Prop where
  out : (v = .slice none 0 0 ∧ n = 0 ∧ cs = []) ∨ ∃ a c, v = .slice (some a) n c ∧ ∀ j u, cs[j]? = some u → ∃ b off, a = ⟨b, off, none⟩ ∧ lo ≤ b ∧ w.cell? ⟨b, off + j, none⟩ = some u
theorem SlN.sl {lo : Nat} {w : World} {v : Value} {n : Nat} {cs : List Value} (h : SlN lo w v n cs) : Sl w w.heap.size v n cs := by
  rcases h.out with h | ⟨a, c, e, h⟩
  · exact ⟨.inl h⟩
  · refine ⟨.inr ⟨a, c, e, fun j u hj => ?_⟩⟩
    obtain ⟨b, off, e1, _, e3⟩ := h j u hj
    exact ⟨b, off, e1, World.block_lt_of_cell? w _ e3, e3⟩
theorem SlN.from {lo : Nat} {w w' : World} {v : Value} {n : Nat} {cs : List Value} (h : SlN lo w v n cs) (hb : From w w') : SlN lo w' v n cs := by
  rcases h.out with h | ⟨a, c, e, h⟩
  · exact ⟨.inl h⟩
  · refine ⟨.inr ⟨a, c, e, fun j u hj => ?_⟩⟩
    obtain ⟨b, off, e1, e2, e3⟩ := h j u hj
    exact ⟨b, off, e1, e2, hb.cell e3⟩
theorem cell_set_off {w : World} {r i : Nat} {x : Value} {a : Addr} {u : Value} (h : w.cell? a = some u) (hr : a.block ≠ r) : (w.setCell ⟨r, i, none⟩ x).cell? a = some u := by
  rw [World.cell?_of_block (w := w) (heap_set_off w (Ne.symm hr) i x)]; exact h
theorem SlN.setCell {lo : Nat} {w : World} {v : Value} {n : Nat} {cs : List Value} (h : SlN lo w v n cs) {r : Nat} (hr : r < lo) (i : Nat) (x : Value) : SlN lo (w.setCell ⟨r, i, none⟩ x) v n cs := by
  rcases h.out with h | ⟨a, c, e, h⟩
  · exact ⟨.inl h⟩
  · refine ⟨.inr ⟨a, c, e, fun j u hj => ?_⟩⟩
    obtain ⟨b, off, e1, e2, e3⟩ := h j u hj
    exact ⟨b, off, e1, e2, cell_set_off e3 (by show b ≠ r; omega)⟩
theorem SlN.low {lo lo' : Nat} {w : World} {v : Value} {n : Nat} {cs : List Value} (h : SlN lo w v n cs) (hl : lo' ≤ lo) : SlN lo' w v n cs := by
  rcases h.out with h | ⟨a, c, e, h⟩
  · exact ⟨.inl h⟩
  · refine ⟨.inr ⟨a, c, e, fun j u hj => ?_⟩⟩
    obtain ⟨b, off, e1, e2, e3⟩ := h j u hj
    exact ⟨b, off, e1, by omega, e3⟩
theorem sln_of_own {w : World} {base size n : Nat} {e : TypeId} {v : Value} {cs : List Value} (h : w.ownsRow base e size v n cs) : SlN base w v n cs := by
  rcases h.2 with ⟨rfl, rfl⟩ | ⟨g, cap, cur, rfl, hg, hh, r⟩
  · exact ⟨.inl ⟨rfl, rfl, List.eq_nil_of_length_eq_zero (by have := h.1; omega)⟩⟩
  · refine ⟨.inr ⟨_, _, rfl, fun j u hj => ⟨g, 0, rfl, hg, ?_⟩⟩⟩
    have := h.cells (g := g) rfl j u hj
    rwa [Addr.add_mid] at this
/-- loads in the order of service -/
def OrdPost (w : World) (l : List Lo) (e : Ending) (w' : World) : Prop :=
  ∃ A c, e = .returned (.slice A (ordL l).length c) ∧ SlN w.heap.size w' (.slice A (ordL l).length c) (ordL l).length ((ordL l).flatMap lcs) ∧ From w w'
theorem ordL_len (l : List Lo) : (ordL l).length = l.length := (ordL_perm l).length_eq
set_option maxHeartbeats 1000000 in
theorem ordered_calls (v : Value) (l : List Lo) (w : World) (h : Loads w v l) (hm : l.length ≤ 1000000) (hid : Ids l) :
    Calls Try.prog 36 #[v] w (OrdPost w l) := by
  obtain ⟨A0, c0, rfl⟩ := h.form
  have HC := bx (cloneL_calls (.slice A0 l.length c0) l w h hm)
  have HI := bx hid
  have HM := bx hm
  clear h hid hm
  obtain ⟨n, hn⟩ : ∃ n, l.length = n := ⟨_, rfl⟩
  have HN := bx hn
  rw [hn] at HC ⊢
  clear hn
  go_enter Try.func36, Try.ntmps36
  go_wp2_with fail
  refine HC.out.mono ?_
  rintro e w1 ⟨A1, c1, rfl, o1, k1⟩
  rw [HN.out] at o1 ⊢
  go_wp2_with fail
  refine (criteria_calls w1).mono ?_
  rintro e w2 ⟨bc, br, rfl, hcb, k2, q0, q1, q2, q3⟩
  have HO1 := bx o1
  have o2 := own_call o1 k2
  have hz1 : w1.heap.size ≤ w2.heap.size := Below.size k2
  have HO2 := bx o2
  have HK2 := bx (k1.trans k2)
  have f3 : From w2 (w2.alloc (.cells #[.slice (some ⟨bc, 0, none⟩) 3 3] 84)) := (From.refl _).alloc _
  have HCr := bx (show Crit (w2.alloc (.cells #[.slice (some ⟨bc, 0, none⟩) 3 3] 84)) w2.heap.size bc br from ⟨by rw [World.cell?_alloc_new]; rfl, f3.cell q0, f3.cell q1, f3.cell q2, f3.cell q3⟩)
  clear q0 q1 q2 q3 o1 o2 k1 k2
  obtain ⟨V, hV⟩ : ∃ V, w2.alloc (.cells #[.slice (some ⟨bc, 0, none⟩) 3 3] 84) = V := ⟨_, rfl⟩
  have HO3 := bx (HO2.out.alloc (.cells #[.slice (some ⟨bc, 0, none⟩) 3 3] 84))
  have HK3 := bx (HK2.out.trans f3)
  rw [hV] at HCr HO3 HK3
  have hz2 : w.heap.size ≤ w2.heap.size := Below.size HK2.out
  by_cases hn0 : n = 0
  case pos =>
    subst hn0
    have hl0 := List.eq_nil_of_length_eq_zero HN.out
    have HS := bx (show Calls Try.prog 47 #[.slice A1 0 c1, .func (.func 48) #[] #[.pointer (some ⟨w2.heap.size, 0, none⟩)]] V fun e w' => e = .returned (.tuple #[]) ∧ w' = V from AnyF.slices_SortFunc_none sortL A1 c1 _ V)
    clear f3
    go_wp2_with fail
    refine HS.out.mono ?_
    rintro e w4 ⟨rfl, rfl⟩
    go_wp2
    go_ret
    subst hl0
    exact ⟨A1, c1, rfl, sln_of_own HO3.out, HK3.out⟩
  have o3 := HO3.out
  obtain ⟨g, hg0, hA⟩ : ∃ g, w.heap.size ≤ g ∧ A1 = some ⟨g, 0, none⟩ := by
    rcases o3.2 with ⟨_, h0⟩ | ⟨g, cap, cur, hv, hg, _⟩
    · omega
    · injection hv with e _ _
      exact ⟨g, hg, e⟩
  subst hA
  have hgV : g < V.heap.size := (o3.lt g (by simp [Value.ownBlock])).2
  obtain rfl : l.length = n := HN.out
  have hH := holdsK_of_own o3
  have hg1 : g < w1.heap.size := (HO1.out.lt g (by simp [Value.ownBlock])).2
  have hzV : V.heap.size = w2.heap.size + 1 := by rw [← hV]; simp
  have hcmp : CmpLays Try.prog 48 #[.pointer (some ⟨w2.heap.size, 0, none⟩)] lcs 4 ordC g 0 l.toArray.size V := by
    intro m os dk hs x y
    have hc := HCr.out
    have hat : ∀ (b j : Nat) (u : Value), b ≠ g → V.cell? ⟨b, j, none⟩ = some u → (sortWorldK lcs 4 V g 0 m dk os).cell? ⟨b, j, none⟩ = some u := fun b j u hb hu => by
      rw [World.cell?_of_block (a := ⟨b, j, none⟩) (sort_other lcs 4 V g 0 m dk os b (World.block_lt_of_cell? V _ hu) hb)]
      exact hu
    exact ordC_calls x y w2.heap.size bc br _ ⟨hat _ _ _ (by omega) hc.x0, hat _ _ _ (by omega) hc.c0, hat _ _ _ (by omega) hc.c1, hat _ _ _ (by omega) hc.c2, hat _ _ _ (by omega) hc.r0⟩
  have hsrt := AnyQ.slices_SortFunc sortL 4 Try.isAgg41 Try.sizeOf41 lcs lcs_len lcs_one ordC bef_swo 48 #[.pointer (some ⟨w2.heap.size, 0, none⟩)] g 0 c1 l.toArray V (enters_of Try.func48 (by kernel_rfl) rfl) hcmp hH hgV (by simp; have := HM.out; omega)
  have HS := bx (show Calls Try.prog 47 #[.slice (some ⟨g, 0, none⟩) l.length c1, .func (.func 48) #[] #[.pointer (some ⟨w2.heap.size, 0, none⟩)]] V fun e w' => e = .returned (.tuple #[]) ∧ ∃ d' n os, PermIn 0 l.toArray.size l.toArray d' ∧ SortedIn (ltOf ordC) 0 l.toArray.size d' ∧ w' = sortWorldK lcs 4 V g 0 n d' os from hsrt)
  clear f3 hsrt hcmp o3 hn0
  go_wp2_with fail
  refine HS.out.mono ?_
  rintro e w4 ⟨rfl, d', nq, os, hp, hs, rfl⟩
  go_wp2
  go_ret
  obtain ⟨hsz, _, hpm⟩ := hp
  have hd : d'.toList = ordL l := by
    refine ord_unique l HI.out d' ?_ fun i j hij hj => hs i j (Nat.zero_le _) hij (by rw [← hsz]; exact hj)
    rw [hsz.symm] at hpm
    have e1 : d'.extract 0 d'.size = d' := by simp
    have e2 : l.toArray.extract 0 d'.size = l.toArray := by rw [hsz]; simp
    rw [e1, e2] at hpm
    simpa using hpm
  have hH' := holdsK_sortWorldK_c (enc := lcs) (k := 4) (w := V) (blk := g) (off := 0) l.toArray d' nq os hH hgV hsz
  have hlen : (ordL l).length = l.length := ordL_len l
  refine ⟨some ⟨g, 0, none⟩, c1, ret_slice hlen.symm, ⟨.inr ⟨⟨g, 0, none⟩, c1, rfl, fun j u hj => ⟨g, 0, rfl, hg0, ?_⟩⟩⟩, ?_⟩
  · have hjl := (List.getElem?_eq_some_iff.1 hj).1
    rw [flat_len lcs_len, hlen] at hjl
    have hjs : j < d'.size * 4 := by rw [hsz]; simpa using hjl
    have h1 := flatK_list lcs_len d' j hjs
    rw [hd, hj] at h1
    have h2 := (hH' j (by rw [size_flatK]; exact hjs)).1
    rw [h2]
    exact h1.symm
  · exact Below.trans HK3.out (sort_below lcs 4 V g 0 nq d' os w.heap.size hg0 (Below.size HK3.out))
end Go.Proofs.Ytamfifndddldcaa
