/-
  Layer 28: a source in memory; Take's test of values.
-/
import Derived.Test.YtpdbdpmlppbnnaaV1
namespace Go.Proofs.Ytpdbdpmlppbnnaa
open Go.RowKit Go.Shelf

set_option maxRecDepth 10000 in
theorem indexG_calls (A : Option Addr) (c : Nat) (l : List Int) (w : World) (h : Ints w (.slice A l.length c) l) (hl : l.length ≤ 1000000) :
    Calls Try.prog 89 #[.slice A l.length c, .func (.func 65) #[] #[]] w fun e w' => w' = w ∧ ∃ r, e = .returned (.int .i64 r) ∧ ((r = -1 ∧ ∀ x ∈ l, fitsV x) ∨ (0 ≤ r ∧ ¬ ∀ x ∈ l, fitsV x)) := by
  have H := bx h
  have HF := bx (fun x W => notfits_calls 65 (.inr rfl) x W)
  clear h
  go_enter Try.func89, Try.ntmps89
  go_wp2_with fail
  go_loopw [8] (fun i wr => ∃ k : Nat, k ≤ l.length ∧ i = .int .i64 k ∧ wr = w ∧ ∀ j (hj : j < l.length), j < k → fitsV l[j]) (fun i _ => l.length - (intOf i).toNat)
  case atStart => exact ⟨0, Nat.zero_le _, rfl, rfl, fun j _ hj => absurd hj (Nat.not_lt_zero _)⟩
  case round =>
    obtain ⟨k, hk, rfl, rfl, hall⟩ := hrel
    have HA := bx hall
    clear hall
    by_cases hlt : k < l.length
    · obtain ⟨b, off, rfl, _, c1⟩ := ints_at H.out hlt
      have HNX := bx (fun (hx : fitsV l[k]) => (show ∀ j (hj : j < l.length), j < k + 1 → fitsV l[j] from fun j hj hj2 => by
        by_cases hq : j = k
        · subst hq; exact hx
        · exact HA.out j hj (by omega)))
      have HNO := bx (fun (hx : ¬ fitsV l[k]) => (show ¬ ∀ x ∈ l, fitsV x from fun h => hx (h _ (List.getElem_mem hlt))))
      generalize l[k] = x at *
      have z1 : (k : Int) < (l.length : Int) := by omega
      have z2 : (0 : Int) ≤ (k : Int) := by omega
      go_wp2_with fail
      refine (HF.out x _).mono ?_
      rintro e w1 ⟨rfl, rfl⟩
      by_cases hx : fitsV x
      · rw [decide_eq_true hx]
        have HN := bx (HNX.out hx)
        clear hx
        go_wp2
        go_roundw
        case rel => exact ⟨k + 1, by omega, by go_num, trivial, HN.out⟩
        case measure => simp [intOf]; omega
      · rw [decide_eq_false hx]
        have HN := bx (HNO.out hx)
        clear hx
        go_wp2
        go_ret
        exact ⟨rfl, _, rfl, .inr ⟨by omega, HN.out⟩⟩
    · obtain rfl : k = l.length := by omega
      go_wp2
      go_ret
      refine ⟨rfl, _, rfl, .inl ⟨rfl, fun x hx => ?_⟩⟩
      obtain ⟨j, hj, rfl⟩ := List.getElem_of_mem hx
      exact HA.out j hj hj
theorem containsG_calls (v : Value) (l : List Int) (w : World) (h : Ints w v l) (hl : l.length ≤ 1000000) (t : Bool) (ht : t = false ↔ ∀ x ∈ l, fitsV x) :
    Calls Try.prog 61 #[v, .func (.func 65) #[] #[]] w fun e w' => e = .returned (.bool t) ∧ w' = w := by
  obtain ⟨A, c, rfl⟩ := h.form
  have HC := bx (indexG_calls A c l w h hl)
  have HT := bx ht
  clear h ht
  go_enter Try.func61, Try.ntmps61
  go_wp2_with fail
  refine HC.out.mono ?_
  rintro e w1 ⟨rfl, r, rfl, hr⟩
  have hr2 : decide (r ≥ 0) = t := by
    rcases hr with ⟨rfl, h⟩ | ⟨h1, h2⟩
    · rw [HT.out.2 h]; rfl
    · cases t
      · exact absurd (HT.out.1 rfl) h2
      · exact decide_eq_true h1
  have HR := bx hr2
  clear hr hr2
  go_wp2
  go_ret
  exact ⟨ret_bool HR.out, rfl⟩
/-- a row of numbers of one's own, in a block of S -/
def IRow (S : Nat → Prop) (w : World) (v : Value) (l : List Int) : Prop := ∃ A c, v = .slice A l.length c ∧ w.ownsRow 0 3 1 (.slice A l.length c) l.length (ic l) ∧ ∀ g, (Value.slice A l.length c).ownBlock = some g → S g
theorem IRow.ints {S : Nat → Prop} {w : World} {v : Value} {l : List Int} (h : IRow S w v l) : Ints w v l := by
  obtain ⟨A, c, rfl, h, _⟩ := h
  exact sl_of_own h
theorem IRow.form {S : Nat → Prop} {w : World} {v : Value} {l : List Int} (h : IRow S w v l) : ∃ A c, v = .slice A l.length c := by
  obtain ⟨A, c, rfl, _, _⟩ := h
  exact ⟨A, c, rfl⟩
theorem IRow.mono {S T : Nat → Prop} {w : World} {v : Value} {l : List Int} (h : IRow S w v l) (hs : ∀ k, S k → T k) : IRow T w v l := by
  obtain ⟨A, c, e, h1, h2⟩ := h
  exact ⟨A, c, e, h1, fun g hg => hs g (h2 g hg)⟩
theorem IRow.same {S : Nat → Prop} {w w' : World} {v : Value} {l : List Int} (h : IRow S w v l) (k : SameOn S w w') : IRow S w' v l := by
  obtain ⟨A, c, rfl, ⟨h1, h2⟩, h3⟩ := h
  refine ⟨A, c, rfl, ⟨h1, ?_⟩, h3⟩
  rcases h2 with h2 | ⟨g, cap, cur, hv, hg, hh, r⟩
  · exact .inl h2
  · exact .inr ⟨g, cap, cur, hv, hg, (k g (h3 g (by rw [hv]; simp [Value.ownBlock]))).trans hh, r⟩
theorem IRow.keepI {S : Nat → Prop} {w w' : World} {v : Value} {l : List Int} (h : IRow S w v l) (k : ∀ (i : Nat) (cs : Array Value), w.heap[i]? = some (.cells cs 3 (0, 0)) → w'.heap[i]? = some (.cells cs 3 (0, 0))) : IRow S w' v l := by
  obtain ⟨A, c, e, h1, h2⟩ := h
  exact ⟨A, c, e, own_heapOf h1 k, h2⟩
/-- rows of numbers stay where cells of another type are written -/
theorem keepI_set {w : World} {g i : Nat} {cs : Array Value} {t : TypeId} (hg : w.heap[g]? = some (.cells cs t (0, 0))) (ht : t ≠ 3) (x : Value) : ∀ (j : Nat) (ds : Array Value), w.heap[j]? = some (.cells ds 3 (0, 0)) → (w.setCell ⟨g, i, none⟩ x).heap[j]? = some (.cells ds 3 (0, 0)) := by
  intro j ds hj
  rw [heap_set_off _ (cells_ne hg hj ht)]
  exact hj
theorem keepI_turned {w w' : World} {b : Nat} (h : w.mapTurned w' b) : ∀ (j : Nat) (ds : Array Value), w.heap[j]? = some (.cells ds 3 (0, 0)) → w'.heap[j]? = some (.cells ds 3 (0, 0)) := by
  intro j ds hj
  have hne : j ≠ b := by
    rintro rfl
    obtain ⟨es, clock, es', clock', hb, _⟩ := h
    rw [hj] at hb
    cases hb
  rw [h.grown.block j (Array.getElem?_eq_some_iff.1 hj).1 (by simpa using hne)]
  exact hj
theorem keepI_off {S : Nat → Prop} {w w' : World} (h : Off S w w') (hS : ∀ k, S k → ∀ ds, w.heap[k]? ≠ some (.cells ds 3 (0, 0))) : ∀ (j : Nat) (ds : Array Value), w.heap[j]? = some (.cells ds 3 (0, 0)) → w'.heap[j]? = some (.cells ds 3 (0, 0)) := by
  intro j ds hj
  rw [h.block j (Array.getElem?_eq_some_iff.1 hj).1 (fun hs => hS j hs ds hj)]
  exact hj
theorem MapIs.ne {k : TypeId} {q : IntKind} {w : World} {b n g : Nat} {z : Value} {M : Int → Option Value} (h : MapIs k q w b n z M) {cs : Array Value} {t : TypeId} {f : Nat × Nat} (hg : w.heap[g]? = some (.cells cs t f)) : b ≠ g := by
  rintro rfl
  obtain ⟨D, ⟨es, clock, hb, _⟩, _⟩ := h
  rw [hg] at hb
  cases hb
theorem irow_of {w : World} {base n c : Nat} {A : Option Addr} {l : List Int} {S : Nat → Prop} (hn : l.length = n) (h : w.ownsRow base 3 1 (.slice A n c) n (ic l)) (hS : ∀ k, base ≤ k → k < w.heap.size → S k) : IRow S w (.slice A n c) l := by
  subst hn
  refine ⟨A, c, rfl, own_base h (Nat.zero_le _), fun g hg => ?_⟩
  have := own_lt h hg
  exact hS g this.1 this.2
/-- nothing but block p and a map has turned -/
def OffX (p : Nat) (w w' : World) : Prop := ∃ b es clock, w.heap[b]? = some (.map es clock) ∧ Off (fun k => k = p ∨ k = b) w w'
theorem offX_of {p b n : Nat} {k : TypeId} {q : IntKind} {w w' : World} {z : Value} {M : Int → Option Value} (h : MapIs k q w b n z M) (o : Off (fun k => k = p ∨ k = b) w w') : OffX p w w' := by
  obtain ⟨D, ⟨es, clock, hb, _⟩, _⟩ := h
  exact ⟨b, es, clock, hb, o⟩
/-- S and what has come since -/
def GrowS (S : Nat → Prop) (w w' : World) : Nat → Prop := fun k => S k ∨ (w.heap.size ≤ k ∧ k < w'.heap.size)
/-- a source in memory: the blocks S; the number of parameters, what was taken (number 0: zeros), the base's number -/
structure SrcC (S : Nat → Prop) (w : World) (p b n last bs m : Nat) (vb : Value) (M : Int → Option Value) (all : List (List Int)) : Prop where
  lt : ∀ k, S k → k < w.heap.size
  pS : S p
  bS : S b
  box : w.heap[p]? = some (.cells #[.int .i64 n, .int .i64 last, .int .i64 bs, vb, .map (some b)] 100 (0, 0))
  map : MapIs 3 .i64 w b m (snv 0 (.slice none 0 0)) M
  m_le : m ≤ last
  len : all.length = last + 1
  tick : last ≤ 1000000
  nn : 1 ≤ n ∧ n ≤ 32
  ok : ∀ l ∈ all, l.length = n ∧ ∀ x ∈ l, fitsV x
  bs_le : bs ≤ last
  base : IRow S w vb (all.getD bs [])
  there : ∀ x : Nat, 1 ≤ x → x ≤ last → last < x + 64 → ∃ v, M x = some (snv x v) ∧ IRow S w v (all.getD x [])
  gone : ∀ x : Int, (x < 1 ∨ (last : Int) < x ∨ x + 64 ≤ (last : Int)) → M x = none
def Src (S : Nat → Prop) (w : World) (p n : Nat) (all : List (List Int)) (bs : Nat) : Prop := ∃ b last m vb M, SrcC S w p b n last bs m vb M all
theorem SrcC.same {S : Nat → Prop} {w w' : World} {p b n last bs m : Nat} {vb : Value} {M : Int → Option Value} {all : List (List Int)} (h : SrcC S w p b n last bs m vb M all) (hs : w.heap.size ≤ w'.heap.size) (k : SameOn S w w') : SrcC S w' p b n last bs m vb M all :=
  { h with
    lt := fun i hi => Nat.lt_of_lt_of_le (h.lt i hi) hs
    box := (k p h.pS).trans h.box
    map := h.map.sameAt (k b h.bS)
    base := h.base.same k
    there := fun x h1 h2 h3 => by
      obtain ⟨v, e, r⟩ := h.there x h1 h2 h3
      exact ⟨v, e, r.same k⟩ }
theorem SrcC.from {S : Nat → Prop} {w w' : World} {p b n last bs m : Nat} {vb : Value} {M : Int → Option Value} {all : List (List Int)} (h : SrcC S w p b n last bs m vb M all) (k : From w w') : SrcC S w' p b n last bs m vb M all :=
  h.same k.size (SameOn.of k h.lt)
/-- a block of five cells -/
theorem box5 {w : World} {b : Nat} {x0 x1 x2 x3 x4 : Value} {t : TypeId} (h : w.heap[b]? = some (.cells #[x0, x1, x2, x3, x4] t (0, 0))) :
    w.cell? ⟨b, 0, none⟩ = some x0 ∧ w.cell? ⟨b, 1, none⟩ = some x1 ∧ w.cell? ⟨b, 2, none⟩ = some x2 ∧ w.cell? ⟨b, 3, none⟩ = some x3 ∧ w.cell? ⟨b, 4, none⟩ = some x4 ∧
      w.frozen? ⟨b, 0, none⟩ = false ∧ w.frozen? ⟨b, 1, none⟩ = false ∧ w.frozen? ⟨b, 2, none⟩ = false ∧ w.frozen? ⟨b, 3, none⟩ = false ∧ w.frozen? ⟨b, 4, none⟩ = false ∧ b < w.heap.size :=
  ⟨by rw [cell_of_row _ _ _ _ _ _ h]; rfl, by rw [cell_of_row _ _ _ _ _ _ h]; rfl, by rw [cell_of_row _ _ _ _ _ _ h]; rfl, by rw [cell_of_row _ _ _ _ _ _ h]; rfl, by rw [cell_of_row _ _ _ _ _ _ h]; rfl,
    by simp [World.frozen?, h], by simp [World.frozen?, h], by simp [World.frozen?, h], by simp [World.frozen?, h], by simp [World.frozen?, h], (Array.getElem?_eq_some_iff.1 h).1⟩
end Go.Proofs.Ytpdbdpmlppbnnaa
