/-
  Layer 28: rows of rows of one's own; the state of TelemetrySync's loop; taken.
-/
import Derived.Test.YtpdbdpmlppbnnaaV5
import Derived.Test.YtpdbdpmlppbnnaaV6
import Derived.Test.YtpdbdpmlppbnnaaN8
import Derived.Test.YtpdbdpmlppbnnaaS5
namespace Go.Proofs.Ytpdbdpmlppbnnaa
open Go.RowKit Go.Shelf

/-- bytes of one's own, in a block of S -/
def YRw (S : Nat → Prop) (w : World) (v : Value) (l : List Int) : Prop := ∃ A c, v = .slice A l.length c ∧ w.ownsRow 0 5 1 (.slice A l.length c) l.length (yc l) ∧ (∀ g, (Value.slice A l.length c).ownBlock = some g → S g) ∧ bytes l ∧ l.length ≤ 140737488355328
theorem YRw.byts {S : Nat → Prop} {w : World} {v : Value} {l : List Int} (h : YRw S w v l) : Byts w v l := by
  obtain ⟨A, c, rfl, h, _⟩ := h
  exact sl_of_own h
theorem YRw.form {S : Nat → Prop} {w : World} {v : Value} {l : List Int} (h : YRw S w v l) : ∃ A c, v = .slice A l.length c := by
  obtain ⟨A, c, rfl, _, _⟩ := h
  exact ⟨A, c, rfl⟩
theorem YRw.mono {S T : Nat → Prop} {w : World} {v : Value} {l : List Int} (h : YRw S w v l) (hs : ∀ k, S k → T k) : YRw T w v l := by
  obtain ⟨A, c, e, h1, h2, h3⟩ := h
  exact ⟨A, c, e, h1, fun g hg => hs g (h2 g hg), h3⟩
theorem YRw.same {S : Nat → Prop} {w w' : World} {v : Value} {l : List Int} (h : YRw S w v l) (k : SameOn S w w') : YRw S w' v l := by
  obtain ⟨A, c, rfl, ⟨h1, h2⟩, h3, h4⟩ := h
  refine ⟨A, c, rfl, ⟨h1, ?_⟩, h3, h4⟩
  rcases h2 with h2 | ⟨g, cap, cur, hv, hg, hh, r⟩
  · exact .inl h2
  · exact .inr ⟨g, cap, cur, hv, hg, (k g (h3 g (by rw [hv]; simp [Value.ownBlock]))).trans hh, r⟩
theorem yrw_of {w : World} {base n c : Nat} {A : Option Addr} {l : List Int} {S : Nat → Prop} (hn : l.length = n) (h : w.ownsRow base 5 1 (.slice A n c) n (yc l)) (hS : ∀ k, base ≤ k → k < w.heap.size → S k) (hb : bytes l) (hl : l.length ≤ 140737488355328) : YRw S w (.slice A n c) l := by
  subst hn
  refine ⟨A, c, rfl, own_base h (Nat.zero_le _), fun g hg => ?_, hb, hl⟩
  have := own_lt h hg
  exact hS g this.1 this.2
/-- what elements of such a row must satisfy: ty is the type of their cells -/
structure ElK (E : (Nat → Prop) → World → Value → List Int → Prop) (ty : TypeId) : Prop where
  same : ∀ {S w w' v l}, E S w v l → SameOn S w w' → E S w' v l
  mono : ∀ {S T w v l}, E S w v l → (∀ k, S k → T k) → E T w v l
  one : ∀ {S w v l}, E S w v l → v.oneCell' = true
  off : ∀ {S : Nat → Prop} {w v l b} {cs : Array Value} {t : TypeId}, E S w v l → w.heap[b]? = some (.cells cs t (0, 0)) → t ≠ ty → E (fun k => S k ∧ k ≠ b) w v l
theorem own_offB {w : World} {base size n g b : Nat} {e t : TypeId} {A : Option Addr} {c : Nat} {xs : List Value} {cs : Array Value} (h : w.ownsRow base e size (.slice A n c) n xs) (hg : (Value.slice A n c).ownBlock = some g) (hb : w.heap[b]? = some (.cells cs t (0, 0))) (ht : t ≠ e) : g ≠ b := by
  rcases h.2 with ⟨hv, _⟩ | ⟨g', cap, cur, hv, _, hh, _⟩
  · rw [hv] at hg; simp [Value.ownBlock] at hg
  · rw [hv] at hg
    simp [Value.ownBlock] at hg
    subst hg
    exact cells_ne hh hb (Ne.symm ht)
theorem iElK : ElK IRow 3 := ⟨fun h k => h.same k, fun h k => h.mono k, fun h => by obtain ⟨A, c, rfl, _⟩ := h; rfl, fun h hb ht => by
  obtain ⟨A, c, rfl, h1, h2⟩ := h
  exact ⟨A, c, rfl, h1, fun g hg => ⟨h2 g hg, own_offB h1 hg hb ht⟩⟩⟩
theorem yElK : ElK YRw 5 := ⟨fun h k => h.same k, fun h k => h.mono k, fun h => by obtain ⟨A, c, rfl, _⟩ := h; rfl, fun h hb ht => by
  obtain ⟨A, c, rfl, h1, h2, h3⟩ := h
  exact ⟨A, c, rfl, h1, fun g hg => ⟨h2 g hg, own_offB h1 hg hb ht⟩, h3⟩⟩
/-- a row of rows of one's own, all in blocks of S -/
def RowsOf (E : (Nat → Prop) → World → Value → List Int → Prop) (S : Nat → Prop) (t : TypeId) (w : World) (v : Value) (ls : List (List Int)) : Prop :=
  ∃ A c vs, v = .slice A ls.length c ∧ w.ownsRow 0 t 1 (.slice A ls.length c) ls.length vs ∧ (∀ g, (Value.slice A ls.length c).ownBlock = some g → S g) ∧ ∀ k (hk : k < ls.length), ∃ u, vs[k]? = some u ∧ E S w u ls[k]
theorem RowsOf.same {E : (Nat → Prop) → World → Value → List Int → Prop} {ty : TypeId} (K : ElK E ty) {S : Nat → Prop} {t : TypeId} {w w' : World} {v : Value} {ls : List (List Int)} (h : RowsOf E S t w v ls) (k : SameOn S w w') : RowsOf E S t w' v ls := by
  obtain ⟨A, c, vs, rfl, ⟨h1, h2⟩, h3, h4⟩ := h
  refine ⟨A, c, vs, rfl, ⟨h1, ?_⟩, h3, fun j hj => ?_⟩
  · rcases h2 with h2 | ⟨g, cap, cur, hv, hg, hh, r⟩
    · exact .inl h2
    · exact .inr ⟨g, cap, cur, hv, hg, (k g (h3 g (by rw [hv]; simp [Value.ownBlock]))).trans hh, r⟩
  · obtain ⟨u, e, r⟩ := h4 j hj
    exact ⟨u, e, K.same r k⟩
theorem rowsOf_nil (E : (Nat → Prop) → World → Value → List Int → Prop) (S : Nat → Prop) (t : TypeId) (w : World) : RowsOf E S t w (.slice none 0 0) [] :=
  ⟨none, 0, [], rfl, own_nil _ _ _ _, fun g hg => by simp [Value.ownBlock] at hg, fun k hk => absurd hk (Nat.not_lt_zero _)⟩
theorem RowsOf.at_ {E : (Nat → Prop) → World → Value → List Int → Prop} {S : Nat → Prop} {t : TypeId} {w : World} {v : Value} {ls : List (List Int)} (h : RowsOf E S t w v ls) {k : Nat} (hk : k < ls.length) :
    ∃ g c u, v = .slice (some ⟨g, 0, none⟩) ls.length c ∧ w.cell? ⟨g, k, none⟩ = some u ∧ E S w u ls[k] := by
  obtain ⟨A, c, vs, rfl, ho, _, h4⟩ := h
  obtain ⟨u, e, r⟩ := h4 k hk
  obtain ⟨g, cap, hv, _⟩ := ho.form (by omega)
  injection hv with hv _ _
  subst hv
  exact ⟨g, c, u, rfl, (own_cell ho e).1, r⟩
/-- behind an append -/
theorem RowsOf.app {E : (Nat → Prop) → World → Value → List Int → Prop} {ty : TypeId} (K : ElK E ty) {S T : Nat → Prop} {t : TypeId} {w w3 : World} {A A3 : Option Addr} {N c c3 : Nat} {vs : List Value} {u : Value} {ls : List (List Int)} {l : List Int} (hN : N = ls.length)
    (ho : w.ownsRow 0 t 1 (.slice A N c) N vs) (hS : ∀ g, (Value.slice A N c).ownBlock = some g → S g) (h4 : ∀ k (hk : k < ls.length), ∃ u, vs[k]? = some u ∧ E S w u ls[k]) (hu : E T w u l) (hty : t ≠ ty)
    (hlt : ∀ k, S k ∨ T k → k < w.heap.size) (o3 : w3.ownsRow 0 t 1 (.slice A3 (N + 1) c3) (N + 1) (vs ++ [u])) (g3 : w.grownBy w3 (Value.slice A N c).ownBlock)
    (r3 : ∀ r, (Value.slice A3 (N + 1) c3).ownBlock = some r → (Value.slice A N c).ownBlock = some r ∨ w.heap.size ≤ r) : RowsOf E (fun k => S k ∨ T k ∨ (w.heap.size ≤ k ∧ k < w3.heap.size)) t w3 (.slice A3 (N + 1) c3) (ls ++ [l]) ∧ Off S w w3 := by
  have hl : (ls ++ [l]).length = N + 1 := by simp [hN]
  have hmv : ∀ (U : Nat → Prop) (v : Value) (m : List Int), (∀ k, U k → S k ∨ T k) → E U w v m → E U w3 v m := fun U v m hU hE => by
    rcases ho.2 with ⟨hv, _⟩ | ⟨g, cap, cur, hv, _, hh, _⟩
    · refine K.same hE (fun j hj => g3.block j (hlt j (hU j hj)) ?_)
      rw [hv]
      simp [Value.ownBlock]
    · refine K.mono (K.same (K.off hE hh hty) (fun j hj => g3.block j (hlt j (hU j hj.1)) ?_)) (fun j hj => hj.1)
      rw [hv]
      simpa [Value.ownBlock] using hj.2
  refine ⟨⟨A3, c3, vs ++ [u], by rw [hl], by rw [hl]; exact o3, fun g hg => ?_, fun k hk => ?_⟩, ⟨g3.os, g3.tape, g3.output, g3.size, fun k hk hn => g3.block k hk (fun e => hn (hS k e.symm))⟩⟩
  · rw [hl] at hg
    rcases r3 g hg with h | h
    · exact .inl (hS g h)
    · exact .inr (.inr ⟨h, (own_lt o3 hg).2⟩)
  · have hvl : vs.length = N := by have := ho.1; omega
    by_cases hk2 : k < ls.length
    · obtain ⟨u', e, r⟩ := h4 k hk2
      refine ⟨u', by rw [List.getElem?_append_left (by omega)]; exact e, ?_⟩
      rw [List.getElem_append_left hk2]
      exact K.mono (hmv _ _ _ (fun j hj => .inl hj) r) (fun j hj => .inl hj)
    · have hkN : k = N := by simp at hk; omega
      subst hkN
      refine ⟨u, by rw [List.getElem?_append_right (by omega), hvl]; simp, ?_⟩
      have : (ls ++ [l])[k] = l := by rw [List.getElem_append_right (by omega)]; simp [hN]
      rw [this]
      exact K.mono (hmv _ _ _ (fun j hj => .inr hj) hu) (fun j hj => .inr (.inl hj))
end Go.Proofs.Ytpdbdpmlppbnnaa
