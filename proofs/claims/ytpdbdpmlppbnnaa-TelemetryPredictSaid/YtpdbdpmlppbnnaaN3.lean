/-
  Plain law of layer 28: a complete packet, for any greater room.
-/
import Derived.Test.YtpdbdpmlppbnnaaN2
namespace Go.Proofs.Ytpdbdpmlppbnnaa

/-- every entry of the rest fits -/
def FitsAll (bs seq : Nat) (room : Int) (nv pred : List Int) : List Nat → List (Nat × Int) → Prop
  | [], _ => True
  | p :: r, es => if nv.getD p 0 - pred.getD p 0 = 0 then FitsAll bs seq room nv pred r es
    else ((pkB bs seq 1 (es ++ [(p, nv.getD p 0 - pred.getD p 0)])).length : Int) ≤ room ∧ FitsAll bs seq room nv pred r (es ++ [(p, nv.getD p 0 - pred.getD p 0)])
theorem FitsAll.mono {bs seq : Nat} {room room' : Int} {nv pred : List Int} (hr : room ≤ room') : ∀ (r : List Nat) (es : List (Nat × Int)), FitsAll bs seq room nv pred r es → FitsAll bs seq room' nv pred r es
  | [], _, _ => trivial
  | p :: r, es, h => by
    unfold FitsAll at h ⊢
    split
    · rename_i hd
      rw [if_pos hd] at h
      exact FitsAll.mono hr r es h
    · rename_i hd
      rw [if_neg hd] at h
      exact ⟨by omega, FitsAll.mono hr r _ h.2⟩
theorem encGo_all {bs seq : Nat} {room : Int} {nv pred : List Int} : ∀ (r : List Nat) (es : List (Nat × Int)), FitsAll bs seq room nv pred r es → encGo bs seq room nv pred r es = pkB bs seq 1 (es ++ entO nv pred r)
  | [], es, _ => by rw [encGo]; simp [entO]
  | p :: r, es, h => by
    rw [encGo, entO_cons]
    unfold FitsAll at h
    split
    · rename_i hd
      rw [if_pos hd] at h
      exact encGo_all r es h
    · rename_i hd
      rw [if_neg hd] at h
      rw [if_neg (by omega), encGo_all r _ h.2, List.append_assoc]
      rfl
theorem encGo_part {bs seq : Nat} {room : Int} {nv pred : List Int} : ∀ (r : List Nat) (es : List (Nat × Int)), ¬ FitsAll bs seq room nv pred r es →
    ∃ r1 p r2, r = r1 ++ p :: r2 ∧ encGo bs seq room nv pred r es = pkB bs seq 0 (es ++ entO nv pred r1)
  | [], es, h => absurd trivial h
  | p :: r, es, h => by
    rw [encGo]
    unfold FitsAll at h
    split
    · rename_i hd
      rw [if_pos hd] at h
      obtain ⟨r1, p', r2, e, h2⟩ := encGo_part r es h
      exact ⟨p :: r1, p', r2, by rw [e]; rfl, by rw [h2, entO_cons, if_pos hd]⟩
    · rename_i hd
      rw [if_neg hd] at h
      by_cases hr : room < ((pkB bs seq 1 (es ++ [(p, nv.getD p 0 - pred.getD p 0)])).length : Int)
      · rw [if_pos hr]
        exact ⟨[], p, r, rfl, by simp [entO]⟩
      · rw [if_neg hr]
        obtain ⟨r1, p', r2, e, h2⟩ := encGo_part r _ (fun hf => h ⟨by omega, hf⟩)
        exact ⟨p :: r1, p', r2, by rw [e]; rfl, by rw [h2, entO_cons, if_neg hd, List.append_assoc]; rfl⟩
theorem entB_small (p : Nat) (d : Int) (hp : p < 128) (hd : -4294967294 ≤ d ∧ d ≤ 4294967294) : (entB (p, d)).length ≤ 6 := by
  have h1 : (encU p).length = 1 := by rw [encU_lt hp]; rfl
  have h2 := encU_len 4 (zig d) (by unfold zig; split <;> omega)
  simp only [entB, List.length_append]
  omega
theorem pkB_small (bs seq : Nat) (es : List (Nat × Int)) (hb : bs < 16384) (hs : seq < 16384) (hl : es.length < 128) (he : (es.flatMap entB).length ≤ 6 * es.length) : (pkB bs seq 1 es).length ≤ 6 + 6 * es.length := by
  have h1 := encU_len 1 bs (by omega)
  have h2 := encU_len 1 seq (by omega)
  have h3 : (encU es.length).length = 1 := by rw [encU_lt hl]; rfl
  have h4 : (encU 1).length = 1 := by rw [encU_lt (by decide)]; rfl
  simp only [pkB, List.length_append]
  omega
theorem fits_500 {bs seq n : Nat} {nv pred : List Int} (hb : bs < 16384) (hs : seq < 16384) (hn : n ≤ 64) (hN : ∀ x ∈ nv, fitsV x) (hP : ∀ x ∈ pred, fitsV x) (hln : nv.length = n) (hlp : pred.length = n) : ∀ (r : List Nat) (es : List (Nat × Int)), (∀ p ∈ r, p < n) → es.length + r.length ≤ n → (es.flatMap entB).length ≤ 6 * es.length →
    FitsAll bs seq 500 nv pred r es
  | [], _, _, _, _ => trivial
  | p :: r, es, hr, hl, he => by
    unfold FitsAll
    rw [List.length_cons] at hl
    split
    · exact fits_500 hb hs hn hN hP hln hlp r es (fun x hx => hr x (by simp [hx])) (by omega) he
    · rename_i hd
      have hp := hr p (by simp)
      have f1 := hN nv[p] (List.getElem_mem (by omega))
      have f2 := hP pred[p] (List.getElem_mem (by omega))
      have g1 := getD_nat nv p (by omega)
      have g2 := getD_nat pred p (by omega)
      unfold fitsV at f1 f2
      have hs1 := entB_small p (nv.getD p 0 - pred.getD p 0) (by omega) (by rw [g1, g2]; omega)
      have he2 : ((es ++ [(p, nv.getD p 0 - pred.getD p 0)]).flatMap entB).length ≤ 6 * (es ++ [(p, nv.getD p 0 - pred.getD p 0)]).length := by
        rw [List.flatMap_append, List.length_append, List.length_append, List.length_singleton, List.flatMap_cons, List.flatMap_nil, List.append_nil]
        omega
      have hl2 : (es ++ [(p, nv.getD p 0 - pred.getD p 0)]).length = es.length + 1 := by simp
      refine ⟨?_, fits_500 hb hs hn hN hP hln hlp r _ (fun x hx => hr x (by simp [hx])) (by rw [hl2]; omega) he2⟩
      have := pkB_small bs seq _ hb hs (by rw [hl2]; omega) he2
      rw [hl2] at this
      omega
end Go.Proofs.Ytpdbdpmlppbnnaa
