/-
  Walks of layer 30: diagnose.subsets as an iterator; what a range over it owes.
-/
import Derived.Test.YtgfmnolghbiedaaDoorK6
namespace Go.Proofs.YtgfmnolghbiedaaDoor
open Go.RowKit Go.Shelf
attribute [local go_sem] Oper.semAt_some

theorem subsets_calls (A : Option Addr) (n c : Nat) (k : Int) (w : World) :
    Calls Tryd.prog 51 #[.slice A n c, .int .i64 k] w fun e w' => e = .returned (.func (.func 54) #[] #[.pointer (some ⟨w.heap.size, 0, none⟩), .pointer (some ⟨w.heap.size + 1, 0, none⟩)]) ∧
      w' = (w.alloc (.cells #[.slice A n c] 32)).alloc (.cells #[.int .i64 k] 3) := by
  go_enter Tryd.func51, Tryd.ntmps51
  go_wp2
  go_ret
  exact ⟨rfl, rfl⟩
theorem sets_feeds (n bl bk : Nat) (A : Option Addr) (c : Nat) (l : List Int) (k : Nat) (w0 : World) (hbl : bl < w0.heap.size) (hbk : bk < w0.heap.size)
    (hl : w0.cell? ⟨bl, 0, none⟩ = some (.slice A l.length c)) (hk : w0.cell? ⟨bk, 0, none⟩ = some (.int .i64 k)) (hrow : IRow w0 none A c l) (hk100 : k ≤ 100) :
    Feeds n Tryd.prog 54 #[.pointer (some ⟨bl, 0, none⟩), .pointer (some ⟨bk, 0, none⟩)] (fun x : Slc => #[x.v]) (ElS (subs l k)) RowS (KInt none) (fun xs => xs.map (·.s) = subs l k) (fun xs => xs.map (·.s) <+: subs l k) w0 := by
  intro lp J Jx W hW hJ _ hY h0
  refine callsIn_wide.2 ?_
  have hl' := (hW.cell (p := ⟨bl, 0, none⟩) hbl).trans hl
  have hk' := (hW.cell (p := ⟨bk, 0, none⟩) hbk).trans hk
  have hrow' : IRow W (Value.slice none 0 0).ownBlock A c l := hrow.moved (KInt.of_grown (grown_of_below hW none)) (fun r e => by cases e)
  have hcall := extend_calls (subs l k) lp W.heap.size J Jx hJ hY k (.slice none 0 0) [] A c l [] W (World.ownsRow_nil _ _ _ _) (Nat.le_refl _) (by simpa using hk100) hrow' h0 (by simp) (by simp)
  go_enter Tryd.func54, Tryd.ntmps54
  go_wp2_with fail
  refine hcall.mono ?_
  intro e Y h
  rcases h with ⟨rfl, ys, hys, hj, _⟩ | ⟨rfl, ys, hys, hj⟩
  · go_wp2
    go_end0
    exact ⟨⟨_, rfl⟩, .inl ⟨ys, by simpa using hys, by simpa using hj⟩⟩
  · go_wp2
    go_end0
    exact ⟨⟨_, rfl⟩, .inr ⟨ys, by simpa using hys, by simpa using hj⟩⟩
end Go.Proofs.YtgfmnolghbiedaaDoor
