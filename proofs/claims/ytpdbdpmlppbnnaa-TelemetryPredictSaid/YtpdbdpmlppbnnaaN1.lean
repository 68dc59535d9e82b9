/-
  Plain law of layer 28: readers' states, packets written and read. No program in sight.
-/
import Derived.Test.YtpdbdpmlppbnnaaU1
namespace Go.Proofs.Ytpdbdpmlppbnnaa

/-- a reader: failed, or with the bytes that are left -/
inductive St where
  | bad (e : Int)
  | good (l : List Int)
def St.err : St → Int
  | .bad e => e
  | .good _ => 0
def rdS : St → Nat × St
  | .bad e => (0, .bad e)
  | .good l => match rdU l with
    | .err e => (0, .bad e)
    | .ok n r => (n, .good r)
def failS (s : St) (e : Int) : St := match s with
  | .bad x => .bad x
  | .good _ => .bad e
def endS : St → Int
  | .bad e => e
  | .good [] => 0
  | .good (_ :: _) => 7
/-- a state that a walk can come to -/
def OkS : St → Prop
  | .bad e => e ≠ 0
  | .good _ => True
theorem rdGo_err : ∀ (l : List Int) (k acc : Nat) (e : Int), rdGo l k acc = .err e → e = 6 ∨ e = 7
  | [], _, _, e, h => by rw [rdGo] at h; injection h with h; exact .inl h.symm
  | c :: r, k, acc, e, h => by
    rw [rdGo] at h
    split at h
    · injection h with h; exact .inr h.symm
    · split at h
      · cases h
      · exact rdGo_err r _ _ e h
theorem rdS_ok {s : St} (h : OkS s) : OkS (rdS s).2 := by
  cases s with
  | bad e => exact h
  | good l =>
    simp only [rdS]
    split
    · rename_i e he
      rcases rdGo_err _ _ _ _ he with rfl | rfl <;> simp [OkS]
    · trivial
theorem failS_ok {s : St} {e : Int} (h : OkS s) (he : e ≠ 0) : OkS (failS s e) := by
  cases s with
  | bad x => exact h
  | good l => exact he
theorem err_zero {s : St} (h : OkS s) : s.err = 0 ↔ ∃ l, s = .good l := by
  cases s with
  | bad e => constructor
             · intro h0; exact absurd h0 h
             · rintro ⟨l, hl⟩; cases hl
  | good l => exact ⟨fun _ => ⟨l, rfl⟩, fun _ => rfl⟩

def maxV : Int := 2147483647
def fitsV (n : Int) : Prop := -2147483647 ≤ n ∧ n ≤ 2147483647
instance (n : Int) : Decidable (fitsV n) := inferInstanceAs (Decidable (_ ∧ _))
/-- what is expected after a snapshot -/
def predP (vs : List Int) (bs seq : Int) : List Int := match vs with
  | [] => []
  | v :: r => min (v + seq - bs) 2147483647 :: r
theorem predP_len (vs : List Int) (bs seq : Int) : (predP vs bs seq).length = vs.length := by cases vs <;> rfl
theorem predP_fits {vs : List Int} {bs seq : Int} (h : ∀ x ∈ vs, fitsV x) (hs : bs ≤ seq) : ∀ x ∈ predP vs bs seq, fitsV x := by
  cases vs with
  | nil => intro x hx; cases hx
  | cons v r =>
    intro x hx
    rcases List.mem_cons.1 hx with rfl | hx
    · have := h v (by simp)
      unfold fitsV at *
      omega
    · exact h x (by simp [hx])

/-- a packet with some entries -/
def entB (x : Nat × Int) : List Int := encU x.1 ++ encU (zig x.2)
def pkB (bs seq mark : Nat) (es : List (Nat × Int)) : List Int := encU bs ++ encU seq ++ encU mark ++ encU es.length ++ es.flatMap entB
/-- what Encode does with the rest of an order -/
def encGo (bs seq : Nat) (room : Int) (now pred : List Int) : List Nat → List (Nat × Int) → List Int
  | [], es => pkB bs seq 1 es
  | p :: r, es => if now.getD p 0 - pred.getD p 0 = 0 then encGo bs seq room now pred r es
    else if room < ((pkB bs seq 1 (es ++ [(p, now.getD p 0 - pred.getD p 0)])).length : Int) then pkB bs seq 0 es
    else encGo bs seq room now pred r (es ++ [(p, now.getD p 0 - pred.getD p 0)])
/-- bytes and an error -/
def encP (bs : Nat) (bv : List Int) (seq : Nat) (now : List Int) (order : List Nat) (room : Int) : List Int × Int :=
  if seq ≤ bs then ([], 23) else if room < ((pkB bs seq 1 []).length : Int) then ([], 2) else (encGo bs seq room now (predP bv bs seq) order [], 0)

/-- an entry of a packet: the state behind it, the parameter and its value -/
def entryS (vals : List Int) (known : List Bool) (s : St) : St × Nat × Int :=
  let p := (rdS s).1
  let s1 := (rdS s).2
  let s2 := if vals.length ≤ p ∨ known.getD p false = true then failS s1 7 else s1
  let d := zag (rdS s2).1
  let s3 := (rdS s2).2
  let s4 := if d = 0 then failS s3 7 else s3
  let s5 := if ¬ fitsV (d.tdiv 2) ∨ ¬ fitsV (vals.getD (min p (vals.length - 1)) 0 + d) then failS s4 5 else s4
  (s5, p, vals.getD p 0 + d)
/-- what the entries say: an error, or what is known, the values and the bytes that are left -/
inductive Ent where
  | err (e : Int)
  | ok (s : St) (known : List Bool) (vals : List Int)
def entsS : Nat → St → List Bool → List Int → Ent
  | 0, s, known, vals => .ok s known vals
  | c + 1, s, known, vals => match entryS vals known s with
    | (.bad e, _, _) => .err e
    | (.good l, p, v) => entsS c (.good l) (known.set p true) (vals.set p v)
/-- what decode answers: an error, or number, values, what is known, whether complete -/
inductive Dec where
  | err (e : Int)
  | ok (seq : Nat) (vals : List Int) (known : List Bool) (all : Bool)
def finV (all : Bool) (known : List Bool) (vals : List Int) : List Int := if all then vals else List.zipWith (fun (k : Bool) v => if k then v else 0) known vals
def headS (l : List Int) (has : Nat → Option (Nat × List Int)) : St × Nat × Nat × Nat × Nat :=
  let first := (rdS (.good l)).1
  let s1 := (rdS (.good l)).2
  let s2 := match has first with | none => failS s1 43 | some _ => s1
  let seq := (rdS s2).1
  let s3 := (rdS s2).2
  let s4 := if seq ≤ first ∨ 1000000 < seq then failS s3 7 else s3
  let mark := (rdS s4).1
  let s5 := (rdS s4).2
  let s6 := if 1 < mark then failS s5 7 else s5
  let count := (rdS s6).1
  let s7 := (rdS s6).2
  let len := match has first with | none => 0 | some x => x.2.length
  let s8 := if len < count then failS s7 2 else s7
  (s8, first, seq, mark, count)
def decP (has : Nat → Option (Nat × List Int)) (l : List Int) : Dec :=
  match headS l has with
  | (.bad e, _, _, _, _) => .err e
  | (.good r, first, seq, mark, count) => match has first with
    | none => .err 43
    | some (bs, bv) => match entsS count (.good r) (List.replicate bv.length false) (predP bv bs seq) with
      | .err e => .err e
      | .ok s known vals => if endS s ≠ 0 then .err (endS s) else .ok seq (finV (mark == 1) known vals) (if mark = 1 then List.replicate bv.length true else known) (mark == 1)
end Go.Proofs.Ytpdbdpmlppbnnaa
