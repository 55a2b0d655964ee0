/- Plain: a node's commands, and what they come to. -/
import Derived.Test.YtonkblhhknafbaaGreatK4
namespace Go.Proofs.YtonkblhhknafbaaGreat

inductive Cmd where
  | up (e : Nat)
  | write (e at_ : Nat) (x : List UInt8)
def Cmd.enc : Cmd → List UInt8
  | .up e => uvar 2 ++ uvar e
  | .write e a x => uvar 1 ++ (uvar e ++ (uvar a ++ (uvar x.length ++ x)))
def Cmd.Ok : Cmd → Prop
  | .up e => e ≤ 1048576
  | .write e a x => e ≤ 1048576 ∧ a < 4096 ∧ x.length ≤ 2048
structure St where
  E : Nat
  cs : List (Int × (Nat × List UInt8))
def St.none : St := ⟨0, []⟩
/-- does a write of that epoch lay a new cell? -/
def fresh (s : St) (e a : Nat) : Bool :=
  match look s.cs (a : Int) with
  | Option.none => true
  | some (e0, _) => decide (e0 < e)
def act (s : St) : Cmd → St
  | .up e => if s.E < e then { s with E := e } else s
  | .write e a x => if e < s.E then s else if fresh s e a then { s with cs := upd s.cs (a : Int) (e, x) } else s
def acts (s : St) (l : List Cmd) : St := l.foldl act s
theorem acts_app (s : St) (a b : List Cmd) : acts s (a ++ b) = acts (acts s a) b := by simp [acts]
theorem acts_snoc (s : St) (a : List Cmd) (c : Cmd) : acts s (a ++ [c]) = act (acts s a) c := by simp [acts]
theorem Cmd.enc_len {c : Cmd} (h : c.Ok) : c.enc.length ≤ 2060 := by
  cases c with
  | up e =>
    simp only [Cmd.Ok] at h
    have h1 := uvar_len4 2 (by omega)
    have h2 := uvar_len4 e (by omega)
    simp only [Cmd.enc, List.length_append]
    omega
  | write e a x =>
    simp only [Cmd.Ok] at h
    have h1 := uvar_len1 1 (by omega)
    have h2 := uvar_len3 e (by omega)
    have h3 := uvar_len2 a (by omega)
    have h4 := uvar_len2 x.length (by omega)
    simp only [Cmd.enc, List.length_append]
    omega
end Go.Proofs.YtonkblhhknafbaaGreat
