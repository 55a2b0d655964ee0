/- Plain: the row that cells make; the writes of an Open. -/
import Derived.Test.YtonkblhhknafbaaGreatF18
namespace Go.Proofs.YtonkblhhknafbaaGreat

def rowStep (rw : List (List UInt8)) (q : KC) : List (List UInt8) := rw ++ List.replicate (q.1.toNat - rw.length) [] ++ [q.2.2]
def rowOf (out : List KC) : List (List UInt8) := out.foldl rowStep []
theorem rowOf_snoc (out : List KC) (q : KC) : rowOf (out ++ [q]) = rowStep (rowOf out) q := by simp [rowOf]
/-- cells of a row: places rise, and are small -/
def Rising (out : List KC) : Prop := (out.map (·.1)).Pairwise (· < ·) ∧ ∀ q ∈ out, ∃ a : Nat, q.1 = (a : Int) ∧ a < 4096 ∧ q.2.2.length ≤ 2048
theorem Rising.init {out : List KC} {q : KC} (h : Rising (out ++ [q])) : Rising out ∧ ∀ p ∈ out, p.1 < q.1 := by
  obtain ⟨h1, h2⟩ := h
  rw [List.map_append, List.pairwise_append] at h1
  exact ⟨⟨h1.1, fun p hp => h2 p (List.mem_append_left _ hp)⟩, fun p hp => h1.2.2 p.1 (List.mem_map.2 ⟨p, hp, rfl⟩) q.1 (by simp)⟩
/-- the row's length: one more than the last place -/
theorem rowOf_len : ∀ (n : Nat) (out : List KC), out.length = n → Rising out → (∀ a : Int, (∀ p ∈ out, p.1 < a) → ((rowOf out).length : Int) ≤ max a 0) ∧ (rowOf out).length ≤ 4096 ∧ ∀ b ∈ rowOf out, b.length ≤ 2048
  | 0, out, hn, h => by
    have : out = [] := List.eq_nil_of_length_eq_zero hn
    subst this
    refine ⟨fun a _ => ?_, ?_, ?_⟩
    · show ((0 : Nat) : Int) ≤ _
      omega
    · show 0 ≤ 4096
      omega
    · intro b hb; cases hb
  | n + 1, out, hn, h => by
    obtain ⟨out', q, rfl⟩ : ∃ out' q, out = out' ++ [q] := by
      have hne : out ≠ [] := by rintro rfl; simp at hn
      exact ⟨out.dropLast, out.getLast hne, (List.dropLast_concat_getLast hne).symm⟩
    obtain ⟨h1, h2⟩ := h.init
    obtain ⟨i1, i2, i3⟩ := rowOf_len n out' (by simpa using hn) h1
    obtain ⟨a, ha, hlt, hx⟩ := h.2 q (by simp)
    have h3 := i1 q.1 h2
    have hl : (rowOf (out' ++ [q])).length = a + 1 := by
      rw [rowOf_snoc]
      simp [rowStep]
      rw [ha] at h3 ⊢
      simp
      omega
    refine ⟨fun b hb => ?_, by omega, fun b hb => ?_⟩
    · have := hb q (by simp)
      rw [hl]
      omega
    · rw [rowOf_snoc] at hb
      unfold rowStep at hb
      rcases List.mem_append.1 hb with hb | hb
      · rcases List.mem_append.1 hb with hb | hb
        · exact i3 b hb
        · rw [List.eq_of_mem_replicate hb]; simp
      · simp at hb; subst hb; exact hx
theorem rising_take {out : List KC} (h : Rising out) (k : Nat) : Rising (out.take k) := by
  refine ⟨?_, fun q hq => h.2 q (List.mem_of_mem_take hq)⟩
  rw [List.map_take]
  exact h.1.sublist (List.take_sublist _ _)
theorem sorted_len : ∀ (l : List Int) (a : Int), l.Pairwise (· < ·) → (∀ x ∈ l, a ≤ x ∧ x < 4096) → (l.length : Int) ≤ max (4096 - a) 0
  | [], a, _, _ => by simp; omega
  | x :: l, a, h, hb => by
    rw [List.pairwise_cons] at h
    have h1 := hb x (.head _)
    have ih := sorted_len l (x + 1) h.2 (fun y hy => ⟨by have := h.1 y hy; omega, (hb y (.tail _ hy)).2⟩)
    simp only [List.length_cons]
    omega

/-- the writes of an Open, one place after the other -/
def wN (room n : Nat) (bs : List Bool) (e : Nat) (rw : List (List UInt8)) (N1 : List (List Cmd)) : Nat → List (List Cmd)
  | 0 => N1
  | j + 1 => askN bs (fun ps => wstep room ps e j (rw.getD j [])) (wN room n bs e rw N1 j) n
def wK (room n : Nat) (bs : List Bool) (e : Nat) (rw : List (List UInt8)) (N1 : List (List Cmd)) (j : Nat) : Nat := askK bs (fun ps => wstep room ps e j (rw.getD j [])) (wN room n bs e rw N1 j) n
/-- what an Open comes to -/
def OpenR (room n : Nat) (bs : List Bool) (N : List (List Cmd)) (e : Nat) (r : Int) (N' : List (List Cmd)) (rw' : Option (List (List UInt8))) : Prop :=
  (askK bs (fun ps => sstep room ps e) N n < n / 2 + 1 ∧ r = 8 ∧ N' = askN bs (fun ps => sstep room ps e) N n ∧ rw' = none) ∨
  (n / 2 + 1 ≤ askK bs (fun ps => sstep room ps e) N n ∧ ∃ rs out, RepsOf bs (fun ps => sstep room ps e) N n rs ∧ Best rs out ∧ Rising out ∧ ∃ j, j ≤ (rowOf out).length ∧
    (∀ i, i < j → n / 2 + 1 ≤ wK room n bs e (rowOf out) (askN bs (fun ps => sstep room ps e) N n) i) ∧
    ((j = (rowOf out).length ∧ r = 0 ∧ N' = wN room n bs e (rowOf out) (askN bs (fun ps => sstep room ps e) N n) j ∧ rw' = some (rowOf out)) ∨
     (j < (rowOf out).length ∧ wK room n bs e (rowOf out) (askN bs (fun ps => sstep room ps e) N n) j < n / 2 + 1 ∧ r = 8 ∧ N' = wN room n bs e (rowOf out) (askN bs (fun ps => sstep room ps e) N n) (j + 1) ∧ rw' = none)))
theorem wN_len (room n : Nat) (bs : List Bool) (e : Nat) (rw : List (List UInt8)) (N1 : List (List Cmd)) (j : Nat) : (wN room n bs e rw N1 j).length = N1.length := by
  induction j with
  | zero => rfl
  | succ j ih => simp only [wN]; rw [askN_len, ih]
end Go.Proofs.YtonkblhhknafbaaGreat
