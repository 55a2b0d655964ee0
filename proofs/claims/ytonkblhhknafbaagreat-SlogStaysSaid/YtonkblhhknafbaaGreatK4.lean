/- Cells: what a map of cells and a row of cells hold. -/
import Derived.Test.YtonkblhhknafbaaGreatK3
namespace Go.Proofs.YtonkblhhknafbaaGreat
open Go.RowKit

inductive All2 {α β : Type} (R : α → β → Prop) : List α → List β → Prop
  | nil : All2 R [] []
  | cons {a b l m} : R a b → All2 R l m → All2 R (a :: l) (b :: m)

section
variable {α β : Type} {R R' : α → β → Prop} {l l' : List α} {m m' : List β}
theorem All2.len (h : All2 R l m) : l.length = m.length := by
  induction h with
  | nil => rfl
  | cons _ _ ih => simp [ih]
theorem All2.imp (h : All2 R l m) (f : ∀ a b, a ∈ l → b ∈ m → R a b → R' a b) : All2 R' l m := by
  induction h with
  | nil => exact .nil
  | cons h1 _ ih => exact .cons (f _ _ (.head _) (.head _) h1) (ih (fun a b ha hb => f a b (.tail _ ha) (.tail _ hb)))
theorem All2.app (h : All2 R l m) (h' : All2 R l' m') : All2 R (l ++ l') (m ++ m') := by
  induction h with
  | nil => exact h'
  | cons h1 _ ih => exact .cons h1 ih
theorem All2.get (h : All2 R l m) {i : Nat} {a : α} (hi : l[i]? = some a) : ∃ b, m[i]? = some b ∧ R a b := by
  induction h generalizing i with
  | nil => simp at hi
  | cons h1 _ ih =>
    cases i with
    | zero => simp at hi; subst hi; exact ⟨_, rfl, h1⟩
    | succ i => simp at hi; exact ih hi
theorem All2.get' (h : All2 R l m) {i : Nat} {b : β} (hi : m[i]? = some b) : ∃ a, l[i]? = some a ∧ R a b := by
  induction h generalizing i with
  | nil => simp at hi
  | cons h1 _ ih =>
    cases i with
    | zero => simp at hi; subst hi; exact ⟨_, rfl, h1⟩
    | succ i => simp at hi; exact ih hi
theorem All2.mem (h : All2 R l m) {a : α} (ha : a ∈ l) : ∃ b, b ∈ m ∧ R a b := by
  obtain ⟨i, hi⟩ := List.getElem?_of_mem ha
  obtain ⟨b, hb, hr⟩ := h.get hi
  exact ⟨b, List.mem_of_getElem? hb, hr⟩
theorem All2.perm {l1 : List α} (hp : l1.Perm l) : ∀ {m : List β}, All2 R l m → ∃ m1, m1.Perm m ∧ All2 R l1 m1 := by
  induction hp with
  | nil => intro m h; exact ⟨m, .refl _, h⟩
  | cons x _ ih =>
    intro m h
    cases h with
    | cons h1 h2 =>
      obtain ⟨m1, hm, h3⟩ := ih h2
      exact ⟨_, hm.cons _, .cons h1 h3⟩
  | swap x y l =>
    intro m h
    cases h with
    | cons h1 h2 =>
      cases h2 with
      | cons h3 h4 => exact ⟨_, .swap _ _ _, .cons h3 (.cons h1 h4)⟩
  | trans _ _ ih1 ih2 =>
    intro m h
    obtain ⟨m1, hp1, h1⟩ := ih2 h
    obtain ⟨m2, hp2, h2⟩ := ih1 h1
    exact ⟨m2, hp2.trans hp1, h2⟩
end

section
variable {β γ : Type} {R : Int → β → γ → Prop} {l : List (Int × β)} {m : List (Int × γ)}
/-- keyed lists that agree key by key -/
def Rel2 (R : Int → β → γ → Prop) (l : List (Int × β)) (m : List (Int × γ)) : Prop := All2 (fun p q => p.1 = q.1 ∧ R p.1 p.2 q.2) l m
theorem Rel2.keys (h : Rel2 R l m) : l.map (·.1) = m.map (·.1) := by
  unfold Rel2 at h
  induction h with
  | nil => rfl
  | cons h1 _ ih => simp [h1.1, ih]
theorem Rel2.nodup (h : Rel2 R l m) : Keys l ↔ Keys m := by unfold Keys; rw [h.keys]
theorem Rel2.none (h : Rel2 R l m) {k : Int} (hn : look m k = none) : look l k = none := by
  refine look_none (fun p hp e => ?_)
  have : k ∈ m.map (·.1) := by rw [← h.keys]; exact List.mem_map.2 ⟨p, hp, e⟩
  obtain ⟨q, hq, e2⟩ := List.mem_map.1 this
  exact look_none_iff.1 hn q hq e2
theorem Rel2.some (h : Rel2 R l m) {k : Int} {c : γ} (hs : look m k = some c) : ∃ v, look l k = some v ∧ R k v c := by
  unfold Rel2 at h
  induction h with
  | nil => cases hs
  | @cons p q l' m' h1 h2 ih =>
    obtain ⟨hk, hr⟩ := h1
    unfold look at hs ih ⊢
    by_cases e : q.1 = k
    · rw [List.find?_cons_of_pos (by simpa using e)] at hs
      rw [List.find?_cons_of_pos (by simp [hk, e])]
      simp at hs
      subst hs
      refine ⟨p.2, rfl, ?_⟩
      rw [← e, ← hk]; exact hr
    · rw [List.find?_cons_of_neg (by simpa using e)] at hs
      rw [List.find?_cons_of_neg (by simp [hk, e])]
      exact ih hs
theorem Rel2.upd (h : Rel2 R l m) {k : Int} {v : β} {c : γ} (hr : R k v c) : Rel2 R (upd l k v) (upd m k c) := by
  cases hm : look m k with
  | none =>
    have hl := h.none hm
    unfold YtonkblhhknafbaaGreat.upd
    rw [hm, hl]
    exact All2.app h (.cons ⟨rfl, hr⟩ .nil)
  | some c0 =>
    obtain ⟨v0, hl, _⟩ := h.some hm
    unfold YtonkblhhknafbaaGreat.upd
    rw [hm, hl]
    simp only []
    clear hm hl
    unfold Rel2 at h ⊢
    induction h with
    | nil => exact .nil
    | @cons p q l' m' h1 h2 ih =>
      simp only [List.map_cons]
      refine .cons ?_ ih
      obtain ⟨hk, hr'⟩ := h1
      by_cases e : q.1 = k
      · rw [if_pos e, if_pos (hk.trans e)]
        exact ⟨rfl, hr⟩
      · rw [if_neg e, if_neg (fun h => e (hk ▸ h))]
        exact ⟨hk, hr'⟩
end

/-- what a cell in the map reads as: its epoch and its bytes -/
def CellV (w : World) (F : Nat → Prop) (at_ : Int) (v : Value) (c : Nat × List UInt8) : Prop :=
  ∃ A n k, v = .agg #[.int .i64 at_, .int .i64 (c.1 : Int), .slice A n k] ∧ Sl w A n (u8s c.2) ∧ n ≤ k ∧ k ≤ maxLen ∧ ∀ g, ablk A = some g → F g ∧ g < w.heap.size
theorem CellV.keep {w w' : World} {F F' : Nat → Prop} {at_ : Int} {v : Value} {c : Nat × List UInt8} (h : CellV w F at_ v c) (hz : w.heap.size ≤ w'.heap.size) (hk : ∀ k, F k → k < w.heap.size → w'.heap[k]? = w.heap[k]?) (hF : ∀ k, F k → F' k) : CellV w' F' at_ v c := by
  obtain ⟨A, n, k, rfl, h1, h2, h3, h4⟩ := h
  exact ⟨A, n, k, rfl, h1.keep hz (fun g e hlt => hk g (h4 g e).1 hlt), h2, h3, fun g e => ⟨hF g (h4 g e).1, Nat.lt_of_lt_of_le (h4 g e).2 hz⟩⟩

/-- a cell as a row of cells has it -/
structure CV where
  at_ : Int
  ep : Int
  A : Option Addr
  n : Nat
  c : Nat
def CV.vals (v : CV) : List Value := [.int .i64 v.at_, .int .i64 v.ep, .slice v.A v.n v.c]
def CV.agg (v : CV) : Value := .agg #[.int .i64 v.at_, .int .i64 v.ep, .slice v.A v.n v.c]
def flat (l : List CV) : List Value := l.flatMap CV.vals
theorem flat_len (l : List CV) : (flat l).length = l.length * 3 := by
  induction l with
  | nil => rfl
  | cons v l ih =>
    have : flat (v :: l) = v.vals ++ flat l := rfl
    rw [this, List.length_append, ih]
    simp [CV.vals]; omega
theorem flat_app (a b : List CV) : flat (a ++ b) = flat a ++ flat b := by simp [flat]
theorem flat_get : ∀ (l : List CV) (i : Nat) (v : CV), l[i]? = some v → (flat l)[i * 3]? = some (.int .i64 v.at_) ∧ (flat l)[i * 3 + 1]? = some (.int .i64 v.ep) ∧ (flat l)[i * 3 + 2]? = some (.slice v.A v.n v.c)
  | [], i, v, h => by simp at h
  | u :: l, 0, v, h => by
    simp at h
    subst h
    exact ⟨rfl, rfl, rfl⟩
  | u :: l, i + 1, v, h => by
    have ih := flat_get l i v (by simpa using h)
    have e : flat (u :: l) = [.int .i64 u.at_, .int .i64 u.ep, .slice u.A u.n u.c] ++ flat l := rfl
    rw [e, show (i + 1) * 3 = 3 + i * 3 by omega]
    refine ⟨?_, ?_, ?_⟩
    · rw [List.getElem?_append_right (by simp), show 3 + i * 3 - List.length [Value.int .i64 u.at_, .int .i64 u.ep, .slice u.A u.n u.c] = i * 3 by simp]
      exact ih.1
    · rw [List.getElem?_append_right (by simp; omega), show 3 + i * 3 + 1 - List.length [Value.int .i64 u.at_, .int .i64 u.ep, .slice u.A u.n u.c] = i * 3 + 1 by simp; omega]
      exact ih.2.1
    · rw [List.getElem?_append_right (by simp; omega), show 3 + i * 3 + 2 - List.length [Value.int .i64 u.at_, .int .i64 u.ep, .slice u.A u.n u.c] = i * 3 + 2 by simp; omega]
      exact ih.2.2

/-- a cell: place, epoch, bytes -/
structure Cel where
  at_ : Nat
  ep : Nat
  x : List UInt8
def CvR (w : World) (F : Nat → Prop) (v : CV) (c : Cel) : Prop :=
  v.at_ = (c.at_ : Int) ∧ v.ep = (c.ep : Int) ∧ Sl w v.A v.n (u8s c.x) ∧ v.n ≤ v.c ∧ v.c ≤ maxLen ∧ ∀ g, ablk v.A = some g → F g ∧ g < w.heap.size
theorem CvR.keep {w w' : World} {F F' : Nat → Prop} {v : CV} {c : Cel} (h : CvR w F v c) (hz : w.heap.size ≤ w'.heap.size) (hk : ∀ k, F k → k < w.heap.size → w'.heap[k]? = w.heap[k]?) (hF : ∀ k, F k → F' k) : CvR w' F' v c := by
  obtain ⟨h1, h2, h3, h4, h5, h6⟩ := h
  exact ⟨h1, h2, h3.keep hz (fun g e hlt => hk g (h6 g e).1 hlt), h4, h5, fun g e => ⟨hF g (h6 g e).1, Nat.lt_of_lt_of_le (h6 g e).2 hz⟩⟩

/-- a row of cells of the call's own -/
def RowC (w : World) (base : Nat) (A : Option Addr) (m c : Nat) (cs : List Cel) : Prop :=
  ∃ vs, Own w base 77 3 A m c (flat vs) ∧ All2 (CvR w (base ≤ ·)) vs cs
theorem RowC.len {w : World} {base : Nat} {A : Option Addr} {m c : Nat} {cs : List Cel} (h : RowC w base A m c cs) : m = cs.length := by
  obtain ⟨vs, h1, h2⟩ := h
  have := h1.len
  rw [flat_len, h2.len] at this
  omega
theorem RowC.keep {w w' : World} {base : Nat} {A : Option Addr} {m c : Nat} {cs : List Cel} (h : RowC w base A m c cs) (hz : w.heap.size ≤ w'.heap.size) (hk : ∀ k, base ≤ k → k < w.heap.size → w'.heap[k]? = w.heap[k]?) : RowC w' base A m c cs := by
  obtain ⟨vs, h1, h2⟩ := h
  exact ⟨vs, h1.keep (fun k e hlt => hk k (h1.lt e).1 hlt), h2.imp (fun v c _ _ h => h.keep hz hk (fun _ h => h))⟩
theorem RowC.below {w w' : World} {base : Nat} {A : Option Addr} {m c : Nat} {cs : List Cel} (h : RowC w base A m c cs) (hb : Below w.heap.size w w') : RowC w' base A m c cs := h.keep hb.size (fun k _ hk => hb.block k hk)
theorem RowC.mono {w : World} {base base' : Nat} {A : Option Addr} {m c : Nat} {cs : List Cel} (h : RowC w base A m c cs) (hb : base' ≤ base) : RowC w base' A m c cs := by
  obtain ⟨vs, h1, h2⟩ := h
  exact ⟨vs, h1.mono hb, h2.imp (fun v c _ _ h => h.keep (Nat.le_refl _) (fun _ _ _ => rfl) (fun k h => Nat.le_trans hb h))⟩

/-- one cell more onto a row of cells -/
theorem app_cell {w : World} {ops : Array Oper} {rest : List Oper} {o : Oper} {a : Act} {Q : Exit → Act → World → Prop} (hgd : o.guard = none) (s x : Operand)
    (ho : o.op = .call { callee := .builtin .append, args := #[s, x], argTypes := #[71, 71] })
    (base : Nat) (A0 : Option Addr) (n c0 : Nat) (vs : List CV) (hs : a.eval s = .slice A0 n c0) (hown : Own w base 77 3 A0 n c0 (flat vs))
    (v : CV) (W : World) (hW : w = W.alloc (.cells #[.int .i64 v.at_, .int .i64 v.ep, .slice v.A v.n v.c] 77)) (hx : a.eval x = .slice (some ⟨W.heap.size, 0, none⟩) 1 1)
    (hlen : n + 1 ≤ 100000000) (hbase : base ≤ w.heap.size)
    (h : ∀ A' c' w', Own w' base 77 3 A' (n + 1) c' (flat (vs ++ [v])) → w.grownBy w' (ablk A0) → (ablk A' = ablk A0 ∨ ablk A' = some w.heap.size) → wpList Tryz.prog ops Q rest (a.put o.dst (.slice A' (n + 1) c')) w') : wpList Tryz.prog ops Q (o :: rest) a w := by
  refine wpList_plain hgd fun K' hK' => ?_
  obtain ⟨i0, hi0, hz0, hz1, hz2⟩ := info_parts Tryz.info77
  subst hW
  obtain ⟨v', w', hrun, h2, h3, _, h4⟩ := run_append_own_at (P := Tryz.prog) (W.alloc (.cells #[.int .i64 v.at_, .int .i64 v.ep, .slice v.A v.n v.c] 77)) base 71 o.type 77 i0 _ 3 40 Tryz.underlying71 hi0 hz0 hz1 hz2 rfl (by omega) (.slice A0 n c0) n (flat vs) hown ⟨W.heap.size, 0, none⟩ 1 1 v.vals rfl
    (fun j u hu => by
      rw [Addr.add_lit, Nat.zero_add, World.cell?_alloc_at _ _ _ _ rfl]
      simpa [CV.vals] using hu) (by intro u hu; simp [CV.vals] at hu; rcases hu with rfl | rfl | rfl <;> rfl) (by unfold maxLen; omega) (by omega) hbase
  obtain ⟨A', c', rfl⟩ := own_form h2
  rw [own_blk] at h3
  rw [own_blk, own_blk] at h4
  have e : flat vs ++ v.vals = flat (vs ++ [v]) := by rw [flat_app]; simp [flat]
  rw [e] at h2
  unfold Oper.wp
  simp only [execOp, ho, resolve, invoke, builtin, Sem.run_bind, Sem.run_pure, Result.andThen_ok, List.map_toArray, List.map_cons, List.map_nil, hs, hx, hrun]
  exact hK' _ _ (h A' c' w' h2 h3 h4)
end Go.Proofs.YtonkblhhknafbaaGreat
