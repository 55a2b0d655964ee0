/- Words over this seat's program: rows of slices, of structs; appends onto them. -/
import Derived.Test.YtonkblhhknafbaaGreatK1
namespace Go.Proofs.YtonkblhhknafbaaGreat
open Go.RowKit

theorem Tryz.info32 : (Tryz.prog.info? 32).map (fun i => (i.zero, i.size, i.bytes)) = some (some (.slice none 0 0), 1, 24) := by kernel_rfl
theorem Tryz.info64 : (Tryz.prog.info? 64).map (fun i => (i.zero, i.size, i.bytes)) = some (some (.pointer none), 1, 8) := by kernel_rfl
theorem Tryz.info67 : (Tryz.prog.info? 67).map (fun i => (i.zero, i.size, i.bytes)) = some (some (.pointer none), 1, 8) := by kernel_rfl
theorem Tryz.info71 : (Tryz.prog.info? 71).map (fun i => (i.zero, i.size, i.bytes)) = some (some (.slice none 0 0), 1, 24) := by kernel_rfl
theorem Tryz.info77 : (Tryz.prog.info? 77).map (fun i => (i.zero, i.size, i.bytes)) = some (some (.agg #[.int .i64 0, .int .i64 0, .slice none 0 0]), 3, 40) := by kernel_rfl

/-- a row of the call's own, of whatever element type: owned cells, a slice's form -/
def Own (w : World) (base : Nat) (e : TypeId) (size : Nat) (A : Option Addr) (n c : Nat) (xs : List Value) : Prop := w.ownsRow base e size (.slice A n c) n xs

section
variable {w w' : World} {base : Nat} {e : TypeId} {size : Nat} {A : Option Addr} {n c : Nat} {xs : List Value}
theorem Own.len (h : Own w base e size A n c xs) : xs.length = n * size := h.1
theorem Own.lt (h : Own w base e size A n c xs) {k : Nat} (hk : ablk A = some k) : base ≤ k ∧ k < w.heap.size :=
  World.ownsRow.lt h k (by
    cases A with
    | none => cases hk
    | some a => exact hk)
theorem Own.cap (h : Own w base e size A n c xs) : n ≤ c ∧ c ≤ maxLen := by
  rcases h.2 with ⟨h1, h0⟩ | ⟨g, cap, cur, hv, _, _, h1, h2, _⟩
  · injection h1 with _ h1 h2
    subst h1 h2
    exact ⟨Nat.le_refl _, Nat.zero_le _⟩
  · injection hv with _ _ h3
    subst h3
    exact ⟨h1, h2⟩
theorem Own.mono {base' : Nat} (h : Own w base e size A n c xs) (hb : base' ≤ base) : Own w base' e size A n c xs := by
  refine ⟨h.1, ?_⟩
  rcases h.2 with h1 | ⟨g, cap, cur, hv, h1, r⟩
  · exact .inl h1
  · exact .inr ⟨g, cap, cur, hv, by omega, r⟩
theorem Own.keep (h : Own w base e size A n c xs) (hk : ∀ k, ablk A = some k → k < w.heap.size → w'.heap[k]? = w.heap[k]?) : Own w' base e size A n c xs := by
  refine ⟨h.1, ?_⟩
  rcases h.2 with h1 | ⟨g, cap, cur, hv, h1, hh, r⟩
  · exact .inl h1
  · refine .inr ⟨g, cap, cur, hv, h1, ?_, r⟩
    rw [hk g (by injection hv with h; rw [h]; rfl) (lt_of_block hh)]
    exact hh
theorem Own.below (h : Own w base e size A n c xs) (hb : Below w.heap.size w w') : Own w' base e size A n c xs := h.keep (fun k _ hk => hb.block k hk)
theorem Own.kp {S : Nat → Prop} (h : Own w base e size A n c xs) (hb : Kp S w w') (hn : ∀ k, ablk A = some k → k < w.heap.size → ¬ S k) : Own w' base e size A n c xs := h.keep (fun k e hk => hb.block k hk (hn k e hk))
theorem Own.setCell (h : Own w base e size A n c xs) {p : Addr} (hp : ablk A ≠ some p.block) (u : Value) : Own (w.setCell p u) base e size A n c xs :=
  h.keep (fun k e _ => Below.heap_setCell w p u k (by rintro rfl; exact hp e))
theorem Own.alloc (h : Own w base e size A n c xs) (o : Obj) : Own (w.alloc o) base e size A n c xs := World.ownsRow.alloc h o
theorem Own.drew (h : Own w base e size A n c xs) : Own w.drew base e size A n c xs := h
theorem Own.drewN (h : Own w base e size A n c xs) (k : Nat) : Own (w.drewN k) base e size A n c xs := h
theorem Own.nil (w : World) (base : Nat) (e : TypeId) (size : Nat) : Own w base e size none 0 0 [] := World.ownsRow_nil _ _ _ _
theorem Own.sl (h : Own w base e 1 A n c xs) : Sl w A n xs := Sl.of_own h
/-- where it owns an element it lies at a row's head -/
theorem Own.at_ (h : Own w base e size A n c xs) (hn : 0 < n) : ∃ g, A = some ⟨g, 0, none⟩ ∧ base ≤ g ∧ g < w.heap.size ∧ (∀ j u, xs[j]? = some u → w.cell? ⟨g, j, none⟩ = some u) ∧ (∀ j, w.frozen? ⟨g, j, none⟩ = false) ∧ ∃ cur, Blk w g e cur := by
  rcases h.2 with ⟨_, h0⟩ | ⟨g, cap, cur, hv, hb, hh, _, _, _, hx⟩
  · omega
  · injection hv with hA
    subst hA
    refine ⟨g, rfl, hb, lt_of_block hh, fun j u hu => ?_, fun j => ?_, cur, hh⟩
    · have := World.ownsRow.cells h (g := g) rfl j u hu
      simpa [Addr.add_lit] using this
    · exact Blk.free (cs := cur) (t := e) hh j
theorem Own.ne_blk {g : Nat} {t : TypeId} {cs : Array Value} (h : Own w base e size A n c xs) (hg : Blk w g t cs) (hne : e ≠ t) : ablk A ≠ some g := by
  rcases h.2 with ⟨hv, _⟩ | ⟨g', cap, cur, hv, _, hh, _⟩
  · injection hv with hA
    subst hA
    simp [ablk]
  · injection hv with hA
    subst hA
    intro he
    simp [ablk] at he
    subst he
    exact Blk.ne_ (t := e) hh hg hne rfl
theorem Own.ne_own {base' : Nat} {e' : TypeId} {size' : Nat} {A' : Option Addr} {n' c' : Nat} {xs' : List Value} (h : Own w base e size A n c xs) (h' : Own w base' e' size' A' n' c' xs') (hne : e ≠ e') {k : Nat} (hk : ablk A' = some k) : ablk A ≠ some k := by
  rcases h'.2 with ⟨hv, _⟩ | ⟨g', cap, cur, hv, _, hh, _⟩
  · injection hv with hA
    subst hA
    cases hk
  · injection hv with hA
    subst hA
    simp [ablk] at hk
    subst hk
    exact h.ne_blk (cs := cur) hh hne
end
theorem OwnB.own {w : World} {base : Nat} {A : Option Addr} {n c : Nat} {bs : List UInt8} (h : OwnB w base A n c bs) : Own w base 5 1 A n c (u8s bs) := h

/-- 'append' onto a row of the call's own, elements of one cell each -/
theorem app_gen {P : Program} {w : World} {ops : Array Oper} {rest : List Oper} {o : Oper} {a : Act} {Q : Exit → Act → World → Prop} {t e : TypeId} {z : Value} {bytes : Nat} (ht : P.underlying t = some (.slice e))
    (hinfo : (P.info? e).map (fun i => (i.zero, i.size, i.bytes)) = some (some z, 1, bytes)) (hzs : z.cells.size = 1) (hby : bytes ≤ 1000) (hgd : o.guard = none) (s x : Operand)
    (ho : o.op = .call { callee := .builtin .append, args := #[s, x], argTypes := #[t, t] })
    (base : Nat) (A0 : Option Addr) (n c0 : Nat) (xs : List Value) (hs : a.eval s = .slice A0 n c0) (hown : Own w base e 1 A0 n c0 xs)
    (A : Option Addr) (m c : Nat) (ys : List Value) (hx : a.eval x = .slice A m c) (hr : Sl w A m ys) (h1 : ∀ u ∈ ys, u.oneCell' = true)
    (hlen : n + m ≤ 100000000) (hbase : base ≤ w.heap.size)
    (h : ∀ A' c' w', Own w' base e 1 A' (n + m) c' (xs ++ ys) → w.grownBy w' (ablk A0) → (ablk A' = ablk A0 ∨ ablk A' = some w.heap.size) → wpList P ops Q rest (a.put o.dst (.slice A' (n + m) c')) w') : wpList P ops Q (o :: rest) a w := by
  obtain ⟨i0, hi0, hz0, hz1, hz2⟩ := info_parts hinfo
  have hm : (n + m) * bytes ≤ 100000000 * 1000 := Nat.mul_le_mul hlen hby
  refine wpList_append_sl hgd s x t ho base e i0 z bytes ht hi0 hz0 hz1 hz2 hzs (.slice A0 n c0) n xs hs hown A m c ys hx hr h1 (by unfold maxLen; omega) (by omega) hbase ?_
  intro v' w' h1 h2 h3
  obtain ⟨A', c', rfl⟩ := own_form h1
  rw [own_blk] at h2
  rw [own_blk, own_blk] at h3
  exact h A' c' w' h1 h2 h3

/-- one value more onto a row of slices of bytes -/
theorem app_row {w : World} {ops : Array Oper} {rest : List Oper} {o : Oper} {a : Act} {Q : Exit → Act → World → Prop} (hgd : o.guard = none) (s x : Operand)
    (ho : o.op = .call { callee := .builtin .append, args := #[s, x], argTypes := #[22, 22] })
    (base : Nat) (A0 : Option Addr) (n c0 : Nat) (xs : List Value) (hs : a.eval s = .slice A0 n c0) (hown : Own w base 32 1 A0 n c0 xs)
    (A1 : Option Addr) (n1 c1 : Nat) (W : World) (hW : w = W.alloc (.cells #[.slice A1 n1 c1] 32)) (hx : a.eval x = .slice (some ⟨W.heap.size, 0, none⟩) 1 1)
    (hlen : n + 1 ≤ 100000000) (hbase : base ≤ w.heap.size)
    (h : ∀ A' c' w', Own w' base 32 1 A' (n + 1) c' (xs ++ [.slice A1 n1 c1]) → w.grownBy w' (ablk A0) → (ablk A' = ablk A0 ∨ ablk A' = some w.heap.size) → wpList Tryz.prog ops Q rest (a.put o.dst (.slice A' (n + 1) c')) w') : wpList Tryz.prog ops Q (o :: rest) a w := by
  subst hW
  exact app_gen Tryz.underlying22 Tryz.info32 rfl (by omega) hgd s x ho base A0 n c0 xs hs hown _ 1 1 [.slice A1 n1 c1] hx (Sl.lit _ _ _ _ _ rfl rfl) (by intro u hu; simp at hu; subst hu; rfl) hlen hbase h

end Go.Proofs.YtonkblhhknafbaaGreat
