/- Words over this seat's program: bytes of the call's own, the append of bytes. -/
import Derived.Test.YtonkblhhknafbaaGreatProg
import Derived.Test.YtonkblhhknafbaaGreatK0
import Derived.Test.YtonkblhhknafbaaGreatP0
namespace Go.Proofs.YtonkblhhknafbaaGreat
open Go.RowKit

def Hold (p : Prop) : Prop := p
theorem hold {p : Prop} (h : Hold p) : p := h
theorem hide {p : Prop} (h : p) : Hid p := h
theorem unhold {p : Prop} (h : p) : Hold p := h

theorem Tryz.info5 : (Tryz.prog.info? 5).map (fun i => (i.zero, i.size, i.bytes)) = some (some (.int .u8 0), 1, 1) := by kernel_rfl

/-- a row of bytes of the call's own -/
def OwnB (w : World) (base : Nat) (A : Option Addr) (n c : Nat) (bs : List UInt8) : Prop := w.ownsRow base 5 1 (.slice A n c) n (u8s bs)

section
variable {w w' : World} {base : Nat} {A : Option Addr} {n c : Nat} {bs : List UInt8}
theorem OwnB.len (h : OwnB w base A n c bs) : bs.length = n := by have := h.1; rw [u8s_len, Nat.mul_one] at this; exact this
theorem OwnB.cap (h : OwnB w base A n c bs) : n ≤ c ∧ c ≤ maxLen := by
  rcases h.2 with ⟨h1, h0⟩ | ⟨g, cap, cur, hv, _, _, h1, h2, _⟩
  · injection h1 with _ h1 h2
    subst h1 h2
    exact ⟨Nat.le_refl _, Nat.zero_le _⟩
  · injection hv with _ _ h3
    subst h3
    exact ⟨h1, h2⟩
theorem OwnB.sl (h : OwnB w base A n c bs) : Sl w A n (u8s bs) := Sl.of_own h
theorem OwnB.lt (h : OwnB w base A n c bs) {k : Nat} (hk : ablk A = some k) : base ≤ k ∧ k < w.heap.size :=
  World.ownsRow.lt h k (by
    cases A with
    | none => cases hk
    | some a => exact hk)
theorem OwnB.alloc (h : OwnB w base A n c bs) (o : Obj) : OwnB (w.alloc o) base A n c bs := World.ownsRow.alloc h o
theorem OwnB.drew (h : OwnB w base A n c bs) : OwnB w.drew base A n c bs := h
theorem OwnB.drewN (h : OwnB w base A n c bs) (k : Nat) : OwnB (w.drewN k) base A n c bs := h
theorem OwnB.mono {base' : Nat} (h : OwnB w base A n c bs) (hb : base' ≤ base) : OwnB w base' A n c bs := by
  refine ⟨h.1, ?_⟩
  rcases h.2 with h1 | ⟨g, cap, cur, hv, h1, r⟩
  · exact .inl h1
  · exact .inr ⟨g, cap, cur, hv, by omega, r⟩
theorem OwnB.keep (h : OwnB w base A n c bs) (hk : ∀ k, ablk A = some k → k < w.heap.size → w'.heap[k]? = w.heap[k]?) : OwnB w' base A n c bs := by
  refine ⟨h.1, ?_⟩
  rcases h.2 with h1 | ⟨g, cap, cur, hv, h1, hh, r⟩
  · exact .inl h1
  · refine .inr ⟨g, cap, cur, hv, h1, ?_, r⟩
    rw [hk g (by injection hv with h; rw [h]; rfl) (lt_of_block hh)]
    exact hh
theorem OwnB.below (h : OwnB w base A n c bs) (hb : Below w.heap.size w w') : OwnB w' base A n c bs := h.keep (fun k _ hk => hb.block k hk)
theorem OwnB.kp {S : Nat → Prop} (h : OwnB w base A n c bs) (hb : Kp S w w') (hn : ∀ k, ablk A = some k → k < w.heap.size → ¬ S k) : OwnB w' base A n c bs := h.keep (fun k e hk => hb.block k hk (hn k e hk))
theorem OwnB.setCell (h : OwnB w base A n c bs) {p : Addr} (hp : ablk A ≠ some p.block) (u : Value) : OwnB (w.setCell p u) base A n c bs :=
  h.keep (fun k e _ => Below.heap_setCell w p u k (by rintro rfl; exact hp e))
end
theorem OwnB.lit (w : World) (base : Nat) (cs : Array Value) (n : Nat) (bs : List UInt8) (hb : base ≤ w.heap.size) (hn : bs.length = n) (hl : n ≤ 1000000) (h : cs.toList = u8s bs) :
    OwnB (w.alloc (.cells cs 5)) base (some ⟨w.heap.size, 0, none⟩) n n bs := by
  unfold OwnB
  rw [← h]
  exact World.ownsRow_lit w cs n hb (by unfold maxLen; omega) (by rw [← Array.length_toList, h, u8s_len, hn, Nat.mul_one])
theorem OwnB.nil (w : World) (base : Nat) : OwnB w base none 0 0 [] := World.ownsRow_nil _ _ _ _

theorem own_form {w : World} {base : Nat} {e : TypeId} {size : Nat} {v : Value} {n : Nat} {xs : List Value} (h : w.ownsRow base e size v n xs) : ∃ A c, v = .slice A n c := by
  rcases h.2 with ⟨rfl, rfl⟩ | ⟨g, cap, _, rfl, _⟩
  · exact ⟨none, 0, rfl⟩
  · exact ⟨_, cap, rfl⟩
theorem own_blk (A : Option Addr) (n c : Nat) : (Value.slice A n c).ownBlock = ablk A := by cases A <;> rfl

/-- 'append' of bytes onto a row of the call's own -/
theorem app_u8 {w : World} {ops : Array Oper} {rest : List Oper} {o : Oper} {a : Act} {Q : Exit → Act → World → Prop} (hgd : o.guard = none) (s x : Operand)
    (ho : o.op = .call { callee := .builtin .append, args := #[s, x], argTypes := #[32, 32] })
    (base : Nat) (A0 : Option Addr) (n c0 : Nat) (bs : List UInt8) (hs : a.eval s = .slice A0 n c0) (hown : OwnB w base A0 n c0 bs)
    (A : Option Addr) (m c : Nat) (cs : List UInt8) (hx : a.eval x = .slice A m c) (hr : Sl w A m (u8s cs))
    (hlen : n + m ≤ 1000000000) (hbase : base ≤ w.heap.size)
    (h : ∀ A' c' w', OwnB w' base A' (n + m) c' (bs ++ cs) → w.grownBy w' (ablk A0) → (ablk A' = ablk A0 ∨ ablk A' = some w.heap.size) → wpList Tryz.prog ops Q rest (a.put o.dst (.slice A' (n + m) c')) w') : wpList Tryz.prog ops Q (o :: rest) a w := by
  obtain ⟨i0, hi0, hz0, hz1, hz2⟩ := info_parts Tryz.info5
  refine wpList_append_sl hgd s x 32 ho base 5 i0 (.int .u8 0) 1 Tryz.underlying32 hi0 hz0 hz1 hz2 rfl (.slice A0 n c0) n (u8s bs) hs hown A m c (u8s cs) hx hr (u8s_one cs) (by unfold maxLen; omega) (by omega) hbase ?_
  intro v' w' h1 h2 h3
  obtain ⟨A', c', rfl⟩ := own_form h1
  rw [own_blk] at h2
  rw [own_blk, own_blk] at h3
  refine h A' c' w' ?_ h2 h3
  unfold OwnB
  rw [u8s_app]
  exact h1

theorem u8s_of (k : Nat) (h : k < 256) : u8s [UInt8.ofNat k] = [.int .u8 (k : Int)] := by
  have e : (UInt8.ofNat k).toNat = k := by simp [UInt8.toNat_ofNat']; omega
  simp [u8s, e]
theorem Sl.lit (w : World) (cs : Array Value) (e : TypeId) (n : Nat) (l : List Value) (hn : cs.size = n) (h : cs.toList = l) : Sl (w.alloc (.cells cs e)) (some ⟨w.heap.size, 0, none⟩) n l := by
  subst h
  refine ⟨by simpa using hn, fun _ => ⟨w.heap.size, 0, rfl, by simp, fun j u hu => ?_⟩⟩
  rw [World.cell?_alloc_at _ _ _ _ rfl]
  simpa using hu
theorem or128_all : ∀ k : Fin 256, bits BinOp.or IntKind.u8 ((k.val : Int)) 128 = ((k.val % 128 + 128 : Nat) : Int) := by decide +kernel
theorem or128 (n : Nat) : bits BinOp.or IntKind.u8 ((n : Int) % 256) 128 = ((n % 128 + 128 : Nat) : Int) := by
  have h := or128_all ⟨n % 256, by omega⟩
  simp only [] at h
  rw [show ((n : Int) % 256) = ((n % 256 : Nat) : Int) by omega, h]
  omega

end Go.Proofs.YtonkblhhknafbaaGreat
