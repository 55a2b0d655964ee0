/- Arguments as they are read: bools, bytes, rows of bytes, deeds. -/
import Derived.Test.YtonkblhhknafbaaGreatF17
import Derived.ProofKit
import Derived.OpenShut
import Derived.Deep.Grids
namespace Go.Proofs.YtonkblhhknafbaaGreat
open Go.ChangeShapes Go.WideShapes Go.RowKit Go.Deep

theorem spot_of {w : World} {a : Addr} {v : Value} (h : w.cell? a = some v) : a = ⟨a.block, a.off, none⟩ ∧ a.block < w.heap.size := by
  unfold World.cell? at h
  cases hb : w.heap[a.block]? with
  | none => rw [hb] at h; simp at h
  | some o =>
    refine ⟨?_, lt_of_block hb⟩
    rw [hb] at h
    cases o with
    | cells c t f =>
      simp only [] at h
      split at h
      · cases h
      · rename_i hs
        obtain ⟨b, o, s⟩ := a
        cases s with
        | none => rfl
        | some _ => simp at hs
    | _ => simp at h
theorem sl_of {w : World} {a : Addr} {len : Nat} {V : Nat → Value} (h : ∀ i, i < len → w.cell? (a.add i) = some (V i)) : Sl w (some a) len ((List.range len).map V) := by
  refine ⟨by simp, fun hp => ?_⟩
  have h0 := h 0 hp
  have e0 : a.add 0 = a := by simp [Addr.add]
  rw [e0] at h0
  obtain ⟨e, hlt⟩ := spot_of h0
  refine ⟨a.block, a.off, by rw [← e], hlt, fun j u hu => ?_⟩
  have hj : j < len := by have := (List.getElem?_eq_some_iff.1 hu).1; simpa using this
  rw [List.getElem?_map, List.getElem?_range hj] at hu
  simp only [Option.map_some, Option.some.injEq] at hu
  rw [← hu, ← h j hj, e, Addr.add_lit]
theorem byte_of {z : Int} (h : (Lit.int .u8 z).wf = true) : ∃ b : UInt8, z = (b.toNat : Int) := by
  unfold Lit.wf at h
  simp [IntKind.min, IntKind.max, IntKind.signed, IntKind.bits] at h
  refine ⟨UInt8.ofNat z.toNat, ?_⟩
  rw [UInt8.toNat_ofNat']
  omega

section
variable {H : Type} {enc : TypeId × Value → H} {W : World} {base fuel : Nat} {held : Bool} {v : Value} {x : DataW H × List MemPlace}
theorem arg_bools {t : TypeId} (ht : Tryz.prog.underlying t = some (.slice 4)) (h : DataW.trod enc Tryz.prog W base (fun _ => true) held fuel t [v] = some x) : ∃ A n c bs, v = .slice A n c ∧ Sl W A n (List.map Value.bool bs) := by
  rcases open_bools ht Tryz.underlying4 (by kernel_rfl) h with ⟨h1, _⟩ | ⟨a, len, cap, B, h1, _, hl, _, _, hc⟩
  · simp only [List.cons.injEq, and_true] at h1
    exact ⟨none, 0, 0, [], h1, Sl.nil _⟩
  · simp only [List.cons.injEq, and_true] at h1
    refine ⟨some a, len, cap, (List.range len).map B, h1, ?_⟩
    have := sl_of (w := W) (a := a) (len := len) (V := fun i => .bool (B i)) (fun i hi => hc i (by omega))
    rw [List.map_map]
    exact this
theorem arg_bytes {t : TypeId} (ht : Tryz.prog.underlying t = some (.slice 5)) (h : DataW.trod enc Tryz.prog W base (fun _ => true) held fuel t [v] = some x) : ∃ A c bs, v = .slice A (List.length bs) c ∧ Sl W A (List.length bs) (u8s bs) := by
  rcases open_ints ht Tryz.underlying5 (by kernel_rfl) h with ⟨h1, _⟩ | ⟨a, len, cap, zs, h1, _, hl, _, hz, _, hc, hw⟩
  · simp only [List.cons.injEq, and_true] at h1
    exact ⟨none, 0, [], h1, Sl.nil _⟩
  · simp only [List.cons.injEq, and_true] at h1
    simp only [if_true] at hz
    obtain ⟨Z, hZ⟩ := choose_lt (α := UInt8) (n := len) (p := fun i b => zs.getD i 0 = (b.toNat : Int)) (fun i hi => byte_of (hw _ (by
      simp only [List.getD, List.getElem?_eq_getElem (show i < zs.length by omega), Option.getD_some]
      exact List.getElem_mem _)))
    have hlen : ((List.range len).map Z).length = len := by simp
    refine ⟨some a, cap, (List.range len).map Z, by rw [hlen]; exact h1, ?_⟩
    have := sl_of (w := W) (a := a) (len := len) (V := fun i => .int .u8 (Z i).toNat) (fun i hi => by rw [hc i (by omega), hZ i hi])
    rw [hlen]
    unfold u8s
    rw [List.map_map]
    exact this
/-- rows of bytes as they are read -/
def ArgR (w : World) (A : Option Addr) (m : Nat) (rw : List (List UInt8)) : Prop :=
  ∃ xs, Sl w A m xs ∧ All2 (fun v b => ∃ A1 c1, v = .slice A1 b.length c1 ∧ Sl w A1 b.length (u8s b)) xs rw
theorem all2_range {α β : Type} {R : α → β → Prop} {V : Nat → α} {Z : Nat → β} (n : Nat) (h : ∀ i, i < n → R (V i) (Z i)) : All2 R ((List.range n).map V) ((List.range n).map Z) := by
  induction n with
  | zero => exact .nil
  | succ n ih =>
    rw [List.range_succ, List.map_append, List.map_append]
    exact (ih (fun i hi => h i (by omega))).app (.cons (h n (by omega)) .nil)
theorem arg_rows {t : TypeId} (ht : Tryz.prog.underlying t = some (.slice 32)) (h : DataW.trod enc Tryz.prog W base (fun _ => true) held fuel t [v] = some x) : ∃ A n c rw, v = .slice A n c ∧ ArgR W A n rw := by
  rcases open_slice1 ht (by kernel_rfl) h with ⟨h1, _⟩ | ⟨a, len, cap, m, n, V, D, Pl, h1, _, hl, _, hm, _, hc⟩
  · simp only [List.cons.injEq, and_true] at h1
    exact ⟨none, 0, 0, [], h1, [], Sl.nil _, .nil⟩
  · simp only [List.cons.injEq, and_true] at h1
    simp only [if_true] at hm
    obtain ⟨Z, hZ⟩ := choose_lt (α := List UInt8) (n := len) (p := fun i b => ∃ A1 c1, V i = .slice A1 b.length c1 ∧ Sl W A1 b.length (u8s b)) (fun i hi => by
      obtain ⟨A1, c1, b, e1, e2⟩ := arg_bytes Tryz.underlying32 (hc i (by omega)).2
      exact ⟨b, A1, c1, e1, e2⟩)
    exact ⟨some a, len, cap, (List.range len).map Z, h1, _, sl_of (w := W) (V := V) (fun i hi => (hc i (by omega)).1), all2_range len hZ⟩
theorem ArgR.len {w : World} {A : Option Addr} {m : Nat} {rw : List (List UInt8)} (h : ArgR w A m rw) : m = rw.length := by
  obtain ⟨xs, h1, h3⟩ := h
  rw [← h3.len, h1.1]
theorem ArgR.below {w w' : World} {A : Option Addr} {m : Nat} {rw : List (List UInt8)} (h : ArgR w A m rw) (hb : Below w.heap.size w w') : ArgR w' A m rw := by
  obtain ⟨xs, h1, h3⟩ := h
  exact ⟨xs, h1.below hb, h3.imp (fun v b _ _ ⟨A1, c1, e, h⟩ => ⟨A1, c1, e, h.below hb⟩)⟩
theorem ArgR.at_ {w : World} {A : Option Addr} {m : Nat} {rw : List (List UInt8)} (h : ArgR w A m rw) {i : Nat} (hi : i < m) : ∃ b off x A1 c1, A = some ⟨b, off, none⟩ ∧ b < w.heap.size ∧ rw[i]? = some x ∧ w.cell? ⟨b, off + i, none⟩ = some (.slice A1 x.length c1) ∧ Sl w A1 x.length (u8s x) := by
  obtain ⟨xs, h1, h3⟩ := h
  obtain ⟨b, off, u, rfl, hb, hu, hc⟩ := h1.at_ hi
  obtain ⟨x, hx, A1, c1, rfl, hs⟩ := h3.get hu
  exact ⟨b, off, x, A1, c1, rfl, hb, hx, hc, hs⟩

/-! ### deeds -/
structure Deed where
  kind : Int
  node : Int
  keep : Int
  turn : Int
  b : List UInt8
  reach : List Bool
/-- a deed's cells, as they are read -/
structure DeedV where
  d : Deed
  A : Option Addr
  c : Nat
  R : Option Addr
  k : Nat
def DeedV.vals (v : DeedV) : List Value := [.int .i64 v.d.kind, .int .i64 v.d.node, .int .i64 v.d.keep, .int .i64 v.d.turn, .slice v.A v.d.b.length v.c, .slice v.R v.d.reach.length v.k]
def DeedAt (w : World) (v : DeedV) : Prop := Sl w v.A v.d.b.length (u8s v.d.b) ∧ Sl w v.R v.d.reach.length (v.d.reach.map Value.bool)
/-- deeds as they are read -/
def ArgD (w : World) (A : Option Addr) (m : Nat) : Prop :=
  ∀ i, i < m → ∃ b off v, A = some ⟨b, off, none⟩ ∧ b < w.heap.size ∧ (∀ j u, (DeedV.vals v)[j]? = some u → w.cell? ⟨b, off + i * 6 + j, none⟩ = some u) ∧ DeedAt w v
theorem ArgD.below {w w' : World} {A : Option Addr} {m : Nat} (h : ArgD w A m) (hb : Below w.heap.size w w') : ArgD w' A m := fun i hi => by
  obtain ⟨b, off, v, e, hlt, hc, h1, h2⟩ := h i hi
  exact ⟨b, off, v, e, Nat.lt_of_lt_of_le hlt hb.size, fun j u hu => by rw [World.cell?_of_block (w := w) (a := ⟨b, off + i * 6 + j, none⟩) (hb.block b hlt)]; exact hc j u hu, h1.below hb, h2.below hb⟩
theorem list6 {α : Type} : ∀ {cs : List α}, cs.length = 6 → ∃ u0 u1 u2 u3 u4 u5, cs = [u0, u1, u2, u3, u4, u5]
  | [u0, u1, u2, u3, u4, u5], _ => ⟨u0, u1, u2, u3, u4, u5, rfl⟩
theorem arg_deeds {t : TypeId} (ht : Tryz.prog.underlying t = some (.slice 42)) (h : DataW.trod enc Tryz.prog W base (fun _ => true) held fuel t [v] = some x) : ∃ A n c, v = .slice A n c ∧ ArgD W A n := by
  have hce : Tryz.prog.cellsOf 42 = 6 := by kernel_rfl
  rcases open_slice ht h with ⟨h1, _⟩ | ⟨a, len, cap, m, n, D, Pl, h1, _, hl, _, hm, _, hc⟩
  · simp only [List.cons.injEq, and_true] at h1
    exact ⟨none, 0, 0, h1, fun i hi => by omega⟩
  · simp only [List.cons.injEq, and_true] at h1
    simp only [if_true] at hm
    refine ⟨some a, len, cap, h1, fun i hi => ?_⟩
    obtain ⟨cs, h2, h3⟩ := hc i (by omega)
    rw [hce] at h2
    obtain ⟨_, hlen, hcell⟩ := World.cells?_some h2
    obtain ⟨xs, k, _, _, _, hxl, hf⟩ := DataW.trod_struct Tryz.underlying42 h3
    obtain ⟨u0, u1, u2, u3, u4, u5, rfl⟩ := list6 hlen
    obtain ⟨y0, y1, y2, y3, y4, y5, rfl⟩ := list6 (cs := xs) hxl
    have c3 : Tryz.prog.cellsOf 3 = 1 := by kernel_rfl
    have c32 : Tryz.prog.cellsOf 32 = 1 := by kernel_rfl
    have c23 : Tryz.prog.cellsOf 23 = 1 := by kernel_rfl
    have f0 : DataW.trod enc Tryz.prog W base (fun _ => true) held k 3 [u0] = some y0 := by
      have h : DataW.trod enc Tryz.prog W base (fun _ => true) held k 3 (([u0, u1, u2, u3, u4, u5].drop 0).take (Tryz.prog.cellsOf 3)) = some y0 := hf 0 _ rfl
      rw [c3] at h
      exact h
    have f1 : DataW.trod enc Tryz.prog W base (fun _ => true) held k 3 [u1] = some y1 := by
      have h : DataW.trod enc Tryz.prog W base (fun _ => true) held k 3 (([u0, u1, u2, u3, u4, u5].drop 1).take (Tryz.prog.cellsOf 3)) = some y1 := hf 1 _ rfl
      rw [c3] at h
      exact h
    have f2 : DataW.trod enc Tryz.prog W base (fun _ => true) held k 3 [u2] = some y2 := by
      have h : DataW.trod enc Tryz.prog W base (fun _ => true) held k 3 (([u0, u1, u2, u3, u4, u5].drop 2).take (Tryz.prog.cellsOf 3)) = some y2 := hf 2 _ rfl
      rw [c3] at h
      exact h
    have f3 : DataW.trod enc Tryz.prog W base (fun _ => true) held k 3 [u3] = some y3 := by
      have h : DataW.trod enc Tryz.prog W base (fun _ => true) held k 3 (([u0, u1, u2, u3, u4, u5].drop 3).take (Tryz.prog.cellsOf 3)) = some y3 := hf 3 _ rfl
      rw [c3] at h
      exact h
    have f4 : DataW.trod enc Tryz.prog W base (fun _ => true) held k 32 [u4] = some y4 := by
      have h : DataW.trod enc Tryz.prog W base (fun _ => true) held k 32 (([u0, u1, u2, u3, u4, u5].drop 4).take (Tryz.prog.cellsOf 32)) = some y4 := hf 4 _ rfl
      rw [c32] at h
      exact h
    have f5 : DataW.trod enc Tryz.prog W base (fun _ => true) held k 23 [u5] = some y5 := by
      have h : DataW.trod enc Tryz.prog W base (fun _ => true) held k 23 (([u0, u1, u2, u3, u4, u5].drop 5).take (Tryz.prog.cellsOf 23)) = some y5 := hf 5 _ rfl
      rw [c23] at h
      exact h
    obtain ⟨kd, e0, _⟩ := DataW.trod_int Tryz.underlying3 f0
    obtain ⟨nd, e1, _⟩ := DataW.trod_int Tryz.underlying3 f1
    obtain ⟨kp, e2, _⟩ := DataW.trod_int Tryz.underlying3 f2
    obtain ⟨tn, e3, _⟩ := DataW.trod_int Tryz.underlying3 f3
    obtain ⟨A4, c4, bb, e4, s4⟩ := arg_bytes Tryz.underlying32 f4
    obtain ⟨A5, n5, c5, rr, e5, s5⟩ := arg_bools Tryz.underlying23 f5
    obtain rfl : rr.length = n5 := by have := s5.1; simpa using this
    simp only [List.cons.injEq, and_true] at e0 e1 e2 e3
    subst e0 e1 e2 e3 e4 e5
    have g0 := hcell 0 (by omega)
    obtain ⟨ea, hlt⟩ := spot_of (w := W) (a := (a.add (i * 6)).add 0) (v := .int .i64 kd) g0
    rw [add_add] at ea hlt
    have hb0 : (a.add (i * 6 + 0)).block = a.block := by unfold Addr.add; split <;> rfl
    rw [hb0] at hlt
    have hx := hc 0 (by omega)
    obtain ⟨cs0, h20, h30⟩ := hx
    rw [hce] at h20
    obtain ⟨_, hlen0, hcell0⟩ := World.cells?_some h20
    obtain ⟨v0, _, _, _, _, _, rfl⟩ := list6 hlen0
    have g00 := hcell0 0 (by omega)
    obtain ⟨ea0, _⟩ := spot_of (w := W) (v := v0) g00
    have e00 : (a.add (0 * 6)).add 0 = a := by simp [Addr.add]
    rw [e00] at ea0
    refine ⟨a.block, a.off, ⟨⟨kd, nd, kp, tn, bb, rr⟩, A4, c4, A5, c5⟩, by rw [← ea0], hlt, fun j u hu => ?_, s4, s5⟩
    have hj : j < 6 := by have := (List.getElem?_eq_some_iff.1 hu).1; simpa [DeedV.vals] using this
    have h7 := hcell j hj
    rw [add_add, ea0, Addr.add_lit] at h7
    rw [Nat.add_assoc, h7, ← hu]
    rfl
end
end Go.Proofs.YtonkblhhknafbaaGreat
