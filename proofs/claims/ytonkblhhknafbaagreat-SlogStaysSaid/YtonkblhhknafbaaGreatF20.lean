/- The walks of Log's Len, Epoch, Get. Whatever the heap holds beside. -/
import Derived.Test.YtonkblhhknafbaaGreatF19
namespace Go.Proofs.YtonkblhhknafbaaGreat
open Go.RowKit Go.Shelf

/-- a log, and the blocks that are its own -/
def LogAt (w : World) (lg : Nat) (F : Nat → Prop) (room n : Nat) (N : List (List Cmd)) (op : Bool) (E : Nat) (row : List (List UInt8)) : Prop :=
  ∃ (Ad : Option Addr) (cd : Nat) (An : Option Addr) (cn : Nat) (Ar : Option Addr) (mr cr : Nat) (nds ds : List Nat) (Fn : Nat → Nat → Prop),
    Blk w lg 63 #[.slice Ad n cd, .slice An n cn, .bool op, .int .i64 (E : Int), .slice Ar mr cr] ∧
    Own w 0 64 1 Ad n cd (ds.map ptrV) ∧ Own w 0 67 1 An n cn (nds.map ptrV) ∧ N.length = n ∧ Nodes w Fn room nds ds N ∧
    RowL w (fun y => F y ∧ (∀ i, ¬ Fn i y) ∧ y ≠ lg ∧ ablk Ad ≠ some y ∧ ablk An ≠ some y ∧ ablk Ar ≠ some y) 0 Ar mr cr row ∧
    (F lg ∧ (∀ y, ablk Ad = some y → F y) ∧ (∀ y, ablk An = some y → F y) ∧ (∀ y, ablk Ar = some y → F y) ∧ (∀ i y, Fn i y → F y)) ∧
    ((∀ i, ¬ Fn i lg) ∧ (∀ y, ablk Ad = some y → ∀ i, ¬ Fn i y) ∧ (∀ y, ablk An = some y → ∀ i, ¬ Fn i y) ∧ (∀ y, ablk Ar = some y → ∀ i, ¬ Fn i y)) ∧
    (∀ y, F y → y < w.heap.size) ∧ 1 ≤ n ∧ n ≤ 100
section
variable {w w' : World} {lg : Nat} {F : Nat → Prop} {room n : Nat} {N : List (List Cmd)} {op : Bool} {E : Nat} {row : List (List UInt8)}
theorem LogAt.lt (h : LogAt w lg F room n N op E row) {y : Nat} (hy : F y) : y < w.heap.size := by
  obtain ⟨Ad, cd, An, cn, Ar, mr, cr, nds, ds, Fn, _, _, _, _, _, _, _, _, h9, _⟩ := h
  exact h9 y hy
theorem LogAt.keep (h : LogAt w lg F room n N op E row) (hz : w.heap.size ≤ w'.heap.size) (hk : ∀ y, F y → w'.heap[y]? = w.heap[y]?) : LogAt w' lg F room n N op E row := by
  obtain ⟨Ad, cd, An, cn, Ar, mr, cr, nds, ds, Fn, h1, h2, h3, h4, h5, h6, ⟨f1, f2, f3, f4, f5⟩, h8, h9, h10⟩ := h
  exact ⟨Ad, cd, An, cn, Ar, mr, cr, nds, ds, Fn, h1.of_eq (hk _ f1), h2.keep (fun k e _ => hk k (f2 k e)), h3.keep (fun k e _ => hk k (f3 k e)), h4, h5.keep hz (fun i k h => hk k (f5 i k h)), h6.go hz (fun k e _ _ => hk k (f4 k e)) (fun k h _ => hk k h.1) (fun _ h _ => h), ⟨f1, f2, f3, f4, f5⟩, h8, fun y hy => Nat.lt_of_lt_of_le (h9 y hy) hz, h10⟩
theorem LogAt.below (h : LogAt w lg F room n N op E row) (hb : Below w.heap.size w w') : LogAt w' lg F room n N op E row := h.keep hb.size (fun y hy => hb.block y (h.lt hy))
theorem LogAt.kp {S : Nat → Prop} (h : LogAt w lg F room n N op E row) (hk : Kp S w w') (hn : ∀ y, F y → ¬ S y) : LogAt w' lg F room n N op E row := h.keep hk.size (fun y hy => hk.block y (h.lt hy) (hn y hy))
end

set_option maxRecDepth 100000 in
set_option maxHeartbeats 1000000 in
theorem llen_any (lg : Nat) (F : Nat → Prop) (room n : Nat) (N : List (List Cmd)) (op : Bool) (E : Nat) (row : List (List UInt8)) (w : World) (h : LogAt w lg F room n N op E row) :
    Calls Tryz.prog 25 #[ptrV lg] w fun e w' => e = .returned (.int .i64 row.length) ∧ w = w' := by
  obtain ⟨Ad, cd, An, cn, Ar, mr, cr, nds, ds, Fn, h1, h2, h3, h4, h5, h6, _⟩ := h
  have hmr := h6.len
  subst hmr
  obtain ⟨x0, x1, x2, x3, x4, _⟩ := h1.c5
  unfold ptrV
  go_enter Tryz.func25, Tryz.ntmps25
  go_wp2
  go_ret
  exact ⟨rfl, rfl⟩

set_option maxRecDepth 100000 in
set_option maxHeartbeats 1000000 in
theorem lepoch_any (lg : Nat) (F : Nat → Prop) (room n : Nat) (N : List (List Cmd)) (op : Bool) (E : Nat) (row : List (List UInt8)) (w : World) (h : LogAt w lg F room n N op E row) :
    Calls Tryz.prog 15 #[ptrV lg] w fun e w' => e = .returned (.int .i64 E) ∧ w = w' := by
  obtain ⟨Ad, cd, An, cn, Ar, mr, cr, nds, ds, Fn, h1, h2, h3, h4, h5, h6, _⟩ := h
  obtain ⟨x0, x1, x2, x3, x4, _⟩ := h1.c5
  unfold ptrV
  go_enter Tryz.func15, Tryz.ntmps15
  go_wp2
  go_ret
  exact ⟨rfl, rfl⟩

set_option maxRecDepth 100000 in
set_option maxHeartbeats 1000000 in
theorem lget_any (lg : Nat) (F : Nat → Prop) (room n : Nat) (N : List (List Cmd)) (op : Bool) (E : Nat) (row : List (List UInt8)) (w : World) (h : LogAt w lg F room n N op E row) (i : Nat) (b : List UInt8) (hi : row[i]? = some b) (hb : b.length ≤ 2048) (hrl : row.length ≤ 100000) :
    Calls Tryz.prog 24 #[ptrV lg, .int .i64 i] w fun e w' => ∃ A' c', e = .returned (.tuple #[.slice A' b.length c', .int .i64 0]) ∧ OwnB w' w.heap.size A' b.length c' b ∧ Below w.heap.size w w' := by
  have h0 := h
  obtain ⟨Ad, cd, An, cn, Ar, mr, cr, nds, ds, Fn, h1, h2, h3, h4, h5, h6, _⟩ := h
  have hmr := h6.len
  subst hmr
  obtain ⟨x0, x1, x2, x3, x4, _⟩ := h1.c5
  have hil : i < row.length := (List.getElem?_eq_some_iff.1 hi).1
  obtain ⟨xs, ho, hall⟩ := h6
  obtain ⟨v, hv, A1, c1, rfl, hs1, _⟩ := hall.get' hi
  obtain ⟨g, rfl, _, hglt, hc, _⟩ := ho.at_ (by omega)
  have hcv := hc i _ hv
  have hlt := h1.lt
  have hlen := llen_any lg F room n N op E row w h0
  have g1 : decide ((row.length : Int) ≤ (i : Int)) = false := by simp; omega
  have g0 : decide ((i : Int) < 0) = false := by simp
  obtain ⟨rl, hrle⟩ : ∃ rl, rl = row.length := ⟨_, rfl⟩
  rw [← hrle] at hlen g1 hil x4 hrl
  clear hrle
  unfold ptrV at *
  go_enter Tryz.func24, Tryz.ntmps24
  go_wp2_with (first | (go_at_call 25; apply hold) | (at_builtin; apply hold))
  refine unhold (hlen.mono ?_)
  rintro e w1 ⟨rfl, rfl⟩
  go_wp2_with (first | (go_at_call 25; apply hold) | (at_builtin; apply hold))
  refine unhold (app_u8 rfl (.tmp 14) (.tmp 21) rfl w.heap.size _ _ _ [] rfl (OwnB.lit w _ #[] 0 [] (Nat.le_refl _) rfl (by simp) rfl) A1 b.length c1 b rfl (hs1.alloc _) (by omega) (by simp) ?_)
  intro A2 c2 w2 ho2 hg2 _
  have hb2 : Below w.heap.size w w2 := ((Below.refl _ _).alloc (Nat.le_refl _) _).grown hg2 (by simp) (by intro k hk; cases hk; exact Nat.le_refl _)
  clear hg2
  rw [Nat.zero_add, List.nil_append] at ho2
  rw [Nat.zero_add]
  go_wp2_with fail
  go_ret2
  exact ⟨A2, c2, rfl, ho2, hb2⟩
end Go.Proofs.YtonkblhhknafbaaGreat
