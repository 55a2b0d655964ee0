/- The walks of the cells' clones and copies. Whatever the heap holds beside. -/
import Derived.Test.YtonkblhhknafbaaGreatF7
import Derived.Laws.Rows
namespace Go.Proofs.YtonkblhhknafbaaGreat
open Go.RowKit

theorem eql_nil_none (c : Nat) (w : World) : (binOp BinOp.eql 32 (.slice none 0 c) (.slice none 0 0)).run Tryz.prog w = .ok (.bool true) w := by kernel_rfl
theorem eql_nil_some (ad : Addr) (n c : Nat) (w : World) : (binOp BinOp.eql 32 (.slice (some ad) n c) (.slice none 0 0)).run Tryz.prog w = .ok (.bool false) w := by kernel_rfl

set_option maxRecDepth 100000 in
set_option maxHeartbeats 1000000 in
theorem clone_any (A : Option Addr) (n c : Nat) (xs : List UInt8) (w : World) (hx : Sl w A n (u8s xs)) (hn : n ≤ 100000000) :
    Calls Tryz.prog 86 #[.slice A n c] w fun e w' => ∃ A' c', e = .returned (.slice A' n c') ∧ OwnB w' w.heap.size A' n c' xs ∧ Below w.heap.size w w' := by
  have q1 := eql_nil_none
  have q2 := eql_nil_some
  go_enter Tryz.func86, Tryz.ntmps86
  cases A with
  | none =>
    have h0 : n = 0 := by
      rcases Nat.eq_zero_or_pos n with h | h
      · exact h
      · obtain ⟨b, off, e, _⟩ := hx.2 h
        cases e
    subst h0
    have hxs : xs = [] := by have := hx.1; rw [u8s_len] at this; exact List.eq_nil_of_length_eq_zero this
    subst hxs
    go_wp2_with (at_builtin; apply hold)
    go_ret
    exact ⟨none, 0, rfl, OwnB.nil _ _, Below.refl _ _⟩
  | some ad =>
    go_wp2_with (at_builtin; apply hold)
    refine unhold (app_u8 rfl (.tmp 5) (.tmp 6) rfl w.heap.size _ _ _ [] rfl (OwnB.lit w _ #[] 0 [] (Nat.le_refl _) rfl (by simp) rfl) _ n c xs rfl (hx.alloc _) (by omega) (by simp) ?_)
    intro A2 c2 w2 ho2 hg2 _
    have hb : Below w.heap.size w w2 := ((Below.refl _ _).alloc (Nat.le_refl _) _).grown hg2 (by simp) (by intro k hk; cases hk; exact Nat.le_refl _)
    clear hg2
    rw [Nat.zero_add, List.nil_append] at ho2
    rw [Nat.zero_add]
    go_wp2_with fail
    go_ret
    exact ⟨A2, c2, rfl, ho2, hb⟩

set_option maxRecDepth 100000 in
set_option maxHeartbeats 1000000 in
theorem copied_any (at_ ep : Int) (A : Option Addr) (n c : Nat) (xs : List UInt8) (w : World) (hx : Sl w A n (u8s xs)) (hn : n ≤ 100000000) :
    Calls Tryz.prog 58 #[.agg #[.int .i64 at_, .int .i64 ep, .slice A n c]] w fun e w' => ∃ A' c', e = .returned (.agg #[.int .i64 at_, .int .i64 ep, .slice A' n c']) ∧ OwnB w' w.heap.size A' n c' xs ∧ Below w.heap.size w w' := by
  go_enter Tryz.func58, Tryz.ntmps58
  go_wp2_with (first | (go_at_call 86; apply hold))
  have hg0 : Blk ((w.alloc (.cells #[.int .i64 at_, .int .i64 ep, .slice A n c] 77)).alloc (.cells #[.int .i64 0, .int .i64 0, .slice none 0 0] 77)) w.heap.size 77 #[.int .i64 at_, .int .i64 ep, .slice A n c] := (Blk.new _ _ _).alloc _
  have hg1 : Blk ((w.alloc (.cells #[.int .i64 at_, .int .i64 ep, .slice A n c] 77)).alloc (.cells #[.int .i64 0, .int .i64 0, .slice none 0 0] 77)) (w.heap.size + 1) 77 #[.int .i64 0, .int .i64 0, .slice none 0 0] := by
    have := Blk.new (w.alloc (.cells #[.int .i64 at_, .int .i64 ep, .slice A n c] 77)) 77 #[.int .i64 0, .int .i64 0, .slice none 0 0]
    rwa [World.size_alloc] at this
  have hb0 : Below w.heap.size w ((w.alloc (.cells #[.int .i64 at_, .int .i64 ep, .slice A n c] 77)).alloc (.cells #[.int .i64 0, .int .i64 0, .slice none 0 0] 77)) := ((Below.refl _ _).alloc (Nat.le_refl _) _).alloc (by simp) _
  have hsz : ((w.alloc (.cells #[.int .i64 at_, .int .i64 ep, .slice A n c] 77)).alloc (.cells #[.int .i64 0, .int .i64 0, .slice none 0 0] 77)).heap.size = w.heap.size + 2 := by simp
  obtain ⟨w0, hw0⟩ : ∃ w0, w0 = (w.alloc (.cells #[.int .i64 at_, .int .i64 ep, .slice A n c] 77)).alloc (.cells #[.int .i64 0, .int .i64 0, .slice none 0 0] 77) := ⟨_, rfl⟩
  rw [← hw0] at hg0 hg1 hb0 hsz ⊢
  clear hw0
  refine unhold ((clone_any A n c xs w0 (hx.below hb0) hn).mono ?_)
  rintro e w1 ⟨A1, c1, rfl, ho1, hb1⟩
  have k0 := below_blk hb1 hg0 (by omega)
  have k1 := below_blk hb1 hg1 (by omega)
  obtain ⟨a0, a1, a2, a3, a4, a5⟩ := Blk.c3 k0
  obtain ⟨b0, b1, b2, b3, b4, b5⟩ := Blk.c3 k1
  go_wp2_with (first | (go_at_call 86; apply hold))
  have k1' : Blk ((((w1.setCell ⟨w.heap.size, 2, none⟩ (.slice A1 n c1)).setCell ⟨w.heap.size + 1, 0, none⟩ (.int .i64 at_)).setCell ⟨w.heap.size + 1, 1, none⟩ (.int .i64 ep)).setCell ⟨w.heap.size + 1, 2, none⟩ (.slice A1 n c1)) (w.heap.size + 1) 77 #[.int .i64 at_, .int .i64 ep, .slice A1 n c1] :=
    (((k1.far (by simp) _).set_ 0 _).set_ 1 _).set_ 2 _
  refine bodyPost_ret (v := .agg #[.int .i64 at_, .int .i64 ep, .slice A1 n c1]) (results_cell_row rfl _ _ (w.heap.size + 1) 77 _ (0, 0) _ rfl k1' Tryz.underlying77 rfl (by kernel_rfl)) rfl ⟨A1, c1, rfl, ?_, ?_⟩
  · have hne : ∀ k, ablk A1 = some k → w.heap.size + 2 ≤ k := fun k e => by have := (ho1.lt e).1; omega
    exact (((((ho1.setCell (fun e => by have := hne _ e; simp at this; omega) _).setCell (fun e => by have := hne _ e; simp at this) _).setCell (fun e => by have := hne _ e; simp at this) _).setCell (fun e => by have := hne _ e; simp at this) _)).mono (by omega)
  · have hz0 : w.heap.size ≤ w0.heap.size := by omega
    exact (Kp.setCell (Kp.setCell (Kp.setCell (Kp.setCell ((Kp.below (S := Nobody) hb0).trans (Kp.below (S := Nobody) hb1) (fun _ _ h => h)) (fun h => by simp at h) _) (fun h => by simp at h; omega) _) (fun h => by simp at h; omega) _) (fun h => by simp at h; omega) _).nob

set_option maxRecDepth 100000 in
set_option maxHeartbeats 1000000 in
theorem own_any (at_ ep : Int) (A : Option Addr) (n c : Nat) (xs : List UInt8) (w : World) (hx : Sl w A n (u8s xs)) (hn : n ≤ 100000000) :
    Calls Tryz.prog 61 #[.agg #[.int .i64 at_, .int .i64 ep, .slice A n c]] w fun e w' => ∃ A' c', e = .returned (.agg #[.int .i64 at_, .int .i64 ep, .slice A' n c']) ∧ OwnB w' w.heap.size A' n c' xs ∧ Below w.heap.size w w' := by
  go_enter Tryz.func61, Tryz.ntmps61
  go_wp2_with (first | (go_at_call 86; apply hold))
  have hg0 : Blk ((w.alloc (.cells #[.int .i64 at_, .int .i64 ep, .slice A n c] 77)).alloc (.cells #[.int .i64 0, .int .i64 0, .slice none 0 0] 77)) w.heap.size 77 #[.int .i64 at_, .int .i64 ep, .slice A n c] := (Blk.new _ _ _).alloc _
  have hg1 : Blk ((w.alloc (.cells #[.int .i64 at_, .int .i64 ep, .slice A n c] 77)).alloc (.cells #[.int .i64 0, .int .i64 0, .slice none 0 0] 77)) (w.heap.size + 1) 77 #[.int .i64 0, .int .i64 0, .slice none 0 0] := by
    have := Blk.new (w.alloc (.cells #[.int .i64 at_, .int .i64 ep, .slice A n c] 77)) 77 #[.int .i64 0, .int .i64 0, .slice none 0 0]
    rwa [World.size_alloc] at this
  have hb0 : Below w.heap.size w ((w.alloc (.cells #[.int .i64 at_, .int .i64 ep, .slice A n c] 77)).alloc (.cells #[.int .i64 0, .int .i64 0, .slice none 0 0] 77)) := ((Below.refl _ _).alloc (Nat.le_refl _) _).alloc (by simp) _
  have hsz : ((w.alloc (.cells #[.int .i64 at_, .int .i64 ep, .slice A n c] 77)).alloc (.cells #[.int .i64 0, .int .i64 0, .slice none 0 0] 77)).heap.size = w.heap.size + 2 := by simp
  obtain ⟨w0, hw0⟩ : ∃ w0, w0 = (w.alloc (.cells #[.int .i64 at_, .int .i64 ep, .slice A n c] 77)).alloc (.cells #[.int .i64 0, .int .i64 0, .slice none 0 0] 77) := ⟨_, rfl⟩
  rw [← hw0] at hg0 hg1 hb0 hsz ⊢
  clear hw0
  refine unhold ((clone_any A n c xs w0 (hx.below hb0) hn).mono ?_)
  rintro e w1 ⟨A1, c1, rfl, ho1, hb1⟩
  have k0 := below_blk hb1 hg0 (by omega)
  have k1 := below_blk hb1 hg1 (by omega)
  obtain ⟨a0, a1, a2, a3, a4, a5⟩ := Blk.c3 k0
  obtain ⟨b0, b1, b2, b3, b4, b5⟩ := Blk.c3 k1
  go_wp2_with (first | (go_at_call 86; apply hold))
  have k1' : Blk ((((w1.setCell ⟨w.heap.size, 2, none⟩ (.slice A1 n c1)).setCell ⟨w.heap.size + 1, 0, none⟩ (.int .i64 at_)).setCell ⟨w.heap.size + 1, 1, none⟩ (.int .i64 ep)).setCell ⟨w.heap.size + 1, 2, none⟩ (.slice A1 n c1)) (w.heap.size + 1) 77 #[.int .i64 at_, .int .i64 ep, .slice A1 n c1] :=
    (((k1.far (by simp) _).set_ 0 _).set_ 1 _).set_ 2 _
  refine bodyPost_ret (v := .agg #[.int .i64 at_, .int .i64 ep, .slice A1 n c1]) (results_cell_row rfl _ _ (w.heap.size + 1) 77 _ (0, 0) _ rfl k1' Tryz.underlying77 rfl (by kernel_rfl)) rfl ⟨A1, c1, rfl, ?_, ?_⟩
  · have hne : ∀ k, ablk A1 = some k → w.heap.size + 2 ≤ k := fun k e => by have := (ho1.lt e).1; omega
    exact (((((ho1.setCell (fun e => by have := hne _ e; simp at this; omega) _).setCell (fun e => by have := hne _ e; simp at this) _).setCell (fun e => by have := hne _ e; simp at this) _).setCell (fun e => by have := hne _ e; simp at this) _)).mono (by omega)
  · have hz0 : w.heap.size ≤ w0.heap.size := by omega
    exact (Kp.setCell (Kp.setCell (Kp.setCell (Kp.setCell ((Kp.below (S := Nobody) hb0).trans (Kp.below (S := Nobody) hb1) (fun _ _ h => h)) (fun h => by simp at h) _) (fun h => by simp at h; omega) _) (fun h => by simp at h; omega) _) (fun h => by simp at h; omega) _).nob
end Go.Proofs.YtonkblhhknafbaaGreat
