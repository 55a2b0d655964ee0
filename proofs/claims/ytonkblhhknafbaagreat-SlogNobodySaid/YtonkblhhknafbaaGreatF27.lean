/- The walk of the law SlogNobody: it answers true. Whatever the heap holds beside. -/
import Derived.Test.YtonkblhhknafbaaGreatF26
namespace Go.Proofs.YtonkblhhknafbaaGreat
open Go.RowKit Go.Shelf

section
set_option maxRecDepth 100000
set_option maxHeartbeats 4000000
theorem nil_append (B R : Value) (w : World) : Calls Tryz.prog 12 #[.pointer none, B, R] w fun e w' => e = .returned (.tuple #[.int .i64 0, .int .i64 8]) ∧ Below w.heap.size w w' := by
  go_enter Tryz.func12, Tryz.ntmps12
  go_wp2_with fail
  go_ret2
  exact ⟨rfl, Below.refl _ _⟩
theorem nil_len (w : World) : Calls Tryz.prog 25 #[.pointer none] w fun e w' => e = .returned (.int .i64 0) ∧ Below w.heap.size w w' := by
  go_enter Tryz.func25, Tryz.ntmps25
  go_wp2_with fail
  go_ret
  exact ⟨rfl, Below.refl _ _⟩
theorem nil_epoch (w : World) : Calls Tryz.prog 15 #[.pointer none] w fun e w' => e = .returned (.int .i64 0) ∧ Below w.heap.size w w' := by
  go_enter Tryz.func15, Tryz.ntmps15
  go_wp2_with fail
  go_ret
  exact ⟨rfl, Below.refl _ _⟩
theorem nil_get (i : Int) (w : World) : Calls Tryz.prog 24 #[.pointer none, .int .i64 i] w fun e w' => e = .returned (.tuple #[.slice none 0 0, .int .i64 2]) ∧ Below w.heap.size w w' := by
  by_cases hi : i < 0
  · have g1 : decide (i < 0) = true := by simp [hi]
    go_enter Tryz.func24, Tryz.ntmps24
    go_wp2_with (go_at_call 25; apply hold)
    go_ret2
    exact ⟨rfl, Below.refl _ _⟩
  · have g1 : decide (i < 0) = false := by simp [hi]
    have g2 : decide ((0 : Int) ≤ i) = true := by simp; omega
    go_enter Tryz.func24, Tryz.ntmps24
    go_wp2_with (go_at_call 25; apply hold)
    refine unhold ((nil_len w).mono ?_)
    rintro e w1 ⟨rfl, hb⟩
    go_wp2_with (go_at_call 25; apply hold)
    go_ret2
    exact ⟨rfl, hb⟩
theorem nil_open (R : Value) (w : World) : Calls Tryz.prog 11 #[.pointer none, R] w fun e w' => e = .returned (.int .i64 8) ∧ Below w.heap.size w w' := by
  go_enter Tryz.func11, Tryz.ntmps11
  go_wp2_with fail
  go_ret
  exact ⟨rfl, (Below.refl _ _).alloc (Nat.le_refl _) _⟩
theorem nil_again (i : Int) (f : Value) (w : World) : Calls Tryz.prog 33 #[.pointer none, .int .i64 i, f] w fun e w' => e = .returned (.int .i64 1) ∧ Below w.heap.size w w' := by
  go_enter Tryz.func33, Tryz.ntmps33
  go_wp2_with fail
  go_ret
  exact ⟨rfl, Below.refl _ _⟩
theorem nil_crash (i : Int) (w : World) : Calls Tryz.prog 18 #[.pointer none, .int .i64 i, .int .i64 0, .int .i64 0] w fun e w' => e = .returned (.int .i64 1) ∧ Below w.heap.size w w' := by
  have hmf : ∀ fn first cap w, (Instr.makeFunc fn first cap).run Tryz.prog w = .ok (.func fn first cap) w := fun _ _ _ _ => rfl
  go_enter Tryz.func18, Tryz.ntmps18
  go_wp2_with (go_at_call 33; apply hold)
  refine unhold ((nil_again i _ _).mono ?_)
  rintro e w1 ⟨rfl, hb⟩
  go_wp2_with fail
  go_ret
  exact ⟨rfl, (((Below.refl _ _).alloc (Nat.le_refl _) _).alloc (by simp) _).trans (hb.mono (by simp; omega))⟩
theorem nil_lose (i : Int) (w : World) : Calls Tryz.prog 16 #[.pointer none, .int .i64 i] w fun e w' => e = .returned (.int .i64 1) ∧ Below w.heap.size w w' := by
  go_enter Tryz.func16, Tryz.ntmps16
  go_wp2_with (go_at_call 33; apply hold)
  refine unhold ((nil_again i _ _).mono ?_)
  rintro e w1 ⟨rfl, hb⟩
  go_wp2_with fail
  go_ret
  exact ⟨rfl, hb⟩

/-- SlogNobody -/
theorem nobody_any (i : Int) (R : Value) (w : World) : Calls Tryz.prog 8 #[.int .i64 i, R] w fun e w' => e = .returned (.bool true) ∧ Below w.heap.size w w' := by
  go_enter Tryz.func8, Tryz.ntmps8
  go_wp2_with (first | (go_at_call 9; apply hold))
  refine unhold ((shown_any w).mono ?_)
  rintro e w1 ⟨rfl, hb1⟩
  have hz1 := hb1.size
  go_wp2_with (first | (go_at_call 12; apply hold) | (go_at_call 24; apply hold) | (go_at_call 11; apply hold) | (go_at_call 18; apply hold) | (go_at_call 16; apply hold) | (go_at_call 25; apply hold) | (go_at_call 15; apply hold))
  refine unhold ((nil_append _ _ _).mono ?_)
  rintro e w2 ⟨rfl, hb2⟩
  rw [World.size_alloc] at hb2
  have hb2' : Below w.heap.size w w2 := (hb1.alloc (by omega) _).trans (hb2.mono (by omega))
  have hz2 := hb2'.size
  go_wp2_with (first | (go_at_call 12; apply hold) | (go_at_call 24; apply hold) | (go_at_call 11; apply hold) | (go_at_call 18; apply hold) | (go_at_call 16; apply hold) | (go_at_call 25; apply hold) | (go_at_call 15; apply hold))
  refine unhold ((nil_get i _).mono ?_)
  rintro e w3 ⟨rfl, hb3⟩
  have hb3' := hb2'.trans (hb3.mono hz2)
  have hz3 := hb3'.size
  go_wp2_with (first | (go_at_call 12; apply hold) | (go_at_call 24; apply hold) | (go_at_call 11; apply hold) | (go_at_call 18; apply hold) | (go_at_call 16; apply hold) | (go_at_call 25; apply hold) | (go_at_call 15; apply hold))
  refine unhold ((nil_open _ _).mono ?_)
  rintro e w4 ⟨rfl, hb4⟩
  have hb4' := hb3'.trans (hb4.mono hz3)
  have hz4 := hb4'.size
  go_wp2_with (first | (go_at_call 12; apply hold) | (go_at_call 24; apply hold) | (go_at_call 11; apply hold) | (go_at_call 18; apply hold) | (go_at_call 16; apply hold) | (go_at_call 25; apply hold) | (go_at_call 15; apply hold))
  refine unhold ((nil_crash i _).mono ?_)
  rintro e w5 ⟨rfl, hb5⟩
  have hb5' := hb4'.trans (hb5.mono hz4)
  have hz5 := hb5'.size
  go_wp2_with (first | (go_at_call 12; apply hold) | (go_at_call 24; apply hold) | (go_at_call 11; apply hold) | (go_at_call 18; apply hold) | (go_at_call 16; apply hold) | (go_at_call 25; apply hold) | (go_at_call 15; apply hold))
  refine unhold ((nil_lose i _).mono ?_)
  rintro e w6 ⟨rfl, hb6⟩
  have hb6' := hb5'.trans (hb6.mono hz5)
  have hz6 := hb6'.size
  go_wp2_with (first | (go_at_call 12; apply hold) | (go_at_call 24; apply hold) | (go_at_call 11; apply hold) | (go_at_call 18; apply hold) | (go_at_call 16; apply hold) | (go_at_call 25; apply hold) | (go_at_call 15; apply hold))
  refine unhold ((nil_len _).mono ?_)
  rintro e w7 ⟨rfl, hb7⟩
  have hb7' := hb6'.trans (hb7.mono hz6)
  have hz7 := hb7'.size
  go_wp2_with (first | (go_at_call 12; apply hold) | (go_at_call 24; apply hold) | (go_at_call 11; apply hold) | (go_at_call 18; apply hold) | (go_at_call 16; apply hold) | (go_at_call 25; apply hold) | (go_at_call 15; apply hold))
  refine unhold ((nil_epoch _).mono ?_)
  rintro e w8 ⟨rfl, hb8⟩
  have hb8' := hb7'.trans (hb8.mono hz7)
  go_wp2_with fail
  go_ret
  exact ⟨rfl, hb8'⟩
end
end Go.Proofs.YtonkblhhknafbaaGreat
