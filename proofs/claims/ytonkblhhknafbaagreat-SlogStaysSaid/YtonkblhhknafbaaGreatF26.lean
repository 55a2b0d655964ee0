/- The walk of the law's shown: the document's example comes to true. Whatever the heap holds beside. -/
import Derived.Test.YtonkblhhknafbaaGreatP5
namespace Go.Proofs.YtonkblhhknafbaaGreat
open Go.RowKit Go.Shelf

set_option maxRecDepth 100000 in
set_option maxHeartbeats 4000000 in
/-- the document's example -/
theorem shown_any (w : World) : Calls Tryz.prog 9 #[] w fun e w' => e = .returned (.bool true) ∧ Below w.heap.size w w' := by
  go_enter Tryz.func9, Tryz.ntmps9
  go_wp2_with (first | (go_at_call 10; apply hold) | (go_at_call 11; apply hold) | (go_at_call 12; apply hold) | (go_at_call 25; apply hold) | (go_at_call 15; apply hold))
  refine unhold ((lnew_any 3 1000 (by omega) (by omega) w).mono ?_)
  rintro q w1 ⟨lg, F1, rfl, hL1, hF1, hb1⟩
  have hz1 := hb1.size
  unfold ptrV
  go_wp2_with (first | (go_at_call 10; apply hold) | (go_at_call 11; apply hold) | (go_at_call 12; apply hold) | (go_at_call 25; apply hold) | (go_at_call 15; apply hold))
  have hR2 : Sl (w1.alloc (.cells #[.bool true, .bool true] 4)) (some ⟨w1.heap.size, 0, none⟩) 2 ([true, true].map Value.bool) := Sl.lit _ _ _ _ _ rfl rfl
  have hL2 : LogS (w1.alloc (.cells #[.bool true, .bool true] 4)) lg F1 1000 3 ⟨List.replicate 3 [], false, 0, []⟩ := LogAt.below hL1 ((Below.refl _ _).alloc (Nat.le_refl _) _)
  have hs2 : (w1.alloc (.cells #[.bool true, .bool true] 4)).heap.size = w1.heap.size + 1 := by simp
  have hb2 : Below w.heap.size w (w1.alloc (.cells #[.bool true, .bool true] 4)) := hb1.alloc (by omega) _
  obtain ⟨w2, hw2⟩ : ∃ w2, w2 = w1.alloc (.cells #[.bool true, .bool true] 4) := ⟨_, rfl⟩
  rw [← hw2] at hR2 hL2 hs2 hb2 ⊢
  clear hw2
  obtain ⟨p, hpe⟩ : ∃ p, p = w1.heap.size := ⟨_, rfl⟩
  rw [← hpe] at hR2 ⊢
  have hp1 : w1.heap.size ≤ p := by omega
  have hp2 : p < w2.heap.size := by omega
  clear hpe hs2
  have hF1lt : ∀ y, F1 y → y < w1.heap.size := fun y h => LogAt.lt hL1 h
  refine unhold ((lopenS_any lg F1 1000 3 _ w2 hL2 (some ⟨p, 0, none⟩) 2 2 [true, true] hR2 (fun y e => by simp [sblk, ablk] at e; subst e; exact ⟨hp2, fun h => by have := hF1lt _ h; omega⟩) (by simp)).mono ?_)
  rintro q w3 ⟨r3, N3, rw3, F3, rfl, ho3, hL3, hF3, hk3⟩
  obtain ⟨rfl, rfl, rfl⟩ := shown1 ho3
  have hz3 := hk3.size
  have hR3 : Sl w3 (some ⟨p, 0, none⟩) 2 ([true, true].map Value.bool) := hR2.kp hk3 (fun y e _ h => by simp [ablk] at e; subst e; have := hF1lt _ h; omega)
  have hpF3 : ¬ F3 p := fun h => (hF3 p h).elim (fun h1 => by have := hF1lt _ h1; omega) (fun h1 => by omega)
  have hw3 : Below w.heap.size w w3 := below_kp hb2 hk3 hF1 hb2.size
  have hF3w : ∀ y, F3 y → w.heap.size ≤ y := fun y h => (hF3 y h).elim (fun h1 => hF1 y h1) (fun h1 => by have := hb2.size; omega)
  simp only [Option.isSome_some, Option.getD_some, Nat.zero_add] at hL3
  go_wp2_with (first | (go_at_call 10; apply hold) | (go_at_call 11; apply hold) | (go_at_call 12; apply hold) | (go_at_call 25; apply hold) | (go_at_call 15; apply hold))
  have hB4 : Sl (w3.alloc (.cells #[.int .u8 7] 5)) (some ⟨w3.heap.size, 0, none⟩) 1 (u8s [7]) := Sl.lit _ _ _ _ _ rfl rfl
  have hL4 : LogS (w3.alloc (.cells #[.int .u8 7] 5)) lg F3 1000 3 ⟨[[xu1], [xu1], []], true, 1, []⟩ := LogAt.below hL3 ((Below.refl _ _).alloc (Nat.le_refl _) _)
  have hF3lt : ∀ y, F3 y → y < w3.heap.size := fun y h => LogAt.lt hL3 h
  have hq4 := lappend_any lg F3 1000 3 _ _ hL4 (some ⟨w3.heap.size, 0, none⟩) 1 1 [7] (some ⟨p, 0, none⟩) 2 2 [true, true] hB4 (hR3.alloc _) (fun y e => by simp [sblk, ablk] at e; subst e; exact ⟨by simp, fun h => by have := hF3lt _ h; omega⟩) (fun y e => by simp [sblk, ablk] at e; subst e; exact ⟨by simp; omega, hpF3⟩) (by simp) (by simp)
  rw [shown2] at hq4
  refine unhold (hq4.mono ?_)
  rintro q w4 ⟨rfl, F4, hL4', hF4, hk4⟩
  have hz4 := hk4.size
  rw [World.size_alloc] at hz4
  simp only [] at hL4'
  have hR4 : Sl w4 (some ⟨p, 0, none⟩) 2 ([true, true].map Value.bool) := (hR3.alloc _).kp hk4 (fun y e _ h => by simp [ablk] at e; subst e; exact hpF3 h)
  have hw4 : Below w.heap.size w w4 := below_kp (hw3.alloc (by have := hw3.size; omega) _) hk4 hF3w (by have := hw3.size; simp; omega)
  have hF4w : ∀ y, F4 y → w.heap.size ≤ y := fun y h => (hF4 y h).elim (fun h1 => hF3w y h1) (fun h1 => by have := hw3.size; simp at h1; omega)
  have hF4lt : ∀ y, F4 y → y < w4.heap.size := fun y h => LogAt.lt hL4' h
  go_wp2_with (first | (go_at_call 10; apply hold) | (go_at_call 11; apply hold) | (go_at_call 12; apply hold) | (go_at_call 25; apply hold) | (go_at_call 15; apply hold))
  have hb5 : Below w4.heap.size w4 ((w4.alloc (.cells #[.int .u8 8] 5)).alloc (.cells #[.bool true] 4)) := ((Below.refl _ _).alloc (Nat.le_refl _) _).alloc (by simp) _
  have hB5 : Sl ((w4.alloc (.cells #[.int .u8 8] 5)).alloc (.cells #[.bool true] 4)) (some ⟨w4.heap.size, 0, none⟩) 1 (u8s [8]) := (Sl.lit _ _ _ _ _ rfl rfl).alloc _
  have hR5 : Sl ((w4.alloc (.cells #[.int .u8 8] 5)).alloc (.cells #[.bool true] 4)) (some ⟨w4.heap.size + 1, 0, none⟩) 1 ([true].map Value.bool) := by
    have := Sl.lit (w4.alloc (.cells #[.int .u8 8] 5)) #[.bool true] 4 1 ([true].map Value.bool) rfl rfl
    rwa [World.size_alloc] at this
  have hL5 : LogS ((w4.alloc (.cells #[.int .u8 8] 5)).alloc (.cells #[.bool true] 4)) lg F4 1000 3 ⟨[[xu1, xw7], [xu1, xw7], []], true, 1, [[7]]⟩ := LogAt.below hL4' hb5
  have hs5 : ((w4.alloc (.cells #[.int .u8 8] 5)).alloc (.cells #[.bool true] 4)).heap.size = w4.heap.size + 2 := by simp
  have hq5 := lappend_any lg F4 1000 3 _ _ hL5 (some ⟨w4.heap.size, 0, none⟩) 1 1 [8] (some ⟨w4.heap.size + 1, 0, none⟩) 1 1 [true] hB5 hR5 (fun y e => by simp [sblk, ablk] at e; subst e; exact ⟨by simp; omega, fun h => by have := hF4lt _ h; omega⟩) (fun y e => by simp [sblk, ablk] at e; subst e; exact ⟨by simp, fun h => by have := hF4lt _ h; omega⟩) (by simp) (by simp)
  rw [shown3] at hq5
  refine unhold (hq5.mono ?_)
  rintro q w6 ⟨rfl, F6, hL6, hF6, hk6⟩
  simp only [] at hL6
  have hz6 := hk6.size
  rw [hs5] at hz6
  have hw5 : Below w.heap.size w ((w4.alloc (.cells #[.int .u8 8] 5)).alloc (.cells #[.bool true] 4)) := hw4.trans (hb5.mono hw4.size)
  have hw6 : Below w.heap.size w w6 := below_kp hw5 hk6 hF4w (by have := hw4.size; rw [hs5]; omega)
  have hF6w : ∀ y, F6 y → w.heap.size ≤ y := fun y h => (hF6 y h).elim (fun h1 => hF4w y h1) (fun h1 => by have := hw4.size; rw [hs5] at h1; omega)
  have hF6lt : ∀ y, F6 y → y < w6.heap.size := fun y h => LogAt.lt hL6 h
  go_wp2_with (first | (go_at_call 10; apply hold) | (go_at_call 11; apply hold) | (go_at_call 12; apply hold) | (go_at_call 25; apply hold) | (go_at_call 15; apply hold))
  have hL7 : LogS (w6.alloc (.cells #[.bool true, .bool false, .bool true] 4)) lg F6 1000 3 ⟨[[xu1, xw7, xw8], [xu1, xw7], []], false, 1, [[7]]⟩ := LogAt.below hL6 ((Below.refl _ _).alloc (Nat.le_refl _) _)
  have hR7 : Sl (w6.alloc (.cells #[.bool true, .bool false, .bool true] 4)) (some ⟨w6.heap.size, 0, none⟩) 3 ([true, false, true].map Value.bool) := Sl.lit _ _ _ _ _ rfl rfl
  refine unhold ((lopenS_any lg F6 1000 3 _ _ hL7 (some ⟨w6.heap.size, 0, none⟩) 3 3 [true, false, true] hR7 (fun y e => by simp [sblk, ablk] at e; subst e; exact ⟨by simp, fun h => by have := hF6lt _ h; omega⟩) (by simp)).mono ?_)
  rintro q w8 ⟨r8, N8, rw8, F8, rfl, ho8, hL8, hF8, hk8⟩
  obtain ⟨rfl, rfl⟩ := shown4 ho8
  simp only [Option.isSome_some, Option.getD_some] at hL8
  have hw8 : Below w.heap.size w w8 := below_kp (hw6.alloc (by have := hw6.size; omega) _) hk8 hF6w (by have := hw6.size; simp; omega)
  go_wp2_with (first | (go_at_call 10; apply hold) | (go_at_call 11; apply hold) | (go_at_call 12; apply hold) | (go_at_call 25; apply hold) | (go_at_call 15; apply hold))
  refine unhold ((llen_any lg F8 1000 3 _ _ _ _ w8 hL8).mono ?_)
  rintro q w9 ⟨rfl, rfl⟩
  go_wp2_with (first | (go_at_call 10; apply hold) | (go_at_call 11; apply hold) | (go_at_call 12; apply hold) | (go_at_call 25; apply hold) | (go_at_call 15; apply hold))
  refine unhold ((lepoch_any lg F8 1000 3 _ _ _ _ w8 hL8).mono ?_)
  rintro q w9 ⟨rfl, rfl⟩
  go_wp2_with (first | (go_at_call 10; apply hold) | (go_at_call 11; apply hold) | (go_at_call 12; apply hold) | (go_at_call 25; apply hold) | (go_at_call 15; apply hold))
  go_ret
  exact ⟨rfl, hw8⟩
end Go.Proofs.YtonkblhhknafbaaGreat
