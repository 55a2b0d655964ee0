/- The walk of the law SlogLoses: it answers true. Whatever the heap holds beside. -/
import Derived.Test.YtonkblhhknafbaaGreatF29
namespace Go.Proofs.YtonkblhhknafbaaGreat
open Go.RowKit Go.Shelf

/-- all but one -/
def but (k : Nat) : List Bool := all3.set k false
theorem but_cnt (k : Nat) : 2 ≤ cnt (but k) 3 := by
  unfold but
  rcases (by omega : k = 0 ∨ k = 1 ∨ k = 2 ∨ 3 ≤ k) with h | h | h | h
  · rw [h]; decide
  · rw [h]; decide
  · rw [h]; decide
  · rw [List.set_eq_of_length_le (by simpa [all3] using h)]; decide
theorem but_rch {k j : Nat} (hj : j < 3) (hk : j ≠ k) : rch (but k) j = true := by
  unfold but rch
  rw [List.getElem?_set_ne (fun h => hk h.symm)]
  rcases (by omega : j = 0 ∨ j = 1 ∨ j = 2) with h | h | h <;> rw [h] <;> rfl
theorem but_map (k : Nat) (hk : k < 3) : [Value.bool true, Value.bool true, Value.bool true].set k (.bool false) = (but k).map Value.bool := by
  unfold but
  rcases (by omega : k = 0 ∨ k = 1 ∨ k = 2) with h | h | h <;> rw [h] <;> rfl
theorem but_map2 (k : Nat) (hk : k < 3) : (((([Value.bool true, Value.bool true, Value.bool true].set k (.bool false)).toArray).setIfInBounds k (.bool true)).setIfInBounds ((k + 1) % 3) (.bool false)).toList = (but ((k + 1) % 3)).map Value.bool := by
  unfold but
  rcases (by omega : k = 0 ∨ k = 1 ∨ k = 2) with h | h | h <;> rw [h] <;> rfl
/-- the log once a node has lost its disk -/
theorem OpnI.lose {m E k : Nat} {s : LS} (h : OpnI m E k s) (node : Nat) (hn : node < 3) :
    ∃ s', agF 3 (fun _ => []) s (node : Int) = (0, s') ∧ s'.row = s.row ∧ s'.E = E ∧ Live 3 m (fun j => j < 3 ∧ j ≠ node) s' := by
  obtain ⟨g1, g2⟩ := h.1.lose node hn
  exact ⟨_, g1, rfl, h.2.2.1, g2⟩
theorem lose_open1 {m E k node : Nat} {s : LS} {r : Int} {N' : List (List Cmd)} {rw' : Option (List (List UInt8))} (h : Live 3 m (fun j => j < 3 ∧ j ≠ node) s) (hs : s.E = E) (hk : s.row.length ≤ k) (ho : OpenR 1048576 3 (but node) s.N (s.E + 1) r N' rw') (hm : m + 1 + k ≤ 507) (hE : E ≤ 1000) :
    r = 0 ∧ rw' = some s.row ∧ Live 3 (m + 1 + k) (fun j => j < 3 ∧ j ≠ node) ⟨N', true, s.E + 1, s.row⟩ := by
  obtain ⟨j, hj, hjn⟩ : ∃ j, j < 3 ∧ j ≠ node := by
    by_cases h0 : node = 0
    · exact ⟨1, by omega, by omega⟩
    · exact ⟨0, by omega, fun h => h0 h.symm⟩
  obtain ⟨g1, g2, g3⟩ := h.open ho (by omega) (by omega) (by have := but_cnt node; omega) ⟨j, hj, ⟨hj, hjn⟩, but_rch hj hjn⟩
  exact ⟨g1, g2, g3.mono (by omega) (fun _ h => .inl h)⟩
theorem lose_open2 {m E k node : Nat} {s : LS} {r : Int} {N' : List (List Cmd)} {rw' : Option (List (List UInt8))} (h : Live 3 m (fun j => j < 3 ∧ j ≠ node) s) (hs : s.E = E) (hk : s.row.length ≤ k) (ho : OpenR 1048576 3 all3 s.N (s.E + 1) r N' rw') (hm : m + 1 + k ≤ 507) (hE : E ≤ 1000) :
    r = 0 ∧ rw' = some s.row ∧ OpnI (m + 1 + k) (E + 1) k ⟨N', true, s.E + 1, s.row⟩ := by
  obtain ⟨j, hj, hjn⟩ : ∃ j, j < 3 ∧ j ≠ node := by
    by_cases h0 : node = 0
    · exact ⟨1, by omega, by omega⟩
    · exact ⟨0, by omega, fun h => h0 h.symm⟩
  have hall : ∀ j, j < 3 → rch all3 j = true := fun j hj => by
    rcases (by omega : j = 0 ∨ j = 1 ∨ j = 2) with h | h | h <;> rw [h] <;> rfl
  obtain ⟨g1, g2, g3⟩ := h.open ho (by omega) (by omega) (by decide) ⟨j, hj, ⟨hj, hjn⟩, hall j hj⟩
  exact ⟨g1, g2, g3.mono (by omega) (fun j hj => .inr ⟨hj, hall j hj⟩), rfl, by simp only []; omega, hk⟩

set_option maxRecDepth 100000 in
set_option maxHeartbeats 4000000 in
/-- SlogLoses -/
theorem loses_any (A : Option Addr) (la ca : Nat) (l8 : List (List UInt8)) (x : Nat) (_hx : x < 256) (w : World) (h8 : ArgR w A la l8) :
    Calls Tryz.prog 5 #[.slice A la ca, .int .u8 x] w fun e w' => e = .returned (.bool true) ∧ Below w.heap.size w w' := by
  go_enter Tryz.func5, Tryz.ntmps5
  go_wp2_with (first | (go_at_call 9; apply hold))
  refine unhold ((shown_any w).mono ?_)
  rintro e w1 ⟨rfl, hb1⟩
  have hz1 := hb1.size
  go_wp2_with (first | (go_at_call 10; apply hold) | (go_at_call 11; apply hold) | (go_at_call 12; apply hold) | (go_at_call 13; apply hold) | (go_at_call 14; apply hold) | (go_at_call 16; apply hold))
  refine unhold ((lnew_any 3 1048576 (by omega) (by omega) w1).mono ?_)
  rintro q w2 ⟨lg, F2, rfl, hL2, hF2, hb2⟩
  have hz2 := hb2.size
  unfold ptrV
  go_wp2_with (first | (go_at_call 10; apply hold) | (go_at_call 11; apply hold) | (go_at_call 12; apply hold) | (go_at_call 13; apply hold) | (go_at_call 14; apply hold) | (go_at_call 16; apply hold))
  have hR3 : Sl (w2.alloc (.cells #[.bool true, .bool true, .bool true] 4)) (some ⟨w2.heap.size, 0, none⟩) 3 (all3.map Value.bool) := Sl.lit _ _ _ _ _ rfl rfl
  have hL3 : LogS (w2.alloc (.cells #[.bool true, .bool true, .bool true] 4)) lg F2 1048576 3 ⟨List.replicate 3 [], false, 0, []⟩ := LogAt.below hL2 ((Below.refl _ _).alloc (Nat.le_refl _) _)
  have hb3 : Below w.heap.size w (w2.alloc (.cells #[.bool true, .bool true, .bool true] 4)) := (hb1.trans (hb2.mono hz1)).alloc (by omega) _
  have hs3 : (w2.alloc (.cells #[.bool true, .bool true, .bool true] 4)).heap.size = w2.heap.size + 1 := by simp
  have hF2lt : ∀ y, F2 y → y < w2.heap.size := fun y h => LogAt.lt hL2 h
  obtain ⟨w3, hw3⟩ : ∃ w3, w3 = w2.alloc (.cells #[.bool true, .bool true, .bool true] 4) := ⟨_, rfl⟩
  rw [← hw3] at hR3 hL3 hb3 hs3 ⊢
  clear hw3
  obtain ⟨p, hp⟩ : ∃ p, p = w2.heap.size := ⟨_, rfl⟩
  rw [← hp] at hR3 hs3 hF2lt ⊢
  have hpw : w.heap.size ≤ p := by omega
  have hp3 : p < w3.heap.size := by omega
  have hpF2 : ¬ F2 p := fun h => by have := hF2lt p h; omega
  have hF2w : ∀ y, F2 y → w.heap.size ≤ y := fun y h => by have := hF2 y h; omega
  clear hp hL2 hF2
  refine unhold ((lopenS_any lg F2 1048576 3 _ w3 hL3 (some ⟨p, 0, none⟩) 3 3 all3 hR3 (fun y e => by have := sblk_ablk e; simp [ablk] at this; subst this; exact ⟨hp3, hpF2⟩) (by simp)).mono ?_)
  rintro q w4 ⟨r, N4, rw4, F4, rfl, ho4, hL4, hF4, hk4⟩
  obtain ⟨rfl, hO4⟩ := OpnI.start ho4
  have hz4 := hk4.size
  have hR4 : Sl w4 (some ⟨p, 0, none⟩) 3 (all3.map Value.bool) := hR3.kp hk4 (fun y e _ h => by simp [ablk] at e; subst e; exact hpF2 h)
  have hF4w : ∀ y, F4 y → w.heap.size ≤ y := fun y h => (hF4 y h).elim (hF2w y) (fun h => by omega)
  have hpF4 : ¬ F4 p := fun h => (hF4 p h).elim hpF2 (fun h => by omega)
  have hb4 : Below w.heap.size w w4 := below_kp hb3 hk4 hF2w (by omega)
  simp only [Nat.zero_add] at hL4
  clear ho4 hk4 hF4 hL3 hR3 hF2w hpF2
  obtain ⟨s4, hs4⟩ : ∃ s4, s4 = (⟨N4, rw4.isSome, 1, rw4.getD []⟩ : LS) := ⟨_, rfl⟩
  rw [← hs4] at hL4 hO4
  clear hs4
  have hpw4 : p < w4.heap.size := by omega
  go_wp2_with (first | (go_at_call 10; apply hold) | (go_at_call 11; apply hold) | (go_at_call 12; apply hold) | (go_at_call 13; apply hold) | (go_at_call 14; apply hold) | (go_at_call 16; apply hold))
  go_loopw [9] (fun v wr => ∃ (i : Nat) (s : LS) (F : Nat → Prop), v = .int .i64 (i : Nat) ∧ i ≤ la ∧ i ≤ 30 ∧ LogS wr lg F 1048576 3 s ∧ (∀ y, F y → w.heap.size ≤ y) ∧ ¬ F p ∧ Sl wr (some ⟨p, 0, none⟩) 3 (all3.map Value.bool) ∧ OpnI (1 + i) 1 i s ∧ Below w.heap.size w wr ∧ p < wr.heap.size) (fun v _ => la - (intOf v).toNat)
  case atStart => exact ⟨0, s4, F4, rfl, by omega, by omega, hL4, hF4w, hpF4, hR4, hO4, hb4, hpw4⟩
  case round =>
    clear hL4 hF4w hpF4 hR4 hO4 hb4 hpw4
    obtain ⟨i, s, F, rfl, hil, hi30, hL, hF, hpF, hR, hO, hb, hpw'⟩ := hrel
    have hzw := hb.size
    by_cases hgo : i < la ∧ i < 30
    · obtain ⟨hlt1, hlt2⟩ := hgo
      obtain ⟨b, off, x, A1, c1, rfl, hblt, hxi, hcell, hs⟩ := h8.at_ hlt1
      have hcw : wr.cell? ⟨b, off + i, none⟩ = some (.slice A1 x.length c1) := by rw [World.cell?_of_block (w := w) (a := ⟨b, off + i, none⟩) (hb.block b hblt)]; exact hcell
      obtain ⟨xl, hxl⟩ : ∃ xl, x.length = xl := ⟨_, rfl⟩
      rw [hxl] at hcw hs
      clear hxl hcell hxi
      have ga : decide ((i : Int) < (la : Int)) = true := by simp; omega
      have gb : decide ((i : Int) < 30) = true := by simp; omega
      go_wp2_with (first | (go_at_call 10; apply hold) | (go_at_call 11; apply hold) | (go_at_call 12; apply hold) | (go_at_call 13; apply hold) | (go_at_call 14; apply hold) | (go_at_call 16; apply hold))
      refine unhold ((lappend_any lg F 1048576 3 s wr hL A1 xl c1 x (some ⟨p, 0, none⟩) 3 3 all3 (hs.below hb) hR (fun y e => ⟨by have := hs.ltS e; omega, fun h => by have := hF y h; have := hs.ltS e; omega⟩) (fun y e => by have := sblk_ablk e; simp [ablk] at this; subst this; exact ⟨hpw', hpF⟩) (by rw [hO.2.2.1]; omega) (by have := hO.2.2.2; omega)).mono ?_)
      rintro q w5 ⟨rfl, F5, hL5, hF5, hk5⟩
      have hz5 := hk5.size
      have hO5 := hO.append x (by omega) (by omega)
      go_wp2_with (first | (go_at_call 10; apply hold) | (go_at_call 11; apply hold) | (go_at_call 12; apply hold) | (go_at_call 13; apply hold) | (go_at_call 14; apply hold) | (go_at_call 16; apply hold))
      go_roundw
      case rel => exact ⟨i + 1, _, F5, by simp, by omega, by omega, hL5, fun y h => (hF5 y h).elim (hF y) (fun h => by omega), fun h => (hF5 p h).elim hpF (fun h => by omega), hR.kp hk5 (fun y e _ h => by simp [ablk] at e; subst e; exact hpF h), by rw [← Nat.add_assoc]; exact hO5, below_kp hb hk5 hF hzw, by omega⟩
      case measure => simp [intOf]; omega
    · have ge : (¬ i < la ∧ decide ((i : Int) < (la : Int)) = false) ∨ (i < la ∧ ¬ i < 30 ∧ decide ((i : Int) < (la : Int)) = true ∧ decide ((i : Int) < 30) = false) := by
        simp; omega
      clear hgo
      rcases ge with ⟨he1, ge1⟩ | ⟨he1, he2, ge1, ge2⟩
      all_goals
        go_wp2_with (first | (go_at_call 10; apply hold) | (go_at_call 11; apply hold) | (go_at_call 12; apply hold) | (go_at_call 13; apply hold) | (go_at_call 14; apply hold) | (go_at_call 16; apply hold))
        refine unhold ((rowlaw_any lg F 1048576 3 s wr hL (by have := hO.2.2.2; omega) hO.1.bl).mono ?_)
        rintro q w5 ⟨A5, k5, c5, rfl, hrw5, hb5⟩
        have hz5 := hb5.size
        have hL5 : LogS w5 lg F 1048576 3 s := LogAt.below hL hb5
        have hFlt : ∀ y, F y → y < wr.heap.size := fun y h => LogAt.lt hL h
        have hwas := hrw5.fresh
        have hk5 : k5 ≤ 30 := by have := hrw5.len; have := hO.2.2.2; omega
        have hb6 : Below w.heap.size w w5 := hb.trans (hb5.mono hzw)
        have hR6 := hR.below hb5
        clear hrw5 hb5 hL hR hb
        obtain ⟨rw0, hrw0⟩ : ∃ rw0, s.row = rw0 := ⟨_, rfl⟩
        have hrl : s.row.length ≤ 30 := by have := hO.2.2.2; omega
        rw [hrw0] at hwas
        have hO5 : OpnI 31 1 30 s := hO.mono (by omega) hi30
        obtain ⟨z0, hz0⟩ : ∃ z0, wr.heap.size = z0 := ⟨_, rfl⟩
        rw [hz0] at hz5 hFlt hwas hzw hpw'
        clear hz0 hO
        obtain ⟨k, hk⟩ : ∃ k, k = x % 3 := ⟨_, rfl⟩
        have hk3 : k < 3 := by omega
        have hkx : (x : Int) % 3 = (k : Int) := by omega
        clear hk
        go_wp2_with (first | (go_at_call 10; apply hold) | (go_at_call 11; apply hold) | (go_at_call 12; apply hold) | (go_at_call 13; apply hold) | (go_at_call 14; apply hold) | (go_at_call 16; apply hold))
        have hl6 := llose_any lg F 1048576 3 s w5 hL5 k
        obtain ⟨s6, he6, hr6, hE6, hV6⟩ := hO5.lose k hk3
        rw [he6] at hl6
        have hrl6 : s6.row.length ≤ 30 := by rw [hr6]; exact hrl
        refine unhold (hl6.mono ?_)
        rintro q w6 ⟨rfl, F6, hL6, hF6, hk6⟩
        simp only [] at hL6
        have hz6 := hk6.size
        have hF6' : ∀ y, F6 y → F y ∨ w5.heap.size ≤ y := fun y h => hF6 y h
        have hFw' : ∀ y, (F y ∨ w5.heap.size ≤ y) → w.heap.size ≤ y := fun y h => h.elim (hF y) (fun h => by omega)
        have hwas6 := hwas.kp hk6 (fun y h e => by have := hFlt y e; omega)
        have hR6' : Sl w6 (some ⟨p, 0, none⟩) 3 (all3.map Value.bool) := hR6.kp hk6 (fun y e _ h => by simp [ablk] at e; subst e; exact hpF h)
        have hb6' : Below w.heap.size w w6 := below_kp hb6 hk6 hF (by omega)
        have hpF6 : ∀ F' : Nat → Prop, (∀ y, F' y → F y ∨ w5.heap.size ≤ y) → ¬ F' p := fun F' h h' => (h p h').elim hpF (fun h => by omega)
        have hwF6 : ∀ F' : Nat → Prop, (∀ y, F' y → F y ∨ w5.heap.size ≤ y) → ∀ y, (z0 ≤ y ∧ y < w5.heap.size) → ¬ F' y := fun F' h y hy h' => (h y h').elim (fun h => by have := hFlt y h; omega) (fun h => by omega)
        clear hR6 hwas hb6 hk6 hL5
        have g1 : (decide ((0 : Int) ≤ (k : Int)) = true) := by simp
        go_wp2_with (first | (go_at_call 10; apply hold) | (go_at_call 11; apply hold) | (go_at_call 12; apply hold) | (go_at_call 13; apply hold) | (go_at_call 14; apply hold) | (go_at_call 16; apply hold))
        have hblk7 := Blk.new w6 4 (([Value.bool true, Value.bool true, Value.bool true].set k (.bool false)).toArray)
        have hL7 : LogS (w6.alloc (.cells (([Value.bool true, Value.bool true, Value.bool true].set k (.bool false)).toArray) 4)) lg F6 1048576 3 s6 := LogAt.below hL6 ((Below.refl _ _).alloc (Nat.le_refl _) _)
        have hb7 : Below w.heap.size w (w6.alloc (.cells (([Value.bool true, Value.bool true, Value.bool true].set k (.bool false)).toArray) 4)) := hb6'.alloc (by omega) _
        have hwas7 := hwas6.below ((Below.refl w6.heap.size w6).alloc (Nat.le_refl _) (.cells (([Value.bool true, Value.bool true, Value.bool true].set k (.bool false)).toArray) 4))
        have hR7 := hR6'.alloc (.cells (([Value.bool true, Value.bool true, Value.bool true].set k (.bool false)).toArray) 4)
        have hs7 : (w6.alloc (.cells (([Value.bool true, Value.bool true, Value.bool true].set k (.bool false)).toArray) 4)).heap.size = w6.heap.size + 1 := by simp
        have hgF6 : ∀ y, F6 y → y < w6.heap.size := fun y h => LogAt.lt hL6 h
        obtain ⟨w7, hw7⟩ : ∃ w7, w7 = w6.alloc (.cells (([Value.bool true, Value.bool true, Value.bool true].set k (.bool false)).toArray) 4) := ⟨_, rfl⟩
        rw [← hw7] at hblk7 hL7 hb7 hwas7 hR7 hs7 ⊢
        clear hw7 hL6 hb6' hwas6 hR6'
        obtain ⟨g, hg⟩ : ∃ g, g = w6.heap.size := ⟨_, rfl⟩
        rw [← hg] at hblk7 hs7 hgF6 hz6 ⊢
        clear hg
        have hG7 : Sl w7 (some ⟨g, 0, none⟩) 3 ((but k).map Value.bool) := by
          have := Sl.blk hblk7
          rw [List.size_toArray, List.length_set, but_map k hk3] at this
          exact this
        refine unhold ((lopenS_any lg F6 1048576 3 s6 w7 hL7 (some ⟨g, 0, none⟩) 3 3 (but k) hG7 (fun y e => by have := sblk_ablk e; simp [ablk] at this; subst this; exact ⟨by omega, fun h => by have := hgF6 _ h; omega⟩) (by rw [hE6]; omega)).mono ?_)
        rintro q w8 ⟨r, N8, rw8, F8, rfl, ho8, hL8, hF8, hk8⟩
        obtain ⟨rfl, rfl, hV8⟩ := lose_open1 hV6 hE6 (by rw [hr6]; exact hrl) ho8 (by omega) (by omega)
        rw [hE6] at hL8 hV8
        simp only [Option.isSome_some, Option.getD_some] at hL8
        have hz8 := hk8.size
        have hF8' : ∀ y, F8 y → F y ∨ w5.heap.size ≤ y := fun y h => (hF8 y h).elim (hF6' y) (fun h => .inr (by omega))
        have hgF8 : ¬ F8 g := fun h => (hF8 g h).elim (fun h => by have := hgF6 g h; omega) (fun h => by omega)
        have hwas8 := hwas7.kp hk8 (fun y h => hwF6 F6 hF6' y h)
        have hR8 : Sl w8 (some ⟨p, 0, none⟩) 3 (all3.map Value.bool) := hR7.kp hk8 (fun y e _ h => by simp [ablk] at e; subst e; exact hpF6 F6 hF6' h)
        have hb8 : Below w.heap.size w w8 := below_kp hb7 hk8 (fun y h => hFw' y (hF6' y h)) (by omega)
        have hblk8 := hk8.blk hblk7 (fun h => by have := hgF6 g h; omega)
        clear ho8 hL7 hwas7 hR7 hb7 hblk7 hG7 hk8 hV6
        go_wp2_with (first | (go_at_call 10; apply hold) | (go_at_call 11; apply hold) | (go_at_call 12; apply hold) | (go_at_call 13; apply hold) | (go_at_call 14; apply hold) | (go_at_call 16; apply hold))
        refine unhold ((rowlaw_any lg F8 1048576 3 _ w8 hL8 (by simp only []; omega) hV8.bl).mono ?_)
        rintro q w9 ⟨A9, k9, c9, rfl, hrw9, hb9⟩
        have hz9 := hb9.size
        have hL9 : LogS w9 lg F8 1048576 3 ⟨N8, true, 1 + 1, s6.row⟩ := LogAt.below hL8 hb9
        have ha9 := hrw9.fresh
        have hk9 : Hid (k9 = s6.row.length) := hrw9.len
        have hwas9 := hwas8.below hb9
        have hR9 := hR8.below hb9
        have hblk9 := hb9.block g hblk8.lt
        have hblk9' : Blk w9 g 4 (([Value.bool true, Value.bool true, Value.bool true].set k (.bool false)).toArray) := hblk8.of_eq hblk9
        have hb9' := hb8.trans (hb9.mono (by omega))
        have hgF9 : ∀ y, F8 y → y < w8.heap.size := fun y h => LogAt.lt hL8 h
        clear hL8 hwas8 hR8 hblk8 hblk9 hrw9 hb9 hb8
        simp only [] at ha9
        go_wp2_with (first | (go_at_call 10; apply hold) | (go_at_call 11; apply hold) | (go_at_call 12; apply hold) | (go_at_call 13; apply hold) | (go_at_call 14; apply hold) | (go_at_call 16; apply hold))
        refine unhold ((lopenS_any lg F8 1048576 3 _ w9 hL9 (some ⟨p, 0, none⟩) 3 3 all3 hR9 (fun y e => by have := sblk_ablk e; simp [ablk] at this; subst this; exact ⟨by omega, hpF6 F8 hF8'⟩) (by simp only []; omega)).mono ?_)
        rintro q w10 ⟨r, N10, rw10, F10, rfl, ho10, hL10, hF10, hk10⟩
        obtain ⟨rfl, rfl, hO10⟩ := lose_open2 (E := 2) hV8 rfl (by simp only []; rw [hr6]; exact hrl) ho10 (by omega) (by omega)
        simp only [Option.isSome_some, Option.getD_some] at hL10
        simp only [] at hO10
        have hz10 := hk10.size
        have hF10' : ∀ y, F10 y → F y ∨ w5.heap.size ≤ y := fun y h => (hF10 y h).elim (hF8' y) (fun h => .inr (by omega))
        have hgF10 : ¬ F10 g := fun h => (hF10 g h).elim hgF8 (fun h => by omega)
        have hwas10 := hwas9.kp hk10 (fun y h => hwF6 F8 hF8' y h)
        have ha10 := ha9.kp hk10 (fun y h e => by have := hgF9 y e; omega)
        have hb10 : Below w.heap.size w w10 := below_kp hb9' hk10 (fun y h => hFw' y (hF8' y h)) (by omega)
        have hblk10 := hk10.blk hblk9' hgF8
        have haF10 : ∀ y, (w8.heap.size ≤ y ∧ y < w9.heap.size) → ¬ F10 y := fun y h h' => (hF10 y h').elim (fun h' => by have := hgF9 y h'; omega) (fun h' => by omega)
        clear ho10 hL9 hwas9 ha9 hb9' hblk9' hk10 hV8 hR9
        have fc : w10.cell? ⟨g, k, none⟩ = some (.bool false) := by
          rw [hblk10.cell]
          rcases (by omega : k = 0 ∨ k = 1 ∨ k = 2) with h | h | h <;> rw [h] <;> rfl
        have ff : w10.frozen? ⟨g, k, none⟩ = false := hblk10.free _
        have hm3 : (k + 1) % 3 < 3 := by omega
        have fc2 : (w10.setCell ⟨g, k, none⟩ (.bool true)).cell? ⟨g, (k + 1) % 3, none⟩ = some (.bool true) := by
          rw [(hblk10.set_ k (.bool true)).cell]
          rcases (by omega : k = 0 ∨ k = 1 ∨ k = 2) with h | h | h <;> rw [h] <;> rfl
        have ff2 : (w10.setCell ⟨g, k, none⟩ (.bool true)).frozen? ⟨g, (k + 1) % 3, none⟩ = false := (hblk10.set_ k (.bool true)).free _
        go_wp2_with (first | (go_at_call 10; apply hold) | (go_at_call 11; apply hold) | (go_at_call 12; apply hold) | (go_at_call 13; apply hold) | (go_at_call 14; apply hold) | (go_at_call 16; apply hold))
        have hblk11 := (hblk10.set_ k (.bool true)).set_ ((k + 1) % 3) (.bool false)
        have hk11 : Kp (fun y => y = g) w10 ((w10.setCell ⟨g, k, none⟩ (.bool true)).setCell ⟨g, (k + 1) % 3, none⟩ (.bool false)) := Kp.setCell (S := fun y => y = g) (Kp.setCell (S := fun y => y = g) (Kp.refl _ w10) (fun _ => rfl) _) (fun _ => rfl) _
        have hL11 : LogS ((w10.setCell ⟨g, k, none⟩ (.bool true)).setCell ⟨g, (k + 1) % 3, none⟩ (.bool false)) lg F10 1048576 3 ⟨N10, true, 1 + 1 + 1, s6.row⟩ := LogAt.kp hL10 hk11 (fun y h e => hgF10 (e ▸ h))
        have hwas11 := hwas10.kp hk11 (fun y h e => by have := h.2; omega)
        have ha11 := ha10.kp hk11 (fun y h e => by have := h.1; omega)
        have hb11 : Below w.heap.size w ((w10.setCell ⟨g, k, none⟩ (.bool true)).setCell ⟨g, (k + 1) % 3, none⟩ (.bool false)) := below_kp hb10 hk11 (fun y e => by omega) (by omega)
        have hs11 := hk11.size
        have hG11 : Sl ((w10.setCell ⟨g, k, none⟩ (.bool true)).setCell ⟨g, (k + 1) % 3, none⟩ (.bool false)) (some ⟨g, 0, none⟩) 3 ((but ((k + 1) % 3)).map Value.bool) := by
          have := Sl.blk hblk11
          rw [but_map2 k hk3] at this
          simp only [Array.size_setIfInBounds, List.size_toArray, List.length_set, List.length_cons, List.length_nil] at this
          exact this
        obtain ⟨w11, hw11⟩ : ∃ w11, w11 = (w10.setCell ⟨g, k, none⟩ (.bool true)).setCell ⟨g, (k + 1) % 3, none⟩ (.bool false) := ⟨_, rfl⟩
        rw [← hw11] at hL11 hwas11 ha11 hb11 hs11 hG11 ⊢
        clear hw11 hblk11 hk11 hblk10 hL10 hwas10 ha10 hb10 fc ff fc2 ff2
        refine unhold ((lopenS_any lg F10 1048576 3 _ w11 hL11 (some ⟨g, 0, none⟩) 3 3 (but ((k + 1) % 3)) hG11 (fun y e => by have := sblk_ablk e; simp [ablk] at this; subst this; exact ⟨by omega, hgF10⟩) (by simp)).mono ?_)
        rintro q w12 ⟨r, N12, rw12, F12, rfl, ho12, hL12, hF12, hk12⟩
        obtain ⟨rfl, rfl, hO12⟩ := hO10.open ho12 (by omega) (by omega) (but_cnt _)
        simp only [Option.isSome_some, Option.getD_some] at hL12
        have hz12 := hk12.size
        have hwas12 := hwas11.kp hk12 (fun y h => hwF6 F10 hF10' y h)
        have ha12 := ha11.kp hk12 (fun y h => haF10 y h)
        have hb12 : Below w.heap.size w w12 := below_kp hb11 hk12 (fun y h => hFw' y (hF10' y h)) (by omega)
        have hL12' : LogS w12 lg F12 1048576 3 ⟨N12, true, 1 + 1 + 1 + 1, s6.row⟩ := hL12
        have hrr : s6.row = rw0 := hr6.trans hrw0
        have Hrr := hide hrr
        clear hL12 hr6 hrw0 hrr ho12 hk12 hL11 hwas11 ha11 hb11 hG11 hO12
        go_wp2_with (first | (go_at_call 10; apply hold) | (go_at_call 11; apply hold) | (go_at_call 12; apply hold) | (go_at_call 13; apply hold) | (go_at_call 14; apply hold) | (go_at_call 16; apply hold))
        refine unhold ((lists_any A9 k9 c9 s6.row A5 k5 c5 rw0 _ _ w12 ha12 hwas12 (by have := hk9.out; omega)).mono ?_)
        rintro q w13 ⟨rfl, nd, rfl⟩
        rw [decide_eq_true Hrr.out]
        go_wp2_with (first | (go_at_call 10; apply hold) | (go_at_call 11; apply hold) | (go_at_call 12; apply hold) | (go_at_call 13; apply hold) | (go_at_call 14; apply hold) | (go_at_call 16; apply hold))
        refine unhold ((rowlaw_any lg F12 1048576 3 _ (w12.drewN nd) (LogAt.drewN hL12' nd) (by simp only []; omega) hO10.1.bl).mono ?_)
        rintro q w14 ⟨A14, k14, c14, rfl, hrw14, hb14⟩
        go_wp2_with (first | (go_at_call 10; apply hold) | (go_at_call 11; apply hold) | (go_at_call 12; apply hold) | (go_at_call 13; apply hold) | (go_at_call 14; apply hold) | (go_at_call 16; apply hold))
        refine unhold ((lists_any A14 k14 c14 s6.row A5 k5 c5 rw0 _ _ w14 hrw14.rowR ((hwas12.drewN nd).below hb14) (by have := hrw14.len; omega)).mono ?_)
        rintro q w15 ⟨rfl, nd2, rfl⟩
        rw [decide_eq_true Hrr.out]
        go_wp2_with (first | (go_at_call 10; apply hold) | (go_at_call 11; apply hold) | (go_at_call 12; apply hold) | (go_at_call 13; apply hold) | (go_at_call 14; apply hold) | (go_at_call 16; apply hold))
        go_ret
        have hsd : (w12.drewN nd).heap.size = w12.heap.size := rfl
        exact ⟨rfl, below_drewN ((below_drewN hb12 nd).trans (hb14.mono (by rw [hsd]; omega))) nd2⟩
end Go.Proofs.YtonkblhhknafbaaGreat
