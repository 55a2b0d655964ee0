/- The walk of the law SlogOpens: it answers true. Whatever the heap holds beside. -/
import Derived.Test.YtonkblhhknafbaaGreatF28
namespace Go.Proofs.YtonkblhhknafbaaGreat
open Go.RowKit Go.Shelf

def all3 : List Bool := [true, true, true]
/-- three nodes that hold all -/
def OpnI (m E k : Nat) (s : LS) : Prop := Live 3 m (fun j => j < 3) s ∧ s.op = true ∧ s.E = E ∧ s.row.length ≤ k
theorem OpnI.start {r : Int} {N' : List (List Cmd)} {rw' : Option (List (List UInt8))} (ho : OpenR 1048576 3 all3 (List.replicate 3 []) 1 r N' rw') : r = 0 ∧ OpnI 1 1 0 ⟨N', rw'.isSome, 1, rw'.getD []⟩ := by
  obtain ⟨h1, h2, h3⟩ := (Live.start 3).open (r := r) (N' := N') (rw' := rw') (bs := all3) ho (by simp) (by simp) (by decide) ⟨0, by omega, trivial, rfl⟩
  subst h1 h2
  exact ⟨rfl, h3.mono (Nat.le_refl _) (fun _ _ => .inl trivial), rfl, rfl, Nat.le_refl _⟩
theorem OpnI.append {m k : Nat} {s : LS} (h : OpnI m 1 k s) (b : List UInt8) (hm : m + 1 ≤ 507) (hk : k < 4096) : OpnI (m + 1) 1 (k + 1) (appF 1048576 3 all3 s b).2.2 := by
  obtain ⟨h1, h2, h3, h4⟩ := h
  by_cases hb : 0 < b.length ∧ b.length ≤ 2048
  · obtain ⟨g1, g2⟩ := h1.append (bs := all3) (b := b) h2 ⟨hb.1, hb.2⟩ (by omega) hm (by omega) (by decide)
    rw [g1]
    refine ⟨g2.mono (Nat.le_refl _) (fun j hj => ⟨hj, hj, ?_⟩), rfl, h3, by simp; omega⟩
    rcases (by omega : j = 0 ∨ j = 1 ∨ j = 2) with rfl | rfl | rfl <;> rfl
  · have : appF 1048576 3 all3 s b = (0, 2, s) := by
      unfold appF
      rw [if_neg (by rw [h2]; simp), if_pos (by omega)]
    rw [this]
    exact ⟨h1.mono (by omega) (fun _ h => h), h2, h3, by simp only []; omega⟩
theorem OpnI.open {m E k : Nat} {s : LS} {bs : List Bool} {r : Int} {N' : List (List Cmd)} {rw' : Option (List (List UInt8))} (h : OpnI m E k s) (ho : OpenR 1048576 3 bs s.N (s.E + 1) r N' rw') (hm : m + 1 + k ≤ 507) (hE : E ≤ 1000) (hq : 2 ≤ cnt bs 3) :
    r = 0 ∧ rw' = some s.row ∧ OpnI (m + 1 + k) (E + 1) k ⟨N', true, s.E + 1, s.row⟩ := by
  obtain ⟨h1, h2, h3, h4⟩ := h
  obtain ⟨j, hj, hr⟩ := cnt_has (bs := bs) 3 (by omega)
  obtain ⟨g1, g2, g3⟩ := h1.open ho (by omega) (by omega) (by omega) ⟨j, hj, hj, hr⟩
  exact ⟨g1, g2, g3.mono (by omega) (fun _ h => .inl h), rfl, by simp only []; omega, h4⟩
theorem OpnI.mono {m m' E k k' : Nat} {s : LS} (h : OpnI m E k s) (hm : m ≤ m') (hk : k ≤ k') : OpnI m' E k' s := ⟨h.1.mono hm (fun _ h => h), h.2.1, h.2.2.1, Nat.le_trans h.2.2.2 hk⟩
/-- who is reached: all but one at most -/
def two (x : Nat) : List Bool := all3.set (x % 3) (decide (x % 2 = 0))
theorem two_cnt (x : Nat) : 2 ≤ cnt (two x) 3 := by
  unfold two
  rcases (by omega : x % 3 = 0 ∨ x % 3 = 1 ∨ x % 3 = 2) with h | h | h <;> rw [h] <;> (cases decide (x % 2 = 0) <;> decide)

theorem Sl.blk {w : World} {g : Nat} {t : TypeId} {cs : Array Value} (h : Blk w g t cs) : Sl w (some ⟨g, 0, none⟩) cs.size cs.toList :=
  ⟨by simp, fun _ => ⟨g, 0, rfl, h.lt, fun j u hu => by rw [Nat.zero_add, h.cell j]; simpa using hu⟩⟩
theorem two_map (x : Nat) : (#[Value.bool true, Value.bool true, Value.bool true].setIfInBounds (x % 3) (.bool (decide (x % 2 = 0)))).toList = (two x).map Value.bool := by
  unfold two
  rcases (by omega : x % 3 = 0 ∨ x % 3 = 1 ∨ x % 3 = 2) with h | h | h <;> rw [h] <;> rfl
theorem RowR.kp {w w' : World} {F S : Nat → Prop} {A : Option Addr} {m : Nat} {rw : List (List UInt8)} (h : RowR w F A m rw) (hk : Kp S w w') (hn : ∀ y, F y → ¬ S y) : RowR w' F A m rw :=
  h.go hk.size (fun y hy hlt => hk.block y hlt (hn y hy)) (fun _ h _ => h)
theorem RowR.below {w w' : World} {F : Nat → Prop} {A : Option Addr} {m : Nat} {rw : List (List UInt8)} (h : RowR w F A m rw) (hb : Below w.heap.size w w') : RowR w' F A m rw :=
  h.go hb.size (fun y _ hlt => hb.block y hlt) (fun _ h _ => h)
theorem LogAt.drewN {w : World} {lg : Nat} {F : Nat → Prop} {room n : Nat} {N : List (List Cmd)} {op : Bool} {E : Nat} {row : List (List UInt8)} (h : LogAt w lg F room n N op E row) (k : Nat) : LogAt (w.drewN k) lg F room n N op E row := h.keep (Nat.le_refl _) (fun _ _ => rfl)
theorem RowR.drewN {w : World} {F : Nat → Prop} {A : Option Addr} {m : Nat} {rw : List (List UInt8)} (h : RowR w F A m rw) (k : Nat) : RowR (w.drewN k) F A m rw := h.go (Nat.le_refl _) (fun _ _ _ => rfl) (fun _ h _ => h)
/-- a row handed back lies in blocks that were not there -/
theorem RowL.fresh {w : World} {b : Nat} {A : Option Addr} {m c : Nat} {rw : List (List UInt8)} (h : RowL w (fun y => b ≤ y ∧ ablk A ≠ some y) b A m c rw) : RowR w (fun y => b ≤ y ∧ y < w.heap.size) A m rw := by
  have h1 := h.rowR
  exact h1.go (Nat.le_refl _) (fun _ _ _ => rfl) (fun y hy hlt => ⟨by
    rcases hy with hy | hy
    · exact hy.1
    · exact (h.lt hy).1, hlt⟩)

set_option maxRecDepth 100000 in
set_option maxHeartbeats 4000000 in
/-- SlogOpens -/
theorem opens_any (A : Option Addr) (la ca : Nat) (l8 : List (List UInt8)) (B : Option Addr) (cB : Nat) (who : List UInt8) (w : World) (h8 : ArgR w A la l8) (hB : Sl w B who.length (u8s who)) :
    Calls Tryz.prog 4 #[.slice A la ca, .slice B who.length cB] w fun e w' => e = .returned (.bool true) ∧ Below w.heap.size w w' := by
  obtain ⟨lw, hlw⟩ : ∃ lw, who.length = lw := ⟨_, rfl⟩
  rw [hlw] at hB ⊢
  have Hlw := hide hlw
  clear hlw
  go_enter Tryz.func4, Tryz.ntmps4
  go_wp2_with (first | (go_at_call 9; apply hold))
  refine unhold ((shown_any w).mono ?_)
  rintro e w1 ⟨rfl, hb1⟩
  have hz1 := hb1.size
  go_wp2_with (first | (go_at_call 10; apply hold) | (go_at_call 11; apply hold) | (go_at_call 12; apply hold) | (go_at_call 13; apply hold) | (go_at_call 14; apply hold) | (go_at_call 15; apply hold))
  refine unhold ((lnew_any 3 1048576 (by omega) (by omega) w1).mono ?_)
  rintro q w2 ⟨lg, F2, rfl, hL2, hF2, hb2⟩
  have hz2 := hb2.size
  unfold ptrV
  go_wp2_with (first | (go_at_call 10; apply hold) | (go_at_call 11; apply hold) | (go_at_call 12; apply hold) | (go_at_call 13; apply hold) | (go_at_call 14; apply hold) | (go_at_call 15; apply hold))
  have hR3 : Sl (w2.alloc (.cells #[.bool true, .bool true, .bool true] 4)) (some ⟨w2.heap.size, 0, none⟩) 3 (all3.map Value.bool) := Sl.lit _ _ _ _ _ rfl rfl
  have hL3 : LogS (w2.alloc (.cells #[.bool true, .bool true, .bool true] 4)) lg F2 1048576 3 ⟨List.replicate 3 [], false, 0, []⟩ := LogAt.below hL2 ((Below.refl _ _).alloc (Nat.le_refl _) _)
  have hb3 : Below w.heap.size w (w2.alloc (.cells #[.bool true, .bool true, .bool true] 4)) := (hb1.trans (hb2.mono hz1)).alloc (by omega) _
  have hs3 : (w2.alloc (.cells #[.bool true, .bool true, .bool true] 4)).heap.size = w2.heap.size + 1 := by simp
  have hF2lt : ∀ y, F2 y → y < w2.heap.size := fun y h => LogAt.lt hL2 h
  obtain ⟨w3, hw3⟩ : ∃ w3, w3 = w2.alloc (.cells #[.bool true, .bool true, .bool true] 4) := ⟨_, rfl⟩
  rw [← hw3] at hR3 hL3 hb3 hs3 ⊢
  clear hw3
  obtain ⟨p, hp⟩ : ∃ p, p = w2.heap.size := ⟨_, rfl⟩
  rw [← hp] at hR3 hs3 hF2lt ⊢
  have hpw : w.heap.size ≤ p := by omega
  have hp3 : p < w3.heap.size := by omega
  have hpF2 : ¬ F2 p := fun h => by have := hF2lt p h; omega
  have hF2w : ∀ y, F2 y → w.heap.size ≤ y := fun y h => by have := hF2 y h; omega
  clear hp hL2 hF2
  refine unhold ((lopenS_any lg F2 1048576 3 _ w3 hL3 (some ⟨p, 0, none⟩) 3 3 all3 hR3 (fun y e => by have := sblk_ablk e; simp [ablk] at this; subst this; exact ⟨hp3, hpF2⟩) (by simp)).mono ?_)
  rintro q w4 ⟨r, N4, rw4, F4, rfl, ho4, hL4, hF4, hk4⟩
  obtain ⟨rfl, hO4⟩ := OpnI.start ho4
  have hz4 := hk4.size
  have hR4 : Sl w4 (some ⟨p, 0, none⟩) 3 (all3.map Value.bool) := hR3.kp hk4 (fun y e _ h => by simp [ablk] at e; subst e; exact hpF2 h)
  have hF4w : ∀ y, F4 y → w.heap.size ≤ y := fun y h => (hF4 y h).elim (hF2w y) (fun h => by omega)
  have hpF4 : ¬ F4 p := fun h => (hF4 p h).elim hpF2 (fun h => by omega)
  have hb4 : Below w.heap.size w w4 := below_kp hb3 hk4 hF2w (by omega)
  simp only [Nat.zero_add] at hL4
  clear ho4 hk4 hF4 hL3 hR3 hF2w hpF2
  obtain ⟨s4, hs4⟩ : ∃ s4, s4 = (⟨N4, rw4.isSome, 1, rw4.getD []⟩ : LS) := ⟨_, rfl⟩
  rw [← hs4] at hL4 hO4
  clear hs4
  have hpw4 : p < w4.heap.size := by omega
  go_wp2_with (first | (go_at_call 10; apply hold) | (go_at_call 11; apply hold) | (go_at_call 12; apply hold) | (go_at_call 13; apply hold) | (go_at_call 14; apply hold) | (go_at_call 15; apply hold))
  go_loopw [9] (fun v wr => ∃ (i : Nat) (s : LS) (F : Nat → Prop), v = .int .i64 (i : Nat) ∧ i ≤ la ∧ i ≤ 20 ∧ LogS wr lg F 1048576 3 s ∧ (∀ y, F y → w.heap.size ≤ y) ∧ ¬ F p ∧ Sl wr (some ⟨p, 0, none⟩) 3 (all3.map Value.bool) ∧ OpnI (1 + i) 1 i s ∧ Below w.heap.size w wr ∧ p < wr.heap.size) (fun v _ => la - (intOf v).toNat)
  case atStart => exact ⟨0, s4, F4, rfl, by omega, by omega, hL4, hF4w, hpF4, hR4, hO4, hb4, hpw4⟩
  case round =>
    clear hL4 hF4w hpF4 hR4 hO4 hb4 hpw4
    obtain ⟨i, s, F, rfl, hil, hi20, hL, hF, hpF, hR, hO, hb, hpw'⟩ := hrel
    have hzw := hb.size
    by_cases hgo : i < la ∧ i < 20
    · obtain ⟨hlt1, hlt2⟩ := hgo
      obtain ⟨b, off, x, A1, c1, rfl, hblt, hxi, hcell, hs⟩ := h8.at_ hlt1
      have hcw : wr.cell? ⟨b, off + i, none⟩ = some (.slice A1 x.length c1) := by rw [World.cell?_of_block (w := w) (a := ⟨b, off + i, none⟩) (hb.block b hblt)]; exact hcell
      obtain ⟨xl, hxl⟩ : ∃ xl, x.length = xl := ⟨_, rfl⟩
      rw [hxl] at hcw hs
      clear hxl hcell hxi
      have ga : decide ((i : Int) < (la : Int)) = true := by simp; omega
      have gb : decide ((i : Int) < 20) = true := by simp; omega
      go_wp2_with (first | (go_at_call 10; apply hold) | (go_at_call 11; apply hold) | (go_at_call 12; apply hold) | (go_at_call 13; apply hold) | (go_at_call 14; apply hold) | (go_at_call 15; apply hold))
      refine unhold ((lappend_any lg F 1048576 3 s wr hL A1 xl c1 x (some ⟨p, 0, none⟩) 3 3 all3 (hs.below hb) hR (fun y e => ⟨by have := hs.ltS e; omega, fun h => by have := hF y h; have := hs.ltS e; omega⟩) (fun y e => by have := sblk_ablk e; simp [ablk] at this; subst this; exact ⟨hpw', hpF⟩) (by rw [hO.2.2.1]; omega) (by have := hO.2.2.2; omega)).mono ?_)
      rintro q w5 ⟨rfl, F5, hL5, hF5, hk5⟩
      have hz5 := hk5.size
      have hO5 := hO.append x (by omega) (by omega)
      go_wp2_with (first | (go_at_call 10; apply hold) | (go_at_call 11; apply hold) | (go_at_call 12; apply hold) | (go_at_call 13; apply hold) | (go_at_call 14; apply hold) | (go_at_call 15; apply hold))
      go_roundw
      case rel => exact ⟨i + 1, _, F5, by simp, by omega, by omega, hL5, fun y h => (hF5 y h).elim (hF y) (fun h => by omega), fun h => (hF5 p h).elim hpF (fun h => by omega), hR.kp hk5 (fun y e _ h => by simp [ablk] at e; subst e; exact hpF h), by rw [← Nat.add_assoc]; exact hO5, below_kp hb hk5 hF hzw, by omega⟩
      case measure => simp [intOf]; omega
    · have ge : (¬ i < la ∧ decide ((i : Int) < (la : Int)) = false) ∨ (i < la ∧ ¬ i < 20 ∧ decide ((i : Int) < (la : Int)) = true ∧ decide ((i : Int) < 20) = false) := by
        simp; omega
      clear hgo
      rcases ge with ⟨he1, ge1⟩ | ⟨he1, he2, ge1, ge2⟩
      all_goals
        go_wp2_with (first | (go_at_call 10; apply hold) | (go_at_call 11; apply hold) | (go_at_call 12; apply hold) | (go_at_call 13; apply hold) | (go_at_call 14; apply hold) | (go_at_call 15; apply hold))
        refine unhold ((rowlaw_any lg F 1048576 3 s wr hL (by have := hO.2.2.2; omega) hO.1.bl).mono ?_)
        rintro q w5 ⟨A5, k5, c5, rfl, hrw5, hb5⟩
        have hz5 := hb5.size
        have hL5 : LogS w5 lg F 1048576 3 s := LogAt.below hL hb5
        have hFlt : ∀ y, F y → y < wr.heap.size := fun y h => LogAt.lt hL h
        have hwas := hrw5.fresh
        have hk5 : k5 ≤ 20 := by have := hrw5.len; have := hO.2.2.2; omega
        have hb6 : Below w.heap.size w w5 := hb.trans (hb5.mono hzw)
        clear hrw5 hb5 hL hR hb
        obtain ⟨rw0, hrw0⟩ : ∃ rw0, s.row = rw0 := ⟨_, rfl⟩
        rw [hrw0] at hwas
        go_wp2_with (first | (go_at_call 10; apply hold) | (go_at_call 11; apply hold) | (go_at_call 12; apply hold) | (go_at_call 13; apply hold) | (go_at_call 14; apply hold) | (go_at_call 15; apply hold))
        have hO5 : OpnI 21 1 20 s := hO.mono (by omega) hi20
        obtain ⟨z0, hz0⟩ : ∃ z0, wr.heap.size = z0 := ⟨_, rfl⟩
        rw [hz0] at hz5 hFlt hwas hzw hpw'
        clear hz0 hO
        go_loopw [11] (fun v wx => ∃ (i : Nat) (s' : LS) (F' : Nat → Prop), v = .int .i64 (i : Nat) ∧ i ≤ lw ∧ i ≤ 20 ∧ LogS wx lg F' 1048576 3 s' ∧ (∀ y, F' y → F y ∨ w5.heap.size ≤ y) ∧ RowR wx (fun y => z0 ≤ y ∧ y < w5.heap.size) A5 k5 rw0 ∧ OpnI (21 + 21 * i) (1 + i) 20 s' ∧ s'.row = rw0 ∧ Below w.heap.size w wx ∧ w5.heap.size ≤ wx.heap.size) (fun v _ => lw - (intOf v).toNat)
        case atStart => exact ⟨0, s, F, rfl, by omega, by omega, hL5, fun _ h => .inl h, hwas, hO5, hrw0, hb6, Nat.le_refl _⟩
        case round =>
          clear hL5 hwas hO5 hrw0
          obtain ⟨j, s', F', rfl, hjl, hj20, hL', hF', hwas, hO', hrow, hb', hz'⟩ := hrel
          have hzw' := hb'.size
          have hFw' : ∀ y, F' y → w.heap.size ≤ y := fun y h => (hF' y h).elim (hF y) (fun h => by omega)
          by_cases hgo : j < lw ∧ j < 20
          · obtain ⟨hlt1, hlt2⟩ := hgo
            obtain ⟨b, off, u, rfl, hblt, hu, hcell⟩ := hB.at_ hlt1
            rw [u8s_get who j (by rw [Hlw.out]; exact hlt1)] at hu
            obtain ⟨x, hx⟩ : ∃ x, x = (who[j]'(by rw [Hlw.out]; exact hlt1)).toNat := ⟨_, rfl⟩
            have hx256 : x < 256 := by rw [hx]; exact UInt8.toNat_lt _
            rw [← hx] at hu
            clear hx
            cases hu
            have hcw : wr.cell? ⟨b, off + j, none⟩ = some (.int .u8 x) := by rw [World.cell?_of_block (w := w) (a := ⟨b, off + j, none⟩) (hb'.block b hblt)]; exact hcell
            clear hcell
            have ga : decide ((j : Int) < (lw : Int)) = true := by simp; omega
            have gb : decide ((j : Int) < 20) = true := by simp; omega
            go_wp2_with (first | (go_at_call 10; apply hold) | (go_at_call 11; apply hold) | (go_at_call 12; apply hold) | (go_at_call 13; apply hold) | (go_at_call 14; apply hold) | (go_at_call 15; apply hold))
            have hL6 : LogS (wr.alloc (.cells #[.bool true, .bool true, .bool true] 4)) lg F' 1048576 3 s' := LogAt.below hL' ((Below.refl _ _).alloc (Nat.le_refl _) _)
            have hblk := Blk.new wr 4 #[.bool true, .bool true, .bool true]
            have hb6' : Below w.heap.size w (wr.alloc (.cells #[.bool true, .bool true, .bool true] 4)) := hb'.alloc hzw' _
            have hwas6 := hwas.below ((Below.refl wr.heap.size wr).alloc (Nat.le_refl _) (.cells #[.bool true, .bool true, .bool true] 4))
            have hs6 : (wr.alloc (.cells #[.bool true, .bool true, .bool true] 4)).heap.size = wr.heap.size + 1 := by simp
            have hcw6 : (wr.alloc (.cells #[.bool true, .bool true, .bool true] 4)).cell? ⟨b, off + j, none⟩ = some (.int .u8 x) := by rw [World.cell?_of_block (w := wr) (a := ⟨b, off + j, none⟩) (Below.heap_alloc wr _ b (by omega))]; exact hcw
            have hgF : ∀ y, F' y → y < wr.heap.size := fun y h => LogAt.lt hL' h
            obtain ⟨w6, hw6⟩ : ∃ w6, w6 = wr.alloc (.cells #[.bool true, .bool true, .bool true] 4) := ⟨_, rfl⟩
            rw [← hw6] at hL6 hblk hb6' hwas6 hs6 hcw6 ⊢
            clear hw6 hcw hwas hL'
            obtain ⟨g, hg⟩ : ∃ g, g = wr.heap.size := ⟨_, rfl⟩
            rw [← hg] at hblk hs6 hgF hz' hzw' ⊢
            clear hg
            have ht3 : x % 3 < 3 := by omega
            obtain ⟨tb, htb⟩ : ∃ tb, decide (x % 2 = 0) = tb := ⟨_, rfl⟩
            have e2 : ((x : Int) % 2 == 0) = tb := by
              rw [← htb, Bool.eq_iff_iff]
              simp
              omega
            have htm := two_map x
            rw [htb] at htm
            have Htm := hide htm
            clear htb htm
            have fc : w6.cell? ⟨g, x % 3, none⟩ = some (.bool true) := by
              rw [hblk.cell]
              rcases (by omega : x % 3 = 0 ∨ x % 3 = 1 ∨ x % 3 = 2) with h | h | h <;> rw [h] <;> rfl
            have ff : w6.frozen? ⟨g, x % 3, none⟩ = false := hblk.free _
            go_still_tail 13, (by kernel_rfl)
            change wpList _ _ _ _ _ w6.drew
            go_wp2_with (first | (go_at_call 10; apply hold) | (go_at_call 11; apply hold) | (go_at_call 12; apply hold) | (go_at_call 13; apply hold) | (go_at_call 14; apply hold) | (go_at_call 15; apply hold))
            have hblk7 := (hblk.set_ (x % 3) (.bool tb)).drew
            have hR7 := Sl.blk hblk7
            rw [Htm.out] at hR7
            have hk7 : Kp (fun y => y = g) w6 ((w6.setCell ⟨g, x % 3, none⟩ (.bool tb)).drew) := (Kp.setCell (S := fun y => y = g) (Kp.refl _ w6) (fun _ => rfl) _).drew
            have hL7 : LogS ((w6.setCell ⟨g, x % 3, none⟩ (.bool tb)).drew) lg F' 1048576 3 s' := LogAt.kp hL6 hk7 (fun y h e => by have := hgF y h; omega)
            have hwas7 := hwas6.kp hk7 (fun y h e => by have := h.2; omega)
            have hb7 : Below w.heap.size w ((w6.setCell ⟨g, x % 3, none⟩ (.bool tb)).drew) := below_kp hb6' hk7 (fun y e => by omega) (by omega)
            have hs7 : ((w6.setCell ⟨g, x % 3, none⟩ (.bool tb)).drew).heap.size = g + 1 := by rw [← hs6]; simp [World.setCell, World.drew]
            obtain ⟨w7, hw7⟩ : ∃ w7, w7 = (w6.setCell ⟨g, x % 3, none⟩ (.bool tb)).drew := ⟨_, rfl⟩
            rw [← hw7] at hR7 hL7 hwas7 hb7 hs7 ⊢
            clear hw7 hblk7 hk7 hblk hL6 hwas6 hb6' fc ff hcw6 hs6
            simp only [Array.size_setIfInBounds, List.size_toArray, List.length_cons, List.length_nil] at hR7
            refine unhold ((lepoch_any lg F' 1048576 3 s'.N s'.op s'.E s'.row w7 hL7).mono ?_)
            rintro q w8 ⟨rfl, rfl⟩
            rw [hO'.2.2.1]
            go_wp2_with (first | (go_at_call 10; apply hold) | (go_at_call 11; apply hold) | (go_at_call 12; apply hold) | (go_at_call 13; apply hold) | (go_at_call 14; apply hold) | (go_at_call 15; apply hold))
            refine unhold ((lopenS_any lg F' 1048576 3 s' w7 hL7 (some ⟨g, 0, none⟩) 3 3 (two x) hR7 (fun y e => by have := sblk_ablk e; simp [ablk] at this; subst this; exact ⟨by omega, fun h => by have := hgF _ h; omega⟩) (by rw [hO'.2.2.1]; omega)).mono ?_)
            rintro q w9 ⟨r, N9, rw9, F9, rfl, ho9, hL9, hF9, hk9⟩
            obtain ⟨rfl, rfl, hO9⟩ := hO'.open ho9 (by omega) (by omega) (two_cnt x)
            have hz9 := hk9.size
            have hF9' : ∀ y, F9 y → F y ∨ w5.heap.size ≤ y := fun y h => (hF9 y h).elim (hF' y) (fun h => .inr (by omega))
            have hwas9 := hwas7.kp hk9 (fun y h e => (hF' y e).elim (fun h' => by have := hFlt y h'; omega) (fun h' => by omega))
            have hb9 : Below w.heap.size w w9 := below_kp hb7 hk9 hFw' (by omega)
            simp only [Option.isSome_some, Option.getD_some] at hL9
            go_wp2_with (first | (go_at_call 10; apply hold) | (go_at_call 11; apply hold) | (go_at_call 12; apply hold) | (go_at_call 13; apply hold) | (go_at_call 14; apply hold) | (go_at_call 15; apply hold))
            refine unhold ((lepoch_any lg F9 1048576 3 _ _ _ _ w9 hL9).mono ?_)
            rintro q w10 ⟨rfl, rfl⟩
            rw [hO'.2.2.1]
            go_wp2_with (first | (go_at_call 10; apply hold) | (go_at_call 11; apply hold) | (go_at_call 12; apply hold) | (go_at_call 13; apply hold) | (go_at_call 14; apply hold) | (go_at_call 15; apply hold))
            refine unhold ((rowlaw_any lg F9 1048576 3 _ w9 hL9 (by have := hO9.2.2.2; simp only [] at this ⊢; omega) hO9.1.bl).mono ?_)
            rintro q w11 ⟨A11, k11, c11, rfl, hrw11, hb11⟩
            have hz11 := hb11.size
            go_wp2_with (first | (go_at_call 10; apply hold) | (go_at_call 11; apply hold) | (go_at_call 12; apply hold) | (go_at_call 13; apply hold) | (go_at_call 14; apply hold) | (go_at_call 15; apply hold))
            refine unhold ((lists_any A11 k11 c11 _ A5 k5 c5 rw0 _ _ w11 hrw11.rowR (hwas9.below hb11) (by have := hrw11.len; have := hO9.2.2.2; simp only [] at this; omega)).mono ?_)
            rintro q w12 ⟨rfl, nd, rfl⟩
            simp only []
            rw [decide_eq_true hrow]
            go_wp2_with (first | (go_at_call 10; apply hold) | (go_at_call 11; apply hold) | (go_at_call 12; apply hold) | (go_at_call 13; apply hold) | (go_at_call 14; apply hold) | (go_at_call 15; apply hold))
            go_roundw
            case rel => exact ⟨j + 1, _, F9, by simp, by omega, by omega, LogAt.drewN (LogAt.below hL9 hb11) nd, hF9', (hwas9.below hb11).drewN nd, hO9.mono (by omega) (Nat.le_refl _), hrow, below_drewN (hb9.trans (hb11.mono (by omega))) nd, by simp [World.drewN]; omega⟩
            case measure => simp [intOf]; omega
          · have ge : (¬ j < lw ∧ decide ((j : Int) < (lw : Int)) = false) ∨ (j < lw ∧ ¬ j < 20 ∧ decide ((j : Int) < (lw : Int)) = true ∧ decide ((j : Int) < 20) = false) := by
              simp; omega
            clear hgo
            rcases ge with ⟨he1, ge1⟩ | ⟨he1, he2, ge1, ge2⟩
            all_goals
              go_wp2_with (first | (go_at_call 10; apply hold) | (go_at_call 11; apply hold) | (go_at_call 12; apply hold) | (go_at_call 13; apply hold) | (go_at_call 14; apply hold) | (go_at_call 15; apply hold))
              go_ret
              exact ⟨rfl, hb'⟩
end Go.Proofs.YtonkblhhknafbaaGreat
