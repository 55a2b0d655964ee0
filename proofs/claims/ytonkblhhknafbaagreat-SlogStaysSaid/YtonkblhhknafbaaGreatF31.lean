/- The walk of the law SlogStays: it answers true. Whatever the heap holds beside. -/
import Derived.Test.YtonkblhhknafbaaGreatF29
namespace Go.Proofs.YtonkblhhknafbaaGreat
open Go.RowKit Go.Shelf

theorem RowR.take {w : World} {F : Nat → Prop} {A : Option Addr} {m k : Nat} {rw : List (List UInt8)} (h : RowR w F A m rw) (hk : k ≤ m) : RowR w F A k (rw.take k) := by
  obtain ⟨xs, h1, h2, h3⟩ := h
  refine ⟨xs.take k, h1.take_ hk, h2, ?_⟩
  clear h1 h2 hk
  induction h3 generalizing k with
  | nil => simp; exact .nil
  | cons r1 _ ih =>
    cases k with
    | zero => exact .nil
    | succ k => exact .cons r1 ih

set_option maxRecDepth 100000 in
set_option maxHeartbeats 2000000 in
theorem begins_any (A : Option Addr) (n c : Nat) (xs : List (List UInt8)) (B : Option Addr) (m k : Nat) (ys : List (List UInt8)) (F G : Nat → Prop) (w : World) (hx : RowR w F A n xs) (hy : RowR w G B m ys) (hn : n ≤ 100000000) (hc : n ≤ c) (hpre : ys <+: xs) :
    Calls Tryz.prog 17 #[.slice A n c, .slice B m k] w fun e w' => e = .returned (.bool true) ∧ ∃ q, w' = w.drewN q := by
  have hl1 := hx.len
  have hl2 := hy.len
  have hle : m ≤ n := by rw [hl1, hl2]; exact hpre.length_le
  have htk : xs.take m = ys := by rw [hl2]; exact (List.prefix_iff_eq_take.1 hpre).symm
  have hxt := hx.take hle
  rw [htk] at hxt
  have g1 : decide ((m : Int) ≤ (n : Int)) = true := by simp; omega
  clear hl1 hl2 htk
  go_enter Tryz.func17, Tryz.ntmps17
  go_wp2_with (go_at_call 13; apply hold)
  refine unhold ((lists_any A m c ys B m k ys F G w hxt hy (by omega)).mono ?_)
  rintro q w1 ⟨rfl, nd, rfl⟩
  rw [decide_eq_true rfl]
  go_wp2_with fail
  go_ret
  exact ⟨rfl, nd, rfl⟩

theorem Safe.row_app {n room : Nat} {s : LS} {bs : List Bool} {b : List UInt8} : ((appF room n bs s b).2.1 = 0 ∧ (appF room n bs s b).1 = s.row.length ∧ (appF room n bs s b).2.2.row = s.row ++ [b] ∧ 0 < b.length) ∨ ((appF room n bs s b).2.1 ≠ 0 ∧ (appF room n bs s b).2.2.row = s.row) := by
  unfold appF
  split
  · exact .inr ⟨by simp, rfl⟩
  · split
    · exact .inr ⟨by simp, rfl⟩
    · split
      · exact .inr ⟨by simp, rfl⟩
      · split
        · exact .inl ⟨rfl, rfl, rfl, by omega⟩
        · exact .inr ⟨by simp, rfl⟩
theorem app_E {n room : Nat} {s : LS} {bs : List Bool} {b : List UInt8} : (appF room n bs s b).2.2.E = s.E := by
  unfold appF
  split
  · rfl
  · split
    · rfl
    · split
      · rfl
      · split <;> rfl

set_option maxRecDepth 100000 in
set_option maxHeartbeats 4000000 in
/-- SlogStays -/
theorem stays_any (nn : Nat) (hnn : nn < 256) (A : Option Addr) (la ca : Nat) (w : World) (hd : ArgD w A la) :
    Calls Tryz.prog 6 #[.int .u8 nn, .slice A la ca] w fun e w' => e = .returned (.bool true) ∧ Below w.heap.size w w' := by
  go_enter Tryz.func6, Tryz.ntmps6
  go_wp2_with (first | (go_at_call 9; apply hold))
  refine unhold ((shown_any w).mono ?_)
  rintro e w1 ⟨rfl, hb1⟩
  have hz1 := hb1.size
  go_wp2_with (first | (go_at_call 10; apply hold) | (go_at_call 11; apply hold) | (go_at_call 12; apply hold) | (go_at_call 13; apply hold) | (go_at_call 14; apply hold) | (go_at_call 17; apply hold) | (go_at_call 18; apply hold) | (at_builtin; apply hold))
  obtain ⟨n, hn, hn4⟩ : ∃ n : Nat, (n : Int) = 1 + 2 * ((nn : Int) % 4) ∧ (n = 1 ∨ n = 3 ∨ n = 5 ∨ n = 7) := ⟨1 + 2 * (nn % 4), by omega, by omega⟩
  rw [← hn]
  clear hn hnn
  refine unhold ((lnew_any n 1048576 hn4 (by omega) w1).mono ?_)
  rintro q w2 ⟨lg, F2, rfl, hL2, hF2, hb2⟩
  have hz2 := hb2.size
  have hb2' : Below w.heap.size w w2 := hb1.trans (hb2.mono hz1)
  unfold ptrV
  go_wp2_with (first | (go_at_call 10; apply hold) | (go_at_call 11; apply hold) | (go_at_call 12; apply hold) | (go_at_call 13; apply hold) | (go_at_call 14; apply hold) | (go_at_call 17; apply hold) | (go_at_call 18; apply hold) | (at_builtin; apply hold))
  go_loopw [8, 9] (fun u v wr => ∃ (i : Nat) (A' : Option Addr) (k c' : Nat) (s : LS) (F : Nat → Prop), u = .slice A' k c' ∧ v = .int .i64 (i : Nat) ∧ i ≤ la ∧ i ≤ 40 ∧ LogS wr lg F 1048576 n s ∧ (∀ y, F y → w.heap.size ≤ y) ∧ (∀ y, ablk A' = some y → ¬ F y) ∧
    RowL wr (fun y => ¬ F y ∧ ablk A' ≠ some y) w.heap.size A' k c' s.row ∧ Safe n s ∧ s.E ≤ i ∧ Below w.heap.size w wr) (fun _ v _ => la - (intOf v).toNat)
  case atStart => exact ⟨0, none, 0, 0, _, F2, rfl, rfl, by omega, by omega, hL2, fun y h => by have := hF2 y h; omega, (fun y e => by cases e), ⟨[], Own.nil _ _ _ _, .nil⟩, Safe.start n, Nat.le_refl _, hb2'⟩
  case round =>
    clear hL2 hF2 hb2 hb2' hb1
    obtain ⟨i, A', k, c', s, F, rfl, rfl, hil, hi40, hL, hF, hAF, hrw, hS, hE, hb⟩ := hrel
    have hzw := hb.size
    by_cases hgo : i < la ∧ i < 40
    · obtain ⟨hlt1, hlt2⟩ := hgo
      obtain ⟨b, off, ⟨⟨kd, nd, kp, tn, x, bs⟩, A1, c1, R, cR⟩, rfl, hblt, hcell, hsB, hsR⟩ := hd i hlt1
      simp only [] at hsB hsR
      have hcw : ∀ j u, (DeedV.vals ⟨⟨kd, nd, kp, tn, x, bs⟩, A1, c1, R, cR⟩)[j]? = some u → wr.cell? ⟨b, off + i * 6 + j, none⟩ = some u := fun j u hu => by rw [World.cell?_of_block (w := w) (a := ⟨b, off + i * 6 + j, none⟩) (hb.block b hblt)]; exact hcell j u hu
      obtain ⟨xl, hxl⟩ : ∃ xl, x.length = xl := ⟨_, rfl⟩
      obtain ⟨rl, hrl⟩ : ∃ rl, bs.length = rl := ⟨_, rfl⟩
      have e0 := hcw 0 _ rfl
      have e1 := hcw 1 _ rfl
      have e2 := hcw 2 _ rfl
      have e3 := hcw 3 _ rfl
      have e4 := hcw 4 _ rfl
      have e5 := hcw 5 _ rfl
      simp only [] at e0 e1 e2 e3 e4 e5
      rw [hxl] at e4 hsB
      rw [hrl] at e5 hsR
      rw [Nat.add_zero] at e0
      have Hxl := hide hxl
      clear hxl hrl hcw hcell
      have ga : decide ((i : Int) < (la : Int)) = true := by simp; omega
      have gb : decide ((i : Int) < 40) = true := by simp; omega
      have hs3 : (wr.alloc (.cells #[.int .i64 kd, .int .i64 nd, .int .i64 kp, .int .i64 tn, .slice A1 xl c1, .slice R rl cR] 42)).heap.size = wr.heap.size + 1 := by simp
      have hL3 : LogS (wr.alloc (.cells #[.int .i64 kd, .int .i64 nd, .int .i64 kp, .int .i64 tn, .slice A1 xl c1, .slice R rl cR] 42)) lg F 1048576 n s := LogAt.below hL ((Below.refl _ _).alloc (Nat.le_refl _) _)
      have hb3 : Below w.heap.size w (wr.alloc (.cells #[.int .i64 kd, .int .i64 nd, .int .i64 kp, .int .i64 tn, .slice A1 xl c1, .slice R rl cR] 42)) := hb.alloc hzw _
      have hblk := Blk.new wr 42 #[.int .i64 kd, .int .i64 nd, .int .i64 kp, .int .i64 tn, .slice A1 xl c1, .slice R rl cR]
      have hrw3 : RowL (wr.alloc (.cells #[.int .i64 kd, .int .i64 nd, .int .i64 kp, .int .i64 tn, .slice A1 xl c1, .slice R rl cR] 42)) (fun y => ¬ F y ∧ ablk A' ≠ some y) w.heap.size A' k c' s.row := hrw.go (by simp) (fun y e _ hlt => Below.heap_alloc wr _ y hlt) (fun y _ hlt => Below.heap_alloc wr _ y hlt) (fun y h _ => h)
      have hFlt : ∀ y, F y → y < wr.heap.size := fun y h => LogAt.lt hL h
      have hAlt : ∀ y, ablk A' = some y → w.heap.size ≤ y ∧ y < wr.heap.size := fun y e => hrw.lt e
      have hsB3 := hsB.below hb3
      have hsR3 := hsR.below hb3
      have hBF : ∀ y, sblk A1 xl = some y → y < (wr.alloc (.cells #[.int .i64 kd, .int .i64 nd, .int .i64 kp, .int .i64 tn, .slice A1 xl c1, .slice R rl cR] 42)).heap.size ∧ ¬ F y := fun y e => ⟨by have := hsB.ltS e; omega, fun h => by have := hF y h; have := hsB.ltS e; omega⟩
      have hRF : ∀ y, sblk R rl = some y → y < (wr.alloc (.cells #[.int .i64 kd, .int .i64 nd, .int .i64 kp, .int .i64 tn, .slice A1 xl c1, .slice R rl cR] 42)).heap.size ∧ ¬ F y := fun y e => ⟨by have := hsR.ltS e; omega, fun h => by have := hF y h; have := hsR.ltS e; omega⟩
      have hkl : k = s.row.length := hrw.len
      have Hkl := hide hkl
      have hk4 : k ≤ 4096 := by rw [hkl]; exact hS.rl
      clear hkl
      by_cases hk0 : kd = 0
      · have q0 : (kd == 0) = true := by simp [hk0]
        clear hk0
        go_wp2_with (first | (go_at_call 10; apply hold) | (go_at_call 11; apply hold) | (go_at_call 12; apply hold) | (go_at_call 13; apply hold) | (go_at_call 14; apply hold) | (go_at_call 17; apply hold) | (go_at_call 18; apply hold) | (at_builtin; apply hold))
        obtain ⟨w3, hw3⟩ : ∃ w3, w3 = wr.alloc (.cells #[.int .i64 kd, .int .i64 nd, .int .i64 kp, .int .i64 tn, .slice A1 xl c1, .slice R rl cR] 42) := ⟨_, rfl⟩
        rw [← hw3] at hs3 hL3 hb3 hblk hrw3 hsB3 hsR3 hBF hRF ⊢
        clear hw3
        obtain ⟨p, hp⟩ : ∃ p, p = wr.heap.size := ⟨_, rfl⟩
        rw [← hp] at hs3 hblk hFlt hAlt hzw ⊢
        clear hp hb hL hrw
        refine unhold ((lappend_any lg F 1048576 n s w3 hL3 A1 xl c1 x R rl cR bs hsB3 hsR3 hBF hRF (by omega) (by have := hS.rl; omega)).mono ?_)
        rintro q w4 ⟨rfl, F4, hL4, hF4, hk4'⟩
        have hra := Safe.row_app (n := n) (room := 1048576) (s := s) (bs := bs) (b := x)
        have hS4 : Safe n (appF 1048576 n bs s x).2.2 := hS.append
        have hE4 : (appF 1048576 n bs s x).2.2.E ≤ i + 1 := by rw [app_E]; omega
        obtain ⟨at_, hat⟩ : ∃ at_, at_ = (appF 1048576 n bs s x).1 := ⟨_, rfl⟩
        obtain ⟨f, hf⟩ : ∃ f, f = (appF 1048576 n bs s x).2.1 := ⟨_, rfl⟩
        obtain ⟨s4, hs4⟩ : ∃ s4, s4 = (appF 1048576 n bs s x).2.2 := ⟨_, rfl⟩
        rw [← hs4] at hL4 hS4 hE4 hra
        rw [← hat, ← hf] at hra ⊢
        clear hat hf hs4
        have hz4 := hk4'.size
        have hF4' : ∀ y, F4 y → w.heap.size ≤ y := fun y h => (hF4 y h).elim (hF y) (fun h => by omega)
        have hb4 : Below w.heap.size w w4 := below_kp hb3 hk4' hF (by omega)
        have hAF4 : ∀ y, ablk A' = some y → ¬ F4 y := fun y e h => (hF4 y h).elim (hAF y e) (fun h => by have := (hAlt y e).2; omega)
        have hrw4 : RowL w4 (fun y => ¬ F4 y ∧ ablk A' ≠ some y) w.heap.size A' k c' s.row := hrw3.go hz4 (fun y e _ hlt => hk4'.block y hlt (hAF y e)) (fun y h hlt => hk4'.block y hlt h.1) (fun y h hlt => ⟨fun h4 => (hF4 y h4).elim h.1 (fun h => by omega), h.2⟩)
        have hblk4 := hk4'.blk hblk (fun h => by have := hFlt p h; omega)
        have v4 : w4.cell? ⟨p, 4, none⟩ = some (.slice A1 xl c1) := hblk4.cell 4
        clear hrw3 hblk hblk4 hk4' hL3 hb3 hF4
        rcases hra with ⟨hf0, hat, hr4, hx0⟩ | ⟨hf0, hr4⟩
        · rw [hf0, hat, ← Hkl.out]
          have hx1 : 0 < xl := by have := Hxl.out; omega
          have Hr4 := hide hr4
          clear hf0 hat hr4
          go_wp2_with (first | (go_at_call 10; apply hold) | (go_at_call 11; apply hold) | (go_at_call 12; apply hold) | (go_at_call 13; apply hold) | (go_at_call 14; apply hold) | (go_at_call 17; apply hold) | (go_at_call 18; apply hold) | (at_builtin; apply hold))
          obtain ⟨xs, hox, hall⟩ := hrw4
          refine unhold (app_row rfl (.tmp 71) (.tmp 74) rfl w.heap.size A' k c' xs rfl (hox.alloc _) A1 xl c1 w4 rfl rfl (by omega) (by simp; omega) ?_)
          intro A2 c2 w5 ho5 hg5 hA5
          have hk5 : Kp (fun y => ablk A' = some y) w4 w5 := ((Kp.refl _ w4).alloc _).grown hg5 (fun y e _ => e)
          clear hg5
          have hz5 := hk5.size
          have hA5' : ∀ y, ablk A2 = some y → ablk A' = some y ∨ w4.heap.size ≤ y := fun y e => by
            rcases hA5 with h | h
            · exact .inl (by rw [← h]; exact e)
            · rw [e] at h
              simp at h
              exact .inr (by omega)
          have hF4lt : ∀ y, F4 y → y < w4.heap.size := fun y h => LogAt.lt hL4 h
          have hAF5 : ∀ y, ablk A2 = some y → ¬ F4 y := fun y e h => (hA5' y e).elim (fun h' => hAF4 y h' h) (fun h' => by have := hF4lt y h; omega)
          have hall5 := hall.imp (R' := fun (v : Value) (b : List UInt8) => ∃ A1 c1, v = .slice A1 b.length c1 ∧ Sl w4 A1 b.length (u8s b) ∧ ∀ g, ablk A1 = some g → (¬ F4 g ∧ ablk A' ≠ some g ∧ ablk A2 ≠ some g) ∧ g < w4.heap.size) (fun v b _ _ ⟨B1, d1, e1, e2, e3⟩ => ⟨B1, d1, e1, e2, fun g hg => by
            obtain ⟨⟨u1, u2⟩, u3⟩ := e3 g hg
            exact ⟨⟨u1, u2, fun e4 => (hA5' g e4).elim u2 (fun h => by omega)⟩, u3⟩⟩)
          have hs4 : Sl w4 A1 x.length (u8s x) := by rw [Hxl.out]; exact hsB.below hb4
          have hrw5 := RowL.snoc2 (b := x) (A1 := A1) (c1 := c1) (base := w.heap.size) (A' := A2) (c' := c2) (m := k) (A := A') hall5 (fun y h => h.2.1) hs4 (fun y e => by
            have h1 := hsB.ltS (k := y) (by rw [sblk_of hx1]; exact e)
            exact ⟨⟨fun h => by have := hF4' y h; omega, fun e2 => by have := (hAlt y e2).1; omega, fun e2 => (hA5' y e2).elim (fun e3 => by have := (hAlt y e3).1; omega) (fun h => by omega)⟩, by omega⟩) (by rw [Hxl.out]; exact ho5) hk5
          rw [← Hr4.out] at hrw5
          have hrw6 : RowL w5 (fun y => ¬ F4 y ∧ ablk A2 ≠ some y) w.heap.size A2 (k + 1) c2 s4.row := hrw5.go (Nat.le_refl _) (fun _ _ _ _ => rfl) (fun _ _ _ => rfl) (fun y h _ => ⟨h.1, h.2.2⟩)
          have hL5 : LogS w5 lg F4 1048576 n s4 := LogAt.kp hL4 hk5 (fun y h e => hAF4 y e h)
          have hb5 : Below w.heap.size w w5 := below_kp hb4 hk5 (fun y e => (hAlt y e).1) (by omega)
          clear hrw5 hall5 hall hox ho5 hA5 hL4 hb4
          go_wp2_with (first | (go_at_call 10; apply hold) | (go_at_call 11; apply hold) | (go_at_call 12; apply hold) | (go_at_call 13; apply hold) | (go_at_call 14; apply hold) | (go_at_call 17; apply hold) | (go_at_call 18; apply hold) | (at_builtin; apply hold))
          refine unhold ((rowlaw_any lg F4 1048576 n s4 w5 hL5 (by have := hS4.rl; omega) hS4.bl).mono ?_)
          rintro q wT1 ⟨AT, kT, cT, rfl, hrwT, hbT⟩
          have hzT := hbT.size
          go_wp2_with (first | (go_at_call 10; apply hold) | (go_at_call 11; apply hold) | (go_at_call 12; apply hold) | (go_at_call 13; apply hold) | (go_at_call 14; apply hold) | (go_at_call 17; apply hold) | (go_at_call 18; apply hold) | (at_builtin; apply hold))
          refine unhold ((lists_any AT kT cT s4.row A2 (k + 1) c2 s4.row _ _ wT1 hrwT.rowR ((hrw6).rowR.below hbT) (by have h9 := hrwT.len; have := hS4.rl; omega)).mono ?_)
          rintro q wT2 ⟨rfl, ndT, rfl⟩
          rw [decide_eq_true rfl]
          go_wp2_with (first | (go_at_call 10; apply hold) | (go_at_call 11; apply hold) | (go_at_call 12; apply hold) | (go_at_call 13; apply hold) | (go_at_call 14; apply hold) | (go_at_call 17; apply hold) | (go_at_call 18; apply hold) | (at_builtin; apply hold))
          go_roundw
          case rel => exact ⟨i + 1, A2, (k + 1), c2, s4, F4, rfl, by simp, by omega, by omega, LogAt.drewN (LogAt.below hL5 hbT) ndT, hF4', hAF5, (hrw6).go (by simp [World.drewN]; omega) (fun y e _ hlt => hbT.block y hlt) (fun y _ hlt => hbT.block y hlt) (fun y h _ => h), hS4, hE4, below_drewN ((hb5).trans (hbT.mono (by omega))) ndT⟩
          case measure => simp [intOf]; omega
        · have q4 : (f == 0) = false := by simp [hf0]
          rw [← hr4] at hrw4
          clear hf0 hr4
          go_wp2_with (first | (go_at_call 10; apply hold) | (go_at_call 11; apply hold) | (go_at_call 12; apply hold) | (go_at_call 13; apply hold) | (go_at_call 14; apply hold) | (go_at_call 17; apply hold) | (go_at_call 18; apply hold) | (at_builtin; apply hold))
          refine unhold ((rowlaw_any lg F4 1048576 n s4 w4 hL4 (by have := hS4.rl; omega) hS4.bl).mono ?_)
          rintro q wT1 ⟨AT, kT, cT, rfl, hrwT, hbT⟩
          have hzT := hbT.size
          go_wp2_with (first | (go_at_call 10; apply hold) | (go_at_call 11; apply hold) | (go_at_call 12; apply hold) | (go_at_call 13; apply hold) | (go_at_call 14; apply hold) | (go_at_call 17; apply hold) | (go_at_call 18; apply hold) | (at_builtin; apply hold))
          refine unhold ((lists_any AT kT cT s4.row A' k c' s4.row _ _ wT1 hrwT.rowR ((hrw4).rowR.below hbT) (by have h9 := hrwT.len; have := hS4.rl; omega)).mono ?_)
          rintro q wT2 ⟨rfl, ndT, rfl⟩
          rw [decide_eq_true rfl]
          go_wp2_with (first | (go_at_call 10; apply hold) | (go_at_call 11; apply hold) | (go_at_call 12; apply hold) | (go_at_call 13; apply hold) | (go_at_call 14; apply hold) | (go_at_call 17; apply hold) | (go_at_call 18; apply hold) | (at_builtin; apply hold))
          go_roundw
          case rel => exact ⟨i + 1, A', k, c', s4, F4, rfl, by simp, by omega, by omega, LogAt.drewN (LogAt.below hL4 hbT) ndT, hF4', hAF4, (hrw4).go (by simp [World.drewN]; omega) (fun y e _ hlt => hbT.block y hlt) (fun y _ hlt => hbT.block y hlt) (fun y h _ => h), hS4, hE4, below_drewN ((hb4).trans (hbT.mono (by omega))) ndT⟩
          case measure => simp [intOf]; omega
      · have q0 : (kd == 0) = false := by simp [hk0]
        clear hk0
        by_cases hk1 : kd = 1
        · have q1 : (kd == 1) = true := by simp [hk1]
          clear hk1
          go_wp2_with (first | (go_at_call 10; apply hold) | (go_at_call 11; apply hold) | (go_at_call 12; apply hold) | (go_at_call 13; apply hold) | (go_at_call 14; apply hold) | (go_at_call 17; apply hold) | (go_at_call 18; apply hold) | (at_builtin; apply hold))
          obtain ⟨w3, hw3⟩ : ∃ w3, w3 = wr.alloc (.cells #[.int .i64 kd, .int .i64 nd, .int .i64 kp, .int .i64 tn, .slice A1 xl c1, .slice R rl cR] 42) := ⟨_, rfl⟩
          rw [← hw3] at hs3 hL3 hb3 hrw3 hsR3 hRF ⊢
          clear hw3 hblk hsB3 hBF
          obtain ⟨p, hp⟩ : ∃ p, p = wr.heap.size := ⟨_, rfl⟩
          rw [← hp] at hs3 hFlt hAlt hzw ⊢
          clear hp hb hL hrw
          refine unhold ((lopenS_any lg F 1048576 n s w3 hL3 R rl cR bs hsR3 hRF (by omega)).mono ?_)
          rintro q w4 ⟨r, N4, rw4, F4, rfl, ho4, hL4, hF4, hk4'⟩
          obtain ⟨hS4, hcase⟩ := hS.open ho4
          have hz4 := hk4'.size
          have hF4' : ∀ y, F4 y → w.heap.size ≤ y := fun y h => (hF4 y h).elim (hF y) (fun h => by omega)
          have hb4 : Below w.heap.size w w4 := below_kp hb3 hk4' hF (by omega)
          have hAF4 : ∀ y, ablk A' = some y → ¬ F4 y := fun y e h => (hF4 y h).elim (hAF y e) (fun h => by have := (hAlt y e).2; omega)
          have hrw4 : RowL w4 (fun y => ¬ F4 y ∧ ablk A' ≠ some y) w.heap.size A' k c' s.row := hrw3.go hz4 (fun y e _ hlt => hk4'.block y hlt (hAF y e)) (fun y h hlt => hk4'.block y hlt h.1) (fun y h hlt => ⟨fun h4 => (hF4 y h4).elim h.1 (fun h => by omega), h.2⟩)
          clear hrw3 hk4' hL3 hb3 hF4 ho4
          rcases hcase with ⟨rfl, rw5, rfl, hpre⟩ | ⟨rfl, rfl⟩
          · simp only [Option.isSome_some, Option.getD_some] at hL4 hS4
            obtain ⟨s4, hs4⟩ : ∃ s4, s4 = (⟨N4, true, s.E + 1, rw5⟩ : LS) := ⟨_, rfl⟩
            have hr4 : s4.row = rw5 := by rw [hs4]
            have hE4 : s4.E ≤ i + 1 := by rw [hs4]; simp only []; omega
            rw [← hr4] at hpre
            rw [← hs4] at hL4 hS4
            clear hs4 hr4
            go_wp2_with (first | (go_at_call 10; apply hold) | (go_at_call 11; apply hold) | (go_at_call 12; apply hold) | (go_at_call 13; apply hold) | (go_at_call 14; apply hold) | (go_at_call 17; apply hold) | (go_at_call 18; apply hold) | (at_builtin; apply hold))
            refine unhold ((rowlaw_any lg F4 1048576 n s4 w4 hL4 (by have := hS4.rl; omega) hS4.bl).mono ?_)
            rintro q w5 ⟨A5, k5, c5, rfl, hrw5, hb5⟩
            have hz5 := hb5.size
            have hk5 : k5 ≤ 4096 := by have := hrw5.len; have := hS4.rl; omega
            have hkc : k5 ≤ c5 := by obtain ⟨xs, ho, _⟩ := hrw5; exact ho.cap.1
            go_wp2_with (first | (go_at_call 10; apply hold) | (go_at_call 11; apply hold) | (go_at_call 12; apply hold) | (go_at_call 13; apply hold) | (go_at_call 14; apply hold) | (go_at_call 17; apply hold) | (go_at_call 18; apply hold) | (at_builtin; apply hold))
            refine unhold ((begins_any A5 k5 c5 s4.row A' k c' s.row _ _ w5 hrw5.rowR (hrw4.rowR.below hb5) (by omega) hkc hpre).mono ?_)
            rintro q w6 ⟨rfl, nd6, rfl⟩
            have hL6 : LogS (w5.drewN nd6) lg F4 1048576 n s4 := LogAt.drewN (LogAt.below hL4 hb5) nd6
            have hb6 : Below w.heap.size w (w5.drewN nd6) := below_drewN (hb4.trans (hb5.mono (by omega))) nd6
            have hz6 : (w5.drewN nd6).heap.size = w5.heap.size := rfl
            have hF4lt : ∀ y, F4 y → y < w4.heap.size := fun y h => LogAt.lt hL4 h
            have hAF6 : ∀ y, ablk A5 = some y → ¬ F4 y := fun y e h => by have := (hrw5.lt e).1; have := hF4lt y h; omega
            have hrw6 : RowL (w5.drewN nd6) (fun y => ¬ F4 y ∧ ablk A5 ≠ some y) w.heap.size A5 k5 c5 s4.row := by
              have h6 := hrw5.go (w' := w5.drewN nd6) (F' := fun y => ¬ F4 y ∧ ablk A5 ≠ some y) (Nat.le_refl _) (fun _ _ _ _ => rfl) (fun _ _ _ => rfl) (fun y h _ => ⟨fun h4 => by have := h.1; have := hF4lt y h4; omega, h.2⟩)
              obtain ⟨xs, ho, hall⟩ := h6
              exact ⟨xs, ho.mono (by omega), hall⟩
            clear hrw5 hb5 hrw4 hL4 hb4 hpre
            go_wp2_with (first | (go_at_call 10; apply hold) | (go_at_call 11; apply hold) | (go_at_call 12; apply hold) | (go_at_call 13; apply hold) | (go_at_call 14; apply hold) | (go_at_call 17; apply hold) | (go_at_call 18; apply hold) | (at_builtin; apply hold))
            refine unhold ((rowlaw_any lg F4 1048576 n s4 (w5.drewN nd6) hL6 (by have := hS4.rl; omega) hS4.bl).mono ?_)
            rintro q wT1 ⟨AT, kT, cT, rfl, hrwT, hbT⟩
            have hzT := hbT.size
            go_wp2_with (first | (go_at_call 10; apply hold) | (go_at_call 11; apply hold) | (go_at_call 12; apply hold) | (go_at_call 13; apply hold) | (go_at_call 14; apply hold) | (go_at_call 17; apply hold) | (go_at_call 18; apply hold) | (at_builtin; apply hold))
            refine unhold ((lists_any AT kT cT s4.row A5 k5 c5 s4.row _ _ wT1 hrwT.rowR ((hrw6).rowR.below hbT) (by have h9 := hrwT.len; have := hS4.rl; omega)).mono ?_)
            rintro q wT2 ⟨rfl, ndT, rfl⟩
            rw [decide_eq_true rfl]
            go_wp2_with (first | (go_at_call 10; apply hold) | (go_at_call 11; apply hold) | (go_at_call 12; apply hold) | (go_at_call 13; apply hold) | (go_at_call 14; apply hold) | (go_at_call 17; apply hold) | (go_at_call 18; apply hold) | (at_builtin; apply hold))
            go_roundw
            case rel => exact ⟨i + 1, A5, k5, c5, s4, F4, rfl, by simp, by omega, by omega, LogAt.drewN (LogAt.below hL6 hbT) ndT, hF4', hAF6, (hrw6).go (by simp [World.drewN]; omega) (fun y e _ hlt => hbT.block y hlt) (fun y _ hlt => hbT.block y hlt) (fun y h _ => h), hS4, hE4, below_drewN ((hb6).trans (hbT.mono (by omega))) ndT⟩
            case measure => simp [intOf]; omega
          · simp only [Option.isSome_none, Option.getD_none] at hL4 hS4
            obtain ⟨s4, hs4⟩ : ∃ s4, s4 = (⟨N4, false, s.E + 1, s.row⟩ : LS) := ⟨_, rfl⟩
            have hr4 : s4.row = s.row := by rw [hs4]
            have hE4 : s4.E ≤ i + 1 := by rw [hs4]; simp only []; omega
            rw [← hr4] at hrw4
            rw [← hs4] at hL4 hS4
            clear hs4 hr4
            go_wp2_with (first | (go_at_call 10; apply hold) | (go_at_call 11; apply hold) | (go_at_call 12; apply hold) | (go_at_call 13; apply hold) | (go_at_call 14; apply hold) | (go_at_call 17; apply hold) | (go_at_call 18; apply hold) | (at_builtin; apply hold))
            refine unhold ((rowlaw_any lg F4 1048576 n s4 w4 hL4 (by have := hS4.rl; omega) hS4.bl).mono ?_)
            rintro q wT1 ⟨AT, kT, cT, rfl, hrwT, hbT⟩
            have hzT := hbT.size
            go_wp2_with (first | (go_at_call 10; apply hold) | (go_at_call 11; apply hold) | (go_at_call 12; apply hold) | (go_at_call 13; apply hold) | (go_at_call 14; apply hold) | (go_at_call 17; apply hold) | (go_at_call 18; apply hold) | (at_builtin; apply hold))
            refine unhold ((lists_any AT kT cT s4.row A' k c' s4.row _ _ wT1 hrwT.rowR ((hrw4).rowR.below hbT) (by have h9 := hrwT.len; have := hS4.rl; omega)).mono ?_)
            rintro q wT2 ⟨rfl, ndT, rfl⟩
            rw [decide_eq_true rfl]
            go_wp2_with (first | (go_at_call 10; apply hold) | (go_at_call 11; apply hold) | (go_at_call 12; apply hold) | (go_at_call 13; apply hold) | (go_at_call 14; apply hold) | (go_at_call 17; apply hold) | (go_at_call 18; apply hold) | (at_builtin; apply hold))
            go_roundw
            case rel => exact ⟨i + 1, A', k, c', s4, F4, rfl, by simp, by omega, by omega, LogAt.drewN (LogAt.below hL4 hbT) ndT, hF4', hAF4, (hrw4).go (by simp [World.drewN]; omega) (fun y e _ hlt => hbT.block y hlt) (fun y _ hlt => hbT.block y hlt) (fun y h _ => h), hS4, hE4, below_drewN ((hb4).trans (hbT.mono (by omega))) ndT⟩
            case measure => simp [intOf]; omega
        · have q1 : (kd == 1) = false := by simp [hk1]
          clear hk1
          go_wp2_with (first | (go_at_call 10; apply hold) | (go_at_call 11; apply hold) | (go_at_call 12; apply hold) | (go_at_call 13; apply hold) | (go_at_call 14; apply hold) | (go_at_call 17; apply hold) | (go_at_call 18; apply hold) | (at_builtin; apply hold))
          obtain ⟨w3, hw3⟩ : ∃ w3, w3 = wr.alloc (.cells #[.int .i64 kd, .int .i64 nd, .int .i64 kp, .int .i64 tn, .slice A1 xl c1, .slice R rl cR] 42) := ⟨_, rfl⟩
          rw [← hw3] at hs3 hL3 hb3 hrw3 ⊢
          clear hw3 hblk hsB3 hsR3 hBF hRF
          obtain ⟨p, hp⟩ : ∃ p, p = wr.heap.size := ⟨_, rfl⟩
          rw [← hp] at hs3 hFlt hAlt hzw ⊢
          clear hp hb hL hrw
          refine unhold ((lcrash_any lg F 1048576 n s w3 hL3 nd kp tn).mono ?_)
          rintro q w4 ⟨rfl, F4, hL4, hF4, hk4'⟩
          rw [hS.crash] at hL4
          obtain ⟨r, hr⟩ : ∃ r, r = (agF n id s nd).1 := ⟨_, rfl⟩
          rw [← hr]
          clear hr
          have hz4 := hk4'.size
          have hE4 : s.E ≤ i + 1 := by omega
          have hF4' : ∀ y, F4 y → w.heap.size ≤ y := fun y h => (hF4 y h).elim (hF y) (fun h => by omega)
          have hb4 : Below w.heap.size w w4 := below_kp hb3 hk4' hF (by omega)
          have hAF4 : ∀ y, ablk A' = some y → ¬ F4 y := fun y e h => (hF4 y h).elim (hAF y e) (fun h => by have := (hAlt y e).2; omega)
          have hrw4 : RowL w4 (fun y => ¬ F4 y ∧ ablk A' ≠ some y) w.heap.size A' k c' s.row := hrw3.go hz4 (fun y e _ hlt => hk4'.block y hlt (hAF y e)) (fun y h hlt => hk4'.block y hlt h.1) (fun y h hlt => ⟨fun h4 => (hF4 y h4).elim h.1 (fun h => by omega), h.2⟩)
          clear hrw3 hk4' hL3 hb3 hF4
          go_wp2_with (first | (go_at_call 10; apply hold) | (go_at_call 11; apply hold) | (go_at_call 12; apply hold) | (go_at_call 13; apply hold) | (go_at_call 14; apply hold) | (go_at_call 17; apply hold) | (go_at_call 18; apply hold) | (at_builtin; apply hold))
          refine unhold ((rowlaw_any lg F4 1048576 n s w4 hL4 (by have := hS.rl; omega) hS.bl).mono ?_)
          rintro q wT1 ⟨AT, kT, cT, rfl, hrwT, hbT⟩
          have hzT := hbT.size
          go_wp2_with (first | (go_at_call 10; apply hold) | (go_at_call 11; apply hold) | (go_at_call 12; apply hold) | (go_at_call 13; apply hold) | (go_at_call 14; apply hold) | (go_at_call 17; apply hold) | (go_at_call 18; apply hold) | (at_builtin; apply hold))
          refine unhold ((lists_any AT kT cT s.row A' k c' s.row _ _ wT1 hrwT.rowR ((hrw4).rowR.below hbT) (by have h9 := hrwT.len; have := hS.rl; omega)).mono ?_)
          rintro q wT2 ⟨rfl, ndT, rfl⟩
          rw [decide_eq_true rfl]
          go_wp2_with (first | (go_at_call 10; apply hold) | (go_at_call 11; apply hold) | (go_at_call 12; apply hold) | (go_at_call 13; apply hold) | (go_at_call 14; apply hold) | (go_at_call 17; apply hold) | (go_at_call 18; apply hold) | (at_builtin; apply hold))
          go_roundw
          case rel => exact ⟨i + 1, A', k, c', s, F4, rfl, by simp, by omega, by omega, LogAt.drewN (LogAt.below hL4 hbT) ndT, hF4', hAF4, (hrw4).go (by simp [World.drewN]; omega) (fun y e _ hlt => hbT.block y hlt) (fun y _ hlt => hbT.block y hlt) (fun y h _ => h), hS, hE4, below_drewN ((hb4).trans (hbT.mono (by omega))) ndT⟩
          case measure => simp [intOf]; omega
    · have ge : (¬ i < la ∧ decide ((i : Int) < (la : Int)) = false) ∨ (i < la ∧ ¬ i < 40 ∧ decide ((i : Int) < (la : Int)) = true ∧ decide ((i : Int) < 40) = false) := by
        simp; omega
      clear hgo
      rcases ge with ⟨he1, ge1⟩ | ⟨he1, he2, ge1, ge2⟩
      all_goals
        go_wp2_with (first | (go_at_call 10; apply hold) | (go_at_call 11; apply hold) | (go_at_call 12; apply hold) | (go_at_call 13; apply hold) | (go_at_call 14; apply hold) | (go_at_call 17; apply hold) | (go_at_call 18; apply hold) | (at_builtin; apply hold))
        go_ret
        exact ⟨rfl, hb⟩
end Go.Proofs.YtonkblhhknafbaaGreat
