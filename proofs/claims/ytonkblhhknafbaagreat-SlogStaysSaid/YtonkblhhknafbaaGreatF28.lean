/- The walk of the law SlogMinor: it answers true. Whatever the heap holds beside. -/
import Derived.Test.YtonkblhhknafbaaGreatP7
import Derived.Test.YtonkblhhknafbaaGreatF26
import Derived.Test.YtonkblhhknafbaaGreatY1
namespace Go.Proofs.YtonkblhhknafbaaGreat
open Go.RowKit Go.Shelf

theorem cnt_far {bs : List Bool} {k : Nat} (h : bs.length ≤ k) : ∀ d, cnt bs (k + d) = cnt bs k
  | 0 => rfl
  | d + 1 => by
    rw [← Nat.add_assoc, cnt_succ, cnt_far h d]
    have : rch bs (k + d) = false := by
      unfold rch
      rw [List.getElem?_eq_none (by omega)]
      rfl
    rw [this]
    rfl
theorem cnt_lt {bs : List Bool} : ∀ n, cnt bs n ≤ n
  | 0 => Nat.le_refl _
  | n + 1 => by
    have := cnt_lt (bs := bs) n
    rw [cnt_succ]
    split <;> omega
theorem cnt_has {bs : List Bool} : ∀ n, 0 < cnt bs n → ∃ j, j < n ∧ rch bs j = true
  | 0, h => absurd h (Nat.lt_irrefl 0)
  | n + 1, h => by
    rw [cnt_succ] at h
    by_cases hr : rch bs n = true
    · exact ⟨n, by omega, hr⟩
    · rw [if_neg hr] at h
      obtain ⟨j, h1, h2⟩ := cnt_has n h
      exact ⟨j, by omega, h2⟩
/-- what SlogMinor knows between two Appends -/
def MinI (n : Nat) (r : Int) (i : Nat) (s : LS) (l : List (List UInt8)) : Prop :=
  s.row = l ∧ l.length ≤ i ∧ s.E = 1 ∧ (∀ b ∈ l, b.length ≤ 2048) ∧ ((r = 0 ∧ s.op = true ∧ Live n (1 + i) (fun _ => False) s) ∨ (r = 8 ∧ s.op = false ∧ l = []))
theorem MinI.start {n : Nat} {bs : List Bool} {r : Int} {N' : List (List Cmd)} {rw' : Option (List (List UInt8))} (ho : OpenR 1048576 n bs (List.replicate n []) 1 r N' rw') :
    ((r = 0 ∧ n < 2 * cnt bs n) ∨ (r = 8 ∧ 2 * cnt bs n ≤ n)) ∧ MinI n r 0 ⟨N', rw'.isSome, 1, rw'.getD []⟩ [] := by
  rcases Nat.lt_or_ge n (2 * cnt bs n) with hq | hq
  · obtain ⟨j, hj, hr⟩ := cnt_has (bs := bs) n (by omega)
    obtain ⟨h1, h2, h3⟩ := (Live.start n).open (r := r) (N' := N') (rw' := rw') (bs := bs) ho (by simp) (by simp) (by omega) ⟨j, hj, trivial, hr⟩
    subst h1 h2
    exact ⟨.inl ⟨rfl, hq⟩, rfl, by simp, rfl, fun b hb => by simp at hb, .inl ⟨rfl, rfl, h3.mono (by simp) (fun _ h => h.elim)⟩⟩
  · obtain ⟨h1, h2⟩ := open_few (s := ⟨List.replicate n [], false, 0, []⟩) (r := r) (N' := N') (rw' := rw') (bs := bs) (n := n) ho (by omega)
    subst h1 h2
    exact ⟨.inr ⟨rfl, hq⟩, rfl, by simp, rfl, fun b hb => by simp at hb, .inr ⟨rfl, rfl, rfl⟩⟩
theorem MinI.step {n i : Nat} {bs : List Bool} {r : Int} {s : LS} {l : List (List UInt8)} (h : MinI n r i s l) (hi : i < 40) (hq : r = 0 → n < 2 * cnt bs n) (b : List UInt8) :
    (r = 8 ∧ appF 1048576 n bs s b = (0, 8, s) ∧ MinI n r (i + 1) s l) ∨ (r = 0 ∧ ¬ (0 < b.length ∧ b.length ≤ 2048) ∧ appF 1048576 n bs s b = (0, 2, s) ∧ MinI n r (i + 1) s l) ∨
    (r = 0 ∧ 0 < b.length ∧ b.length ≤ 2048 ∧ ∃ s', appF 1048576 n bs s b = ((l.length : Int), 0, s') ∧ MinI n r (i + 1) s' (l ++ [b])) := by
  obtain ⟨h1, h2, h3, h4, h5⟩ := h
  rcases h5 with ⟨h5, h6, h7⟩ | ⟨h5, h6, h7⟩
  · by_cases hb : 0 < b.length ∧ b.length ≤ 2048
    · obtain ⟨g1, g2⟩ := h7.append (bs := bs) (b := b) h6 ⟨hb.1, hb.2⟩ (by rw [h1]; omega) (by omega) (by omega) (by have := hq h5; omega)
      rw [h1] at g1 g2
      refine .inr (.inr ⟨h5, hb.1, hb.2, _, g1, rfl, by simp; omega, h3, fun b' hb' => ?_, .inl ⟨h5, rfl, g2.mono (by omega) (fun _ h => h.elim)⟩⟩)
      rcases List.mem_append.1 hb' with hb' | hb'
      · exact h4 b' hb'
      · simp at hb'; subst hb'; exact hb.2
    · refine .inr (.inl ⟨h5, hb, ?_, h1, by omega, h3, h4, .inl ⟨h5, h6, h7.mono (by omega) (fun _ h => h)⟩⟩)
      unfold appF
      rw [if_neg (by rw [h6]; simp), if_pos (by omega)]
  · refine .inl ⟨h5, ?_, h1, by omega, h3, h4, .inr ⟨h5, h6, h7⟩⟩
    unfold appF
    rw [if_pos h6]

set_option maxRecDepth 100000 in
set_option maxHeartbeats 4000000 in
/-- SlogMinor -/
theorem minor_any (nn : Nat) (hnn : nn < 256) (A : Option Addr) (la ca : Nat) (l8 : List (List UInt8)) (R : Option Addr) (m cR : Nat) (bs : List Bool) (w : World) (h8 : ArgR w A la l8) (hR : Sl w R m (bs.map Value.bool)) :
    Calls Tryz.prog 3 #[.int .u8 nn, .slice A la ca, .slice R m cR] w fun e w' => e = .returned (.bool true) ∧ Below w.heap.size w w' := by
  have hm : bs.length = m := by have := hR.1; simpa using this
  have Hm := hide hm
  clear hm
  go_enter Tryz.func3, Tryz.ntmps3
  go_wp2_with (first | (go_at_call 9; apply hold))
  refine unhold ((shown_any w).mono ?_)
  rintro e w1 ⟨rfl, hb1⟩
  have hz1 := hb1.size
  go_wp2_with (first | (go_at_call 10; apply hold) | (go_at_call 11; apply hold) | (go_at_call 12; apply hold) | (go_at_call 13; apply hold) | (go_at_call 14; apply hold) | (at_builtin; apply hold))
  obtain ⟨n, hn, hn4⟩ : ∃ n : Nat, (n : Int) = 1 + 2 * ((nn : Int) % 4) ∧ (n = 1 ∨ n = 3 ∨ n = 5 ∨ n = 7) := ⟨1 + 2 * (nn % 4), by omega, by omega⟩
  rw [← hn]
  clear hn hnn
  refine unhold ((lnew_any n 1048576 hn4 (by omega) w1).mono ?_)
  rintro q w2 ⟨lg, F2, rfl, hL2, hF2, hb2⟩
  have hz2 := hb2.size
  unfold ptrV
  go_wp2_with (first | (go_at_call 10; apply hold) | (go_at_call 11; apply hold) | (go_at_call 12; apply hold) | (go_at_call 13; apply hold) | (go_at_call 14; apply hold) | (at_builtin; apply hold))
  have hR2 : Sl w2 R m (bs.map Value.bool) := hR.below (hb1.trans (hb2.mono hz1))
  have hn7 : n ≤ 7 := by omega
  go_loopw [11, 12] (fun u v wr => ∃ i, u = .int .i64 (cnt bs i : Nat) ∧ v = .int .i64 (i : Nat) ∧ i ≤ n ∧ i ≤ m ∧ wr = w2) (fun _ v _ => n - (intOf v).toNat)
  case atStart => exact ⟨0, rfl, rfl, by omega, by omega, rfl⟩
  case round =>
    obtain ⟨i, rfl, rfl, hi, him, hwr⟩ := hrel
    subst hwr
    have hcl := cnt_lt (bs := bs) i
    have hcs := cnt_succ bs i
    obtain ⟨c0, hc0⟩ : ∃ c0, c0 = cnt bs i := ⟨_, rfl⟩
    rw [← hc0] at hcs hcl ⊢
    have Hc0 := hide hc0
    have Hcs := hide hcs
    clear hc0 hcs
    by_cases hgo : i < n ∧ i < m
    · obtain ⟨hlt, hlm⟩ := hgo
      obtain ⟨b, off, u, rfl, hb, hu, hc⟩ := hR2.at_ hlm
      have hbi : i < bs.length := by rw [Hm.out]; exact hlm
      have hr : rch bs i = bs[i] := by unfold rch; rw [List.getElem?_eq_getElem hbi]; rfl
      rw [List.getElem?_map, List.getElem?_eq_getElem hbi] at hu
      simp only [Option.map_some, Option.some.injEq] at hu
      subst hu
      obtain ⟨t, ht⟩ : ∃ t, t = bs[i] := ⟨_, rfl⟩
      rw [← ht] at hr hc
      clear ht
      have Hr := hide hr
      clear hr
      have g1 : decide ((i : Int) < (n : Int)) = true := by simp; omega
      have g2 : decide ((i : Int) < (m : Int)) = true := by simp; omega
      cases t
      · go_wp2_with (at_builtin; apply hold)
        go_roundw
        case rel => exact ⟨i + 1, by rw [Hcs.out, Hr.out]; rfl, by simp, by omega, by omega, trivial⟩
        case measure => simp [intOf]; omega
      · go_wp2_with (at_builtin; apply hold)
        go_roundw
        case rel => exact ⟨i + 1, by rw [Hcs.out, Hr.out]; simp, by simp, by omega, by omega, trivial⟩
        case measure => simp [intOf]; omega
    · have Hcn : Hid (c0 = cnt bs n) := by
        rw [Hc0.out]
        rcases Nat.lt_or_ge i n with hlt | hlt
        · have := cnt_far (bs := bs) (k := i) (by rw [Hm.out]; omega) (n - i)
          show cnt bs i = cnt bs n
          rw [← this]
          congr 1
          omega
        · have : i = n := by omega
          rw [this]; exact rfl
      have g : (i < n ∧ ¬ i < m ∧ decide ((i : Int) < (n : Int)) = true ∧ decide ((i : Int) < (m : Int)) = false) ∨ (¬ i < n ∧ decide ((i : Int) < (n : Int)) = false) := by
        simp; omega
      clear hgo
      rcases g with ⟨hlt, hlm, g1, g2⟩ | ⟨hlt, g1⟩
      all_goals
        go_wp2_with (first | (go_at_call 10; apply hold) | (go_at_call 11; apply hold) | (go_at_call 12; apply hold) | (go_at_call 13; apply hold) | (go_at_call 14; apply hold) | (at_builtin; apply hold))
        have hRF : ∀ y, sblk R m = some y → y < w.heap.size := fun y e => hR.ltS e
        refine unhold ((lopenS_any lg F2 1048576 n _ wr hL2 R m cR bs hR2 (fun y e => ⟨by have := hRF y e; omega, fun h => by have := hF2 y h; have := hRF y e; omega⟩) (by simp)).mono ?_)
        rintro q w3 ⟨r, N3, rw3, F3, rfl, ho3, hL3, hF3, hk3⟩
        have hz3 := hk3.size
        have hF3' : ∀ y, F3 y → w.heap.size ≤ y := fun y h => (hF3 y h).elim (fun h => by have := hF2 y h; omega) (fun h => by omega)
        have hb3 : Below w.heap.size w w3 := below_kp (hb1.trans (hb2.mono hz1)) hk3 (fun y h => by have := hF2 y h; omega) (by omega)
        obtain ⟨hr, hM⟩ := MinI.start ho3
        rw [← Hcn.out] at hr
        simp only [Nat.zero_add] at hL3
        clear ho3 hk3 hF3 hL2 hR2 hF2
        obtain ⟨s3, hs3⟩ : ∃ s3, s3 = (⟨N3, rw3.isSome, 1, rw3.getD []⟩ : LS) := ⟨_, rfl⟩
        rw [← hs3] at hL3 hM
        clear hs3
        have hbase : w.heap.size ≤ w3.heap.size := hb3.size
        rcases hr with ⟨rfl, hq⟩ | ⟨rfl, hq⟩
        · have g5 : decide ((n : Int) < 2 * (c0 : Int)) = true := by simp; omega
          go_wp2_with (first | (go_at_call 10; apply hold) | (go_at_call 11; apply hold) | (go_at_call 12; apply hold) | (go_at_call 13; apply hold) | (go_at_call 14; apply hold) | (at_builtin; apply hold))
          go_loopw [14, 15] (fun u v wr => ∃ (i : Nat) (A' : Option Addr) (k c' : Nat) (s : LS) (F : Nat → Prop) (l : List (List UInt8)), u = .slice A' k c' ∧ v = .int .i64 (i : Nat) ∧ i ≤ la ∧ i ≤ 40 ∧ LogS wr lg F 1048576 n s ∧ (∀ y, F y → w.heap.size ≤ y) ∧ (∀ y, ablk A' = some y → ¬ F y) ∧
            RowL wr (fun y => y < w.heap.size) w.heap.size A' k c' l ∧ MinI n 0 i s l ∧ Below w.heap.size w wr) (fun _ v _ => la - (intOf v).toNat)
          case atStart => exact ⟨0, none, 0, 0, s3, F3, [], rfl, rfl, by omega, by omega, hL3, hF3', (fun y e => by cases e), ⟨[], Own.nil _ _ _ _, .nil⟩, hM, hb3⟩
          case round =>
            obtain ⟨i, A', k, c', s, F, l, rfl, rfl, hil, hi40, hL, hF, hAF, hrw, hMi, hb⟩ := hrel
            have hzw := hb.size
            have hm := hrw.len
            have hlL : l.length ≤ i := hMi.2.1
            have hkl : k ≤ 40 := by omega
            have Hm' := hide hm
            clear hm
            by_cases hgo : i < la ∧ i < 40
            · obtain ⟨hlt1, hlt2⟩ := hgo
              obtain ⟨b, off, x, A1, c1, rfl, hblt, hxi, hcell, hs⟩ := h8.at_ hlt1
              have hcw : wr.cell? ⟨b, off + i, none⟩ = some (.slice A1 x.length c1) := by rw [World.cell?_of_block (w := w) (a := ⟨b, off + i, none⟩) (hb.block b hblt)]; exact hcell
              obtain ⟨xl, hxl⟩ : ∃ xl, x.length = xl := ⟨_, rfl⟩
              rw [hxl] at hcw hs
              have Hxl := hide hxl
              clear hxl hcell hxi
              have ga : decide ((i : Int) < (la : Int)) = true := by simp; omega
              have gb : decide ((i : Int) < 40) = true := by simp; omega
              go_wp2_with (first | (go_at_call 10; apply hold) | (go_at_call 11; apply hold) | (go_at_call 12; apply hold) | (go_at_call 13; apply hold) | (go_at_call 14; apply hold) | (at_builtin; apply hold))
              refine unhold ((lappend_any lg F 1048576 n s wr hL A1 xl c1 x R m cR bs (hs.below hb) (hR.below hb) (fun y e => ⟨by have := hs.ltS e; omega, fun h => by have := hF y h; have := hs.ltS e; omega⟩) (fun y e => ⟨by have := hRF y e; omega, fun h => by have := hF y h; have := hRF y e; omega⟩) (by rw [hMi.2.2.1]; omega) (by rw [hMi.1]; omega)).mono ?_)
              rintro q w4 ⟨rfl, F4, hL4, hF4, hk4⟩
              have hz4 := hk4.size
              have hF4' : ∀ y, F4 y → w.heap.size ≤ y := fun y h => (hF4 y h).elim (hF y) (fun h => by omega)
              have hb4 : Below w.heap.size w w4 := below_kp hb hk4 (fun y h => by have := hF y h; omega) (by omega)
              have hAF4 : ∀ y, ablk A' = some y → ¬ F4 y := fun y e h => (hF4 y h).elim (hAF y e) (fun h => by have := (hrw.lt e).2; omega)
              have hrw4 : RowL w4 (fun y => y < w.heap.size) w.heap.size A' k c' l := hrw.go hz4 (fun y e _ hlt => hk4.block y hlt (hAF y e)) (fun y h hlt => hk4.block y hlt (fun h' => by have := hF y h'; omega)) (fun y h _ => h)
              have hcw4 : w4.cell? ⟨b, off + i, none⟩ = some (.slice A1 xl c1) := by rw [World.cell?_of_block (w := wr) (a := ⟨b, off + i, none⟩) (hk4.block b (by omega) (fun h => by have := hF b h; omega))]; exact hcw
              clear hcw
              rcases hMi.step (bs := bs) hlt2 (fun _ => by rw [← Hcn.out]; exact hq) x with ⟨hr8, he, hM4⟩ | ⟨_, hbx, he, hM4⟩ | ⟨_, hx1, hx2, s4, he, hM4⟩
              · exact absurd hr8 (by decide)
              · rw [he] at hL4 ⊢
                simp only [] at hL4 ⊢
                have hx2 : xl = 0 ∨ (0 < xl ∧ 2048 < xl) := by have := Hxl.out; omega
                rcases hx2 with rfl | ⟨hx2, hx3⟩
                · go_wp2_with (first | (go_at_call 10; apply hold) | (go_at_call 11; apply hold) | (go_at_call 12; apply hold) | (go_at_call 13; apply hold) | (go_at_call 14; apply hold) | (at_builtin; apply hold))
                  go_roundw
                  case rel => exact ⟨i + 1, A', k, c', s, F4, l, rfl, by simp, by omega, by omega, hL4, hF4', hAF4, hrw4, hM4, hb4⟩
                  case measure => simp [intOf]; omega
                · have gc : decide ((0 : Int) < (xl : Int)) = true := by simp; omega
                  have gd : decide ((xl : Int) ≤ 2048) = false := by simp; omega
                  go_wp2_with (first | (go_at_call 10; apply hold) | (go_at_call 11; apply hold) | (go_at_call 12; apply hold) | (go_at_call 13; apply hold) | (go_at_call 14; apply hold) | (at_builtin; apply hold))
                  go_roundw
                  case rel => exact ⟨i + 1, A', k, c', s, F4, l, rfl, by simp, by omega, by omega, hL4, hF4', hAF4, hrw4, hM4, hb4⟩
                  case measure => simp [intOf]; omega
              · rw [he] at hL4 ⊢
                simp only [] at hL4 ⊢
                rw [← Hm'.out]
                have hx3 : 0 < xl ∧ xl ≤ 2048 := by have := Hxl.out; omega
                have gc : decide ((0 : Int) < (xl : Int)) = true := by simp; omega
                have gd : decide ((xl : Int) ≤ 2048) = true := by simp; omega
                go_wp2_with (first | (go_at_call 10; apply hold) | (go_at_call 11; apply hold) | (go_at_call 12; apply hold) | (go_at_call 13; apply hold) | (go_at_call 14; apply hold) | (at_builtin; apply hold))
                obtain ⟨xs, hox, hall⟩ := hrw4
                refine unhold (app_row rfl (.tmp 123) (.tmp 128) rfl w.heap.size A' k c' xs rfl (hox.alloc _) A1 xl c1 w4 rfl rfl (by omega) (by simp; omega) ?_)
                intro A2 c2 w5 ho5 hg5 hA5
                have hk5 : Kp (fun y => ablk A' = some y) w4 w5 := ((Kp.refl _ w4).alloc _).grown hg5 (fun y e _ => e)
                clear hg5
                have hz5 := hk5.size
                go_wp2_with (first | (go_at_call 10; apply hold) | (go_at_call 11; apply hold) | (go_at_call 12; apply hold) | (go_at_call 13; apply hold) | (go_at_call 14; apply hold) | (at_builtin; apply hold))
                go_roundw
                case rel =>
                  have hA5' : ∀ y, ablk A2 = some y → ablk A' = some y ∨ w4.heap.size ≤ y := fun y e => by
                    rcases hA5 with h | h
                    · exact .inl (by rw [← h]; exact e)
                    · rw [e] at h
                      simp at h
                      exact .inr (by omega)
                  have hs4 : Sl w4 A1 x.length (u8s x) := by rw [Hxl.out]; exact hs.below hb4
                  have hrw5 := RowL.snoc2 (b := x) (A1 := A1) (c1 := c1) (base := w.heap.size) (A' := A2) (c' := c2) (m := k) (A := A') hall (fun y h e => by have := (hox.lt e).1; omega) hs4 (fun y e => by
                    have := hs.ltS (k := y) (by rw [sblk_of hx3.1]; exact e)
                    exact ⟨this, by omega⟩) (by rw [Hxl.out]; exact ho5) hk5
                  exact ⟨i + 1, A2, k + 1, c2, s4, F4, l ++ [x], rfl, by simp, by omega, by omega, LogAt.kp hL4 hk5 (fun y h e => hAF4 y e h), hF4', (fun y e h => (hA5' y e).elim (fun h' => hAF4 y h' h) (fun h' => by have := LogAt.lt hL4 h; omega)), hrw5, hM4, below_kp hb4 hk5 (fun y e => (hox.lt e).1) (by omega)⟩
                case measure => simp [intOf]; omega
            · have ge : (¬ i < la ∧ decide ((i : Int) < (la : Int)) = false) ∨ (i < la ∧ ¬ i < 40 ∧ decide ((i : Int) < (la : Int)) = true ∧ decide ((i : Int) < 40) = false) := by
                simp; omega
              clear hgo
              rcases ge with ⟨he1, ge1⟩ | ⟨he1, he2, ge1, ge2⟩
              all_goals
                go_wp2_with (first | (go_at_call 10; apply hold) | (go_at_call 11; apply hold) | (go_at_call 12; apply hold) | (go_at_call 13; apply hold) | (go_at_call 14; apply hold) | (at_builtin; apply hold))
                have hrl : s.row = l := hMi.1
                refine unhold ((rowlaw_any lg F 1048576 n s wr hL (by rw [hrl]; omega) (by rw [hrl]; exact hMi.2.2.2.1)).mono ?_)
                rintro q w5 ⟨A5, k5, c5, rfl, hrw5, hb5⟩
                have hz5 := hb5.size
                go_wp2_with (first | (go_at_call 10; apply hold) | (go_at_call 11; apply hold) | (go_at_call 12; apply hold) | (go_at_call 13; apply hold) | (go_at_call 14; apply hold) | (at_builtin; apply hold))
                refine unhold ((lists_any A5 k5 c5 s.row A' k c' l _ _ w5 hrw5.rowR ((hrw.go hz5 (fun y e _ hlt => hb5.block y hlt) (fun y h hlt => hb5.block y hlt) (fun y h _ => h)).rowR) (by have := hrw5.len; rw [hrl] at this; omega)).mono ?_)
                rintro q w6 ⟨rfl, nd, rfl⟩
                rw [decide_eq_true hrl]
                go_wp2_with (first | (go_at_call 10; apply hold) | (go_at_call 11; apply hold) | (go_at_call 12; apply hold) | (go_at_call 13; apply hold) | (go_at_call 14; apply hold) | (at_builtin; apply hold))
                go_ret
                exact ⟨rfl, below_drewN (hb.trans (hb5.mono hzw)) nd⟩
        · have g5 : decide ((n : Int) < 2 * (c0 : Int)) = false := by simp; omega
          go_wp2_with (first | (go_at_call 10; apply hold) | (go_at_call 11; apply hold) | (go_at_call 12; apply hold) | (go_at_call 13; apply hold) | (go_at_call 14; apply hold) | (at_builtin; apply hold))
          go_loopw [14, 15] (fun u v wr => ∃ (i : Nat) (A' : Option Addr) (k c' : Nat) (s : LS) (F : Nat → Prop) (l : List (List UInt8)), u = .slice A' k c' ∧ v = .int .i64 (i : Nat) ∧ i ≤ la ∧ i ≤ 40 ∧ LogS wr lg F 1048576 n s ∧ (∀ y, F y → w.heap.size ≤ y) ∧ (∀ y, ablk A' = some y → ¬ F y) ∧
            RowL wr (fun y => y < w.heap.size) w.heap.size A' k c' l ∧ MinI n 8 i s l ∧ Below w.heap.size w wr) (fun _ v _ => la - (intOf v).toNat)
          case atStart => exact ⟨0, none, 0, 0, s3, F3, [], rfl, rfl, by omega, by omega, hL3, hF3', (fun y e => by cases e), ⟨[], Own.nil _ _ _ _, .nil⟩, hM, hb3⟩
          case round =>
            obtain ⟨i, A', k, c', s, F, l, rfl, rfl, hil, hi40, hL, hF, hAF, hrw, hMi, hb⟩ := hrel
            have hzw := hb.size
            have hm := hrw.len
            have hlL : l.length ≤ i := hMi.2.1
            have hkl : k ≤ 40 := by omega
            have Hm' := hide hm
            clear hm
            by_cases hgo : i < la ∧ i < 40
            · obtain ⟨hlt1, hlt2⟩ := hgo
              obtain ⟨b, off, x, A1, c1, rfl, hblt, hxi, hcell, hs⟩ := h8.at_ hlt1
              have hcw : wr.cell? ⟨b, off + i, none⟩ = some (.slice A1 x.length c1) := by rw [World.cell?_of_block (w := w) (a := ⟨b, off + i, none⟩) (hb.block b hblt)]; exact hcell
              obtain ⟨xl, hxl⟩ : ∃ xl, x.length = xl := ⟨_, rfl⟩
              rw [hxl] at hcw hs
              have Hxl := hide hxl
              clear hxl hcell hxi
              have ga : decide ((i : Int) < (la : Int)) = true := by simp; omega
              have gb : decide ((i : Int) < 40) = true := by simp; omega
              go_wp2_with (first | (go_at_call 10; apply hold) | (go_at_call 11; apply hold) | (go_at_call 12; apply hold) | (go_at_call 13; apply hold) | (go_at_call 14; apply hold) | (at_builtin; apply hold))
              refine unhold ((lappend_any lg F 1048576 n s wr hL A1 xl c1 x R m cR bs (hs.below hb) (hR.below hb) (fun y e => ⟨by have := hs.ltS e; omega, fun h => by have := hF y h; have := hs.ltS e; omega⟩) (fun y e => ⟨by have := hRF y e; omega, fun h => by have := hF y h; have := hRF y e; omega⟩) (by rw [hMi.2.2.1]; omega) (by rw [hMi.1]; omega)).mono ?_)
              rintro q w4 ⟨rfl, F4, hL4, hF4, hk4⟩
              have hz4 := hk4.size
              have hF4' : ∀ y, F4 y → w.heap.size ≤ y := fun y h => (hF4 y h).elim (hF y) (fun h => by omega)
              have hb4 : Below w.heap.size w w4 := below_kp hb hk4 (fun y h => by have := hF y h; omega) (by omega)
              have hAF4 : ∀ y, ablk A' = some y → ¬ F4 y := fun y e h => (hF4 y h).elim (hAF y e) (fun h => by have := (hrw.lt e).2; omega)
              have hrw4 : RowL w4 (fun y => y < w.heap.size) w.heap.size A' k c' l := hrw.go hz4 (fun y e _ hlt => hk4.block y hlt (hAF y e)) (fun y h hlt => hk4.block y hlt (fun h' => by have := hF y h'; omega)) (fun y h _ => h)
              have hcw4 : w4.cell? ⟨b, off + i, none⟩ = some (.slice A1 xl c1) := by rw [World.cell?_of_block (w := wr) (a := ⟨b, off + i, none⟩) (hk4.block b (by omega) (fun h => by have := hF b h; omega))]; exact hcw
              clear hcw
              rcases hMi.step (bs := bs) hlt2 (fun h => absurd h (by decide)) x with ⟨_, he, hM4⟩ | ⟨hr8, _⟩ | ⟨hr8, _⟩
              · rw [he] at hL4 ⊢
                simp only [] at hL4 ⊢
                have hx2 : xl = 0 ∨ (0 < xl ∧ 2048 < xl) ∨ (0 < xl ∧ xl ≤ 2048) := by have := Hxl.out; omega
                rcases hx2 with rfl | ⟨hx2, hx3⟩ | ⟨hx2, hx3⟩
                · go_wp2_with (first | (go_at_call 10; apply hold) | (go_at_call 11; apply hold) | (go_at_call 12; apply hold) | (go_at_call 13; apply hold) | (go_at_call 14; apply hold) | (at_builtin; apply hold))
                  go_roundw
                  case rel => exact ⟨i + 1, A', k, c', s, F4, l, rfl, by simp, by omega, by omega, hL4, hF4', hAF4, hrw4, hM4, hb4⟩
                  case measure => simp [intOf]; omega
                · have gc : decide ((0 : Int) < (xl : Int)) = true := by simp; omega
                  have gd : decide ((xl : Int) ≤ 2048) = false := by simp; omega
                  go_wp2_with (first | (go_at_call 10; apply hold) | (go_at_call 11; apply hold) | (go_at_call 12; apply hold) | (go_at_call 13; apply hold) | (go_at_call 14; apply hold) | (at_builtin; apply hold))
                  go_roundw
                  case rel => exact ⟨i + 1, A', k, c', s, F4, l, rfl, by simp, by omega, by omega, hL4, hF4', hAF4, hrw4, hM4, hb4⟩
                  case measure => simp [intOf]; omega
                · have gc : decide ((0 : Int) < (xl : Int)) = true := by simp; omega
                  have gd : decide ((xl : Int) ≤ 2048) = true := by simp; omega
                  go_wp2_with (first | (go_at_call 10; apply hold) | (go_at_call 11; apply hold) | (go_at_call 12; apply hold) | (go_at_call 13; apply hold) | (go_at_call 14; apply hold) | (at_builtin; apply hold))
                  go_roundw
                  case rel => exact ⟨i + 1, A', k, c', s, F4, l, rfl, by simp, by omega, by omega, hL4, hF4', hAF4, hrw4, hM4, hb4⟩
                  case measure => simp [intOf]; omega
              · exact absurd hr8 (by decide)
              · exact absurd hr8 (by decide)
            · have ge : (¬ i < la ∧ decide ((i : Int) < (la : Int)) = false) ∨ (i < la ∧ ¬ i < 40 ∧ decide ((i : Int) < (la : Int)) = true ∧ decide ((i : Int) < 40) = false) := by
                simp; omega
              clear hgo
              rcases ge with ⟨he1, ge1⟩ | ⟨he1, he2, ge1, ge2⟩
              all_goals
                go_wp2_with (first | (go_at_call 10; apply hold) | (go_at_call 11; apply hold) | (go_at_call 12; apply hold) | (go_at_call 13; apply hold) | (go_at_call 14; apply hold) | (at_builtin; apply hold))
                have hrl : s.row = l := hMi.1
                refine unhold ((rowlaw_any lg F 1048576 n s wr hL (by rw [hrl]; omega) (by rw [hrl]; exact hMi.2.2.2.1)).mono ?_)
                rintro q w5 ⟨A5, k5, c5, rfl, hrw5, hb5⟩
                have hz5 := hb5.size
                go_wp2_with (first | (go_at_call 10; apply hold) | (go_at_call 11; apply hold) | (go_at_call 12; apply hold) | (go_at_call 13; apply hold) | (go_at_call 14; apply hold) | (at_builtin; apply hold))
                refine unhold ((lists_any A5 k5 c5 s.row A' k c' l _ _ w5 hrw5.rowR ((hrw.go hz5 (fun y e _ hlt => hb5.block y hlt) (fun y h hlt => hb5.block y hlt) (fun y h _ => h)).rowR) (by have := hrw5.len; rw [hrl] at this; omega)).mono ?_)
                rintro q w6 ⟨rfl, nd, rfl⟩
                rw [decide_eq_true hrl]
                go_wp2_with (first | (go_at_call 10; apply hold) | (go_at_call 11; apply hold) | (go_at_call 12; apply hold) | (go_at_call 13; apply hold) | (go_at_call 14; apply hold) | (at_builtin; apply hold))
                go_ret
                exact ⟨rfl, below_drewN (hb.trans (hb5.mono hzw)) nd⟩
end Go.Proofs.YtonkblhhknafbaaGreat
