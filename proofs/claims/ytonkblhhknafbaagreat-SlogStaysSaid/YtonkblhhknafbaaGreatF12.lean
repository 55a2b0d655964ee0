/- The walks of quor.Need, older, best. Whatever the heap holds beside. -/
import Derived.Test.YtonkblhhknafbaaGreatF11
namespace Go.Proofs.YtonkblhhknafbaaGreat
open Go.RowKit Go.Shelf

set_option maxRecDepth 100000 in
set_option maxHeartbeats 1000000 in
theorem need_any (n : Nat) (h1 : 1 ≤ n) (h2 : n ≤ 100) (w : World) : Calls Tryz.prog 55 #[.int .i64 n] w fun e w' => e = .returned (.int .i64 ((n / 2 + 1 : Nat) : Int)) ∧ w = w' := by
  have g1 : ((n : Int)).tdiv 2 = ((n / 2 : Nat) : Int) := by
    rw [Int.tdiv_eq_ediv_of_nonneg (by omega)]; omega
  go_enter Tryz.func55, Tryz.ntmps55
  go_wp2
  go_ret
  refine ⟨?_, rfl⟩
  show Ending.returned (Value.int .i64 (max (n : Int) 1 / 2 + 1)) = _
  rw [show max (n : Int) 1 / 2 + 1 = ((n / 2 + 1 : Nat) : Int) by omega]

set_option maxRecDepth 100000 in
set_option maxHeartbeats 1000000 in
theorem older_any (u v : CV) (w : World) : Calls Tryz.prog 63 #[u.agg, v.agg] w fun e w' => e = .returned (.bool (decide (u.ep < v.ep))) ∧ Below w.heap.size w w' := by
  obtain ⟨a1, e1, A1, n1, c1⟩ := u
  obtain ⟨a2, e2, A2, n2, c2⟩ := v
  simp only [CV.agg]
  go_enter Tryz.func63, Tryz.ntmps63
  go_wp2_with fail
  go_ret
  exact ⟨rfl, ((Below.refl _ _).alloc (Nat.le_refl _) _).alloc (by simp) _⟩

set_option maxRecDepth 100000 in
set_option maxHeartbeats 1000000 in
theorem best_any (A : Option Addr) (n c : Nat) (vs : List CV) (w : World) (hs : Sl w A (n * 3) (flat vs)) (hn : 0 < n) (hnc : n ≤ c) (hc : n ≤ 1000000) :
    Calls Tryz.prog 62 #[.slice A n c, .func (.func 63) #[] #[]] w fun e w' => ∃ v : CV, e = .returned v.agg ∧ v ∈ vs ∧ (∀ u ∈ vs, u.ep ≤ v.ep) ∧ Below w.heap.size w w' := by
  have hl : vs.length = n := by have := hs.1; rw [flat_len] at this; omega
  obtain ⟨b, off, rfl, hb, hcell⟩ := hs.2 (by omega)
  have hv0 : vs[0]? = some vs[0] := List.getElem?_eq_getElem (by omega)
  obtain ⟨v0, hv0e⟩ : ∃ v0, v0 = vs[0] := ⟨_, rfl⟩
  rw [← hv0e] at hv0
  clear hv0e
  obtain ⟨g0, g1, g2⟩ := flat_get vs 0 v0 hv0
  have k0 := hcell _ _ g0
  have k1 := hcell _ _ g1
  have k2 := hcell _ _ g2
  simp only [Nat.zero_mul, Nat.add_zero, Nat.zero_add] at k0 k1 k2
  clear g0 g1 g2
  have hA : Blk ((w.alloc (.cells #[.int .i64 0, .int .i64 0, .slice none 0 0] 77)).alloc (.cells #[.int .i64 v0.at_, .int .i64 v0.ep, .slice v0.A v0.n v0.c] 77)) w.heap.size 77 #[.int .i64 0, .int .i64 0, .slice none 0 0] := (Blk.new _ _ _).alloc _
  have hX : Blk ((w.alloc (.cells #[.int .i64 0, .int .i64 0, .slice none 0 0] 77)).alloc (.cells #[.int .i64 v0.at_, .int .i64 v0.ep, .slice v0.A v0.n v0.c] 77)) (w.heap.size + 1) 77 v0.vals.toArray := by
    have := Blk.new (w.alloc (.cells #[.int .i64 0, .int .i64 0, .slice none 0 0] 77)) 77 #[.int .i64 v0.at_, .int .i64 v0.ep, .slice v0.A v0.n v0.c]
    rw [World.size_alloc] at this
    exact this
  have hb0 : Below w.heap.size w ((w.alloc (.cells #[.int .i64 0, .int .i64 0, .slice none 0 0] 77)).alloc (.cells #[.int .i64 v0.at_, .int .i64 v0.ep, .slice v0.A v0.n v0.c] 77)) := ((Below.refl _ _).alloc (Nat.le_refl _) _).alloc (by simp) _
  have hv0m : v0 ∈ vs := List.mem_of_getElem? hv0
  go_enter Tryz.func62, Tryz.ntmps62
  by_cases hc1 : c = 1
  · have hn1 : n = 1 := by omega
    subst hc1 hn1
    have hall : ∀ u ∈ vs, u.ep ≤ v0.ep := by
      intro u hu
      obtain ⟨j, hj⟩ := List.getElem?_of_mem hu
      have : j < vs.length := (List.getElem?_eq_some_iff.1 hj).1
      obtain rfl : j = 0 := by omega
      rw [hj] at hv0
      cases hv0
      exact Int.le_refl _
    go_wp2_with fail
    have hsz : ((w.alloc (.cells #[.int .i64 0, .int .i64 0, .slice none 0 0] 77)).alloc (.cells #[.int .i64 v0.at_, .int .i64 v0.ep, .slice v0.A v0.n v0.c] 77)).heap.size = w.heap.size + 2 := by simp
    obtain ⟨w0, hw0⟩ : ∃ w0, w0 = ((w.alloc (.cells #[.int .i64 0, .int .i64 0, .slice none 0 0] 77)).alloc (.cells #[.int .i64 v0.at_, .int .i64 v0.ep, .slice v0.A v0.n v0.c] 77)) := ⟨_, rfl⟩
    rw [← hw0] at hA hX hb0 hsz ⊢
    clear hw0
    obtain ⟨R, hR⟩ : ∃ R, R = w.heap.size := ⟨_, rfl⟩
    obtain ⟨X, hXe⟩ : ∃ X, X = w.heap.size + 1 := ⟨_, rfl⟩
    rw [← hXe] at hX ⊢
    rw [← hR] at hA ⊢
    have i1 : w.heap.size ≤ R := by omega
    have i2 : R < X := by omega
    have i3 : X < w0.heap.size := by omega
    clear hR hXe hsz
    obtain ⟨p0, p1, p2, q0, q1, q2⟩ := Blk.c3 hA
    obtain ⟨x0, x1, x2, y0, y1, y2⟩ := Blk.c3 (x := .int .i64 v0.at_) (y := .int .i64 v0.ep) (z := .slice v0.A v0.n v0.c) hX
    refine wp_loop_once ?_
    go_wp2_with fail
    refine bodyPost_ret (v := v0.agg) (results_cell_row rfl _ _ R 77 _ (0, 0) _ rfl (((hA.set_ 0 (.int .i64 v0.at_)).set_ 1 (.int .i64 v0.ep)).set_ 2 (.slice v0.A v0.n v0.c)) Tryz.underlying77 rfl (by kernel_rfl)) rfl ⟨v0, rfl, hv0m, hall, ?_⟩
    exact (Kp.setCell (Kp.setCell (Kp.setCell (Kp.below (S := Nobody) hb0) (fun h => by simp at h; omega) _) (fun h => by simp at h; omega) _) (fun h => by simp at h; omega) _).nob
  · go_wp2_with fail
    have hsz : ((w.alloc (.cells #[.int .i64 0, .int .i64 0, .slice none 0 0] 77)).alloc (.cells #[.int .i64 v0.at_, .int .i64 v0.ep, .slice v0.A v0.n v0.c] 77)).heap.size = w.heap.size + 2 := by simp
    obtain ⟨w0, hw0⟩ : ∃ w0, w0 = ((w.alloc (.cells #[.int .i64 0, .int .i64 0, .slice none 0 0] 77)).alloc (.cells #[.int .i64 v0.at_, .int .i64 v0.ep, .slice v0.A v0.n v0.c] 77)) := ⟨_, rfl⟩
    rw [← hw0] at hA hX hb0 hsz ⊢
    clear hw0
    obtain ⟨R, hR⟩ : ∃ R, R = w.heap.size := ⟨_, rfl⟩
    obtain ⟨X, hXe⟩ : ∃ X, X = w.heap.size + 1 := ⟨_, rfl⟩
    rw [← hXe] at hX ⊢
    rw [← hR] at hA ⊢
    have i1 : w.heap.size ≤ R := by omega
    have i2 : R < X := by omega
    have i3 : X < w0.heap.size := by omega
    clear hR hXe hsz
    go_loopw [14] (fun v wr => ∃ (i : Nat) (u : CV), v = .int .i64 i ∧ i ≤ n - 1 ∧ Blk wr R 77 #[.int .i64 0, .int .i64 0, .slice none 0 0] ∧ Blk wr X 77 #[.int .i64 u.at_, .int .i64 u.ep, .slice u.A u.n u.c] ∧ u ∈ vs ∧ (∀ j z, j ≤ i → vs[j]? = some z → z.ep ≤ u.ep) ∧ Below w.heap.size w wr ∧ X < wr.heap.size) (fun v _ => n - (intOf v).toNat)
    case atStart =>
      refine ⟨0, v0, rfl, by omega, hA, hX, hv0m, fun j z hj hz => ?_, hb0, i3⟩
      obtain rfl : j = 0 := by omega
      rw [hz] at hv0
      cases hv0
      exact Int.le_refl _
    case round =>
      obtain ⟨i, u, rfl, hi, hAr, hXr, hum, hmax, hbr, hXlt⟩ := hrel
      obtain ⟨p0, p1, p2, q0, q1, q2⟩ := Blk.c3 hAr
      obtain ⟨x0, x1, x2, y0, y1, y2⟩ := Blk.c3 hXr
      by_cases hlt : i < n - 1
      · have hj1 : i + 1 < vs.length := by omega
        have hvz : vs[i + 1]? = some vs[i + 1] := List.getElem?_eq_getElem hj1
        obtain ⟨z, hz⟩ : ∃ z, z = vs[i + 1] := ⟨_, rfl⟩
        rw [← hz] at hvz
        clear hz
        obtain ⟨g0, g1, g2⟩ := flat_get vs (i + 1) z hvz
        have kk := fun o v hv => (hbr.cell (p := ⟨b, off + o, none⟩) hb).trans (hcell o v hv)
        have c0 := kk _ _ g0
        have c1 := kk _ _ g1
        have c2 := kk _ _ g2
        rw [show off + (i + 1) * 3 = off + 3 + i * 3 by omega] at c0
        rw [show off + ((i + 1) * 3 + 1) = off + 3 + i * 3 + 1 by omega] at c1
        rw [show off + ((i + 1) * 3 + 2) = off + 3 + i * 3 + 2 by omega] at c2
        clear g0 g1 g2 kk
        go_wp2_with (go_at_call 63; apply hold)
        have hY : Blk (wr.alloc (.cells #[.int .i64 z.at_, .int .i64 z.ep, .slice z.A z.n z.c] 77)) wr.heap.size 77 #[.int .i64 z.at_, .int .i64 z.ep, .slice z.A z.n z.c] := Blk.new _ _ _
        have hwY : Below wr.heap.size wr (wr.alloc (.cells #[.int .i64 z.at_, .int .i64 z.ep, .slice z.A z.n z.c] 77)) := (Below.refl _ _).alloc (Nat.le_refl _) _
        have hsY : (wr.alloc (.cells #[.int .i64 z.at_, .int .i64 z.ep, .slice z.A z.n z.c] 77)).heap.size = wr.heap.size + 1 := by simp
        refine unhold ((older_any u z _).mono ?_)
        obtain ⟨wY, hwYe⟩ : ∃ wY, wY = wr.alloc (.cells #[.int .i64 z.at_, .int .i64 z.ep, .slice z.A z.n z.c] 77) := ⟨_, rfl⟩
        rw [← hwYe] at hY hwY hsY ⊢
        clear hwYe
        obtain ⟨Y, hYe⟩ : ∃ Y, Y = wr.heap.size := ⟨_, rfl⟩
        rw [← hYe] at hY ⊢
        have i5 : wr.heap.size ≤ Y := by omega
        have i6 : Y < wY.heap.size := by omega
        clear hYe
        rintro x w5 ⟨rfl, hb5⟩
        have hz5 := hb5.size
        have hY5 := below_blk hb5 hY i6
        have hbr5 : Below wr.heap.size wr w5 := hwY.trans (hb5.mono hwY.size)
        have hA5 := below_blk hbr5 hAr hAr.lt
        have hX5 := below_blk hbr5 hXr hXlt
        have hb05 : Below w.heap.size w w5 := hbr.trans (hbr5.mono hbr.size)
        obtain ⟨x0, x1, x2, y0, y1, y2⟩ := Blk.c3 hX5
        obtain ⟨s0, s1, s2, t0, t1, t2⟩ := Blk.c3 hY5
        have hzm : z ∈ vs := List.mem_of_getElem? hvz
        by_cases hep : u.ep < z.ep
        · have ge : decide (u.ep < z.ep) = true := by simp [hep]
          rw [ge]
          go_wp2_with fail
          go_roundw
          case rel =>
            refine ⟨i + 1, z, rfl, by omega, ((hA5.far (by simp; omega) _).far (by simp; omega) _).far (by simp; omega) _, ((hX5.set_ 0 (.int .i64 z.at_)).set_ 1 (.int .i64 z.ep)).set_ 2 (.slice z.A z.n z.c), hzm, fun j y hj hy => ?_, (Kp.setCell (Kp.setCell (Kp.setCell (Kp.below (S := Nobody) hb05) (fun h => by simp at h; omega) _) (fun h => by simp at h; omega) _) (fun h => by simp at h; omega) _).nob, by simp [World.setCell]; omega⟩
            rcases Nat.lt_or_eq_of_le hj with h | rfl
            · have := hmax j y (by omega) hy; omega
            · rw [hvz] at hy; cases hy; exact Int.le_refl _
          case measure => simp [intOf]; omega
        · have ge : decide (u.ep < z.ep) = false := by simp [hep]
          rw [ge]
          go_wp2_with fail
          go_roundw
          case rel =>
            refine ⟨i + 1, u, rfl, by omega, hA5, hX5, hum, fun j y hj hy => ?_, hb05, by omega⟩
            rcases Nat.lt_or_eq_of_le hj with h | rfl
            · exact hmax j y (by omega) hy
            · rw [hvz] at hy; cases hy; omega
          case measure => simp [intOf]; omega
      · obtain rfl : i = n - 1 := by omega
        go_wp2_with (go_at_call 63; apply hold)
        refine bodyPost_ret (v := u.agg) (results_cell_row rfl _ _ R 77 _ (0, 0) _ rfl (((hAr.set_ 0 (.int .i64 u.at_)).set_ 1 (.int .i64 u.ep)).set_ 2 (.slice u.A u.n u.c)) Tryz.underlying77 rfl (by kernel_rfl)) rfl ⟨u, rfl, hum, fun y hy => ?_, ?_⟩
        · obtain ⟨j, hj⟩ := List.getElem?_of_mem hy
          have : j < vs.length := (List.getElem?_eq_some_iff.1 hj).1
          exact hmax j y (by omega) hj
        · exact (Kp.setCell (Kp.setCell (Kp.setCell (Kp.below (S := Nobody) hbr) (fun h => by simp at h; omega) _) (fun h => by simp at h; omega) _) (fun h => by simp at h; omega) _).nob
end Go.Proofs.YtonkblhhknafbaaGreat
