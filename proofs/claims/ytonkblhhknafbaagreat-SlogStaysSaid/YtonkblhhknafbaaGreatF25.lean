/- The walks of the law's row and Lists. Whatever the heap holds beside. -/
import Derived.Test.YtonkblhhknafbaaGreatF24
namespace Go.Proofs.YtonkblhhknafbaaGreat
open Go.RowKit Go.Shelf

/-- a row of rows of bytes that is read -/
def RowR (w : World) (F : Nat → Prop) (A : Option Addr) (m : Nat) (rw : List (List UInt8)) : Prop :=
  ∃ xs, Sl w A m xs ∧ (∀ g, ablk A = some g → F g ∧ g < w.heap.size) ∧ All2 (fun v b => ∃ A1 c1, v = .slice A1 b.length c1 ∧ Sl w A1 b.length (u8s b) ∧ ∀ g, ablk A1 = some g → F g ∧ g < w.heap.size) xs rw
theorem RowR.len {w : World} {F : Nat → Prop} {A : Option Addr} {m : Nat} {rw : List (List UInt8)} (h : RowR w F A m rw) : m = rw.length := by
  obtain ⟨xs, h1, _, h3⟩ := h
  rw [← h3.len, h1.1]
theorem RowR.go {w w' : World} {F F' : Nat → Prop} {A : Option Addr} {m : Nat} {rw : List (List UInt8)} (h : RowR w F A m rw) (hz : w.heap.size ≤ w'.heap.size) (hk : ∀ k, F k → k < w.heap.size → w'.heap[k]? = w.heap[k]?) (hF : ∀ k, F k → k < w.heap.size → F' k) : RowR w' F' A m rw := by
  obtain ⟨xs, h1, h2, h3⟩ := h
  exact ⟨xs, h1.keep hz (fun k e hlt => hk k (h2 k e).1 hlt), fun g e => ⟨hF g (h2 g e).1 (h2 g e).2, Nat.lt_of_lt_of_le (h2 g e).2 hz⟩, h3.imp (fun v b _ _ ⟨A1, c1, e, h3, h4⟩ => ⟨A1, c1, e, h3.keep hz (fun k e hlt => hk k (h4 k e).1 hlt), fun g e => ⟨hF g (h4 g e).1 (h4 g e).2, Nat.lt_of_lt_of_le (h4 g e).2 hz⟩⟩)⟩
theorem RowL.rowR {w : World} {F : Nat → Prop} {base : Nat} {A : Option Addr} {m c : Nat} {rw : List (List UInt8)} (h : RowL w F base A m c rw) : RowR w (fun y => F y ∨ ablk A = some y) A m rw := by
  obtain ⟨xs, h1, h2⟩ := h
  exact ⟨xs, h1.sl, fun g e => ⟨.inr e, (h1.lt e).2⟩, h2.imp (fun v b _ _ ⟨A1, c1, e, h3, h4⟩ => ⟨A1, c1, e, h3, fun g e => ⟨.inl (h4 g e).1, (h4 g e).2⟩⟩)⟩

set_option maxRecDepth 100000 in
set_option maxHeartbeats 2000000 in
theorem rowlaw_any (lg : Nat) (F : Nat → Prop) (room n : Nat) (s : LS) (w : World) (h : LogS w lg F room n s) (hrl : s.row.length ≤ 4999) (hbl : ∀ b ∈ s.row, b.length ≤ 2048) :
    Calls Tryz.prog 14 #[ptrV lg] w fun q w' => ∃ A m c, q = .returned (.slice A m c) ∧ RowL w' (fun y => w.heap.size ≤ y ∧ ablk A ≠ some y) w.heap.size A m c s.row ∧ Below w.heap.size w w' := by
  obtain ⟨N, op, E, row⟩ := s
  simp only [] at hrl hbl ⊢
  have Hbl := hide hbl
  clear hbl
  obtain ⟨rl, hrle⟩ : ∃ rl, row.length = rl := ⟨_, rfl⟩
  have Hrl := hide hrle
  rw [hrle] at hrl
  clear hrle
  have hlen : ∀ w', LogS w' lg F room n ⟨N, op, E, row⟩ → Calls Tryz.prog 25 #[.pointer (some ⟨lg, 0, none⟩)] w' fun e w'' => e = .returned (.int .i64 rl) ∧ w' = w'' := fun w' h' => by
    have := llen_any lg F room n N op E row w' h'
    rw [Hrl.out] at this
    exact this
  unfold ptrV
  go_enter Tryz.func14, Tryz.ntmps14
  go_wp2_with (first | (go_at_call 25; apply hold) | (go_at_call 24; apply hold) | (at_builtin; apply hold))
  go_loopw [3, 4] (fun v q wr => ∃ (i : Nat) (A : Option Addr) (m c : Nat), v = .slice A m c ∧ q = .int .i64 i ∧ i ≤ rl ∧ RowL wr (fun y => w.heap.size ≤ y ∧ ablk A ≠ some y) w.heap.size A m c (row.take i) ∧ Below w.heap.size w wr) (fun _ q _ => rl - (intOf q).toNat)
  case atStart => exact ⟨0, none, 0, 0, rfl, rfl, by omega, ⟨[], Own.nil _ _ _ _, .nil⟩, Below.refl _ _⟩
  case round =>
    obtain ⟨i, A, m, c, rfl, rfl, hi, hrw, hb⟩ := hrel
    have hL := LogAt.below h hb
    have hz := hb.size
    go_wp2_with (first | (go_at_call 25; apply hold) | (go_at_call 24; apply hold) | (at_builtin; apply hold))
    refine unhold ((hlen wr hL).mono ?_)
    rintro e w1 ⟨rfl, rfl⟩
    by_cases hlt : i < rl
    · have g1 : decide ((i : Int) < (rl : Int)) = true := by simp; omega
      have g2 : decide ((i : Int) < 5000) = true := by simp; omega
      go_wp2_with (first | (go_at_call 25; apply hold) | (go_at_call 24; apply hold) | (at_builtin; apply hold))
      have hir : i < row.length := by rw [Hrl.out]; exact hlt
      have hbi : row[i]? = some row[i] := List.getElem?_eq_getElem hir
      have htk : row.take (i + 1) = row.take i ++ [row[i]] := List.take_succ_eq_append_getElem hir
      obtain ⟨b, hbe⟩ : ∃ b, b = row[i] := ⟨_, rfl⟩
      rw [← hbe] at hbi htk
      clear hbe
      have hbl := Hbl.out b (List.mem_of_getElem? hbi)
      have hget := lget_any lg F room n N op E row wr hL i b hbi hbl (by rw [Hrl.out]; omega)
      have Htk := hide htk
      clear htk hbi hir
      refine unhold (hget.mono ?_)
      rintro e w1 ⟨A1, c1, rfl, ho1, hb1⟩
      have hz1 := hb1.size
      have hm := hrw.len
      have hml : m ≤ 5000 := by rw [hm, List.length_take]; omega
      have Hm := hide hm
      clear hm
      obtain ⟨xs, hox, hall⟩ := hrw
      have hox1 := hox.below hb1
      go_wp2_with (first | (go_at_call 25; apply hold) | (go_at_call 24; apply hold) | (at_builtin; apply hold))
      refine unhold (app_row rfl (.tmp 25) (.tmp 27) rfl w.heap.size A m c xs rfl (hox1.alloc _) A1 b.length c1 w1 rfl rfl (by omega) (by simp; omega) ?_)
      intro A2 c2 w2 ho2 hg2 hA2
      have hk2 : Kp (fun x => ablk A = some x) w1 w2 := ((Kp.refl _ w1).alloc _).grown hg2 (fun x e _ => e)
      clear hg2
      go_wp2_with fail
      go_roundw
      case rel =>
        have hA2' : ∀ y, ablk A2 = some y → ablk A = some y ∨ w1.heap.size < y := fun y e => by
          rcases hA2 with h | h
          · exact .inl (by rw [← h]; exact e)
          · rw [e] at h
            simp at h
            exact .inr (by omega)
        have hall1 : All2 (fun v b => ∃ A1 c1, v = .slice A1 b.length c1 ∧ Sl w1 A1 b.length (u8s b) ∧ ∀ g, ablk A1 = some g → (w.heap.size ≤ g ∧ ablk A ≠ some g ∧ ablk A2 ≠ some g) ∧ g < w1.heap.size) xs (row.take i) :=
          hall.imp (fun v b _ _ ⟨B1, d1, e1, e2, e3⟩ => ⟨B1, d1, e1, e2.below hb1, fun g hg => by
            obtain ⟨⟨u1, u2⟩, u3⟩ := e3 g hg
            refine ⟨⟨u1, u2, fun e4 => ?_⟩, by omega⟩
            rcases hA2' g e4 with h | h
            · exact u2 h
            · omega⟩)
        have hs2 := RowL.snoc2 (b := b) (A1 := A1) (c1 := c1) (base := w.heap.size) (A' := A2) (c' := c2) (m := m) (A := A) hall1 (fun y h => h.2.1) ho1.sl (fun g hg => by
          have u := ho1.lt hg
          refine ⟨⟨by omega, fun e => by have := (hox.lt e).2; omega, fun e => ?_⟩, u.2⟩
          rcases hA2' g e with h | h
          · have := (hox.lt h).2; omega
          · omega) ho2 hk2
        rw [← Htk.out] at hs2
        exact ⟨i + 1, A2, m + 1, c2, rfl, rfl, by omega, hs2.go (Nat.le_refl _) (fun _ _ _ _ => rfl) (fun _ _ _ => rfl) (fun y h _ => ⟨h.1, h.2.2⟩), below_kp (hb.trans (hb1.mono hz)) hk2 (fun y e => (hox.lt e).1) (by omega)⟩
      case measure => simp [intOf]; omega
    · obtain rfl : i = rl := by omega
      have g1 : decide ((i : Int) < (i : Int)) = false := by simp
      go_wp2_with (first | (go_at_call 25; apply hold) | (go_at_call 24; apply hold) | (at_builtin; apply hold))
      go_ret
      rw [List.take_of_length_le (by rw [Hrl.out]; exact Nat.le_refl _)] at hrw
      exact ⟨A, m, c, rfl, hrw, hb⟩

/-- bytes as a string -/
theorem conv_str {w : World} {A : Option Addr} {n c : Nat} {bs : List UInt8} (h : Sl w A n (u8s bs)) : (convert 32 9 (.slice A n c)).run Tryz.prog w = .ok (.string ⟨bs.toArray⟩) w := by
  have hl : bs.length = n := by have := h.1; rwa [u8s_len] at this
  rcases Nat.eq_zero_or_pos n with h0 | h0
  · subst h0
    have hb : bs = [] := List.eq_nil_of_length_eq_zero hl
    subst hb
    rw [run_convert_bytes_string w 32 9 5 A 0 c Tryz.underlying32 Tryz.underlying5 Tryz.underlying9]
    cases A <;> simp [Conv.bytesToString, loadCells]
    all_goals rfl
  · obtain ⟨b, off, rfl, hb, hc⟩ := h.2 h0
    subst hl
    refine run_convert_bytes_back w 32 9 5 ⟨b, off, none⟩ c bs Tryz.underlying32 Tryz.underlying5 Tryz.underlying9 (fun j hj => ?_)
    rw [Addr.add_lit]
    exact hc j _ (u8s_get bs j hj)

set_option maxRecDepth 100000 in
set_option maxHeartbeats 2000000 in
/-- tidemillref02.Lists -/
theorem lists_any (A : Option Addr) (n c : Nat) (xs : List (List UInt8)) (B : Option Addr) (m k : Nat) (ys : List (List UInt8)) (F G : Nat → Prop) (w : World) (hx : RowR w F A n xs) (hy : RowR w G B m ys) (hn : n ≤ 100000000) :
    Calls Tryz.prog 13 #[.slice A n c, .slice B m k] w fun e w' => e = .returned (.bool (decide (xs = ys))) ∧ ∃ q, w' = w.drewN q := by
  have hxl := hx.len
  have hyl := hy.len
  obtain ⟨vx, sx, _, ax⟩ := hx
  obtain ⟨vy, sy, _, ay⟩ := hy
  have Hxl := hide hxl
  have Hyl := hide hyl
  go_enter Tryz.func13, Tryz.ntmps13
  by_cases hnm : n = m
  · subst hnm
    clear hxl hyl
    go_wp2_with fail
    go_loopw [5] (fun v wr => ∃ i q, v = .int .i64 (i : Nat) ∧ i ≤ n ∧ (∀ j, j < i → xs[j]? = ys[j]?) ∧ wr = w.drewN q) (fun v _ => n - (intOf v).toNat)
    case atStart => exact ⟨0, 0, rfl, by omega, fun j hj => by omega, rfl⟩
    case round =>
      obtain ⟨i, q, rfl, hi, hsame, hwr⟩ := hrel
      by_cases hlt : i < n
      · obtain ⟨b, off, u, rfl, hb, hu, hcu⟩ := sx.at_ hlt
        obtain ⟨b', off', v, rfl, hb', hv, hcv⟩ := sy.at_ hlt
        obtain ⟨x, hxi, A1, c1, rfl, s1, _⟩ := ax.get hu
        obtain ⟨y, hyi, A2, c2, rfl, s2, _⟩ := ay.get hv
        have k1 : wr.cell? ⟨b, off + i, none⟩ = some (.slice A1 x.length c1) := by rw [hwr]; exact hcu
        have k2 : wr.cell? ⟨b', off' + i, none⟩ = some (.slice A2 y.length c2) := by rw [hwr]; exact hcv
        have v1 : ∀ p, (convert 32 9 (.slice A1 x.length c1)).run Tryz.prog (wr.drewN p) = .ok (.string ⟨x.toArray⟩) (wr.drewN p) := fun p => conv_str (w := wr.drewN p) (by rw [hwr]; exact s1)
        have v2 : ∀ p, (convert 32 9 (.slice A2 y.length c2)).run Tryz.prog (wr.drewN p) = .ok (.string ⟨y.toArray⟩) (wr.drewN p) := fun p => conv_str (w := wr.drewN p) (by rw [hwr]; exact s2)
        have Hwr := hide hwr
        have Hxi := hide hxi
        have Hyi := hide hyi
        clear hwr hxi hyi hu hv hcu hcv
        go_wp2_with fail
        go_quiet (fail)
        by_cases hxy : x = y
        · have hb : (!x == y) = false := by simp [hxy]
          rw [hb]
          have Hxy := hide hxy
          clear hxy
          go_wp2_with fail
          go_roundw
          case rel =>
            refine ⟨i + 1, q + nq, rfl, by omega, fun j hj => ?_, by rw [Hwr.out]; simp [World.drewN]; omega⟩
            rcases Nat.lt_or_eq_of_le (Nat.le_of_lt_succ hj) with h | rfl
            · exact hsame j h
            · rw [Hxi.out, Hyi.out, Hxy.out]
          case measure => simp [intOf]; omega
        · have hb : (!x == y) = true := by simp [hxy]
          rw [hb]
          go_wp2_with fail
          go_ret
          refine ⟨?_, q + nq, by rw [Hwr.out]; simp [World.drewN]; omega⟩
          have : xs ≠ ys := fun e => by
            subst e
            have h1 := Hxi.out
            rw [Hyi.out] at h1
            cases h1
            exact hxy rfl
          simp [this]
      · obtain rfl : i = n := by omega
        go_wp2_with fail
        go_ret
        refine ⟨?_, q, rfl⟩
        have : xs = ys := by
          apply List.ext_getElem?
          intro j
          by_cases hj : j < i
          · exact hsame j hj
          · have h1 := Hxl.out
            have h2 := Hyl.out
            rw [List.getElem?_eq_none (by omega), List.getElem?_eq_none (by omega)]
        simp [this]
  · have g : decide ((n : Int) = (m : Int)) = false := by simp; omega
    go_wp2_with fail
    go_ret
    refine ⟨?_, 0, rfl⟩
    have : xs ≠ ys := fun e => hnm (by rw [hxl, hyl, e])
    simp [this]
end Go.Proofs.YtonkblhhknafbaaGreat
