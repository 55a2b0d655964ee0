/- The walk of Log.Append. Whatever the heap holds beside. -/
import Derived.Test.YtonkblhhknafbaaGreatF20
namespace Go.Proofs.YtonkblhhknafbaaGreat
open Go.RowKit Go.Shelf

theorem RowL.snoc2 {w w' : World} {F : Nat → Prop} {base : Nat} {A A' A1 : Option Addr} {m c' c1 : Nat} {xs : List Value} {rw : List (List UInt8)} {b : List UInt8}
    (hx : All2 (fun v b => ∃ A1 c1, v = .slice A1 b.length c1 ∧ Sl w A1 b.length (u8s b) ∧ ∀ g, ablk A1 = some g → F g ∧ g < w.heap.size) xs rw) (hFA : ∀ y, F y → ablk A ≠ some y) (hb : Sl w A1 b.length (u8s b)) (hbF : ∀ g, ablk A1 = some g → F g ∧ g < w.heap.size)
    (ho' : Own w' base 32 1 A' (m + 1) c' (xs ++ [.slice A1 b.length c1])) (hk : Kp (fun k => ablk A = some k) w w') : RowL w' F base A' (m + 1) c' (rw ++ [b]) := by
  have keep : ∀ k, F k → k < w.heap.size → w'.heap[k]? = w.heap[k]? := fun k h hlt => hk.block k hlt (fun e => hFA k h e)
  refine ⟨_, ho', All2.app (hx.imp (fun v b _ _ ⟨A1, c1, e, h3, h4⟩ => ⟨A1, c1, e, h3.keep hk.size (fun k e hlt => keep k (h4 k e).1 hlt), fun g e => ⟨(h4 g e).1, Nat.lt_of_lt_of_le (h4 g e).2 hk.size⟩⟩)) (.cons ⟨A1, c1, rfl, hb.keep hk.size (fun k e hlt => keep k (hbF k e).1 hlt), fun g e => ⟨(hbF g e).1, Nat.lt_of_lt_of_le (hbF g e).2 hk.size⟩⟩ .nil)⟩
/-- the log, once its nodes have gone on -/
theorem LogAt.nodes {w w1 : World} {lg : Nat} {F : Nat → Prop} {room n : Nat} {N N' : List (List Cmd)} {op : Bool} {E : Nat} {row : List (List UInt8)} {Ad : Option Addr} {cd : Nat} {An : Option Addr} {cn : Nat} {Ar : Option Addr} {mr cr : Nat} {nds ds : List Nat} {Fn Fn' : Nat → Nat → Prop}
    (h1 : Blk w lg 63 #[.slice Ad n cd, .slice An n cn, .bool op, .int .i64 (E : Int), .slice Ar mr cr]) (h2 : Own w 0 64 1 Ad n cd (ds.map ptrV)) (h3 : Own w 0 67 1 An n cn (nds.map ptrV)) (_h4 : N.length = n)
    (h6 : RowL w (fun y => F y ∧ (∀ i, ¬ Fn i y) ∧ y ≠ lg ∧ ablk Ad ≠ some y ∧ ablk An ≠ some y ∧ ablk Ar ≠ some y) 0 Ar mr cr row)
    (hf : F lg ∧ (∀ y, ablk Ad = some y → F y) ∧ (∀ y, ablk An = some y → F y) ∧ (∀ y, ablk Ar = some y → F y) ∧ (∀ i y, Fn i y → F y))
    (ha : (∀ i, ¬ Fn i lg) ∧ (∀ y, ablk Ad = some y → ∀ i, ¬ Fn i y) ∧ (∀ y, ablk An = some y → ∀ i, ¬ Fn i y) ∧ (∀ y, ablk Ar = some y → ∀ i, ¬ Fn i y))
    (h9 : ∀ y, F y → y < w.heap.size) (_h10 : 1 ≤ n) (_h11 : n ≤ 100) (hN' : Nodes w1 Fn' room nds ds N') (_hl' : N'.length = n) (hF' : ∀ i y, Fn' i y → Fn i y ∨ w.heap.size ≤ y) (hk : Kp (fun y => ∃ i, Fn i y) w w1) :
    Blk w1 lg 63 #[.slice Ad n cd, .slice An n cn, .bool op, .int .i64 (E : Int), .slice Ar mr cr] ∧ Own w1 0 64 1 Ad n cd (ds.map ptrV) ∧ Own w1 0 67 1 An n cn (nds.map ptrV) ∧
    RowL w1 (fun y => (F y ∨ (w.heap.size ≤ y ∧ y < w1.heap.size)) ∧ (∀ i, ¬ Fn' i y) ∧ y ≠ lg ∧ ablk Ad ≠ some y ∧ ablk An ≠ some y ∧ ablk Ar ≠ some y) 0 Ar mr cr row ∧
    ((∀ i, ¬ Fn' i lg) ∧ (∀ y, ablk Ad = some y → ∀ i, ¬ Fn' i y) ∧ (∀ y, ablk An = some y → ∀ i, ¬ Fn' i y) ∧ (∀ y, ablk Ar = some y → ∀ i, ¬ Fn' i y)) ∧ (∀ i y, Fn' i y → F y ∨ (w.heap.size ≤ y ∧ y < w1.heap.size)) := by
  obtain ⟨f1, f2, f3, f4, f5⟩ := hf
  obtain ⟨a1, a2, a3, a4⟩ := ha
  have nn : ∀ y, F y → (∀ i, ¬ Fn i y) → ∀ i, ¬ Fn' i y := fun y hy h i hi => by
    rcases hF' i y hi with h1 | h1
    · exact h i h1
    · have := h9 y hy; omega
  refine ⟨hk.blk h1 (fun ⟨i, h⟩ => a1 i h), h2.kp hk (fun y e _ ⟨i, h⟩ => a2 y e i h), h3.kp hk (fun y e _ ⟨i, h⟩ => a3 y e i h), ?_, ⟨nn lg f1 a1, fun y e => nn y (f2 y e) (a2 y e), fun y e => nn y (f3 y e) (a3 y e), fun y e => nn y (f4 y e) (a4 y e)⟩, fun i y h => ?_⟩
  · exact h6.go hk.size (fun y e _ hlt => hk.block y hlt (fun ⟨i, h⟩ => a4 y e i h)) (fun y h hlt => hk.block y hlt (fun ⟨i, hi⟩ => h.2.1 i hi)) (fun y h _ => ⟨.inl h.1, nn y h.1 h.2.1, h.2.2⟩)
  · rcases hF' i y h with h1 | h1
    · exact .inl (f5 i y h1)
    · exact .inr ⟨h1, hN'.lt h⟩

structure LS where
  N : List (List Cmd)
  op : Bool
  E : Nat
  row : List (List UInt8)
def LogS (w : World) (lg : Nat) (F : Nat → Prop) (room n : Nat) (s : LS) : Prop := LogAt w lg F room n s.N s.op s.E s.row
/-- what Append comes to -/
def appF (room n : Nat) (bs : List Bool) (s : LS) (b : List UInt8) : Int × Int × LS :=
  if s.op = false then (0, 8, s) else
  if b.length = 0 ∨ 2048 < b.length then (0, 2, s) else
  if 4096 ≤ s.row.length then (0, 3, s) else
  if n / 2 + 1 ≤ askK bs (fun ps => wstep room ps s.E s.row.length b) s.N n then ((s.row.length : Int), 0, { s with N := askN bs (fun ps => wstep room ps s.E s.row.length b) s.N n, row := s.row ++ [b] })
  else (0, 8, { s with N := askN bs (fun ps => wstep room ps s.E s.row.length b) s.N n, op := false })

set_option maxRecDepth 100000 in
set_option maxHeartbeats 4000000 in
theorem lappend_any (lg : Nat) (F : Nat → Prop) (room n : Nat) (s : LS) (w : World) (h : LogS w lg F room n s) (B : Option Addr) (k cB : Nat) (b : List UInt8) (R : Option Addr) (m cR : Nat) (bs : List Bool) (hB : Sl w B k (u8s b)) (hR : Sl w R m (bs.map Value.bool))
    (hBF : ∀ y, sblk B k = some y → y < w.heap.size ∧ ¬ F y) (hRF : ∀ y, sblk R m = some y → y < w.heap.size ∧ ¬ F y) (hE : s.E ≤ 1048576) (hrl : s.row.length ≤ 100000) :
    Calls Tryz.prog 12 #[ptrV lg, .slice B k cB, .slice R m cR] w fun q w' => q = .returned (.tuple #[.int .i64 (appF room n bs s b).1, .int .i64 (appF room n bs s b).2.1]) ∧
      ∃ F' : Nat → Prop, LogS w' lg F' room n (appF room n bs s b).2.2 ∧ (∀ y, F' y → F y ∨ w.heap.size ≤ y) ∧ Kp F w w' := by
  have h0 := h
  obtain ⟨N, op, E, row⟩ := s
  unfold LogS at h
  simp only [] at h hE hrl
  obtain ⟨Ad, cd, An, cn, Ar, mr, cr, nds, ds, Fn, h1, h2, h3, h4, h5, h6, ⟨f1, f2, f3, f4, f5⟩, ⟨a1, a2, a3, a4⟩, h9, h10, h11⟩ := h
  have hmr := h6.len
  subst hmr
  have hbk : b.length = k := by have := hB.1; rwa [u8s_len] at this
  have hlt := h1.lt
  obtain ⟨x0, x1, x2, x3, x4, y0, y1, y2, y3, y4⟩ := Blk.c5 h1
  have hnot : ∀ (x : Bool) (w : World), (Op.unary .not (.bool x)).run Tryz.prog w = .ok (.bool (!x)) w := fun _ _ => rfl
  obtain ⟨rl, hrle⟩ : ∃ rl, rl = row.length := ⟨_, rfl⟩
  have Hrl := hide hrle
  rw [← hrle] at x4 hrl h1
  have hrow := h6
  rw [← hrle] at hrow
  clear h6
  unfold ptrV
  go_enter Tryz.func12, Tryz.ntmps12
  cases op with
  | false =>
    clear hrle
    go_wp2_with fail
    go_ret2
    have e : appF room n bs ⟨N, false, E, row⟩ b = (0, 8, ⟨N, false, E, row⟩) := by unfold appF; rw [if_pos rfl]
    rw [e]
    exact ⟨rfl, F, h0, fun y h => .inl h, Kp.refl _ _⟩
  | true =>
    have e0 : ¬ (true = false) := by simp
    by_cases hbz : b.length = 0 ∨ 2048 < b.length
    · have e : appF room n bs ⟨N, true, E, row⟩ b = (0, 2, ⟨N, true, E, row⟩) := by unfold appF; rw [if_neg e0, if_pos hbz]
      have He := hide e
      clear e hrle
      by_cases hk0 : k = 0
      · subst hk0
        go_wp2_with fail
        go_ret2
        rw [He.out]
        exact ⟨rfl, F, h0, fun y h => .inl h, Kp.refl _ _⟩
      · have g1 : decide ((k : Int) = 0) = false := by simp; omega
        have g2 : decide ((2048 : Int) < (k : Int)) = true := by simp; omega
        go_wp2_with fail
        go_ret2
        rw [He.out]
        exact ⟨rfl, F, h0, fun y h => .inl h, Kp.refl _ _⟩
    · have g1 : decide ((k : Int) = 0) = false := by simp; omega
      have g2 : decide ((2048 : Int) < (k : Int)) = false := by simp; omega
      by_cases hr : 4096 ≤ row.length
      · have e : appF room n bs ⟨N, true, E, row⟩ b = (0, 3, ⟨N, true, E, row⟩) := by unfold appF; rw [if_neg e0, if_neg hbz, if_pos hr]
        have He := hide e
        have g3 : decide ((4096 : Int) ≤ (rl : Int)) = true := by simp; omega
        clear e hrle
        go_wp2_with fail
        go_ret2
        rw [He.out]
        exact ⟨rfl, F, h0, fun y h => .inl h, Kp.refl _ _⟩
      · have g3 : decide ((4096 : Int) ≤ (rl : Int)) = false := by simp; omega
        have hrl4 : rl < 4096 := by omega
        clear hrle
        go_wp2_with (go_at_call 32; apply hold)
        have hlw := lwrite_any lg n cn An (.slice Ad n cd) (.bool true) (.slice Ar rl cr) nds ds R m cR bs room N Fn E rl b hE hrl4 (by omega) B k cB w h1 h3.sl hR hB h5 a1 a3 (fun y e i h => (hRF y e).2 (f5 i y h)) (fun y e i h => (hBF y e).2 (f5 i y h)) ⟨fun y e => (hRF y e).1, fun y e => (hBF y e).1, fun y e => h9 y (f3 y e)⟩ h10 h11
        refine unhold (hlw.mono ?_)
        rintro q w1 ⟨rfl, Fn', hN1, hF1, hk1⟩
        have hz1 := hk1.size
        have hNl1 : (askN bs (fun ps => wstep room ps E rl b) N n).length = n := by rw [askN_len, h4]
        obtain ⟨k1, k2, k3, k4, ⟨b1, b2, b3, b4⟩, k6⟩ := LogAt.nodes h1 h2 h3 h4 hrow ⟨f1, f2, f3, f4, f5⟩ ⟨a1, a2, a3, a4⟩ h9 h10 h11 hN1 hNl1 hF1 hk1
        obtain ⟨x0, x1, x2, x3, x4, y0, y1, y2, y3, y4⟩ := Blk.c5 k1
        have hlt1 := k1.lt
        have hkF : Kp F w w1 := hk1.mono (fun y _ ⟨i, h⟩ => f5 i y h)
        obtain ⟨kk, hkk⟩ : ∃ kk, kk = askK bs (fun ps => wstep room ps E rl b) N n := ⟨_, rfl⟩
        rw [← hkk]
        have Hkk := hide hkk
        clear hkk
        by_cases hq : n / 2 + 1 ≤ kk
        · have hqb : decide (n / 2 + 1 ≤ kk) = true := by simp [hq]
          rw [hqb]
          go_wp2_with fail
          have hB1 : Sl w1 B k (u8s b) := hB.kps hk1 (fun y e _ ⟨i, h⟩ => (hBF y e).2 (f5 i y h))
          have k4' := k4
          obtain ⟨xs, hox, hall⟩ := k4'
          have hArg : ablk Ar ≠ some lg := hox.ne_blk k1 (by decide)
          go_region_law
            (first
              | (refine step_app_u8 rfl (.tmp 54) (.tmp 55) rfl w1.heap.size _ _ _ [] (by simp [Act.eval]) (OwnB.lit w1.drew _ #[] 0 [] (Nat.le_refl _) rfl (by simp) rfl) B k cB b (by simp [Act.eval]) (hB1.drew.alloc _) (by omega) (by simp) ?_
                 intro A3 c3 w3 ho3 hg3 hA3
                 have hb3 : Below w1.heap.size w1 w3 := ((Below.refl _ _).drew.alloc (Nat.le_refl _) _).grown hg3 (by simp) (by intro k hk; cases hk; exact Nat.le_refl _)
                 have hgg3 := below_blk hb3 k1 hlt1
                 have hoA3 := hox.below hb3
                 have hz3 := hb3.size
                 obtain ⟨j0, j1, j2, j3, j4, l0, l1, l2, l3, l4⟩ := Blk.c5 hgg3
                 have hlt3 := hgg3.lt
                 clear hg3)
              | (refine step_app_row rfl (.tmp 53) (.tmp 57) rfl 0 Ar rl cr xs (by simp [Act.eval]) (hoA3.alloc _) _ (.slice A3 k c3) (by simp [Act.eval]) (Sl.lit w3 _ 32 1 _ rfl rfl) rfl (by omega) (by simp) ?_
                 intro A4 c4 w4 ho4 hg4 hA4
                 have hk4 : Kp (fun k => ablk Ar = some k) w3 w4 := (Kp.alloc (Kp.refl _ w3) _).grown hg4 (fun k e _ => e)
                 have hgg4 := hk4.blk hgg3 hArg
                 obtain ⟨i0, i1, i2, i3, i4, q0, q1, q2, q3, q4⟩ := Blk.c5 hgg4
                 clear hg4))
          all_goals
            go_wp2_with fail
            go_ret2
            have e : appF room n bs ⟨N, true, E, row⟩ b = ((rl : Int), 0, ⟨askN bs (fun ps => wstep room ps E rl b) N n, true, E, row ++ [b]⟩) := by
              unfold appF
              rw [if_neg e0, if_neg hbz, if_neg hr]
              simp only []
              rw [← Hrl.out, ← Hkk.out, if_pos hq]
            rw [e]
            have hz4 := hk4.size
            have hA4' : ∀ y, ablk A4 = some y → ablk Ar = some y ∨ w3.heap.size < y := fun y e => by
              rcases hA4 with h | h
              · exact .inl (by rw [← h]; exact e)
              · rw [e] at h
                simp at h
                exact .inr (by omega)
            rw [Nat.zero_add, List.nil_append] at ho3
            have hA4lt := fun y (e : ablk A4 = some y) => (ho4.lt e).2
            have hall3 : All2 (fun v b => ∃ A1 c1, v = .slice A1 b.length c1 ∧ Sl w3 A1 b.length (u8s b) ∧ ∀ g, ablk A1 = some g → ((F g ∨ (w.heap.size ≤ g ∧ g < w4.heap.size)) ∧ (∀ i, ¬ Fn' i g) ∧ g ≠ lg ∧ ablk Ad ≠ some g ∧ ablk An ≠ some g ∧ ablk Ar ≠ some g ∧ ablk A4 ≠ some g) ∧ g < w3.heap.size) xs row :=
              hall.imp (fun v b _ _ ⟨A1, c1, e1, e2, e3⟩ => ⟨A1, c1, e1, e2.below hb3, fun g hg => by
                obtain ⟨⟨u1, u2, u3, u4, u5, u6⟩, u7⟩ := e3 g hg
                refine ⟨⟨?_, u2, u3, u4, u5, u6, fun e4 => ?_⟩, by omega⟩
                · rcases u1 with u1 | u1
                  · exact .inl u1
                  · exact .inr ⟨u1.1, by omega⟩
                · rcases hA4' g e4 with h | h
                  · exact u6 h
                  · omega⟩)
            have hs4 := RowL.snoc2 (b := b) (A1 := A3) (c1 := c3) (base := 0) (A' := A4) (c' := c4) (m := rl) (A := Ar) hall3 (fun y h => h.2.2.2.2.2.1) (by rw [hbk]; exact ho3.sl) (fun g hg => by
              have u := ho3.lt hg
              refine ⟨⟨.inr ⟨by omega, by omega⟩, fun i h => by have := hN1.lt h; omega, by omega, fun e => by have := h9 g (f2 g e); omega, fun e => by have := h9 g (f3 g e); omega, fun e => by have := h9 g (f4 g e); omega, fun e => ?_⟩, u.2⟩
              rcases hA4' g e with h | h
              · have := h9 g (f4 g h); omega
              · omega) (by rw [hbk]; exact ho4) hk4
            have hkS : Kp (· = lg) w4 (w4.setCell ⟨lg, 4, none⟩ (.slice A4 (rl + 1) c4)) := (Kp.refl (· = lg) w4).setCell (fun _ => rfl) _
            have hn4 : Nodes w4 Fn' room nds ds (askN bs (fun ps => wstep room ps E rl b) N n) := (hN1.below hb3).keep hz4 (fun i y h => hk4.block y (by have := hN1.lt h; omega) (fun e => b4 y e i h))
            have hd4 : Own w4 0 64 1 Ad n cd (ds.map ptrV) := (k2.below hb3).kp hk4 (fun y e _ hS => (k2.below hb3).ne_own hoA3 (by decide) hS e)
            have hm4 : Own w4 0 67 1 An n cn (nds.map ptrV) := (k3.below hb3).kp hk4 (fun y e _ hS => (k3.below hb3).ne_own hoA3 (by decide) hS e)
            have hsz5 : (w4.setCell ⟨lg, 4, none⟩ (.slice A4 (rl + 1) c4)).heap.size = w4.heap.size := by simp [World.setCell]
            refine ⟨rfl, fun y => F y ∨ (w.heap.size ≤ y ∧ y < w4.heap.size), ⟨Ad, cd, An, cn, A4, rl + 1, c4, nds, ds, Fn', hgg4.set_ 4 _, hd4.setCell (hd4.ne_blk hgg4 (by decide)) _, hm4.setCell (hm4.ne_blk hgg4 (by decide)) _, hNl1, hn4.keep hkS.size (fun i y h => hkS.block y (hn4.lt h) (fun e => b1 i (by rw [← e]; exact h))), ?_, ⟨.inl f1, fun y e => .inl (f2 y e), fun y e => .inl (f3 y e), fun y e => ?_, fun i y h => ?_⟩, ⟨b1, b2, b3, fun y e i h => ?_⟩, fun y h => ?_, h10, h11⟩, fun y h => ?_, ?_⟩
            · exact hs4.go hkS.size (fun y e _ hlt => hkS.block y hlt (fun h => by subst h; exact ho4.ne_blk hgg4 (by decide) e)) (fun y h hlt => hkS.block y hlt (fun e => h.2.2.1 e)) (fun y h _ => ⟨h.1, h.2.1, h.2.2.1, h.2.2.2.1, h.2.2.2.2.1, h.2.2.2.2.2.2⟩)
            · rcases hA4' y e with h | h
              · exact .inl (f4 y h)
              · exact .inr ⟨by omega, hA4lt y e⟩
            · rcases k6 i y h with h1 | h1
              · exact .inl h1
              · exact .inr ⟨h1.1, by omega⟩
            · rcases hA4' y e with h1 | h1
              · exact b4 y h1 i h
              · have := hN1.lt h; omega
            · rw [hsz5]
              rcases h with h | h
              · have := h9 y h; omega
              · exact h.2
            · rcases h with h | h
              · exact .inl h
              · exact .inr h.1
            · exact ((hkF.trans (Kp.below (S := Nobody) hb3) (fun _ _ h => h.elim)).trans hk4 (fun y _ h => f4 y h)).trans hkS (fun y _ h => h ▸ f1)
        · have hqb : decide (n / 2 + 1 ≤ kk) = false := by simp [hq]
          rw [hqb]
          go_wp2_with fail
          go_ret2
          have e : appF room n bs ⟨N, true, E, row⟩ b = (0, 8, ⟨askN bs (fun ps => wstep room ps E rl b) N n, false, E, row⟩) := by
            unfold appF
            rw [if_neg e0, if_neg hbz, if_neg hr]
            simp only []
            rw [← Hrl.out, ← Hkk.out, if_neg hq]
          rw [e]
          have hkS : Kp (· = lg) w1 (w1.setCell ⟨lg, 2, none⟩ (.bool false)) := (Kp.refl (· = lg) w1).setCell (fun _ => rfl) _
          refine ⟨rfl, fun y => F y ∨ (w.heap.size ≤ y ∧ y < w1.heap.size), ⟨Ad, cd, An, cn, Ar, rl, cr, nds, ds, Fn', k1.set_ 2 _, k2.setCell (k2.ne_blk k1 (by decide)) _, k3.setCell (k3.ne_blk k1 (by decide)) _, hNl1, hN1.keep hkS.size (fun i y h => hkS.block y (hN1.lt h) (fun e => b1 i (by rw [← e]; exact h))), ?_, ⟨.inl f1, fun y e => .inl (f2 y e), fun y e => .inl (f3 y e), fun y e => .inl (f4 y e), k6⟩, ⟨b1, b2, b3, b4⟩, fun y h => ?_, h10, h11⟩, fun y h => ?_, hkF.setCell (fun _ => f1) _⟩
          · have k4' := k4
            obtain ⟨xs, ho, _⟩ := k4'
            exact k4.go hkS.size (fun y e _ hlt => hkS.block y hlt (fun h => by subst h; exact ho.ne_blk k1 (by decide) e)) (fun y h hlt => hkS.block y hlt (fun e => h.2.2.1 e)) (fun y h _ => h)
          · rcases h with h | h
            · have := h9 y h; simp [World.setCell]; omega
            · simp [World.setCell]; omega
          · rcases h with h | h
            · exact .inl h
            · exact .inr h.1
end Go.Proofs.YtonkblhhknafbaaGreat
