/- The walk of Log.Open, in the words of the log's state; the disks' functions. Whatever the heap holds beside. -/
import Derived.Test.YtonkblhhknafbaaGreatF21
namespace Go.Proofs.YtonkblhhknafbaaGreat
open Go.RowKit Go.Shelf

theorem lopenS_any (lg : Nat) (F : Nat → Prop) (room n : Nat) (s : LS) (w : World) (h : LogS w lg F room n s) (R : Option Addr) (m cR : Nat) (bs : List Bool) (hR : Sl w R m (bs.map Value.bool)) (hRF : ∀ y, sblk R m = some y → y < w.heap.size ∧ ¬ F y) (hE : s.E + 1 ≤ 1048576) :
    Calls Tryz.prog 11 #[ptrV lg, .slice R m cR] w fun q w' => ∃ (r : Int) (N' : List (List Cmd)) (rw' : Option (List (List UInt8))) (F' : Nat → Prop), q = .returned (.int .i64 r) ∧ OpenR room n bs s.N (s.E + 1) r N' rw' ∧ LogS w' lg F' room n ⟨N', rw'.isSome, s.E + 1, rw'.getD s.row⟩ ∧ (∀ y, F' y → F y ∨ w.heap.size ≤ y) ∧ Kp F w w' := by
  obtain ⟨N, op, E, row⟩ := s
  unfold LogS at h ⊢
  simp only [] at h hE ⊢
  obtain ⟨Ad, cd, An, cn, Ar, mr, cr, nds, ds, Fn, h1, h2, h3, h4, h5, h6, ⟨f1, f2, f3, f4, f5⟩, ⟨a1, a2, a3, a4⟩, h9, h10, h11⟩ := h
  have hA3 : ∀ b, ablk An = some b → b < w.heap.size ∧ b ≠ lg ∧ ∀ i, ¬ Fn i b := fun b e => ⟨h9 b (f3 b e), fun e2 => by subst e2; exact h3.ne_blk h1 (by decide) e, a3 b e⟩
  refine (lopen_any lg n cn An (.slice Ad n cd) (.slice Ar mr cr) op nds ds R m cR bs room N Fn E hE w h1 h3.sl hR h5 a1 hA3 (fun b e => ⟨(hRF b e).1, fun e2 => (hRF b e).2 (e2 ▸ f1), fun i hi => (hRF b e).2 (f5 i b hi)⟩) h10 h11 h4).mono ?_
  rintro q w1 ⟨r, N', rw', Fn', rfl, hop, hN1, hF1, hk1, hrest⟩
  have hz := hk1.size
  have hlt := h1.lt
  have hkF : Kp F w w1 := hk1.mono (fun y _ hh => by rcases hh with ⟨i, hi⟩ | e; exact f5 i y hi; exact e ▸ f1)
  have hNl : N'.length = n := by rw [← hN1.ln, h5.ln, h4]
  have nn : ∀ y, F y → (∀ i, ¬ Fn i y) → ∀ i, ¬ Fn' i y := fun y hy h i hi => by
    rcases hF1 i y hi with h1 | h1
    · exact h i h1
    · have := h9 y hy; omega
  have hd1 : Own w1 0 64 1 Ad n cd (ds.map ptrV) := h2.kp hk1 (fun y e _ hh => by
    rcases hh with ⟨i, hi⟩ | e2
    · exact a2 y e i hi
    · subst e2; exact h2.ne_blk h1 (by decide) e)
  have hm1 : Own w1 0 67 1 An n cn (nds.map ptrV) := h3.kp hk1 (fun y e _ hh => by
    rcases hh with ⟨i, hi⟩ | e2
    · exact a3 y e i hi
    · subst e2; exact h3.ne_blk h1 (by decide) e)
  refine ⟨r, N', rw', fun y => F y ∨ (w.heap.size ≤ y ∧ y < w1.heap.size), rfl, hop, ?_, fun y hy => ?_, hkF⟩
  · have hFF : ∀ i y, Fn' i y → F y ∨ (w.heap.size ≤ y ∧ y < w1.heap.size) := fun i y hh => by
      rcases hF1 i y hh with h1 | h1
      · exact .inl (f5 i y h1)
      · exact .inr ⟨h1, hN1.lt hh⟩
    have hFlt : ∀ y, (F y ∨ (w.heap.size ≤ y ∧ y < w1.heap.size)) → y < w1.heap.size := fun y hy => by
      rcases hy with hy | hy
      · have := h9 y hy; omega
      · exact hy.2
    cases rw' with
    | none =>
      have hrow := h6
      obtain ⟨xs, ho, _⟩ := h6
      refine ⟨Ad, cd, An, cn, Ar, mr, cr, nds, ds, Fn', hrest, hd1, hm1, hNl, hN1, ?_, ⟨.inl f1, fun y e => .inl (f2 y e), fun y e => .inl (f3 y e), fun y e => .inl (f4 y e), hFF⟩, ⟨nn lg f1 a1, fun y e => nn y (f2 y e) (a2 y e), fun y e => nn y (f3 y e) (a3 y e), fun y e => nn y (f4 y e) (a4 y e)⟩, hFlt, h10, h11⟩
      exact hrow.go hz (fun y e _ hlt2 => hk1.block y hlt2 (fun hh => by
        rcases hh with ⟨i, hi⟩ | e2
        · exact a4 y e i hi
        · subst e2; exact ho.ne_blk h1 (by decide) e)) (fun y hy hlt2 => hk1.block y hlt2 (fun hh => by
        rcases hh with ⟨i, hi⟩ | e2
        · exact hy.2.1 i hi
        · exact hy.2.2.1 e2)) (fun y hy _ => ⟨.inl hy.1, nn y hy.1 hy.2.1, hy.2.2⟩)
    | some rw_ =>
      obtain ⟨A4, m4, c4, g1, g2, g3⟩ := hrest
      have hA4 : ∀ y, ablk A4 = some y → w.heap.size ≤ y ∧ y < w1.heap.size := fun y e => g2.lt e
      refine ⟨Ad, cd, An, cn, A4, m4, c4, nds, ds, Fn', g1, hd1, hm1, hNl, hN1, ?_, ⟨.inl f1, fun y e => .inl (f2 y e), fun y e => .inl (f3 y e), fun y e => .inr (hA4 y e), hFF⟩, ⟨nn lg f1 a1, fun y e => nn y (f2 y e) (a2 y e), fun y e => nn y (f3 y e) (a3 y e), g3⟩, hFlt, h10, h11⟩
      have g2' := g2.go (F' := fun y => (F y ∨ (w.heap.size ≤ y ∧ y < w1.heap.size)) ∧ (∀ i, ¬ Fn' i y) ∧ y ≠ lg ∧ ablk Ad ≠ some y ∧ ablk An ≠ some y ∧ ablk A4 ≠ some y) (Nat.le_refl _) (fun _ _ _ _ => rfl) (fun _ _ _ => rfl) (fun y hy hlt2 => ⟨.inr ⟨hy.1, hlt2⟩, hy.2.1, by have := hy.1; omega, fun e => by have := h9 y (f2 y e); have := hy.1; omega, fun e => by have := h9 y (f3 y e); have := hy.1; omega, hy.2.2⟩)
      obtain ⟨xs9, o9, all9⟩ := g2'
      exact ⟨xs9, o9.mono (Nat.zero_le _), all9⟩
  · rcases hy with hy | hy
    · exact .inl hy
    · exact .inr hy.1

/-- a disk whole and safe, and its blocks -/
def DiskOf (w : World) (F : Nat → Prop) (d room : Nat) (ps : List Cmd) : Prop :=
  ∃ A c, DiskAt w d room A (bytesOf ps) c (bytesOf ps) ∧ Dat w A (bytesOf ps) c (catF (encs ps)) ∧ F d ∧ (∀ k, ablk A = some k → F k) ∧ (∀ k, F k → k < w.heap.size) ∧ (∀ p ∈ ps, p.Ok) ∧ room ≤ 1048576 ∧ bytesOf ps ≤ room
theorem NodeAt.disk {w : World} {F : Nat → Prop} {nd d room : Nat} {ps : List Cmd} (h : NodeAt w F nd d room ps) : DiskOf w F d room ps := by
  obtain ⟨sg, mb, A, c, torn, xs, A1, c1, G, h1, h2, h3, h4, h5, h6, h7, ⟨f1, f2, f3, f4, f5, f6⟩, h9, h10, h11, h12⟩ := h
  exact ⟨A1, c1, h4, h5, f4, f6, h9, h10, h11, h12⟩

set_option maxRecDepth 100000 in
set_option maxHeartbeats 1000000 in
theorem ccl_any (p6 p7 : Nat) (keep turn : Int) (F : Nat → Prop) (d room : Nat) (ps : List Cmd) (w : World) (h : DiskOf w F d room ps) (h6 : Blk w p6 3 #[.int .i64 keep]) (h7 : Blk w p7 3 #[.int .i64 turn]) :
    Calls Tryz.prog 36 #[ptrV d, ptrV p6, ptrV p7] w fun e w' => e = .returned (.tuple #[]) ∧ DiskOf w' F d room ps ∧ Kp F w w' := by
  obtain ⟨A, c, q1, q2, q3, q4, q5, q6, q7, q8⟩ := h
  obtain ⟨x0, y0⟩ := h6.c1
  obtain ⟨x1, y1⟩ := h7.c1
  unfold ptrV
  go_enter Tryz.func36, Tryz.ntmps36
  go_wp2_with (go_at_call 37; apply hold)
  refine unhold ((dcrash_any d room A (bytesOf ps) c _ keep turn w q1 q2 (by omega)).mono ?_)
  rintro e w1 ⟨rfl, k1, k2, k3⟩
  have hz := k3.size
  go_wp2_with fail
  go_end0
  exact ⟨rfl, ⟨A, bytesOf ps, k1, k2, q3, q4, fun k hk => by have := q5 k hk; omega, q6, q7, q8⟩, k3.mono (fun y _ e => e ▸ q3)⟩

set_option maxRecDepth 100000 in
set_option maxHeartbeats 1000000 in
theorem lcl_any (F : Nat → Prop) (d room : Nat) (ps : List Cmd) (w : World) (h : DiskOf w F d room ps) :
    Calls Tryz.prog 34 #[ptrV d] w fun e w' => e = .returned (.tuple #[]) ∧ DiskOf w' F d room [] ∧ Kp F w w' := by
  obtain ⟨A, c, q1, q2, q3, q4, q5, q6, q7, q8⟩ := h
  unfold ptrV
  go_enter Tryz.func34, Tryz.ntmps34
  go_wp2_with (go_at_call 35; apply hold)
  refine unhold ((dlose_any d room (bytesOf ps) A (bytesOf ps) c _ w q1 q2 (by omega) (by omega)).mono ?_)
  rintro e w1 ⟨rfl, k1, k2, k3⟩
  have hz := k3.size
  go_wp2_with fail
  go_end0
  exact ⟨rfl, ⟨A, 0, k1, k2, q3, q4, fun k hk => by have := q5 k hk; omega, (fun p hp => by cases hp), q7, by show 0 ≤ room; omega⟩, k3.mono (fun y _ e => by rcases e with e | e; exact e ▸ q3; exact q4 y e)⟩
end Go.Proofs.YtonkblhhknafbaaGreat
