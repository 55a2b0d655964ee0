/- The walks of the functions that Write and Open hand to ask. Whatever the heap holds beside. -/
import Derived.Test.YtonkblhhknafbaaGreatF15
import Derived.StillTailTactics
namespace Go.Proofs.YtonkblhhknafbaaGreat
open Go.RowKit Go.Shelf

theorem RowM.cut {w : World} {F F' : Nat → Prop} {A : Option Addr} {m : Nat} {cs : List KC} (h : RowM w F A m cs) (hF : ∀ k, F k → k < w.heap.size → F' k) : RowM w F' A m cs := by
  obtain ⟨vs, h1, h2, h3, h4⟩ := h
  exact ⟨vs, h1, h2, fun g e => ⟨hF g (h3 g e).1 (h3 g e).2, (h3 g e).2⟩, h4.imp (fun v q _ _ ⟨a1, a2, a3, a4, a5, a6⟩ => ⟨a1, a2, a3, a4, a5, fun g e => ⟨hF g (a6 g e).1 (a6 g e).2, (a6 g e).2⟩⟩)⟩
theorem NodeAt.drew {w : World} {F : Nat → Prop} {nd d room : Nat} {ps : List Cmd} (h : NodeAt w F nd d room ps) : NodeAt w.drew F nd d room ps := h.keep (Nat.le_refl _) (fun _ _ => rfl)

set_option maxRecDepth 100000 in
set_option maxHeartbeats 2000000 in
theorem wcl_any (pl pa pb lg : Nat) (c0 c1 c2 c4 : Value) (nd d room : Nat) (F : Nat → Prop) (ps : List Cmd) (e a : Nat) (x : List UInt8) (he : e ≤ 1048576) (ha : a < 4096) (hx : x.length ≤ 2048) (w : World) (hn : NodeAt w F nd d room ps) (B : Option Addr) (k cB : Nat) (hp : Sl w B k (u8s x))
    (hpl : Blk w pl 25 #[ptrV lg]) (hpa : Blk w pa 3 #[.int .i64 a]) (hpb : Blk w pb 32 #[.slice B k cB]) (hlg : Blk w lg 63 #[c0, c1, c2, .int .i64 e, c4]) :
    Calls Tryz.prog 65 #[ptrV nd, ptrV pl, ptrV pa, ptrV pb] w fun q w' => q = .returned (.int .i64 (wstep room ps e a x).1) ∧ ∃ F' : Nat → Prop, NodeAt w' F' nd d room (wstep room ps e a x).2 ∧ (∀ x, F' x → F x ∨ w.heap.size ≤ x) ∧ Kp F w w' := by
  obtain ⟨x0, y0⟩ := hpl.c1
  obtain ⟨x1, y1⟩ := hpa.c1
  obtain ⟨x2, y2⟩ := hpb.c1
  obtain ⟨z0, z1, z2, z3, z4, _⟩ := hlg.c5
  unfold ptrV at *
  go_enter Tryz.func65, Tryz.ntmps65
  go_wp2_with (go_at_call 66; apply hold)
  go_still_tail 7, (by kernel_rfl)
  change wpList _ _ _ _ _ w.drew
  go_wp2_with (go_at_call 66; apply hold)
  refine unhold ((write_any nd d room F ps e a x he ha hx w.drew hn.drew B k cB hp.drew).mono ?_)
  rintro q w1 ⟨rfl, F', h1, h2, h3⟩
  go_wp2_with fail
  go_ret
  exact ⟨rfl, F', h1, h2, (Kp.drew (Kp.refl F w)).trans h3 (fun _ _ h => h)⟩

set_option maxRecDepth 100000 in
set_option maxHeartbeats 2000000 in
/-- the closure of Open, at one node -/
theorem ocl_any (pl pr lg : Nat) (c0 c1 c2 c4 : Value) (nd d room : Nat) (F : Nat → Prop) (ps : List Cmd) (e : Nat) (he : e ≤ 1048576) (w : World) (hn : NodeAt w F nd d room ps) (base : Nat) (A : Option Addr) (n c : Nat) (xs : List Value)
    (hpl : Blk w pl 25 #[ptrV lg]) (hpr : Blk w pr 69 #[.slice A n c]) (ho : Own w base 71 1 A n c xs) (hlg : Blk w lg 63 #[c0, c1, c2, .int .i64 e, c4]) (hF : ¬ F pl ∧ ¬ F pr ∧ ¬ F lg) (hFA : ∀ k, ablk A = some k → ¬ F k) (hnl : n ≤ 1000) (hbase : base ≤ w.heap.size) :
    Calls Tryz.prog 29 #[ptrV nd, ptrV pl, ptrV pr] w fun q w' => q = .returned (.int .i64 (sstep room ps e).1) ∧ ∃ F' : Nat → Prop, NodeAt w' F' nd d room (sstep room ps e).2 ∧ (∀ x, F' x → F x ∨ w.heap.size ≤ x) ∧ Kp (fun x => F x ∨ x = pr ∨ ablk A = some x) w w' ∧
      (((sstep room ps e).1 ≠ 0 ∧ Blk w' pr 69 #[.slice A n c] ∧ Own w' base 71 1 A n c xs) ∨
       ((sstep room ps e).1 = 0 ∧ ∃ A' c' A1 m1 c1 cs', Blk w' pr 69 #[.slice A' (n + 1) c'] ∧ Own w' base 71 1 A' (n + 1) c' (xs ++ [.slice A1 m1 c1]) ∧ (∀ x, ablk A' = some x → ablk A = some x ∨ w.heap.size ≤ x) ∧ (∀ x, ablk A' = some x → ¬ F' x) ∧ cs'.Perm (stOf (sstep room ps e).2).cs ∧ (cs'.map (·.1)).Pairwise (· < ·) ∧ RowM w' (fun k => w.heap.size ≤ k ∧ ¬ F' k ∧ ablk A' ≠ some k) A1 m1 cs')) := by
  obtain ⟨x0, y0⟩ := hpl.c1
  obtain ⟨x1, y1⟩ := hpr.c1
  obtain ⟨z0, z1, z2, z3, z4, _⟩ := hlg.c5
  unfold ptrV at *
  go_enter Tryz.func29, Tryz.ntmps29
  go_wp2_with (go_at_call 30; apply hold)
  refine unhold ((seal_any nd d room F ps e he w hn).mono ?_)
  rintro q w1 ⟨A1, m1, c1, rfl, ⟨F', k1, k2, k3⟩, k4⟩
  have hz1 := k4.size
  have hpr1 := k4.blk hpr hF.2.1
  have ho1 := ho.kp k4 (fun x e _ => hFA x e)
  obtain ⟨r, hr⟩ : ∃ r, r = (sstep room ps e).1 := ⟨_, rfl⟩
  rw [← hr] at k3 ⊢
  have Hr := hide hr
  clear hr
  by_cases h0 : r = 0
  · subst h0
    obtain ⟨cs', q1, q2, q3⟩ := k3 rfl
    obtain ⟨x1, y1⟩ := hpr1.c1
    go_wp2_with (at_builtin; apply hold)
    refine unhold (app_gen Tryz.underlying69 Tryz.info71 rfl (by omega) rfl (.tmp 18) (.tmp 20) rfl base A n c xs rfl (ho1.alloc _) _ 1 1 [.slice A1 m1 c1] rfl (Sl.lit w1 _ 71 1 _ rfl rfl) (by intro u hu; simp at hu; subst hu; rfl) (by omega) (by simp; omega) ?_)
    intro A2 c2 w3 ho3 hg3 hA2
    have hk3 : Kp (fun x => ablk A = some x) w1 w3 := ((Kp.refl _ w1).alloc _).grown hg3 (fun x e _ => e)
    have hz3 := hk3.size
    clear hg3
    have hprA : ablk A ≠ some pr := ho1.ne_blk hpr1 (by decide)
    have hpr3 := hk3.blk hpr1 hprA
    obtain ⟨x1, y1⟩ := hpr3.c1
    go_wp2_with fail
    go_ret
    have hAlt : ∀ k, ablk A = some k → k < w.heap.size := fun k e => (ho.lt e).2
    have hF'lt : ∀ k, F' k → k < w1.heap.size := fun k h => k1.lt h
    have hF'A : ∀ k, F' k → ablk A ≠ some k := fun k h e => by
      rcases k2 k h with h1 | h1
      · exact hFA k e h1
      · have := hAlt k e; omega
    have hF'pr : ¬ F' pr := fun h => by
      rcases k2 pr h with h1 | h1
      · exact hF.2.1 h1
      · have := hpr.lt; omega
    have hA2' : ∀ x, ablk A2 = some x → ablk A = some x ∨ w1.heap.size < x := fun x e => by
      rcases hA2 with h | h
      · exact .inl (by rw [← h]; exact e)
      · rw [e] at h
        simp at h
        exact .inr (by omega)
    have hn3 : NodeAt (w3.setCell ⟨pr, 0, none⟩ (.slice A2 (n + 1) c2)) F' nd d room (sstep room ps e).2 := (k1.keep hz3 (fun k h => hk3.block k (hF'lt k h) (fun e => hF'A k h e))).keep (by simp [World.setCell]) (fun k h => Below.heap_setCell _ _ _ _ (fun e => hF'pr (by rw [show k = pr from e] at h; exact h)))
    have hprlt := hpr.lt
    rw [← Hr.out]
    refine ⟨rfl, F', hn3, k2, ?_, .inr ⟨rfl, A2, c2, A1, m1, c1, cs', hpr3.set_ 0 _, ho3.setCell (ho3.ne_blk hpr3 (by decide)) _, fun x e => ?_, fun x e hF => ?_, q1, q2, ?_⟩⟩
    · refine ((k4.mono (S' := fun x => F x ∨ x = pr ∨ ablk A = some x) (fun x _ h => .inl h)).trans hk3 (fun x _ h => .inr (.inr h))).setCell (fun _ => .inr (.inl rfl)) _
    · rcases hA2' x e with h | h
      · exact .inl h
      · exact .inr (by omega)
    · rcases hA2' x e with h | h
      · exact hF'A x hF h
      · have := hF'lt x hF; omega
    · have q3' := q3.cut (F' := fun k => w.heap.size ≤ k ∧ ¬ F' k ∧ ablk A2 ≠ some k) (fun k ⟨a1, a2⟩ hlt => ⟨a1, a2, fun e => by
        rcases hA2' k e with h | h
        · have := hAlt k h; omega
        · omega⟩)
      refine q3'.keep (by simp [World.setCell]; exact hz3) (fun k ⟨a1, a2, a3⟩ hlt => ?_) (fun _ h => h)
      rw [Below.heap_setCell _ _ _ _ (fun e => by simp at e; omega)]
      exact hk3.block k hlt (fun e => by have := hAlt k e; omega)
  · have hrb : decide (r = 0) = false := by simp [h0]
    go_wp2_with (at_builtin; apply hold)
    go_ret
    rw [← Hr.out]
    exact ⟨rfl, F', k1, k2, k4.mono (fun x _ h => .inl h), .inl ⟨h0, hpr1, ho1⟩⟩
end Go.Proofs.YtonkblhhknafbaaGreat
