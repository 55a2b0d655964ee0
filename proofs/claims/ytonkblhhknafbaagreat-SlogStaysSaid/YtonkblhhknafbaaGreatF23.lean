/- The walks of Log.Crash and Log.Lose. Whatever the heap holds beside. -/
import Derived.Test.YtonkblhhknafbaaGreatF22
namespace Go.Proofs.YtonkblhhknafbaaGreat
open Go.RowKit Go.Shelf

theorem Own.set1 {w : World} {base : Nat} {e : TypeId} {g n c k : Nat} {xs : List Value} {v : Value} (h : Own w base e 1 (some ⟨g, 0, none⟩) n c xs) (hk : k < n) : Own (w.setCell ⟨g, k, none⟩ v) base e 1 (some ⟨g, 0, none⟩) n c (xs.set k v) := by
  obtain ⟨h1, h2⟩ := h
  refine ⟨by simpa using h1, ?_⟩
  rcases h2 with ⟨hv, h0⟩ | ⟨g', cap, cur, hv, hb, hh, h3, h4, h5, h6⟩
  · omega
  · injection hv with q1 q2 q3
    injection q1 with q1
    injection q1 with q1
    subst q1
    refine .inr ⟨g, cap, cur.setIfInBounds k v, by rw [q3], hb, ?_, h3, h4, by simpa using h5, ?_⟩
    · have := Blk.set_ (w := w) (g := g) (t := e) (cs := cur) hh k v
      exact this
    · rw [Array.toList_setIfInBounds, List.take_set, h6]
/-- one node is opened anew -/
theorem Nodes.step2 {w w' : World} {Fn : Nat → Nat → Prop} {room : Nat} {nds ds : List Nat} {N : List (List Cmd)} (h : Nodes w Fn room nds ds N) {i nd2 d : Nat} {ps' : List Cmd} {F' S : Nat → Prop} (hil : i < N.length) (hd : ds[i]? = some d) (hn : NodeAt w' F' nd2 d room ps') (hF : ∀ x, F' x → Fn i x ∨ w.heap.size ≤ x) (hk : Kp S w w') (hS : ∀ j x, j ≠ i → Fn j x → ¬ S x) :
    Nodes w' (fun j => if j = i then F' else Fn j) room (nds.set i nd2) ds (N.set i ps') := by
  refine ⟨by simpa using h.ln, by simpa using h.ld, fun j nd' d' ps h1 h2 h3 => ?_, fun j l k hjl hj hl => ?_, fun j k hj => ?_⟩
  · by_cases e : j = i
    · subst e
      rw [List.getElem?_set_self (by rw [h.ln]; exact hil)] at h1
      rw [hd] at h2
      cases h1
      cases h2
      rw [List.getElem?_set_self hil] at h3
      cases h3
      rw [if_pos rfl]
      exact hn
    · rw [if_neg e]
      rw [List.getElem?_set_ne (fun e2 => e e2.symm)] at h3
      rw [List.getElem?_set_ne (fun e2 => e e2.symm)] at h1
      exact (h.at_ j nd' d' ps h1 h2 h3).keep hk.size (fun k hF => hk.block k (h.lt hF) (hS j k e hF))
  · by_cases e : j = i
    · subst e
      rw [if_pos rfl] at hj
      rw [if_neg (fun e => hjl e.symm)] at hl
      rcases hF k hj with h1 | h1
      · exact h.apart j l k hjl h1 hl
      · have := h.lt hl; omega
    · rw [if_neg e] at hj
      by_cases e2 : l = i
      · subst e2
        rw [if_pos rfl] at hl
        rcases hF k hl with h1 | h1
        · exact h.apart j l k hjl hj h1
        · have := h.lt hj; omega
      · rw [if_neg e2] at hl
        exact h.apart j l k hjl hj hl
  · by_cases e : j = i
    · subst e; simpa using hil
    · rw [if_neg e] at hj
      simpa using h.inn j k hj
/-- what happens to a node's disk: the log then -/
def agF (n : Nat) (f : List Cmd → List Cmd) (s : LS) (i : Int) : Int × LS :=
  if 0 ≤ i ∧ i < n then (0, { s with N := s.N.set i.toNat (f (s.N.getD i.toNat [])) }) else (1, s)

set_option maxRecDepth 100000 in
set_option maxHeartbeats 4000000 in
theorem again_any (g : Nat) (cb : Array Value) (heg : ∀ args w, (callFunc g args).run Tryz.prog w = .ok (.enter g args) w) (lg : Nat) (F : Nat → Prop) (room n : Nat) (s : LS) (w : World) (h : LogS w lg F room n s) (i : Int) (f : List Cmd → List Cmd)
    (hg : ∀ d F1 ps, DiskOf w F1 d room ps → Calls Tryz.prog g (#[ptrV d] ++ cb) w fun e w'' => e = .returned (.tuple #[]) ∧ DiskOf w'' F1 d room (f ps) ∧ Kp F1 w w'') :
    Calls Tryz.prog 33 #[ptrV lg, .int .i64 i, .func (.func g) #[] cb] w fun q w' => q = .returned (.int .i64 (agF n f s i).1) ∧ ∃ F' : Nat → Prop, LogS w' lg F' room n (agF n f s i).2 ∧ (∀ y, F' y → F y ∨ w.heap.size ≤ y) ∧ Kp F w w' := by
  have h0 := h
  obtain ⟨N, op, E, row⟩ := s
  unfold LogS at h
  simp only [] at h
  obtain ⟨Ad, cd, An, cn, Ar, mr, cr, nds, ds, Fn, h1, h2, h3, h4, h5, h6, ⟨f1, f2, f3, f4, f5⟩, ⟨a1, a2, a3, a4⟩, h9, h10, h11⟩ := h
  obtain ⟨x0, x1, x2, x3, x4, y0, y1, y2, y3, y4⟩ := Blk.c5 h1
  have hlt := h1.lt
  by_cases hin : 0 ≤ i ∧ i < n
  · obtain ⟨k, rfl⟩ : ∃ k : Nat, i = (k : Int) := ⟨i.toNat, by omega⟩
    have hkn : k < n := by omega
    have g1 : decide ((k : Int) < 0) = false := by simp
    have g2 : decide ((n : Int) ≤ (k : Int)) = false := by simp; omega
    have hkl1 : k < nds.length := by rw [h5.ln, h4]; exact hkn
    have hkl2 : k < ds.length := by rw [h5.ld, h4]; exact hkn
    have hkl3 : k < N.length := by rw [h4]; exact hkn
    have hnd : nds[k]? = some nds[k] := List.getElem?_eq_getElem hkl1
    obtain ⟨nd, hnde⟩ : ∃ nd, nd = nds[k] := ⟨_, rfl⟩
    rw [← hnde] at hnd
    clear hnde
    have hd : ds[k]? = some ds[k] := List.getElem?_eq_getElem hkl2
    obtain ⟨d, hde⟩ : ∃ d, d = ds[k] := ⟨_, rfl⟩
    rw [← hde] at hd
    clear hde
    have hps : N[k]? = some N[k] := List.getElem?_eq_getElem hkl3
    obtain ⟨ps, hpse⟩ : ∃ ps, ps = N[k] := ⟨_, rfl⟩
    rw [← hpse] at hps
    clear hpse
    have hgd : N.getD k [] = ps := by simp [List.getD, hps]
    have hnode := h5.at_ k nd d ps hnd hd hps
    obtain ⟨gd, rfl, _, hgdlt, hcd, hfd, _⟩ := h2.at_ (by omega)
    obtain ⟨gn, rfl, _, hgnlt, hcn, hfn, curn, hcurn⟩ := h3.at_ (by omega)
    have hcdk := hcd k (ptrV d) (by rw [List.getElem?_map, hd]; rfl)
    have hcnk := hcn k (ptrV nd) (by rw [List.getElem?_map, hnd]; rfl)
    have hgc := hg d (Fn k) ps hnode.disk
    have hag : agF n f ⟨N, op, E, row⟩ (k : Int) = (0, ⟨N.set k (f ps), op, E, row⟩) := by
      unfold agF
      rw [if_pos hin]
      simp only [Int.toNat_natCast]
      rw [hgd]
    have Hag := hide hag
    have Hd := hide hd
    have Hnd := hide hnd
    have Hps := hide hps
    clear hag hgd hd hnd hps hkl1 hkl2 hkl3
    have hin' : (k : Int) < (n : Int) := by omega
    unfold ptrV at *
    go_enter Tryz.func33, Tryz.ntmps33
    go_wp2_with (first | (go_at_fn g; apply hold) | (go_at_call 27; apply hold))
    refine unhold (hgc.mono ?_)
    rintro e w1 ⟨rfl, hdk1, hk1⟩
    have hz1 := hk1.size
    have hl1 := hk1.blk h1 (a1 k)
    obtain ⟨x0, x1, x2, x3, x4, y0, y1, y2, y3, y4⟩ := Blk.c5 hl1
    have hcdk1 : w1.cell? ⟨gd, k, none⟩ = some (.pointer (some ⟨d, 0, none⟩)) := (hk1.cell (p := ⟨gd, k, none⟩) hgdlt (a2 gd rfl k)).trans hcdk
    go_wp2_with fail
    obtain ⟨A, c, q1, q2, q3, q4, q5, q6, q7, q8⟩ := hdk1
    have hb1 := q5
    have hlt1 := hl1.lt
    go_region_with
      (first
        | (go_at_call 27
           refine ((sopen_any d room A c (f ps) w1.drew q1 q2 q6 q7 q8).mono ?_)
           rintro e w2 ⟨nd2, F2, rfl, hnd2, hn2, hF2, hk2⟩
           have hl2 : Blk w2 lg 63 _ := hk2.blk (w := w1.drew) hl1 (fun e => a1 k (by rw [e]; exact q3))
           obtain ⟨u0, u1, u2, u3, u4, v0, v1, v2, v3, v4⟩ := Blk.c5 hl2
           have hcn2 : w2.cell? ⟨gn, k, none⟩ = some (.pointer (some ⟨nd, 0, none⟩)) := (hk2.cell (p := ⟨gn, k, none⟩) (w := w1.drew) (Nat.lt_of_lt_of_le hgnlt hz1) (fun e => a3 gn rfl k (by rw [show gn = d from e]; exact q3))).trans ((hk1.cell (p := ⟨gn, k, none⟩) hgnlt (a3 gn rfl k)).trans hcnk)
           have hfn2 : w2.frozen? ⟨gn, k, none⟩ = false := Blk.free (hk2.blk (w := w1.drew) (hk1.blk hcurn (a3 gn rfl k)) (fun e => a3 gn rfl k (by rw [show gn = d from e]; exact q3))) k))
    all_goals
      go_wp2_with fail
      go_ret
      rw [Hag.out]
      have hz2 := hk2.size
      have hdz : w1.drew.heap.size = w1.heap.size := rfl
      have hk02 : Kp (Fn k) w w2 := (hk1.drew).trans hk2 (fun y _ e => e ▸ q3)
      have hF2' : ∀ y, F2 y → Fn k y ∨ w.heap.size ≤ y := fun y hy => by
        rcases hF2 y hy with e | e | e
        · exact .inl (e ▸ q3)
        · exact .inl (q4 y e)
        · exact .inr (by omega)
      have hkN : k < N.length := by rw [h4]; exact hkn
      have hN2 := h5.step2 hkN Hd.out hn2 hF2' hk02 (fun j y hne hj hi => h5.apart j k y hne hj hi)
      have hm2 : Own w2 0 67 1 (some ⟨gn, 0, none⟩) n cn (nds.map fun nd => .pointer (some ⟨nd, 0, none⟩)) := h3.kp hk02 (fun y e _ hh => a3 y e k hh)
      have hd2 : Own w2 0 64 1 (some ⟨gd, 0, none⟩) n cd (ds.map fun nd => .pointer (some ⟨nd, 0, none⟩)) := h2.kp hk02 (fun y e _ hh => a2 y e k hh)
      have hcur2 : Blk w2 gn 67 curn := hk02.blk hcurn (a3 gn rfl k)
      have hm5 := hm2.set1 (k := k) (v := .pointer (some ⟨nd2, 0, none⟩)) hkn
      have hmap : (nds.map fun nd => Value.pointer (some ⟨nd, 0, none⟩)).set k (.pointer (some ⟨nd2, 0, none⟩)) = (nds.set k nd2).map ptrV := by
        rw [List.map_set]; rfl
      rw [hmap] at hm5
      have hkS : Kp (· = gn) w2 (w2.setCell ⟨gn, k, none⟩ (.pointer (some ⟨nd2, 0, none⟩))) := (Kp.refl (· = gn) w2).setCell (fun _ => rfl) _
      have hF2gn : ∀ y, F2 y → y ≠ gn := fun y hy e => by
        rcases hF2' y hy with h | h
        · exact a3 gn rfl k (e ▸ h)
        · omega
      have nF : ∀ y, F y → (∀ i, ¬ Fn i y) → ∀ i, ¬ (if i = k then F2 else Fn i) y := fun y hy hn i hi => by
        by_cases e : i = k
        · rw [if_pos e] at hi
          rcases hF2' y hi with h | h
          · exact hn k h
          · have := h9 y hy; omega
        · rw [if_neg e] at hi
          exact hn i hi
      have hsz5 : (w2.setCell ⟨gn, k, none⟩ (.pointer (some ⟨nd2, 0, none⟩))).heap.size = w2.heap.size := by simp [World.setCell]
      have hrow := h6
      obtain ⟨xsr, hor, _⟩ := h6
      have hlg2 : Blk w2 lg 63 _ := hk02.blk h1 (a1 k)
      have hlgn : lg ≠ gn := hlg2.ne_ hcur2 (by decide)
      have hor2 := hor.kp hk02 (fun y e _ hh => a4 y e k hh)
      refine ⟨rfl, fun y => F y ∨ (w.heap.size ≤ y ∧ y < w2.heap.size), ⟨some ⟨gd, 0, none⟩, cd, some ⟨gn, 0, none⟩, cn, Ar, mr, cr, nds.set k nd2, ds, _, hkS.blk hlg2 hlgn, hd2.kp hkS (fun y e _ hh => hd2.ne_blk hcur2 (by decide) (by rw [e, hh])), hm5, by simpa using h4, hN2.keep hkS.size (fun i y hy => hkS.block y (hN2.lt hy) (fun e => ?_)), ?_, ⟨.inl f1, fun y e => .inl (f2 y e), fun y e => .inl (f3 y e), fun y e => .inl (f4 y e), fun i y hy => ?_⟩, ⟨nF lg f1 a1, fun y e => nF y (f2 y e) (a2 y e), fun y e => nF y (f3 y e) (a3 y e), fun y e => nF y (f4 y e) (a4 y e)⟩, fun y hy => ?_, h10, h11⟩, fun y hy => ?_, (hk02.mono (fun y _ hh => f5 k y hh)).trans hkS (fun y _ e => e ▸ f3 gn rfl)⟩
      · rw [e] at hy
        exact nF gn (f3 gn rfl) (a3 gn rfl) i hy
      · have hr2 := hrow.go (w' := w2) (F' := fun y => (F y ∨ (w.heap.size ≤ y ∧ y < w2.heap.size)) ∧ (∀ i, ¬ (if i = k then F2 else Fn i) y) ∧ y ≠ lg ∧ ablk (some (⟨gd, 0, none⟩ : Addr)) ≠ some y ∧ ablk (some (⟨gn, 0, none⟩ : Addr)) ≠ some y ∧ ablk Ar ≠ some y) hk02.size (fun y e _ hlt => hk02.block y hlt (a4 y e k)) (fun y hy hlt => hk02.block y hlt (hy.2.1 k)) (fun y hy _ => ⟨.inl hy.1, nF y hy.1 hy.2.1, hy.2.2⟩)
        exact hr2.go hkS.size (fun y e _ hlt => hkS.block y hlt (fun h => by subst h; exact hor2.ne_blk hcur2 (by decide) e)) (fun y hy hlt => hkS.block y hlt (fun e => hy.2.2.2.2.1 (by rw [e]; rfl))) (fun y hy _ => hy)
      · by_cases e : i = k
        · rw [if_pos e] at hy
          rcases hF2' y hy with h | h
          · exact .inl (f5 k y h)
          · exact .inr ⟨h, hn2.lt hy⟩
        · rw [if_neg e] at hy
          exact .inl (f5 i y hy)
      · rw [hsz5]
        rcases hy with hy | hy
        · have := h9 y hy; omega
        · exact hy.2
      · rcases hy with hy | hy
        · exact .inl hy
        · exact .inr hy.1
  · have hag : agF n f ⟨N, op, E, row⟩ i = (1, ⟨N, op, E, row⟩) := by
      unfold agF
      rw [if_neg hin]
    have Hag := hide hag
    clear hag
    unfold ptrV
    go_enter Tryz.func33, Tryz.ntmps33
    by_cases hi0 : i < 0
    · have g1 : decide (i < 0) = true := by simp [hi0]
      go_wp2_with fail
      go_ret
      rw [Hag.out]
      exact ⟨rfl, F, h0, fun y h => .inl h, Kp.refl _ _⟩
    · have g1 : decide (i < 0) = false := by simp; omega
      have g2 : decide ((n : Int) ≤ i) = true := by simp; omega
      go_wp2_with fail
      go_ret
      rw [Hag.out]
      exact ⟨rfl, F, h0, fun y h => .inl h, Kp.refl _ _⟩

set_option maxRecDepth 100000 in
set_option maxHeartbeats 1000000 in
theorem lcrash_any (lg : Nat) (F : Nat → Prop) (room n : Nat) (s : LS) (w : World) (h : LogS w lg F room n s) (i keep turn : Int) :
    Calls Tryz.prog 18 #[ptrV lg, .int .i64 i, .int .i64 keep, .int .i64 turn] w fun q w' => q = .returned (.int .i64 (agF n id s i).1) ∧ ∃ F' : Nat → Prop, LogS w' lg F' room n (agF n id s i).2 ∧ (∀ y, F' y → F y ∨ w.heap.size ≤ y) ∧ Kp F w w' := by
  have hmf : ∀ fn first cap w, (Instr.makeFunc fn first cap).run Tryz.prog w = .ok (.func fn first cap) w := fun _ _ _ _ => rfl
  unfold ptrV
  go_enter Tryz.func18, Tryz.ntmps18
  go_wp2_with (go_at_call 33; apply hold)
  have hb : Below w.heap.size w ((w.alloc (.cells #[.int .i64 keep] 3)).alloc (.cells #[.int .i64 turn] 3)) := ((Below.refl _ _).alloc (Nat.le_refl _) _).alloc (by simp) _
  have h6 : Blk ((w.alloc (.cells #[.int .i64 keep] 3)).alloc (.cells #[.int .i64 turn] 3)) w.heap.size 3 #[.int .i64 keep] := (Blk.new _ _ _).alloc _
  have h7 : Blk ((w.alloc (.cells #[.int .i64 keep] 3)).alloc (.cells #[.int .i64 turn] 3)) (w.heap.size + 1) 3 #[.int .i64 turn] := by
    have := Blk.new (w.alloc (.cells #[.int .i64 keep] 3)) 3 #[.int .i64 turn]
    rwa [World.size_alloc] at this
  have hL : LogS ((w.alloc (.cells #[.int .i64 keep] 3)).alloc (.cells #[.int .i64 turn] 3)) lg F room n s := LogAt.below h hb
  have hcon := again_any 36 #[ptrV w.heap.size, ptrV (w.heap.size + 1)] (enters_of Tryz.func36 (by kernel_rfl) rfl) lg F room n s _ hL i id (fun d F1 ps hd => ccl_any w.heap.size (w.heap.size + 1) keep turn F1 d room ps _ hd h6 h7)
  refine unhold (hcon.mono ?_)
  rintro q w1 ⟨rfl, F', k1, k2, k3⟩
  go_wp2_with fail
  go_ret
  refine ⟨rfl, F', k1, fun y hy => ?_, (Kp.below hb).trans k3 (fun _ _ h => h)⟩
  rcases k2 y hy with h | h
  · exact .inl h
  · exact .inr (Nat.le_trans hb.size h)

set_option maxRecDepth 100000 in
set_option maxHeartbeats 1000000 in
theorem llose_any (lg : Nat) (F : Nat → Prop) (room n : Nat) (s : LS) (w : World) (h : LogS w lg F room n s) (i : Int) :
    Calls Tryz.prog 16 #[ptrV lg, .int .i64 i] w fun q w' => q = .returned (.int .i64 (agF n (fun _ => []) s i).1) ∧ ∃ F' : Nat → Prop, LogS w' lg F' room n (agF n (fun _ => []) s i).2 ∧ (∀ y, F' y → F y ∨ w.heap.size ≤ y) ∧ Kp F w w' := by
  have hcon := again_any 34 #[] (enters_of Tryz.func34 (by kernel_rfl) rfl) lg F room n s w h i (fun _ => []) (fun d F1 ps hd => by simpa using lcl_any F1 d room ps w hd)
  unfold ptrV
  go_enter Tryz.func16, Tryz.ntmps16
  go_wp2_with (go_at_call 33; apply hold)
  refine unhold (hcon.mono ?_)
  rintro q w1 ⟨rfl, F', k1, k2, k3⟩
  go_wp2_with fail
  go_ret
  exact ⟨rfl, F', k1, k2, k3⟩
end Go.Proofs.YtonkblhhknafbaaGreat
