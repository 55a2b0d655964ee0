/- The walks of package seg: Len, Get, Sync, Put. Whatever the heap holds beside. -/
import Derived.Test.YtonkblhhknafbaaGreatF1
import Derived.Test.YtonkblhhknafbaaGreatK4
import Derived.Deep.RegionLaw
namespace Go.Proofs.YtonkblhhknafbaaGreat
open Go.RowKit

/-- 'append' of bytes, as a step of a region -/
theorem step_app_u8 {w : World} {ops : Array Oper} {o : Oper} {a : Act} {K : Act → World → Prop} {Q : Exit → Act → World → Prop} {E : Prop} (hgd : o.guard = none) (s x : Operand)
    (ho : o.op = .call { callee := .builtin .append, args := #[s, x], argTypes := #[32, 32] })
    (base : Nat) (A0 : Option Addr) (n c0 : Nat) (bs : List UInt8) (hs : a.eval s = .slice A0 n c0) (hown : OwnB w base A0 n c0 bs)
    (A : Option Addr) (m c : Nat) (cs : List UInt8) (hx : a.eval x = .slice A m c) (hr : Sl w A m (u8s cs))
    (hlen : n + m ≤ 1000000000) (hbase : base ≤ w.heap.size)
    (h : ∀ A' c' w', OwnB w' base A' (n + m) c' (bs ++ cs) → w.grownBy w' (ablk A0) → (ablk A' = ablk A0 ∨ ablk A' = some w.heap.size) → K (a.put o.dst (.slice A' (n + m) c')) w') :
    if Region.wanted o (yielded ops a.tmps) = true then Oper.wp Tryz.prog o a w K Q else E := by
  have hw : Region.wanted o (yielded ops a.tmps) = true := by simp [Region.wanted, hgd]
  rw [if_pos hw]
  obtain ⟨i0, hi0, hz0, hz1, hz2⟩ := info_parts Tryz.info5
  refine wp_append_sl s x 32 ho base 5 i0 (.int .u8 0) 1 Tryz.underlying32 hi0 hz0 hz1 hz2 rfl (.slice A0 n c0) n (u8s bs) hs hown A m c (u8s cs) hx hr (u8s_one cs) (by unfold maxLen; omega) (by omega) hbase ?_
  intro v' w' h1 h2 h3
  obtain ⟨A', c', rfl⟩ := own_form h1
  rw [own_blk] at h2
  rw [own_blk, own_blk] at h3
  refine h A' c' w' ?_ h2 h3
  unfold OwnB
  rw [u8s_app]
  exact h1
/-- one value more onto a row of slices of bytes, as a step of a region -/
theorem step_app_row {w : World} {ops : Array Oper} {o : Oper} {a : Act} {K : Act → World → Prop} {Q : Exit → Act → World → Prop} {E : Prop} (hgd : o.guard = none) (s x : Operand)
    (ho : o.op = .call { callee := .builtin .append, args := #[s, x], argTypes := #[22, 22] })
    (base : Nat) (A0 : Option Addr) (n c0 : Nat) (xs : List Value) (hs : a.eval s = .slice A0 n c0) (hown : Own w base 32 1 A0 n c0 xs)
    (A : Option Addr) (v : Value) (hx : a.eval x = .slice A 1 1) (hr : Sl w A 1 [v]) (hv : v.oneCell' = true)
    (hlen : n + 1 ≤ 100000000) (hbase : base ≤ w.heap.size)
    (h : ∀ A' c' w', Own w' base 32 1 A' (n + 1) c' (xs ++ [v]) → w.grownBy w' (ablk A0) → (ablk A' = ablk A0 ∨ ablk A' = some w.heap.size) → K (a.put o.dst (.slice A' (n + 1) c')) w') :
    if Region.wanted o (yielded ops a.tmps) = true then Oper.wp Tryz.prog o a w K Q else E := by
  have hw : Region.wanted o (yielded ops a.tmps) = true := by simp [Region.wanted, hgd]
  rw [if_pos hw]
  obtain ⟨i0, hi0, hz0, hz1, hz2⟩ := info_parts Tryz.info32
  refine wp_append_sl s x 22 ho base 32 i0 _ 24 Tryz.underlying22 hi0 hz0 hz1 hz2 rfl (.slice A0 n c0) n xs hs hown A 1 1 [v] hx hr (by intro u hu; simp at hu; subst hu; exact hv) (by unfold maxLen; omega) (by omega) hbase ?_
  intro v' w' h1 h2 h3
  obtain ⟨A', c', rfl⟩ := own_form h1
  rw [own_blk] at h2
  rw [own_blk, own_blk] at h3
  exact h A' c' w' h1 h2 h3

set_option maxRecDepth 100000 in
set_option maxHeartbeats 1000000 in
theorem glen_any (g d : Nat) (A : Option Addr) (m c : Nat) (torn : Int) (w : World) (hg : Blk w g 139 (SegC d A m c torn)) :
    Calls Tryz.prog 50 #[.pointer (some ⟨g, 0, none⟩)] w fun e w' => e = .returned (.int .i64 m) ∧ w = w' := by
  obtain ⟨k0, k1, k2, f0, f1, f2⟩ := Blk.c3 hg
  go_enter Tryz.func50, Tryz.ntmps50
  go_wp2
  go_ret
  exact ⟨rfl, rfl⟩

set_option maxRecDepth 100000 in
set_option maxHeartbeats 1000000 in
theorem gsync_any (g d : Nat) (A : Option Addr) (m c : Nat) (torn : Int) (room sf : Int) (A1 : Option Addr) (n1 c1 : Nat) (w : World) (hg : Blk w g 139 (SegC d A m c torn)) (hdk : DiskAt w d room A1 n1 c1 sf) :
    Calls Tryz.prog 85 #[.pointer (some ⟨g, 0, none⟩)] w fun e w' => e = .returned (.tuple #[]) ∧ DiskAt w' d room A1 n1 c1 n1 ∧ Kp (· = d) w w' := by
  obtain ⟨k0, k1, k2, f0, f1, f2⟩ := Blk.c3 hg
  have m3 := met_sync
  go_enter Tryz.func85, Tryz.ntmps85
  go_wp2_with (first | (go_at_call 68; apply hold))
  refine unhold ((dsync_any d room sf A1 n1 c1 w hdk).mono ?_)
  rintro e w1 ⟨rfl, h1, h2⟩
  go_wp2_with fail
  go_end0
  exact ⟨rfl, h1, h2⟩

set_option maxRecDepth 100000 in
set_option maxHeartbeats 1000000 in
theorem gget_any (g d : Nat) (A : Option Addr) (m c : Nat) (torn : Int) (base : Nat) (ps : List (List UInt8)) (i : Nat) (p : List UInt8) (hi : ps[i]? = some p) (w : World) (hg : Blk w g 139 (SegC d A m c torn)) (hrow : RowB w base A m c ps) (hp : p.length ≤ 4096) (hm : m ≤ 2000000) :
    Calls Tryz.prog 51 #[.pointer (some ⟨g, 0, none⟩), .int .i64 i] w fun e w' => ∃ A' c', e = .returned (.tuple #[.slice A' p.length c', .int .i64 0]) ∧ OwnB w' w.heap.size A' p.length c' p ∧ Below w.heap.size w w' := by
  obtain ⟨k0, k1, k2, f0, f1, f2⟩ := Blk.c3 hg
  obtain ⟨xs, hox, hmx, hxs⟩ := hrow
  obtain ⟨A1, c1, hx1, ho1⟩ := hxs i p hi
  have hil : i < m := by have := (List.getElem?_eq_some_iff.1 hi).1; omega
  obtain ⟨gb, rfl, hgb1, hgb2, hcell, hfr, _⟩ := hox.at_ (by omega)
  have kx := hcell i _ hx1
  have hz : (i : Int) < (m : Int) := by omega
  have g1 : ¬ (i : Int) < 0 := by omega
  have hlt := hg.lt
  go_enter Tryz.func51, Tryz.ntmps51
  go_wp2_with (first | (go_at_call 50; apply hold) | (at_builtin; apply hold))
  refine unhold ((glen_any g d _ m c torn w hg).mono ?_)
  rintro e w1 ⟨rfl, rfl⟩
  have g2 : decide ((m : Int) ≤ (i : Int)) = false := by simp; omega
  go_wp2_with (first | (go_at_call 50; apply hold) | (at_builtin; apply hold))
  refine unhold (app_u8 rfl (.tmp 14) (.tmp 21) rfl w.heap.size _ _ _ [] rfl (OwnB.lit w _ #[] 0 [] (Nat.le_refl _) rfl (by simp) rfl) A1 p.length c1 p rfl (ho1.sl.alloc _) (by omega) (by simp) ?_)
  intro A2 c2 w2 ho2 hg2 _
  have hb : Below w.heap.size w w2 := ((Below.refl _ _).alloc (Nat.le_refl _) _).grown hg2 (by simp) (by intro k hk; cases hk; exact Nat.le_refl _)
  clear hg2
  rw [Nat.zero_add, List.nil_append] at ho2
  rw [Nat.zero_add]
  go_wp2_with fail
  go_ret2
  exact ⟨A2, c2, rfl, ho2, hb⟩

theorem Dat.ne_own {w : World} {A A' : Option Addr} {n c n' c' base size : Nat} {e : TypeId} {bs : List UInt8} {xs : List Value} (h : Dat w A n c bs) (ho : Own w base e size A' n' c' xs) (hne : 5 ≠ e) {k : Nat} (hk : ablk A' = some k) : ablk A ≠ some k := by
  rcases ho.2 with ⟨hv, _⟩ | ⟨g', cap, cur, hv, _, hh, _⟩
  · injection hv with hA
    subst hA
    cases hk
  · injection hv with hA
    subst hA
    simp [ablk] at hk
    subst hk
    exact h.ne_blk (cs := cur) hh hne

set_option maxRecDepth 100000 in
set_option maxHeartbeats 2000000 in
theorem gput_any (g d : Nat) (A : Option Addr) (m c : Nat) (torn : Int) (xs : List Value) (room : Nat) (sf : Int) (A1 : Option Addr) (n1 c1 : Nat) (bs : List UInt8) (B : Option Addr) (k cB : Nat) (p : List UInt8) (kf : Nat) (hkf : (frameB p).length = kf) (w : World)
    (hg : Blk w g 139 (SegC d A m c torn)) (ho : Own w 0 32 1 A m c xs) (hdk : DiskAt w d room A1 n1 c1 sf) (hd : Dat w A1 n1 c1 bs) (hp : Sl w B k (u8s p)) (hk : k ≤ 4096) (hBn : ∀ x, ablk B = some x → x ≠ d ∧ ablk A1 ≠ some x) (hroom : room ≤ 1048576) (hm : m ≤ 2000000) (hfit : n1 + kf ≤ room) :
    Calls Tryz.prog 84 #[.pointer (some ⟨g, 0, none⟩), .slice B k cB] w fun e w' => ∃ A' c' xs' A1' c1', e = .returned (.int .i64 0) ∧ Blk w' g 139 (SegC d A' (m + 1) c' torn) ∧ Own w' 0 32 1 A' (m + 1) c' xs' ∧ DiskAt w' d room A1' (n1 + kf) c1' sf ∧ Dat w' A1' (n1 + kf) c1' (bs ++ frameB p) ∧
      Kp (fun x => x = g ∨ x = d ∨ ablk A = some x ∨ ablk A1 = some x) w w' ∧ (∀ x, ablk A' = some x → ablk A = some x ∨ w.heap.size ≤ x) ∧ (∀ x, ablk A1' = some x → ablk A1 = some x ∨ w.heap.size ≤ x) := by
  obtain ⟨k0, k1, k2, f0, f1, f2⟩ := Blk.c3 hg
  have hlt := hg.lt
  have hdlt := Blk.lt hdk
  have hgd : g ≠ d := Blk.ne_ hg hdk (by decide)
  have m3 := met_append
  have hkf0 : 0 < kf := by have := frameB_len p; omega
  have Hkf := hide hkf
  clear hkf
  have hAg := ho.ne_blk hg (by decide)
  have hAd := ho.ne_blk hdk (by decide)
  have hA1g := hd.ne_blk hg (by decide)
  have hA1d := hd.ne_blk hdk (by decide)
  have hAA1 := fun x h => hd.ne_own ho (by decide) (k := x) h
  have hl1 := fun x h => hd.lt (k := x) h
  have hl2 := fun x h => (ho.lt (k := x) h).2
  go_enter Tryz.func84, Tryz.ntmps84
  go_wp2_with (first | (go_at_call 100; apply hold) | (go_at_call 165; apply hold))
  refine unhold ((frame_any B k cB p w hp hk).mono ?_)
  rintro e w1 ⟨B1, kf', cf, rfl, ho1, hb1⟩
  obtain rfl : kf = kf' := by rw [← ho1.len]; exact Hkf.out.symm
  have hz1 := hb1.size
  have hg1 := below_blk hb1 hg hlt
  have hdk1 : DiskAt w1 d room A1 n1 c1 sf := below_blk hb1 hdk hdlt
  have hd1 := hd.below hb1
  have hoA1 := ho.below hb1
  have hp1 := hp.below hb1
  obtain ⟨k0, k1, k2, f0, f1, f2⟩ := Blk.c3 hg1
  go_wp2_with (first | (go_at_call 100; apply hold) | (go_at_call 165; apply hold))
  refine unhold ((dappend_any d room sf A1 n1 c1 bs B1 kf cf (frameB p) w1 hdk1 hd1 ho1.sl hkf0 hroom hfit).mono ?_)
  rintro e w2 ⟨A1', c1', rfl, hdk2, hd2, hk2, hA1'⟩
  have hz2 := hk2.size
  have hg2 : Blk w2 g 139 (SegC d A m c torn) := hk2.blk hg1 (by rintro (h | h); exact hgd h; exact hA1g h)
  have hoA2 : Own w2 0 32 1 A m c xs := hoA1.kp hk2 (fun x e _ hS => by
    rcases hS with rfl | h
    · exact hAd e
    · exact hAA1 x e h)
  have hp2 : Sl w2 B k (u8s p) := hp1.kp hk2 (fun x e _ hS => by
    rcases hS with rfl | h
    · exact (hBn _ e).1 rfl
    · exact (hBn x e).2 h)
  obtain ⟨k0, k1, k2, f0, f1, f2⟩ := Blk.c3 hg2
  go_wp2_with fail
  have hlt2 : g < w2.heap.size := hg2.lt
  go_region_law
    (first
      | (refine step_app_u8 rfl (.tmp 39) (.tmp 40) rfl w2.heap.size _ _ _ [] (by simp [Act.eval]) (OwnB.lit w2.drew _ #[] 0 [] (Nat.le_refl _) rfl (by simp) rfl) B k cB p (by simp [Act.eval]) (hp2.drew.alloc _) (by omega) (by simp) ?_
         intro A3 c3 w3 ho3 hg3 hA3
         have hb3 : Below w2.heap.size w2 w3 := ((Below.refl _ _).drew.alloc (Nat.le_refl _) _).grown hg3 (by simp) (by intro k hk; cases hk; exact Nat.le_refl _)
         have hgg3 := below_blk hb3 hg2 hlt2
         have hoA3 := hoA2.below hb3
         have hz3 := hb3.size
         obtain ⟨j0, j1, j2, e0, e1, e2⟩ := Blk.c3 hgg3
         have hlt3 := hgg3.lt)
      | (refine step_app_row rfl (.tmp 38) (.tmp 42) rfl 0 A m c xs (by simp [Act.eval]) (hoA3.alloc _) _ (.slice A3 k c3) (by simp [Act.eval]) (Sl.lit w3 _ 32 1 _ rfl rfl) rfl (by omega) (by simp) ?_
         intro A4 c4 w4 ho4 hg4 hA4
         have hk4 : Kp (fun k => ablk A = some k) w3 w4 := (Kp.alloc (Kp.refl _ w3) _).grown hg4 (fun k e _ => e)
         have hgg4 := hk4.blk hgg3 hAg
         obtain ⟨i0, i1, i2, l0, l1, l2⟩ := Blk.c3 hgg4))
  all_goals
    have hdk3 : DiskAt w3 d room A1' (n1 + kf) c1' sf := below_blk hb3 hdk2 (Blk.lt hdk2)
    have hd3 := hd2.below hb3
    have hdk4 : DiskAt w4 d room A1' (n1 + kf) c1' sf := hk4.blk hdk3 hAd
    have hd4 : Dat w4 A1' (n1 + kf) c1' (bs ++ frameB p) := hd3.kp hk4 (fun x e _ hS => hd3.ne_own hoA3 (by decide) hS e)
    have hz1' := hb1.size
    go_wp2_with fail
    go_ret
    refine ⟨A4, c4, _, A1', c1', rfl, hgg4.set_ 1 _, ho4.setCell (ho4.ne_blk hgg4 (by decide)) _, hdk4.far (by exact fun e => hgd e.symm) _, hd4.keep (fun x e _ => Below.heap_setCell _ _ _ _ (fun e2 => hd4.ne_blk hgg4 (by decide) (by rw [e, e2]))), ?_, ?_, ?_⟩
    · refine Kp.setCell (((Kp.below (S := fun x => x = g ∨ x = d ∨ ablk A = some x ∨ ablk A1 = some x) hb1).trans hk2 (fun x _ h => ?_)).trans (Kp.below (S := fun x => x = g ∨ x = d ∨ ablk A = some x ∨ ablk A1 = some x) hb3) (fun _ _ h => h) |>.trans hk4 (fun x _ h => .inr (.inr (.inl h)))) (fun _ => .inl rfl) _
      rcases h with h | h
      · exact .inr (.inl h)
      · exact .inr (.inr (.inr h))
    · intro x e
      rcases hA4 with h | h
      · exact .inl (by rw [← h]; exact e)
      · rw [e] at h
        simp at h
        exact .inr (by omega)
    · intro x e
      rcases hA1' with h | ⟨y, h, hy⟩
      · exact .inl (by rw [← h]; exact e)
      · rw [e] at h
        cases h
        exact .inr (by omega)
end Go.Proofs.YtonkblhhknafbaaGreat
