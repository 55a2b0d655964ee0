/- The walk of slog.New. Whatever the heap holds beside. -/
import Derived.Test.YtonkblhhknafbaaGreatF23
namespace Go.Proofs.YtonkblhhknafbaaGreat
open Go.RowKit Go.Shelf

/-- one value more onto a row of the call's own, as a step of a region -/
theorem step_app_gen {w : World} {ops : Array Oper} {o : Oper} {a : Act} {K : Act → World → Prop} {Q : Exit → Act → World → Prop} {E : Prop} {t e : TypeId} {z : Value} {bytes : Nat} (ht : Tryz.prog.underlying t = some (.slice e))
    (hinfo : (Tryz.prog.info? e).map (fun i => (i.zero, i.size, i.bytes)) = some (some z, 1, bytes)) (hzs : z.cells.size = 1) (hby : bytes ≤ 1000) (hgd : o.guard = none) (s x : Operand)
    (ho : o.op = .call { callee := .builtin .append, args := #[s, x], argTypes := #[t, t] })
    (base : Nat) (A0 : Option Addr) (n c0 : Nat) (xs : List Value) (hs : a.eval s = .slice A0 n c0) (hown : Own w base e 1 A0 n c0 xs)
    (A : Option Addr) (v : Value) (hx : a.eval x = .slice A 1 1) (hr : Sl w A 1 [v]) (hv : v.oneCell' = true)
    (hlen : n + 1 ≤ 100000000) (hbase : base ≤ w.heap.size)
    (h : ∀ A' c' w', Own w' base e 1 A' (n + 1) c' (xs ++ [v]) → w.grownBy w' (ablk A0) → (ablk A' = ablk A0 ∨ ablk A' = some w.heap.size) → K (a.put o.dst (.slice A' (n + 1) c')) w') :
    if Region.wanted o (yielded ops a.tmps) = true then Oper.wp Tryz.prog o a w K Q else E := by
  have hw : Region.wanted o (yielded ops a.tmps) = true := by simp [Region.wanted, hgd]
  rw [if_pos hw]
  obtain ⟨i0, hi0, hz0, hz1, hz2⟩ := info_parts hinfo
  have hm : (n + 1) * bytes ≤ 100000000 * 1000 := Nat.mul_le_mul hlen hby
  refine wp_append_sl s x t ho base e i0 _ bytes ht hi0 hz0 hz1 hz2 hzs (.slice A0 n c0) n xs hs hown A 1 1 [v] hx hr (by intro u hu; simp at hu; subst hu; exact hv) (by unfold maxLen; omega) (by omega) hbase ?_
  intro v' w' h1 h2 h3
  obtain ⟨A', c', rfl⟩ := own_form h1
  rw [own_blk] at h2
  rw [own_blk, own_blk] at h3
  exact h A' c' w' h1 h2 h3

set_option maxRecDepth 100000 in
set_option maxHeartbeats 4000000 in
theorem lnew_any (n room : Nat) (h1 : n = 1 ∨ n = 3 ∨ n = 5 ∨ n = 7) (hroom : room ≤ 1048576) (w : World) :
    Calls Tryz.prog 10 #[.int .i64 n, .int .i64 room] w fun q w' => ∃ (lg : Nat) (F : Nat → Prop), q = .returned (.tuple #[ptrV lg, .int .i64 0]) ∧ LogS w' lg F room n ⟨List.replicate n [], false, 0, []⟩ ∧ (∀ y, F y → w.heap.size ≤ y) ∧ Below w.heap.size w w' := by
  have g1 : decide ((n : Int) < 1) = false := by simp; omega
  have g2 : decide ((7 : Int) < (n : Int)) = false := by simp; omega
  have g3 : (n : Int).tmod 2 = 1 := by rcases h1 with rfl | rfl | rfl | rfl <;> rfl
  have g4 : (n : Int) % 2 = 1 := by omega
  have hn7 : n ≤ 7 := by omega
  have hn1 : 1 ≤ n := by omega
  clear h1
  go_enter Tryz.func10, Tryz.ntmps10
  go_wp2_with (first | (go_at_call 26; apply hold) | (at_builtin; apply hold))
  have hl0 : Blk (w.alloc (.cells #[.slice none 0 0, .slice none 0 0, .bool false, .int .i64 0, .slice none 0 0] 63)) w.heap.size 63 #[.slice none 0 0, .slice none 0 0, .bool false, .int .i64 0, .slice none 0 0] := Blk.new _ _ _
  have hb0 : Below w.heap.size w (w.alloc (.cells #[.slice none 0 0, .slice none 0 0, .bool false, .int .i64 0, .slice none 0 0] 63)) := (Below.refl _ _).alloc (Nat.le_refl _) _
  have hs0 : (w.alloc (.cells #[.slice none 0 0, .slice none 0 0, .bool false, .int .i64 0, .slice none 0 0] 63)).heap.size = w.heap.size + 1 := by simp
  obtain ⟨w0, hw0⟩ : ∃ w0, w0 = w.alloc (.cells #[.slice none 0 0, .slice none 0 0, .bool false, .int .i64 0, .slice none 0 0] 63) := ⟨_, rfl⟩
  rw [← hw0] at hl0 hb0 hs0 ⊢
  clear hw0
  obtain ⟨lg, hlge⟩ : ∃ lg, lg = w.heap.size := ⟨_, rfl⟩
  rw [← hlge] at hl0 ⊢
  have i1 : w.heap.size ≤ lg := by omega
  have i2 : lg < w0.heap.size := by omega
  clear hlge hs0
  go_loopw [23] (fun v wr => ∃ (i : Nat) (Ad : Option Addr) (cd : Nat) (An : Option Addr) (cn : Nat) (nds ds : List Nat) (Fn : Nat → Nat → Prop), v = .int .i64 i ∧ i ≤ n ∧ Blk wr lg 63 #[.slice Ad i cd, .slice An i cn, .bool false, .int .i64 0, .slice none 0 0] ∧
    Own wr w.heap.size 64 1 Ad i cd (ds.map ptrV) ∧ Own wr w.heap.size 67 1 An i cn (nds.map ptrV) ∧ Nodes wr Fn room nds ds (List.replicate i []) ∧ (∀ i y, Fn i y → w.heap.size ≤ y) ∧
    ((∀ i, ¬ Fn i lg) ∧ (∀ y, ablk Ad = some y → ∀ i, ¬ Fn i y) ∧ (∀ y, ablk An = some y → ∀ i, ¬ Fn i y)) ∧ Below w.heap.size w wr) (fun v _ => n - (intOf v).toNat)
  case atStart => exact ⟨0, none, 0, none, 0, [], [], fun _ _ => False, rfl, by omega, hl0, Own.nil _ _ _ _, Own.nil _ _ _ _, ⟨rfl, rfl, fun i nd d ps h => by simp at h, fun i j k _ h => h.elim, fun i k h => h.elim⟩, fun i y h => h.elim, ⟨fun i h => h, (fun y e => by cases e), (fun y e => by cases e)⟩, hb0⟩
  case round =>
    obtain ⟨i, Ad, cd, An, cn, nds, ds, Fn, rfl, hi, hl, hd, hm, hN, hF, ⟨a1, a2, a3⟩, hb⟩ := hrel
    have hz := hb.size
    have hllt := hl.lt
    by_cases hlt : i < n
    · go_wp2_with (first | (go_at_call 26; apply hold) | (at_builtin; apply hold))
      refine unhold ((dnew_any room hroom wr).mono ?_)
      rintro q w1 ⟨d, rfl, hdlt, hdk, hb1⟩
      have hz1 := hb1.size
      have hl1 := below_blk hb1 hl hllt
      have hd1 := hd.below hb1
      have hm1 := hm.below hb1
      have hN1 := hN.below hb1
      have hdd := Blk.lt hdk
      obtain ⟨x0, x1, x2, x3, x4, y0, y1, y2, y3, y4⟩ := Blk.c5 hl1
      go_wp2_with (first | (go_at_call 26; apply hold) | (at_builtin; apply hold))
      refine unhold (app_gen Tryz.underlying60 Tryz.info64 rfl (by omega) rfl (.tmp 37) (.tmp 39) rfl w.heap.size Ad i cd _ rfl (hd1.alloc _) _ 1 1 [ptrV d] rfl (Sl.lit w1 _ 64 1 _ rfl rfl) (by intro u hu; simp at hu; subst hu; rfl) (by omega) (by simp; omega) ?_)
      intro Ad' cd' w3 ho3 hg3 hAd'
      have hk3 : Kp (fun x => ablk Ad = some x) w1 w3 := ((Kp.refl _ w1).alloc _).grown hg3 (fun x e _ => e)
      clear hg3
      have hz3 := hk3.size
      have hAdl : ablk Ad ≠ some lg := hd1.ne_blk hl1 (by decide)
      have hl3 := hk3.blk hl1 hAdl
      have hAdlt : ∀ y, ablk Ad = some y → y < wr.heap.size := fun y e => (hd.lt e).2
      have hFlt : ∀ i y, Fn i y → y < wr.heap.size := fun i y h => hN.lt h
      have hdk3 : DiskAt w3 d room none 0 0 0 := hk3.blk hdk (fun e => by have := hAdlt d e; omega)
      have hm3 := hm1.kp hk3 (fun y e _ hh => hm1.ne_own hd1 (by decide) hh e)
      have hN3 : Nodes w3 Fn room nds ds (List.replicate i []) := hN1.keep hz3 (fun j y h => hk3.block y (hN1.lt h) (fun e => a2 y e j h))
      have hAd2 : ∀ y, ablk Ad' = some y → ablk Ad = some y ∨ w1.heap.size < y := fun y e => by
        rcases hAd' with h | h
        · exact .inl (by rw [← h]; exact e)
        · rw [e] at h
          simp at h
          exact .inr (by omega)
      obtain ⟨x0, x1, x2, x3, x4, y0, y1, y2, y3, y4⟩ := Blk.c5 hl3
      go_wp2_with (first | (go_at_call 26; apply hold) | (at_builtin; apply hold))
      have hl4 : Blk (w3.setCell ⟨lg, 0, none⟩ (.slice Ad' (i + 1) cd')) lg 63 #[.slice Ad' (i + 1) cd', .slice An i cn, .bool false, .int .i64 0, .slice none 0 0] := hl3.set_ 0 _
      have hk4 : Kp (· = lg) w3 (w3.setCell ⟨lg, 0, none⟩ (.slice Ad' (i + 1) cd')) := (Kp.refl (· = lg) w3).setCell (fun _ => rfl) _
      obtain ⟨w4, hw4⟩ : ∃ w4, w4 = w3.setCell ⟨lg, 0, none⟩ (.slice Ad' (i + 1) cd') := ⟨_, rfl⟩
      rw [← hw4] at hl4 hk4 ⊢
      clear hw4
      have hz4 := hk4.size
      have hd4 := ho3.kp hk4 (fun y e _ hh => ho3.ne_blk hl3 (by decide) (by rw [e, hh]))
      have hm4 := hm3.kp hk4 (fun y e _ hh => hm3.ne_blk hl3 (by decide) (by rw [e, hh]))
      have hdk4 : DiskAt w4 d room none 0 0 0 := hk4.blk hdk3 (by omega)
      have hN4 : Nodes w4 Fn room nds ds (List.replicate i []) := hN3.keep hz4 (fun j y h => hk4.block y (hN3.lt h) (fun e => a1 j (by rw [← e]; exact h)))
      have hl4lt := hl4.lt
      obtain ⟨x0, x1, x2, x3, x4, y0, y1, y2, y3, y4⟩ := Blk.c5 hl4
      have hdz : w4.drew.heap.size = w4.heap.size := rfl
      have hdat : Dat w4 none 0 0 (catF (encs [])) := Dat.nil _
      go_region_law
        (first
          | (go_simp
             go_at_call 27
             refine ((sopen_any d room none 0 [] w4.drew hdk4 hdat (fun p hp => by cases hp) hroom (by show 0 ≤ room; omega)).mono ?_)
             rintro e w5 ⟨nd, F5, rfl, hnd, hn5, hF5, hk5⟩
             have hz5 := hk5.size
             have hl5 : Blk w5 lg 63 _ := hk5.blk (w := w4.drew) hl4 (by omega)
             have hd5 := hd4.kp (w' := w5) (S := (· = d)) ⟨hk5.os, hk5.tape, hk5.output, hk5.size, hk5.block⟩ (fun y e _ hh => by rcases hAd2 y e with h | h; have := hAdlt y h; omega; omega)
             have hm5 := hm4.kp (w' := w5) (S := (· = d)) ⟨hk5.os, hk5.tape, hk5.output, hk5.size, hk5.block⟩ (fun y e _ hh => by have := (hm.lt e).2; omega)
             have hl5lt := hl5.lt
             obtain ⟨x0', x1', x2', x3', x4', y0', y1', y2', y3', y4'⟩ := Blk.c5 hl5)
          | (refine step_app_gen Tryz.underlying61 Tryz.info67 rfl (by omega) rfl (.tmp 47) (.tmp 50) rfl w.heap.size An i cn _ (by simp [Act.eval]) (hm5.alloc _) _ (ptrV nd) (by simp [Act.eval]) (Sl.lit w5 _ 67 1 _ rfl rfl) rfl (by omega) (by have := hk5.size; simp; omega) ?_
             intro An' cn' w6 ho6 hg6 hAn'
             have hk6 : Kp (fun x => ablk An = some x) w5 w6 := ((Kp.refl _ w5).alloc _).grown hg6 (fun x e _ => e)
             clear hg6
             have hAnl : ablk An ≠ some lg := hm.ne_blk hl (by decide)
             have hl6 := hk6.blk hl5 hAnl
             obtain ⟨s0, s1, s2, s3, s4, t0, t1, t2, t3, t4⟩ := Blk.c5 hl6))
      all_goals
        go_wp2_with fail
        go_roundw
        case rel =>
          have hz6 := hk6.size
          have hAnlt : ∀ y, ablk An = some y → y < wr.heap.size := fun y e => (hm.lt e).2
          have hAn2 : ∀ y, ablk An' = some y → ablk An = some y ∨ w5.heap.size < y := fun y e => by
            rcases hAn' with h | h
            · exact .inl (by rw [← h]; exact e)
            · rw [e] at h
              simp at h
              exact .inr (by omega)
          have hkS : Kp (· = lg) w6 (w6.setCell ⟨lg, 1, none⟩ (.slice An' (i + 1) cn')) := (Kp.refl (· = lg) w6).setCell (fun _ => rfl) _
          have hd6 := hd5.kp hk6 (fun y e _ hh => hd5.ne_own hm5 (by decide) hh e)
          have hN5 : Nodes w5 Fn room nds ds (List.replicate i []) := hN4.keep (by omega) (fun j y h => hk5.block y (by have := hN4.lt h; omega) (fun e => by have := hFlt j y h; omega))
          have hN6 : Nodes w6 Fn room nds ds (List.replicate i []) := hN5.keep hz6 (fun j y h => hk6.block y (hN5.lt h) (fun e => a3 y e j h))
          have hF5w : ∀ y, F5 y → w1.heap.size ≤ y ∨ y = d := fun y hy => by
            rcases hF5 y hy with e | e | e
            · exact .inr e
            · cases e
            · exact .inl (by omega)
          have hF5A : ∀ y, F5 y → ablk An ≠ some y := fun y hy e => by
            have := hAnlt y e
            rcases hF5w y hy with h | h <;> omega
          have hn6 : NodeAt w6 F5 nd d room [] := hn5.keep hz6 (fun y hy => hk6.block y (hn5.lt hy) (hF5A y hy))
          have hnl : nds.length = i := by rw [hN.ln]; simp
          have hdl : ds.length = i := by rw [hN.ld]; simp
          have hNn : Nodes w6 (fun j => if j = i then F5 else Fn j) room (nds ++ [nd]) (ds ++ [d]) (List.replicate (i + 1) []) := by
            refine ⟨by simp [hnl], by simp [hdl], fun j nd' d' ps' e1 e2 e3 => ?_, fun j l y hjl hj hll => ?_, fun j y hj => ?_⟩
            · by_cases e : j = i
              · subst e
                rw [List.getElem?_append_right (by omega), hnl, Nat.sub_self] at e1
                rw [List.getElem?_append_right (by omega), hdl, Nat.sub_self] at e2
                cases e1
                cases e2
                have : ps' = [] := by
                  rw [List.getElem?_replicate] at e3
                  split at e3
                  · cases e3; rfl
                  · cases e3
                subst this
                rw [if_pos rfl]
                exact hn6
              · have hjn : j < i := by
                  have := (List.getElem?_eq_some_iff.1 e3).1
                  simp at this
                  omega
                rw [List.getElem?_append_left (by omega)] at e1
                rw [List.getElem?_append_left (by omega)] at e2
                rw [if_neg e]
                refine hN6.at_ j nd' d' ps' e1 e2 ?_
                rw [List.getElem?_replicate] at e3 ⊢
                rw [if_pos hjn]
                rw [if_pos (by omega)] at e3
                exact e3
            · by_cases e : j = i
              · rw [if_pos e] at hj
                rw [if_neg (by omega)] at hll
                have := hFlt l y hll
                rcases hF5w y hj with h | h <;> omega
              · rw [if_neg e] at hj
                by_cases e2 : l = i
                · rw [if_pos e2] at hll
                  have := hFlt j y hj
                  rcases hF5w y hll with h | h <;> omega
                · rw [if_neg e2] at hll
                  exact hN.apart j l y hjl hj hll
            · by_cases e : j = i
              · subst e; simp
              · rw [if_neg e] at hj
                have := hN.inn j y hj
                simp at this
                simp; omega
          have hno : ∀ y, y < wr.heap.size → (∀ j, ¬ Fn j y) → ∀ j, ¬ (if j = i then F5 else Fn j) y := fun y hy hn j hj => by
            by_cases e : j = i
            · rw [if_pos e] at hj
              rcases hF5w y hj with h | h <;> omega
            · rw [if_neg e] at hj
              exact hn j hj
          have hmap1 : (ds ++ [d]).map ptrV = ds.map ptrV ++ [ptrV d] := by simp
          have hmap2 : (nds ++ [nd]).map ptrV = nds.map ptrV ++ [ptrV nd] := by simp
          refine ⟨i + 1, Ad', cd', An', cn', nds ++ [nd], ds ++ [d], _, rfl, by omega, hl6.set_ 1 _, ?_, ?_, hNn.keep hkS.size (fun j y h => hkS.block y (hNn.lt h) (fun e => hno lg hllt a1 j (by rw [← e]; exact h))), fun j y hj => ?_, ⟨hno lg hllt a1, fun y e j hj => ?_, fun y e j hj => ?_⟩, ?_⟩
          · rw [hmap1]
            exact hd6.setCell (hd6.ne_blk hl6 (by decide)) _
          · rw [hmap2]
            exact ho6.setCell (ho6.ne_blk hl6 (by decide)) _
          · by_cases e : j = i
            · rw [if_pos e] at hj
              rcases hF5w y hj with h | h <;> omega
            · rw [if_neg e] at hj
              exact hF j y hj
          · rcases hAd2 y e with h | h
            · exact hno y (hAdlt y h) (a2 y h) j hj
            · have h3 := (ho3.lt e).2
              by_cases ej : j = i
              · rw [if_pos ej] at hj
                rcases hF5 y hj with e1 | e1 | e1
                · omega
                · cases e1
                · omega
              · rw [if_neg ej] at hj
                have := hFlt j y hj
                omega
          · rcases hAn2 y e with h | h
            · exact hno y (hAnlt y h) (a3 y h) j hj
            · by_cases ej : j = i
              · rw [if_pos ej] at hj
                have := hn5.lt hj
                omega
              · rw [if_neg ej] at hj
                have := hFlt j y hj
                omega
          · have hw1 : Below w.heap.size w w1 := hb.trans (hb1.mono hz)
            have hw3 := below_kp hw1 hk3 (fun y e => (hd.lt e).1) (by omega)
            have hw4 := below_kp hw3 hk4 (fun y e => by omega) (by omega)
            have hw5 : Below w.heap.size w w5 := below_kp (w := w4.drew) hw4.drew hk5 (fun y e => by omega) (by omega)
            have hw6 := below_kp hw5 hk6 (fun y e => (hm.lt e).1) (by omega)
            exact below_kp hw6 hkS (fun y e => by omega) (by omega)
        case measure => simp [intOf]; omega
    · obtain rfl : i = n := by omega
      go_wp2_with (first | (go_at_call 26; apply hold) | (at_builtin; apply hold))
      go_ret2
      have hlen : (List.replicate i ([] : List Cmd)).length = i := by simp
      refine ⟨lg, fun y => w.heap.size ≤ y ∧ y < wr.heap.size, rfl, ⟨Ad, cd, An, cn, none, 0, 0, nds, ds, Fn, hl, hd.mono (Nat.zero_le _), hm.mono (Nat.zero_le _), hlen, hN, ⟨[], Own.nil _ _ _ _, .nil⟩, ⟨⟨i1, hllt⟩, fun y e => hd.lt e, fun y e => hm.lt e, (fun y e => by cases e), fun j y h => ⟨hF j y h, hN.lt h⟩⟩, ⟨a1, a2, a3, fun y e => by cases e⟩, fun y h => h.2, hn1, by omega⟩, fun y h => h.1, hb⟩
end Go.Proofs.YtonkblhhknafbaaGreat
