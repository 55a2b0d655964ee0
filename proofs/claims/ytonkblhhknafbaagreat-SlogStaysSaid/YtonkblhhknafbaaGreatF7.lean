/- The walk of slot.Write. Whatever the heap holds beside. -/
import Derived.Test.YtonkblhhknafbaaGreatF6
namespace Go.Proofs.YtonkblhhknafbaaGreat
open Go.RowKit

/-- what noting a command comes to -/
def putC (room : Nat) (ps : List Cmd) (c : Cmd) : Int × List Cmd := if bytesOf (ps ++ [c]) ≤ room then (0, ps ++ [c]) else (3, ps)
/-- what Write comes to -/
def wstep (room : Nat) (ps : List Cmd) (e a : Nat) (x : List UInt8) : Int × List Cmd :=
  if e < (stOf ps).E then (7, ps) else
  match look (stOf ps).cs (a : Int) with
  | some (e0, x0) => if e ≤ e0 then (if e0 = e ∧ x0 = x then (0, ps) else (12, ps)) else putC room ps (.write e a x)
  | none => putC room ps (.write e a x)

theorem note_put (nd d room : Nat) (F : Nat → Prop) (ps : List Cmd) (cmd : Cmd) (hok : cmd.Ok) (w : World) (hn : NodeAt w F nd d room ps) (B : Option Addr) (k cB : Nat) (hp : Sl w B k (u8s cmd.enc)) (hB : ∀ x, ablk B = some x → ¬ F x) :
    Calls Tryz.prog 56 #[.pointer (some ⟨nd, 0, none⟩), .slice B k cB] w fun e w' => ∃ F' : Nat → Prop, e = .returned (.int .i64 (putC room ps cmd).1) ∧ NodeAt w' F' nd d room (putC room ps cmd).2 ∧ (∀ x, F' x → F x ∨ w.heap.size ≤ x) ∧ Kp F w w' := by
  unfold putC
  by_cases hfit : bytesOf (ps ++ [cmd]) ≤ room
  · rw [if_pos hfit]
    exact note_any nd d room F ps cmd hok w hn B k cB hp hB hfit
  · rw [if_neg hfit]
    refine (note_full nd d room F ps cmd hok w hn B k cB hp (by omega)).mono ?_
    rintro e w' ⟨rfl, hb⟩
    exact ⟨F, rfl, hn.below hb, fun x h => .inl h, Kp.below hb⟩

set_option maxRecDepth 100000 in
set_option maxHeartbeats 2000000 in
theorem write_any (nd d room : Nat) (F : Nat → Prop) (ps : List Cmd) (e a : Nat) (x : List UInt8) (he : e ≤ 1048576) (ha : a < 4096) (hx : x.length ≤ 2048) (w : World) (hn : NodeAt w F nd d room ps) (B : Option Addr) (k cB : Nat) (hp : Sl w B k (u8s x)) :
    Calls Tryz.prog 66 #[.pointer (some ⟨nd, 0, none⟩), .int .i64 e, .int .i64 a, .slice B k cB] w fun q w' => q = .returned (.int .i64 (wstep room ps e a x).1) ∧ ∃ F' : Nat → Prop, NodeAt w' F' nd d room (wstep room ps e a x).2 ∧ (∀ x, F' x → F x ∨ w.heap.size ≤ x) ∧ Kp F w w' := by
  have hn' := hn
  obtain ⟨sg, mb, A, c, torn, xs, A1, c1, G, h1, h2, h3, h4, h5, h6, h7, ⟨f1, f2, f3, f4, f5, f6⟩, h9, h10, h11, h12⟩ := hn'
  have hxl : x.length = k := by have := hp.1; rwa [u8s_len] at this
  obtain ⟨j0, j1, j2, e0, e1, e2⟩ := Blk.c3 h1
  obtain ⟨l, hml, hrel⟩ := h6
  have hlk : Keys l := hrel.nodup.2 (stOf_keys ps)
  have hlt := h1.lt
  have hmlt := hml.lt
  have hok : (Cmd.write e a x).Ok := ⟨he, ha, hx⟩
  have g1 : decide ((4096 : Int) ≤ (a : Int)) = false := by simp; omega
  have g0 : decide ((a : Int) < 0) = false := by simp
  have g0' : decide ((e : Int) < 0) = false := by simp
  have g2 : decide ((1048576 : Int) < (e : Int)) = false := by simp; omega
  have g3 : decide ((2048 : Int) < (k : Int)) = false := by simp; omega
  have gw : IntKind.u64.wrap (e : Int) = (e : Int) := by rw [IntKind.wrap_u64]; omega
  have ga : IntKind.u64.wrap (a : Int) = (a : Int) := by rw [IntKind.wrap_u64]; omega
  go_enter Tryz.func66, Tryz.ntmps66
  by_cases hE : e < (stOf ps).E
  · have g4 : decide ((e : Int) < ((stOf ps).E : Int)) = true := by simp; omega
    go_wp2_with fail
    go_ret
    have hw : wstep room ps e a x = (7, ps) := by unfold wstep; rw [if_pos hE]
    rw [hw]
    exact ⟨rfl, F, hn, fun x h => .inl h, Kp.refl _ _⟩
  · have g4 : decide ((e : Int) < ((stOf ps).E : Int)) = false := by simp; omega
    go_wp2_with (at_lookup; apply hold)
    cases hlook : look (stOf ps).cs (a : Int) with
    | none =>
      have hll := hrel.none hlook
      have hw : wstep room ps e a x = putC room ps (.write e a x) := by unfold wstep; rw [if_neg hE, hlook]
      refine unhold (op_look rfl _ _ 106 true rfl Tryz.underlying106 Tryz.underlying3 Tryz.zero77 rfl hml hlk (a : Int) rfl ?_)
      rw [hll]
      simp only [if_true, Option.getD_none, Option.isSome_none]
      go_wp2_with (first | (go_at_call 89; apply hold) | (go_at_call 57; apply hold) | (go_at_call 90; apply hold) | (go_at_call 56; apply hold))
      have hb0 : Below w.heap.size w (w.alloc (.cells #[.int .i64 0, .int .i64 0, .slice none 0 0] 77)) := (Below.refl _ _).alloc (Nat.le_refl _) _
      obtain ⟨w0, hw0⟩ : ∃ w0, w0 = w.alloc (.cells #[.int .i64 0, .int .i64 0, .slice none 0 0] 77) := ⟨_, rfl⟩
      rw [← hw0] at hb0 ⊢
      clear hw0
      have hz0 := hb0.size
      refine unhold ((uint_any none 0 0 1 [] w0 (Sl.nil _) (by omega) (by omega)).mono ?_)
      rintro q w1 ⟨A2, n2, c2, rfl, o1, hb1⟩
      have hz1 := hb1.size
      rw [List.nil_append] at o1
      have l1 := o1.len
      have u1 := uvar_len1 1 (by omega)
      go_wp2_with (first | (go_at_call 89; apply hold) | (go_at_call 57; apply hold) | (go_at_call 90; apply hold) | (go_at_call 56; apply hold))
      refine unhold ((uint_any A2 n2 c2 e (uvar 1) w1 o1.sl (by omega) (by omega)).mono ?_)
      rintro q w2 ⟨A3, n3, c3, rfl, o2, hb2⟩
      have hz2 := hb2.size
      have l2 := o2.len
      have u2 := uvar_len3 e (by omega)
      rw [List.length_append] at l2
      go_wp2_with (first | (go_at_call 89; apply hold) | (go_at_call 57; apply hold) | (go_at_call 90; apply hold) | (go_at_call 56; apply hold))
      refine unhold ((uint_any A3 n3 c3 a _ w2 o2.sl (by omega) (by omega)).mono ?_)
      rintro q w3 ⟨A4, n4, c4, rfl, o3, hb3⟩
      have hz3 := hb3.size
      have l3 := o3.len
      have u3 := uvar_len2 a (by omega)
      rw [List.length_append, List.length_append] at l3
      go_wp2_with (first | (go_at_call 89; apply hold) | (go_at_call 57; apply hold) | (go_at_call 90; apply hold) | (go_at_call 56; apply hold))
      have hb03 : Below w.heap.size w w3 := ((hb0.trans (hb1.mono hz0)).trans (hb2.mono (Nat.le_trans hz0 hz1))).trans (hb3.mono (Nat.le_trans hz0 (Nat.le_trans hz1 hz2)))
      refine unhold ((bytes_any A4 n4 c4 _ B k cB x w3 o3.sl (hp.below hb03) (by omega) (by omega)).mono ?_)
      rintro q w4 ⟨A5, n5, c5, rfl, o4, hb4⟩
      have hz4 := hb4.size
      have hb04 : Below w.heap.size w w4 := hb03.trans (hb4.mono hb03.size)
      have henc : uvar 1 ++ uvar e ++ uvar a ++ uvar x.length ++ x = (Cmd.write e a x).enc := by simp [Cmd.enc]
      rw [henc] at o4
      go_wp2_with (first | (go_at_call 89; apply hold) | (go_at_call 57; apply hold) | (go_at_call 90; apply hold) | (go_at_call 56; apply hold))
      refine unhold ((note_put nd d room F ps _ hok w4 (hn.below hb04) A5 n5 c5 o4.sl (fun y hy hF => by have := h9 y hF; have := (o4.lt hy).1; have := hb03.size; omega)).mono ?_)
      rintro q w5 ⟨F', rfl, k1, k2, k3⟩
      go_wp2_with fail
      go_ret
      rw [hw]
      exact ⟨rfl, F', k1, fun y hy => by
        rcases k2 y hy with h | h
        · exact .inl h
        · exact .inr (Nat.le_trans hb04.size h), (Kp.below (S := F) hb04).trans k3 (fun _ _ h => h)⟩
    | some c =>
      obtain ⟨ep, x0⟩ := c
      obtain ⟨v0, hv0, A0, n0, k0, rfl, hs0, hn0, hk0, hf0⟩ := hrel.some hlook
      refine unhold (op_look rfl _ _ 106 true rfl Tryz.underlying106 Tryz.underlying3 Tryz.zero77 rfl hml hlk (a : Int) rfl ?_)
      rw [hv0]
      simp only [if_true, Option.getD_some, Option.isSome_some]
      by_cases hge : e ≤ ep
      · have g5 : decide ((e : Int) ≤ (ep : Int)) = true := by simp; omega
        by_cases hee : ep = e
        · subst hee
          go_wp2_with (first | (go_at_call 89; apply hold) | (go_at_call 57; apply hold) | (go_at_call 90; apply hold) | (go_at_call 56; apply hold))
          have hx0l : x0.length = n0 := by have := hs0.1; rwa [u8s_len] at this
          refine unhold ((equal_any A0 n0 k0 x0 B k cB x _ (hs0.alloc _) (hp.alloc _) (by omega)).mono ?_)
          rintro q w1 ⟨rfl, qn, rfl⟩
          by_cases hxx : x0 = x
          · have g7 : decide (x0 = x) = true := by simp [hxx]
            rw [g7]
            go_wp2_with (first | (go_at_call 89; apply hold) | (go_at_call 57; apply hold) | (go_at_call 90; apply hold) | (go_at_call 56; apply hold))
            go_ret
            have hw : wstep room ps ep a x = (0, ps) := by unfold wstep; rw [if_neg hE, hlook]; simp [hxx]
            rw [hw]
            exact ⟨rfl, F, hn.below (((Below.refl _ _).alloc (Nat.le_refl _) _).trans (below_drewN (Below.refl _ _) qn)), fun x h => .inl h, ((Kp.refl _ _).alloc _).drewN _⟩
          · have g7 : decide (x0 = x) = false := by simp [hxx]
            rw [g7]
            go_wp2_with (first | (go_at_call 89; apply hold) | (go_at_call 57; apply hold) | (go_at_call 90; apply hold) | (go_at_call 56; apply hold))
            go_ret
            have hw : wstep room ps ep a x = (12, ps) := by unfold wstep; rw [if_neg hE, hlook]; simp [hxx]
            rw [hw]
            exact ⟨rfl, F, hn.below (((Below.refl _ _).alloc (Nat.le_refl _) _).trans (below_drewN (Below.refl _ _) qn)), fun x h => .inl h, ((Kp.refl _ _).alloc _).drewN _⟩
        · have g6 : decide ((ep : Int) = (e : Int)) = false := by simp; omega
          go_wp2_with (first | (go_at_call 89; apply hold) | (go_at_call 57; apply hold) | (go_at_call 90; apply hold) | (go_at_call 56; apply hold))
          go_ret
          have hw : wstep room ps e a x = (12, ps) := by unfold wstep; rw [if_neg hE, hlook]; simp [hge, hee]
          rw [hw]
          exact ⟨rfl, F, hn.below ((Below.refl _ _).alloc (Nat.le_refl _) _), fun x h => .inl h, (Kp.refl _ _).alloc _⟩
      · have g5 : decide ((e : Int) ≤ (ep : Int)) = false := by simp; omega
        have hw : wstep room ps e a x = putC room ps (.write e a x) := by unfold wstep; rw [if_neg hE, hlook]; simp [hge]
        go_wp2_with (first | (go_at_call 89; apply hold) | (go_at_call 57; apply hold) | (go_at_call 90; apply hold) | (go_at_call 56; apply hold))
        have hb0 : Below w.heap.size w (w.alloc (.cells #[.int .i64 (a : Int), .int .i64 (ep : Int), .slice A0 n0 k0] 77)) := (Below.refl _ _).alloc (Nat.le_refl _) _
        obtain ⟨w0, hw0⟩ : ∃ w0, w0 = w.alloc (.cells #[.int .i64 (a : Int), .int .i64 (ep : Int), .slice A0 n0 k0] 77) := ⟨_, rfl⟩
        rw [← hw0] at hb0 ⊢
        clear hw0
        have hz0 := hb0.size
        refine unhold ((uint_any none 0 0 1 [] w0 (Sl.nil _) (by omega) (by omega)).mono ?_)
        rintro q w1 ⟨A2, n2, c2, rfl, o1, hb1⟩
        have hz1 := hb1.size
        rw [List.nil_append] at o1
        have l1 := o1.len
        have u1 := uvar_len1 1 (by omega)
        go_wp2_with (first | (go_at_call 89; apply hold) | (go_at_call 57; apply hold) | (go_at_call 90; apply hold) | (go_at_call 56; apply hold))
        refine unhold ((uint_any A2 n2 c2 e (uvar 1) w1 o1.sl (by omega) (by omega)).mono ?_)
        rintro q w2 ⟨A3, n3, c3, rfl, o2, hb2⟩
        have hz2 := hb2.size
        have l2 := o2.len
        have u2 := uvar_len3 e (by omega)
        rw [List.length_append] at l2
        go_wp2_with (first | (go_at_call 89; apply hold) | (go_at_call 57; apply hold) | (go_at_call 90; apply hold) | (go_at_call 56; apply hold))
        refine unhold ((uint_any A3 n3 c3 a _ w2 o2.sl (by omega) (by omega)).mono ?_)
        rintro q w3 ⟨A4, n4, c4, rfl, o3, hb3⟩
        have hz3 := hb3.size
        have l3 := o3.len
        have u3 := uvar_len2 a (by omega)
        rw [List.length_append, List.length_append] at l3
        go_wp2_with (first | (go_at_call 89; apply hold) | (go_at_call 57; apply hold) | (go_at_call 90; apply hold) | (go_at_call 56; apply hold))
        have hb03 : Below w.heap.size w w3 := ((hb0.trans (hb1.mono hz0)).trans (hb2.mono (Nat.le_trans hz0 hz1))).trans (hb3.mono (Nat.le_trans hz0 (Nat.le_trans hz1 hz2)))
        refine unhold ((bytes_any A4 n4 c4 _ B k cB x w3 o3.sl (hp.below hb03) (by omega) (by omega)).mono ?_)
        rintro q w4 ⟨A5, n5, c5, rfl, o4, hb4⟩
        have hz4 := hb4.size
        have hb04 : Below w.heap.size w w4 := hb03.trans (hb4.mono hb03.size)
        have henc : uvar 1 ++ uvar e ++ uvar a ++ uvar x.length ++ x = (Cmd.write e a x).enc := by simp [Cmd.enc]
        rw [henc] at o4
        go_wp2_with (first | (go_at_call 89; apply hold) | (go_at_call 57; apply hold) | (go_at_call 90; apply hold) | (go_at_call 56; apply hold))
        refine unhold ((note_put nd d room F ps _ hok w4 (hn.below hb04) A5 n5 c5 o4.sl (fun y hy hF => by have := h9 y hF; have := (o4.lt hy).1; have := hb03.size; omega)).mono ?_)
        rintro q w5 ⟨F', rfl, k1, k2, k3⟩
        go_wp2_with fail
        go_ret
        rw [hw]
        exact ⟨rfl, F', k1, fun y hy => by
          rcases k2 y hy with h | h
          · exact .inl h
          · exact .inr (Nat.le_trans hb04.size h), (Kp.below (S := F) hb04).trans k3 (fun _ _ h => h)⟩
end Go.Proofs.YtonkblhhknafbaaGreat
