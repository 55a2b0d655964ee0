/- The walk of slot.redo over the commands of a node. Whatever the heap holds beside. -/
import Derived.Test.YtonkblhhknafbaaGreatF3
import Derived.Test.YtonkblhhknafbaaGreatP1
namespace Go.Proofs.YtonkblhhknafbaaGreat
open Go.RowKit

def NodeC (sg : Nat) (E : Nat) (mb : Nat) : Array Value := #[.pointer (some ⟨sg, 0, none⟩), .int .i64 (E : Int), .map (some mb)]

set_option maxRecDepth 100000 in
set_option maxHeartbeats 2000000 in
theorem redo_up (nd sg mb : Nat) (E : Nat) (e : Nat) (he : e ≤ 1048576) (w : World) (hnd : Blk w nd 108 (NodeC sg E mb)) (B : Option Addr) (k cB : Nat) (hp : Sl w B k (u8s (Cmd.up e).enc)) :
    Calls Tryz.prog 52 #[.pointer (some ⟨nd, 0, none⟩), .slice B k cB] w fun x w' => x = .returned (.tuple #[]) ∧ Blk w' nd 108 (NodeC sg (if E < e then e else E) mb) ∧ Kp (· = nd) w w' := by
  have hlt := hnd.lt
  have hen : (Cmd.up e).enc = uvar 2 ++ uvar e := rfl
  obtain ⟨bs, hbs⟩ : ∃ bs, bs = (Cmd.up e).enc := ⟨_, rfl⟩
  have hkb : k ≤ 10000000 := by
    have h1 := hp.1
    rw [u8s_len] at h1
    have := Cmd.enc_len (c := .up e) he
    omega
  rw [← hbs] at hp hen
  have Hbs := hide hen
  clear hen hbs
  go_enter Tryz.func52, Tryz.ntmps52
  go_wp2_with (first | (go_at_call 78; apply hold) | (go_at_call 79; apply hold) | (go_at_call 80; apply hold) | (go_at_call 81; apply hold))
  refine unhold ((from_any B k cB bs w hp hkb).mono ?_)
  rintro x w1 ⟨r, A1, c1, rfl, hr1, hb1, ho1, hne1, hbl1⟩
  have hrd : Rdr w1 r bs := ⟨A1, k, c1, hb1, ho1.sl, ho1.cap.1, ho1.cap.2, hne1⟩
  have hnd1 := below_blk hbl1 hnd hlt
  have hndr : nd ≠ r := by omega
  go_wp2_with (first | (go_at_call 78; apply hold) | (go_at_call 79; apply hold) | (go_at_call 80; apply hold) | (go_at_call 81; apply hold))
  refine unhold ((ruint_any r 2 (uvar e) bs Hbs.out w1 hrd (by omega)).mono ?_)
  rintro x w2 ⟨rfl, hrd2, hk2⟩
  go_wp2_with (first | (go_at_call 78; apply hold) | (go_at_call 79; apply hold) | (go_at_call 80; apply hold) | (go_at_call 81; apply hold))
  refine unhold ((ruint_any r e [] (uvar e) (by simp) w2 hrd2 (by omega)).mono ?_)
  rintro x w3 ⟨rfl, hrd3, hk3⟩
  have hnd3 := hk3.blk (hk2.blk hnd1 hndr) hndr
  obtain ⟨j0, j1, j2, f0, f1, f2⟩ := Blk.c3 hnd3
  have g1 : decide ((1048576 : Int) < (e : Int)) = false := by simp; omega
  go_wp2_with (first | (go_at_call 78; apply hold) | (go_at_call 79; apply hold) | (go_at_call 80; apply hold) | (go_at_call 81; apply hold))
  refine unhold ((left_any r [] w3 hrd3).mono ?_)
  rintro x w4 ⟨rfl, rfl⟩
  have gw : IntKind.i64.wrap (e : Int) = (e : Int) := by rw [IntKind.wrap_i64]; omega
  have hkp : Kp (· = nd) w w3 := ((Kp.below (S := (· = nd)) hbl1).trans hk2 (fun x h e => by omega)).trans hk3 (fun x h e => by omega)
  by_cases hE : E < e
  · have g2 : decide ((E : Int) < (e : Int)) = true := by simp; omega
    go_wp2_with fail
    go_end0
    exact ⟨rfl, hnd3.set_ 1 _, hkp.setCell (fun _ => rfl) _⟩
  · have g2 : decide ((E : Int) < (e : Int)) = false := by simp; omega
    go_wp2_with fail
    go_end0
    exact ⟨rfl, hnd3, hkp⟩

theorem Tryz.zero77 (w : World) : (zeroValue 77).run Tryz.prog w = .ok (.agg #[.int .i64 0, .int .i64 0, .slice none 0 0]) w := by kernel_rfl

/-- what a node's map holds -/
def MapC (w : World) (F : Nat → Prop) (mb : Nat) (cs : List (Int × (Nat × List UInt8))) : Prop := ∃ l, MapV w mb l ∧ Rel2 (CellV w F) l cs
theorem MapC.lt {w : World} {F : Nat → Prop} {mb : Nat} {cs : List (Int × (Nat × List UInt8))} (h : MapC w F mb cs) : mb < w.heap.size := by
  obtain ⟨l, h1, _⟩ := h
  exact h1.lt
theorem MapC.keep {w w' : World} {F F' : Nat → Prop} {mb : Nat} {cs : List (Int × (Nat × List UInt8))} (h : MapC w F mb cs) (hz : w.heap.size ≤ w'.heap.size) (hm : w'.heap[mb]? = w.heap[mb]?) (hk : ∀ k, F k → k < w.heap.size → w'.heap[k]? = w.heap[k]?) (hF : ∀ k, F k → F' k) : MapC w' F' mb cs := by
  obtain ⟨l, h1, h2⟩ := h
  exact ⟨l, h1.of_eq hm, All2.imp h2 (fun p q _ _ h => ⟨h.1, h.2.keep hz hk hF⟩)⟩

set_option maxRecDepth 100000 in
set_option maxHeartbeats 2000000 in
theorem redo_write (nd sg mb : Nat) (F : Nat → Prop) (s : St) (e a : Nat) (xs : List UInt8) (hok : (Cmd.write e a xs).Ok) (w : World) (hnd : Blk w nd 108 (NodeC sg s.E mb)) (hm : MapC w F mb s.cs) (hkeys : Keys s.cs) (hFn : ∀ k, F k → k ≠ nd ∧ k ≠ mb) (B : Option Addr) (k cB : Nat) (hp : Sl w B k (u8s (Cmd.write e a xs).enc)) :
    Calls Tryz.prog 52 #[.pointer (some ⟨nd, 0, none⟩), .slice B k cB] w fun x w' => x = .returned (.tuple #[]) ∧ Blk w' nd 108 (NodeC sg (act s (.write e a xs)).E mb) ∧ MapC w' (fun k => F k ∨ w.heap.size ≤ k) mb (act s (.write e a xs)).cs ∧ Kp (fun k => k = nd ∨ k = mb) w w' := by
  have hlt := hnd.lt
  have hmlt := hm.lt
  obtain ⟨l, hml, hrel⟩ := hm
  have hmn : mb ≠ nd := hml.ne_blk hnd
  have hen : (Cmd.write e a xs).enc = uvar 1 ++ (uvar e ++ (uvar a ++ (uvar xs.length ++ xs))) := rfl
  obtain ⟨bs, hbs⟩ : ∃ bs, bs = (Cmd.write e a xs).enc := ⟨_, rfl⟩
  have hkb : k ≤ 10000000 := by
    have h1 := hp.1
    rw [u8s_len] at h1
    have := Cmd.enc_len hok
    omega
  obtain ⟨he, ha, hx⟩ := hok
  rw [← hbs] at hp hen
  have Hbs := hide hen
  clear hen hbs
  go_enter Tryz.func52, Tryz.ntmps52
  go_wp2_with (first | (go_at_call 78; apply hold) | (go_at_call 79; apply hold) | (go_at_call 80; apply hold) | (go_at_call 81; apply hold))
  refine unhold ((from_any B k cB bs w hp hkb).mono ?_)
  rintro x w1 ⟨r, A1, c1, rfl, hr1, hb1, ho1, hne1, hbl1⟩
  have hrd : Rdr w1 r bs := ⟨A1, k, c1, hb1, ho1.sl, ho1.cap.1, ho1.cap.2, hne1⟩
  have hz1 := hbl1.size
  have hnd1 := below_blk hbl1 hnd hlt
  have hml1 : MapV w1 mb l := hml.of_eq (hbl1.block _ hmlt)
  have hndr : nd ≠ r := by omega
  have hmr : mb ≠ r := by omega
  go_wp2_with (first | (go_at_call 78; apply hold) | (go_at_call 79; apply hold) | (go_at_call 80; apply hold) | (go_at_call 81; apply hold))
  refine unhold ((ruint_any r 1 _ bs Hbs.out w1 hrd (by omega)).mono ?_)
  rintro x w2 ⟨rfl, hrd2, hk2⟩
  have hz2 := hk2.size
  go_wp2_with (first | (go_at_call 78; apply hold) | (go_at_call 79; apply hold) | (go_at_call 80; apply hold) | (go_at_call 81; apply hold))
  refine unhold ((ruint_any r e _ _ rfl w2 hrd2 (by omega)).mono ?_)
  rintro x w3 ⟨rfl, hrd3, hk3⟩
  have hz3 := hk3.size
  have g1 : decide ((1048576 : Int) < (e : Int)) = false := by simp; omega
  go_wp2_with (first | (go_at_call 78; apply hold) | (go_at_call 79; apply hold) | (go_at_call 80; apply hold) | (go_at_call 81; apply hold))
  refine unhold ((ruint_any r a _ _ rfl w3 hrd3 (by omega)).mono ?_)
  rintro x w4 ⟨rfl, hrd4, hk4⟩
  have hz4 := hk4.size
  go_wp2_with (first | (go_at_call 78; apply hold) | (go_at_call 79; apply hold) | (go_at_call 80; apply hold) | (go_at_call 81; apply hold))
  refine unhold ((rbytes_any r xs [] _ (by simp) w4 hrd4 (by omega)).mono ?_)
  rintro x w5 ⟨A5, c5, rfl, ho5, hrd5, hk5⟩
  have hz5 := hk5.size
  have hnd5 := hk5.blk (hk4.blk (hk3.blk (hk2.blk hnd1 hndr) hndr) hndr) hndr
  have hml5 : MapV w5 mb l := (((hml1.of_eq (hk2.block _ hml1.lt hmr)).of_eq (hk3.block _ (by omega) hmr)).of_eq (hk4.block _ (by omega) hmr)).of_eq (hk5.block _ (by omega) hmr)
  have hkp5 : Kp Nobody w w5 := ((((Kp.below (S := Nobody) hbl1).trans hk2 (fun x h e => by omega)).trans hk3 (fun x h e => by omega)).trans hk4 (fun x h e => by omega)).trans hk5 (fun x h e => by omega)
  obtain ⟨j0, j1, j2, f0, f1, f2⟩ := Blk.c3 hnd5
  have hlt5 := hnd5.lt
  go_wp2_with (first | (go_at_call 78; apply hold) | (go_at_call 79; apply hold) | (go_at_call 80; apply hold) | (go_at_call 81; apply hold))
  refine unhold ((left_any r [] w5 hrd5).mono ?_)
  rintro x w6 ⟨rfl, rfl⟩
  have g2 : decide ((4096 : Int) ≤ (a : Int)) = false := by simp; omega
  have g3 : decide ((2048 : Int) < (xs.length : Int)) = false := by simp; omega
  have gw : IntKind.i64.wrap (e : Int) = (e : Int) := by rw [IntKind.wrap_i64]; omega
  have ga : IntKind.i64.wrap (a : Int) = (a : Int) := by rw [IntKind.wrap_i64]; omega
  by_cases hE : e < s.E
  · have g4 : decide ((e : Int) < (s.E : Int)) = true := by simp; omega
    go_wp2_with fail
    refine bodyPost_ret (results_none rfl _ _ _) rfl ?_
    have hact : act s (.write e a xs) = s := by simp [act, hE]
    rw [hact]
    refine ⟨rfl, hnd5, ⟨l, hml5, All2.imp hrel (fun p q _ _ h => ⟨h.1, h.2.keep hkp5.size (fun k hk hlt => hkp5.block k hlt (fun h => h)) (fun k h => .inl h)⟩)⟩, hkp5.mono (fun _ _ h => h.elim)⟩
  · have g4 : decide ((e : Int) < (s.E : Int)) = false := by simp; omega
    have hrel5 : Rel2 (CellV w5 (fun k => F k ∨ w.heap.size ≤ k)) l s.cs := All2.imp hrel (fun p q _ _ h => ⟨h.1, h.2.keep hkp5.size (fun k hk hlt => hkp5.block k hlt (fun h => h)) (fun k h => .inl h)⟩)
    have hlk : Keys l := hrel.nodup.2 hkeys
    have hnew : CellV w5 (fun k => F k ∨ w.heap.size ≤ k) (a : Int) (.agg #[.int .i64 (a : Int), .int .i64 (e : Int), .slice A5 xs.length c5]) (e, xs) := ⟨A5, xs.length, c5, rfl, ho5.sl, ho5.cap.1, ho5.cap.2, fun k hk => ⟨.inr (by have := (ho5.lt hk).1; omega), (ho5.lt hk).2⟩⟩
    have hup := hrel5.upd hnew
    go_wp2_with (at_lookup; apply hold)
    cases hlook : look s.cs (a : Int) with
    | none =>
      have hll := hrel.none hlook
      refine unhold (op_look rfl _ _ 106 true rfl Tryz.underlying106 Tryz.underlying3 Tryz.zero77 rfl hml5 hlk (a : Int) rfl ?_)
      rw [hll]
      simp only [if_true, Option.getD_none, Option.isSome_none]
      go_wp2_with (at_mapUpdate; apply hold)
      refine unhold (op_upd rfl _ _ _ 106 rfl Tryz.underlying106 Tryz.underlying3 rfl (hml5.alloc _) hlk (a : Int) rfl _ rfl ?_)
      intro w6 hml6 hk6
      go_wp2_with fail
      go_end0
      have hact : act s (.write e a xs) = { s with cs := upd s.cs (a : Int) (e, xs) } := by simp [act, hE, fresh, hlook]
      rw [hact]
      have hz6 := hk6.size
      rw [World.size_alloc] at hz6
      refine ⟨rfl, hk6.blk (hnd5.alloc _) hmn.symm, ⟨_, hml6, All2.imp hup (fun p q _ _ h => ⟨h.1, h.2.keep (by omega) (fun k hk hlt => (hk6.block k (by simp; omega) (fun e => by rcases hk with h | h; exact (hFn k h).2 e; omega)).trans (Below.heap_alloc _ _ _ hlt)) (fun k h => h)⟩)⟩, ((hkp5.mono (S' := fun k => k = nd ∨ k = mb) (fun _ _ h => h.elim)).alloc _).trans hk6 (fun x _ e => .inr e)⟩
    | some c =>
      obtain ⟨e0, x0⟩ := c
      obtain ⟨v0, hv0, A0, n0, k0, rfl, hs0, hn0, hk0, hf0⟩ := hrel.some hlook
      refine unhold (op_look rfl _ _ 106 true rfl Tryz.underlying106 Tryz.underlying3 Tryz.zero77 rfl hml5 hlk (a : Int) rfl ?_)
      rw [hv0]
      simp only [if_true, Option.getD_some, Option.isSome_some]
      by_cases hE0 : e0 < e
      · have g5 : decide ((e0 : Int) < (e : Int)) = true := by simp; omega
        go_wp2_with (at_mapUpdate; apply hold)
        refine unhold (op_upd rfl _ _ _ 106 rfl Tryz.underlying106 Tryz.underlying3 rfl (hml5.alloc _) hlk (a : Int) rfl _ rfl ?_)
        intro w6 hml6 hk6
        go_wp2_with fail
        go_end0
        have hact : act s (.write e a xs) = { s with cs := upd s.cs (a : Int) (e, xs) } := by simp [act, hE, fresh, hlook, hE0]
        rw [hact]
        have hz6 := hk6.size
        rw [World.size_alloc] at hz6
        refine ⟨rfl, hk6.blk (hnd5.alloc _) hmn.symm, ⟨_, hml6, All2.imp hup (fun p q _ _ h => ⟨h.1, h.2.keep (by omega) (fun k hk hlt => (hk6.block k (by simp; omega) (fun e => by rcases hk with h | h; exact (hFn k h).2 e; omega)).trans (Below.heap_alloc _ _ _ hlt)) (fun k h => h)⟩)⟩, ((hkp5.mono (S' := fun k => k = nd ∨ k = mb) (fun _ _ h => h.elim)).alloc _).trans hk6 (fun x _ e => .inr e)⟩
      · have g5 : decide ((e0 : Int) < (e : Int)) = false := by simp; omega
        go_wp2_with (at_mapUpdate; apply hold)
        go_end0
        have hact : act s (.write e a xs) = s := by simp [act, hE, fresh, hlook, hE0]
        rw [hact]
        exact ⟨rfl, hnd5.alloc _, ⟨l, hml5.alloc _, All2.imp hrel5 (fun p q _ _ h => ⟨h.1, h.2.keep (by simp) (fun k _ hlt => Below.heap_alloc _ _ _ hlt) (fun k h => h)⟩)⟩, (hkp5.alloc _).mono (fun _ _ h => h.elim)⟩
end Go.Proofs.YtonkblhhknafbaaGreat
