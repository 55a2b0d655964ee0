/- The walk of slot's note; what a node holds (NodeAt). Whatever the heap holds beside. -/
import Derived.Test.YtonkblhhknafbaaGreatF4
namespace Go.Proofs.YtonkblhhknafbaaGreat
open Go.RowKit

def encs (ps : List Cmd) : List (List UInt8) := ps.map Cmd.enc
def bytesOf (ps : List Cmd) : Nat := (catF (encs ps)).length
theorem encs_snoc (ps : List Cmd) (c : Cmd) : encs (ps ++ [c]) = encs ps ++ [c.enc] := by simp [encs]
theorem bytesOf_snoc (ps : List Cmd) (c : Cmd) : bytesOf (ps ++ [c]) = bytesOf ps + (frameB c.enc).length := by
  unfold bytesOf
  rw [encs_snoc, catF_app, catF_one, List.length_append]
theorem len_bytesOf (ps : List Cmd) : ps.length ≤ bytesOf ps := by
  unfold bytesOf encs
  induction ps with
  | nil => simp
  | cons p l ih => rw [List.map_cons, catF_cons, List.length_append, frameB_len]; simp; omega
theorem act_keys {s : St} (h : Keys s.cs) (c : Cmd) : Keys (act s c).cs := by
  cases c with
  | up e => simp only [act]; split <;> exact h
  | write e a x =>
    simp only [act]
    split
    · exact h
    · split
      · exact upd_keys h
      · exact h
theorem acts_keys (l : List Cmd) : ∀ {s : St}, Keys s.cs → Keys (acts s l).cs := by
  induction l with
  | nil => intro s h; exact h
  | cons c l ih => intro s h; exact ih (act_keys h c)
theorem Keys.nil {β : Type} : Keys ([] : List (Int × β)) := by simp [Keys]
/-- what a node's commands come to -/
def stOf (ps : List Cmd) : St := acts St.none ps
theorem stOf_snoc (ps : List Cmd) (c : Cmd) : stOf (ps ++ [c]) = act (stOf ps) c := acts_snoc _ _ _
theorem stOf_keys (ps : List Cmd) : Keys (stOf ps).cs := acts_keys ps Keys.nil

/-- a node, and the blocks that are its own -/
def NodeAt (w : World) (F : Nat → Prop) (nd d room : Nat) (ps : List Cmd) : Prop :=
  ∃ (sg mb : Nat) (A : Option Addr) (c : Nat) (torn : Int) (xs : List Value) (A1 : Option Addr) (c1 : Nat) (G : Nat → Prop),
    Blk w nd 108 (NodeC sg (stOf ps).E mb) ∧ Blk w sg 139 (SegC d A ps.length c torn) ∧ Own w 0 32 1 A ps.length c xs ∧
    DiskAt w d room A1 (bytesOf ps) c1 (bytesOf ps) ∧ Dat w A1 (bytesOf ps) c1 (catF (encs ps)) ∧ MapC w G mb (stOf ps).cs ∧
    (∀ k, G k → F k ∧ k ≠ nd ∧ k ≠ sg ∧ k ≠ mb ∧ k ≠ d ∧ ablk A ≠ some k ∧ ablk A1 ≠ some k) ∧
    (F nd ∧ F sg ∧ F mb ∧ F d ∧ (∀ k, ablk A = some k → F k) ∧ (∀ k, ablk A1 = some k → F k)) ∧
    (∀ k, F k → k < w.heap.size) ∧ (∀ p ∈ ps, p.Ok) ∧ room ≤ 1048576 ∧ bytesOf ps ≤ room
theorem NodeAt.keep {w w' : World} {F : Nat → Prop} {nd d room : Nat} {ps : List Cmd} (h : NodeAt w F nd d room ps) (hz : w.heap.size ≤ w'.heap.size) (hk : ∀ k, F k → w'.heap[k]? = w.heap[k]?) : NodeAt w' F nd d room ps := by
  obtain ⟨sg, mb, A, c, torn, xs, A1, c1, G, h1, h2, h3, h4, h5, h6, h7, ⟨f1, f2, f3, f4, f5, f6⟩, h9, h10, h11, h12⟩ := h
  exact ⟨sg, mb, A, c, torn, xs, A1, c1, G, h1.of_eq (hk _ f1), h2.of_eq (hk _ f2), h3.keep (fun k e _ => hk k (f5 k e)), Blk.of_eq h4 (hk _ f4), h5.keep (fun k e _ => hk k (f6 k e)),
    h6.keep hz (hk _ f3) (fun k hg _ => hk k (h7 k hg).1) (fun _ h => h), h7, ⟨f1, f2, f3, f4, f5, f6⟩, fun k hf => Nat.lt_of_lt_of_le (h9 k hf) hz, h10, h11, h12⟩
theorem NodeAt.below {w w' : World} {F : Nat → Prop} {nd d room : Nat} {ps : List Cmd} (h : NodeAt w F nd d room ps) (hb : Below w.heap.size w w') : NodeAt w' F nd d room ps := by
  have h9 : ∀ k, F k → k < w.heap.size := by
    obtain ⟨sg, mb, A, c, torn, xs, A1, c1, G, _, _, _, _, _, _, _, _, h9, _⟩ := h
    exact h9
  exact h.keep hb.size (fun k hf => hb.block k (h9 k hf))
theorem NodeAt.lt {w : World} {F : Nat → Prop} {nd d room : Nat} {ps : List Cmd} (h : NodeAt w F nd d room ps) {k : Nat} (hf : F k) : k < w.heap.size := by
  obtain ⟨sg, mb, A, c, torn, xs, A1, c1, G, _, _, _, _, _, _, _, _, h9, _⟩ := h
  exact h9 k hf

theorem MapV.ne_dat {w : World} {b : Nat} {l : List (Int × Value)} {A : Option Addr} {n c : Nat} {bs : List UInt8} (h : MapV w b l) (hd : Dat w A n c bs) : ablk A ≠ some b := by
  rcases hd.2 with ⟨rfl, _⟩ | ⟨g', cur, rfl, hb, _⟩
  · simp [ablk]
  · intro he
    simp [ablk] at he
    subst he
    exact h.ne_blk hb rfl

theorem redo_any (nd sg mb : Nat) (F : Nat → Prop) (s : St) (cmd : Cmd) (hok : cmd.Ok) (w : World) (hnd : Blk w nd 108 (NodeC sg s.E mb)) (hm : MapC w F mb s.cs) (hkeys : Keys s.cs) (hFn : ∀ k, F k → k ≠ nd ∧ k ≠ mb) (B : Option Addr) (k cB : Nat) (hp : Sl w B k (u8s cmd.enc)) :
    Calls Tryz.prog 52 #[.pointer (some ⟨nd, 0, none⟩), .slice B k cB] w fun x w' => x = .returned (.tuple #[]) ∧ Blk w' nd 108 (NodeC sg (act s cmd).E mb) ∧ MapC w' (fun k => F k ∨ w.heap.size ≤ k) mb (act s cmd).cs ∧ Kp (fun k => k = nd ∨ k = mb) w w' := by
  cases cmd with
  | write e a xs => exact redo_write nd sg mb F s e a xs hok w hnd hm hkeys hFn B k cB hp
  | up e =>
    refine (redo_up nd sg mb s.E e hok w hnd B k cB hp).mono ?_
    rintro x w' ⟨rfl, h1, h2⟩
    have hmn : mb ≠ nd := by obtain ⟨l, hl, _⟩ := hm; exact hl.ne_blk hnd
    have hm' : MapC w' (fun k => F k ∨ w.heap.size ≤ k) mb s.cs := hm.keep h2.size (h2.block _ hm.lt hmn) (fun k hk hlt => h2.block k hlt (hFn k hk).1) (fun k h => .inl h)
    refine ⟨rfl, ?_, ?_, h2.mono (fun _ _ h => .inl h)⟩
    · have : (act s (.up e)).E = if s.E < e then e else s.E := by simp only [act]; split <;> rfl
      rw [this]; exact h1
    · have : (act s (.up e)).cs = s.cs := by simp only [act]; split <;> rfl
      rw [this]; exact hm'

set_option maxRecDepth 100000 in
set_option maxHeartbeats 2000000 in
theorem note_any (nd d room : Nat) (F : Nat → Prop) (ps : List Cmd) (cmd : Cmd) (hok : cmd.Ok) (w : World) (hn : NodeAt w F nd d room ps) (B : Option Addr) (k cB : Nat) (hp : Sl w B k (u8s cmd.enc)) (hB : ∀ x, ablk B = some x → ¬ F x) (hfit : bytesOf (ps ++ [cmd]) ≤ room) :
    Calls Tryz.prog 56 #[.pointer (some ⟨nd, 0, none⟩), .slice B k cB] w fun e w' => ∃ F' : Nat → Prop, e = .returned (.int .i64 0) ∧ NodeAt w' F' nd d room (ps ++ [cmd]) ∧ (∀ x, F' x → F x ∨ w.heap.size ≤ x) ∧ Kp F w w' := by
  obtain ⟨sg, mb, A, c, torn, xs, A1, c1, G, h1, h2, h3, h4, h5, h6, h7, ⟨f1, f2, f3, f4, f5, f6⟩, h9, h10, h11, h12⟩ := hn
  have hkl : k ≤ 4096 := by
    have e1 := hp.1
    rw [u8s_len] at e1
    have := Cmd.enc_len hok
    omega
  obtain ⟨kf, hkf⟩ : ∃ kf, (frameB cmd.enc).length = kf := ⟨_, rfl⟩
  rw [bytesOf_snoc, hkf] at hfit
  obtain ⟨n, hnn⟩ : ∃ n, bytesOf ps = n := ⟨_, rfl⟩
  obtain ⟨m, hm⟩ : ∃ m, ps.length = m := ⟨_, rfl⟩
  have hml : m ≤ 2000000 := by have := len_bytesOf ps; omega
  rw [hnn] at h4 h5 h12 hfit
  rw [hm] at h2 h3
  have Hm := hide hm
  have Hn := hide hnn
  have Hkf := hide hkf
  clear hm hnn hkf
  have hlt := h1.lt
  obtain ⟨j0, j1, j2, e0, e1, e2⟩ := Blk.c3 h1
  have hns : nd ≠ sg := h1.ne_ h2 (by decide)
  have hnd : nd ≠ d := h1.ne_ h4 (by decide)
  have hms : mb ≠ sg := by obtain ⟨l, hl, _⟩ := h6; exact hl.ne_blk h2
  have hmd : mb ≠ d := by obtain ⟨l, hl, _⟩ := h6; exact hl.ne_blk h4
  have hmA : ablk A ≠ some mb := by obtain ⟨l, hl, _⟩ := h6; exact hl.ne_own h3
  have hmA1 : ablk A1 ≠ some mb := by obtain ⟨l, hl, _⟩ := h6; exact hl.ne_dat h5
  have hmn : mb ≠ nd := by obtain ⟨l, hl, _⟩ := h6; exact hl.ne_blk h1
  have hmlt := h6.lt
  have hnA := h3.ne_blk h1 (by decide)
  have hnA1 := h5.ne_blk h1 (by decide)
  have hsA := h3.ne_blk h2 (by decide)
  have hsd : sg ≠ d := h2.ne_ h4 (by decide)
  go_enter Tryz.func56, Tryz.ntmps56
  go_wp2_with (first | (go_at_call 84; apply hold) | (go_at_call 85; apply hold) | (go_at_call 52; apply hold))
  refine unhold ((gput_any sg d A m c torn xs room n A1 n c1 (catF (encs ps)) B k cB cmd.enc kf Hkf.out w h2 h3 h4 h5 hp hkl (fun x e => ⟨fun h => hB x e (h ▸ f4), fun h => hB x e (f6 x h)⟩) h11 hml hfit).mono ?_)
  rintro e w1 ⟨A', c', xs', A1', c1', rfl, g2, g3, g4, g5, hk1, hA', hA1'⟩
  have hz1 := hk1.size
  have g1 := hk1.blk h1 (by rintro (h | h | h | h); exact hns h; exact hnd h; exact hnA h; exact hnA1 h)
  have g6 : MapC w1 G mb (stOf ps).cs := h6.keep hz1 (hk1.block _ hmlt (by rintro (h | h | h | h); exact hms h; exact hmd h; exact hmA h; exact hmA1 h)) (fun x hx hlt => hk1.block x hlt (by
    obtain ⟨_, a1, a2, a3, a4, a5, a6⟩ := h7 x hx
    rintro (h | h | h | h); exact a2 h; exact a4 h; exact a5 h; exact a6 h)) (fun _ h => h)
  have hp1 : Sl w1 B k (u8s cmd.enc) := hp.kp hk1 (fun x e _ hS => hB x e (by rcases hS with rfl | rfl | h | h; exact f2; exact f4; exact f5 _ h; exact f6 _ h))
  obtain ⟨j0, j1, j2, e0, e1, e2⟩ := Blk.c3 g1
  go_wp2_with (first | (go_at_call 84; apply hold) | (go_at_call 85; apply hold) | (go_at_call 52; apply hold))
  refine unhold ((gsync_any sg d A' (m + 1) c' torn room n A1' (n + kf) c1' w1 g2 g4).mono ?_)
  rintro e w2 ⟨rfl, i4, hk2⟩
  have hz2 := hk2.size
  have i1 := hk2.blk g1 hnd
  have i2 := hk2.blk g2 hsd
  have i3 := g3.kp hk2 (fun x e _ hS => g3.ne_blk g4 (by decide) (by rw [e, hS]))
  have i5 := g5.kp hk2 (fun x e _ hS => g5.ne_blk g4 (by decide) (by rw [e, hS]))
  have i6 : MapC w2 G mb (stOf ps).cs := g6.keep hz2 (hk2.block _ g6.lt hmd) (fun x hx hlt => hk2.block x hlt (h7 x hx).2.2.2.2.1) (fun _ h => h)
  have hp2 : Sl w2 B k (u8s cmd.enc) := hp1.kp hk2 (fun x e _ hS => hB x e (hS ▸ f4))
  obtain ⟨j0, j1, j2, e0, e1, e2⟩ := Blk.c3 i1
  go_wp2_with (first | (go_at_call 84; apply hold) | (go_at_call 85; apply hold) | (go_at_call 52; apply hold))
  refine unhold ((redo_any nd sg mb G (stOf ps) cmd hok w2 i1 i6 (stOf_keys ps) (fun x hx => ⟨(h7 x hx).2.1, (h7 x hx).2.2.2.1⟩) B k cB hp2).mono ?_)
  rintro e w3 ⟨rfl, l1, l6, hk3⟩
  have hz3 := hk3.size
  go_wp2_with fail
  go_ret
  have l2 := hk3.blk i2 (by rintro (h | h); exact hns h.symm; exact hms h.symm)
  have i6' := i6
  obtain ⟨l, hl, _⟩ := i6'
  have l3 := i3.kp hk3 (fun x e _ hS => by
    rcases hS with rfl | rfl
    · exact i3.ne_blk i1 (by decide) e
    · exact hl.ne_own i3 e)
  have l4 : DiskAt w3 d room A1' (n + kf) c1' ((n + kf : Nat) : Int) := hk3.blk i4 (by rintro (h | h); exact hnd h.symm; exact hmd h.symm)
  have l5 := i5.kp hk3 (fun x e _ hS => by
    rcases hS with rfl | rfl
    · exact i5.ne_blk i1 (by decide) e
    · exact hl.ne_dat i5 e)
  have ebytes : bytesOf (ps ++ [cmd]) = n + kf := by rw [bytesOf_snoc, Hkf.out, Hn.out]
  have elen : (ps ++ [cmd]).length = m + 1 := by simp [Hm.out]
  have hF3 : ∀ x, F x → x < w3.heap.size := fun x h => by have := h9 x h; omega
  refine ⟨fun x => F x ∨ (w.heap.size ≤ x ∧ x < w3.heap.size), rfl, ⟨sg, mb, A', c', torn, xs', A1', c1', fun x => (G x ∨ w2.heap.size ≤ x) ∧ x < w3.heap.size, ?_, ?_, ?_, ?_, ?_, ?_, ?_, ⟨.inl f1, .inl f2, .inl f3, .inl f4, ?_, ?_⟩, ?_, ?_, h11, ?_⟩, ?_, ?_⟩
  · rw [stOf_snoc]; exact l1
  · rw [elen]; exact l2
  · rw [elen]; exact l3
  · rw [ebytes]; exact l4
  · rw [ebytes, encs_snoc, catF_app, catF_one]; exact l5
  · rw [stOf_snoc]
    obtain ⟨l', hl', hr'⟩ := l6
    refine ⟨l', hl', All2.imp hr' (fun p q _ _ h => ⟨h.1, ?_⟩)⟩
    obtain ⟨A9, n9, c9, b1, b2, b3, b4, b5⟩ := h.2
    exact ⟨A9, n9, c9, b1, b2, b3, b4, fun g e => ⟨b5 g e, (b5 g e).2⟩⟩
  · rintro x ⟨hx | hx, hlt⟩
    · obtain ⟨a0, a1, a2, a3, a4, a5, a6⟩ := h7 x hx
      have := h9 x a0
      refine ⟨.inl a0, a1, a2, a3, a4, fun e => ?_, fun e => ?_⟩
      · rcases hA' x e with h | h
        · exact a5 h
        · omega
      · rcases hA1' x e with h | h
        · exact a6 h
        · omega
    · have q1 := h9 _ f1
      have q2 := h9 _ f2
      have q3 := h9 _ f3
      have q4 := h9 _ f4
      refine ⟨.inr ⟨by omega, hlt⟩, by omega, by omega, by omega, by omega, fun e => ?_, fun e => ?_⟩
      · have := (i3.lt e).2; omega
      · have := i5.lt e; omega
  · intro x e
    rcases hA' x e with h | h
    · exact .inl (f5 x h)
    · exact .inr ⟨h, (l3.lt e).2⟩
  · intro x e
    rcases hA1' x e with h | h
    · exact .inl (f6 x h)
    · exact .inr ⟨h, l5.lt e⟩
  · rintro x (h | h)
    · exact hF3 x h
    · exact h.2
  · intro p hp
    rcases List.mem_append.1 hp with h | h
    · exact h10 p h
    · simp at h; subst h; exact hok
  · rw [ebytes]; exact hfit
  · rintro x (h | h)
    · exact .inl h
    · exact .inr h.1
  · refine ((hk1.mono (S' := F) (fun x _ h => ?_)).trans hk2 (fun x _ h => h ▸ f4)).trans hk3 (fun x _ h => ?_)
    · rcases h with rfl | rfl | h | h
      · exact f2
      · exact f4
      · exact f5 _ h
      · exact f6 _ h
    · rcases h with rfl | rfl
      · exact f1
      · exact f3

set_option maxRecDepth 100000 in
set_option maxHeartbeats 2000000 in
theorem note_full (nd d room : Nat) (F : Nat → Prop) (ps : List Cmd) (cmd : Cmd) (hok : cmd.Ok) (w : World) (hn : NodeAt w F nd d room ps) (B : Option Addr) (k cB : Nat) (hp : Sl w B k (u8s cmd.enc)) (hfit : room < bytesOf (ps ++ [cmd])) :
    Calls Tryz.prog 56 #[.pointer (some ⟨nd, 0, none⟩), .slice B k cB] w fun e w' => e = .returned (.int .i64 3) ∧ Below w.heap.size w w' := by
  obtain ⟨sg, mb, A, c, torn, xs, A1, c1, G, h1, h2, h3, h4, h5, h6, h7, ⟨f1, f2, f3, f4, f5, f6⟩, h9, h10, h11, h12⟩ := hn
  have hkl : k ≤ 4096 := by
    have e1 := hp.1
    rw [u8s_len] at e1
    have := Cmd.enc_len hok
    omega
  rw [bytesOf_snoc] at hfit
  obtain ⟨j0, j1, j2, e0, e1, e2⟩ := Blk.c3 h1
  go_enter Tryz.func56, Tryz.ntmps56
  go_wp2_with (first | (go_at_call 84; apply hold) | (go_at_call 85; apply hold) | (go_at_call 52; apply hold))
  refine unhold ((gput_full sg d A _ c torn room (bytesOf ps) A1 (bytesOf ps) c1 B k cB cmd.enc _ rfl w h2 h4 hp hkl h11 h12 hfit).mono ?_)
  rintro e w1 ⟨rfl, hb⟩
  go_wp2_with fail
  go_ret
  exact ⟨rfl, hb⟩
end Go.Proofs.YtonkblhhknafbaaGreat
