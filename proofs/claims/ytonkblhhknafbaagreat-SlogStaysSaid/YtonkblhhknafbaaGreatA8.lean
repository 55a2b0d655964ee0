/- The walks of package disk. -/
import Derived.Test.YtonkblhhknafbaaGreatA7
import Derived.Deep.QuietTactic
import Derived.BigQuiet
import Derived.Laws.CopyOwn
namespace Go.Proofs.YtonkblhhknafbaaGreat
open Go.RowKit

theorem clear_none (A : Option Addr) (c : Nat) (w : World) : (Builtin.clear_ #[32] 0 #[.slice A 0 c]).run Tryz.prog w = .ok (.tuple #[]) w := by
  cases A <;> simp [Builtin.clear_, run_underlying Tryz.underlying32]

/-- a disk -/
def DiskAt (w : World) (d : Nat) (room : Int) (A : Option Addr) (n c : Nat) (sf : Int) : Prop := Blk w d 103 #[.int .i64 room, .slice A n c, .int .i64 sf]

set_option maxRecDepth 100000 in
set_option maxHeartbeats 400000 in
theorem dnew_any (room : Nat) (h : room ≤ 1048576) (w : World) :
    Calls Tryz.prog 26 #[.int .i64 room] w fun e w' => ∃ d, e = .returned (.tuple #[.pointer (some ⟨d, 0, none⟩), .int .i64 0]) ∧ w.heap.size ≤ d ∧ DiskAt w' d room none 0 0 0 ∧ Below w.heap.size w w' := by
  have h1 : decide (1048576 < (room : Int)) = false := by simp; omega
  go_enter Tryz.func26, Tryz.ntmps26
  go_wp2
  go_ret2
  exact ⟨w.heap.size, rfl, Nat.le_refl _, Blk.new _ _ _, (Below.refl _ _).alloc (Nat.le_refl _) _⟩

set_option maxRecDepth 100000 in
set_option maxHeartbeats 400000 in
theorem dsync_any (d : Nat) (room sf : Int) (A : Option Addr) (n c : Nat) (w : World) (h : DiskAt w d room A n c sf) :
    Calls Tryz.prog 68 #[.pointer (some ⟨d, 0, none⟩)] w fun e w' => e = .returned (.tuple #[]) ∧ DiskAt w' d room A n c n ∧ Kp (· = d) w w' := by
  obtain ⟨h0, h1, h2, f0, f1, f2⟩ := Blk.c3 h
  go_enter Tryz.func68, Tryz.ntmps68
  go_wp2
  go_end0
  exact ⟨rfl, h.set_ 2 _, Kp.setCell (S := (· = d)) (Kp.refl _ _) (fun _ => rfl) _⟩

set_option maxRecDepth 100000 in
set_option maxHeartbeats 400000 in
theorem dcut_len (d : Nat) (room sf : Int) (A : Option Addr) (n c : Nat) (hn : n ≤ c) (_hc : c ≤ maxLen) (_hA : 0 < n → A ≠ none) (w : World) (hdk : DiskAt w d room A n c sf) (hsf : sf ≤ n) :
    Calls Tryz.prog 67 #[.pointer (some ⟨d, 0, none⟩), .int .i64 n] w fun e w' => e = .returned (.int .i64 0) ∧ DiskAt w' d room A n n sf ∧ Kp (· = d) w w' := by
  obtain ⟨h0, h1, h2, f0, f1, f2⟩ := Blk.c3 hdk
  have hcl := clear_none
  go_enter Tryz.func67, Tryz.ntmps67
  go_wp2
  all_goals
    go_ret
    exact ⟨rfl, (Blk.set_ hdk 1 _).set_ 2 _, (Kp.setCell (S := (· = d)) (Kp.refl _ _) (fun _ => rfl) _).setCell (fun _ => rfl) _⟩

/-- a disk's bytes: a row's head, with all of its room or none -/
def Dat (w : World) (A : Option Addr) (n c : Nat) (bs : List UInt8) : Prop :=
  bs.length = n ∧ ((A = none ∧ n = 0 ∧ c = 0) ∨ ∃ g cur, A = some ⟨g, 0, none⟩ ∧ Blk w g 5 cur ∧ n ≤ c ∧ c ≤ cur.size ∧ cur.size ≤ maxLen ∧ cur.toList.take n = u8s bs ∧ (c = n ∨ c = cur.size))

section
variable {w w' : World} {A : Option Addr} {n c : Nat} {bs : List UInt8}
theorem Dat.nil (w : World) : Dat w none 0 0 [] := ⟨rfl, .inl ⟨rfl, rfl, rfl⟩⟩
theorem Dat.cap (h : Dat w A n c bs) : n ≤ c ∧ c ≤ maxLen := by
  rcases h.2 with ⟨_, rfl, rfl⟩ | ⟨g, cur, _, _, h1, h2, h3, _⟩
  · exact ⟨Nat.le_refl _, Nat.zero_le _⟩
  · exact ⟨h1, Nat.le_trans h2 h3⟩
theorem Dat.some_ (h : Dat w A n c bs) (hn : 0 < n) : A ≠ none := by
  rcases h.2 with ⟨_, rfl, _⟩ | ⟨g, cur, rfl, _⟩
  · omega
  · simp
theorem Dat.lt (h : Dat w A n c bs) {k : Nat} (hk : ablk A = some k) : k < w.heap.size := by
  rcases h.2 with ⟨rfl, _⟩ | ⟨g, cur, rfl, hb, _⟩
  · cases hk
  · simp [ablk] at hk; subst hk; exact hb.lt
theorem Dat.keep (h : Dat w A n c bs) (hk : ∀ k, ablk A = some k → k < w.heap.size → w'.heap[k]? = w.heap[k]?) : Dat w' A n c bs := by
  refine ⟨h.1, ?_⟩
  rcases h.2 with h1 | ⟨g, cur, rfl, hb, r⟩
  · exact .inl h1
  · exact .inr ⟨g, cur, rfl, hb.of_eq (hk g rfl hb.lt), r⟩
theorem Dat.kp {S : Nat → Prop} (h : Dat w A n c bs) (hb : Kp S w w') (hn : ∀ k, ablk A = some k → k < w.heap.size → ¬ S k) : Dat w' A n c bs := h.keep (fun k e hk => hb.block k hk (hn k e hk))
theorem Dat.below (h : Dat w A n c bs) (hb : Below w.heap.size w w') : Dat w' A n c bs := h.keep (fun k _ hk => hb.block k hk)
theorem Dat.ne_blk {g : Nat} {t : TypeId} {cs : Array Value} (h : Dat w A n c bs) (hg : Blk w g t cs) (hne : 5 ≠ t) : ablk A ≠ some g := by
  rcases h.2 with ⟨rfl, _⟩ | ⟨g', cur, rfl, hb, _⟩
  · simp [ablk]
  · intro he
    simp [ablk] at he
    subst he
    exact hb.ne_ hg hne rfl
theorem Dat.sl (h : Dat w A n c bs) : Sl w A n (u8s bs) := by
  refine ⟨by rw [u8s_len]; exact h.1, fun hn => ?_⟩
  rcases h.2 with ⟨_, h0, _⟩ | ⟨g, cur, rfl, hb, h1, h2, h3, h4, _⟩
  · omega
  · refine ⟨g, 0, rfl, hb.lt, fun j u hu => ?_⟩
    rw [Nat.zero_add, hb.cell]
    rw [← h4, List.getElem?_take] at hu
    split at hu
    · simpa using hu
    · cases hu
theorem Dat.drewN (h : Dat w A n c bs) (k : Nat) : Dat (w.drewN k) A n c bs := h
theorem Dat.full (h : Dat w A n c bs) : Dat w A n n bs := by
  refine ⟨h.1, ?_⟩
  rcases h.2 with ⟨h1, h2, _⟩ | ⟨g, cur, rfl, hb, h1, h2, h3, h4, _⟩
  · exact .inl ⟨h1, h2, h2⟩
  · exact .inr ⟨g, cur, rfl, hb, Nat.le_refl _, by omega, h3, h4, .inl rfl⟩
theorem OwnB.dat {base : Nat} (h : OwnB w base A n c bs) : Dat w A n c bs := by
  refine ⟨h.len, ?_⟩
  rcases h.2 with ⟨hv, rfl⟩ | ⟨g, cap, cur, hv, _, hh, h1, h2, h3, h4⟩
  · injection hv with h1 _ h2
    exact .inl ⟨h1, rfl, h2⟩
  · injection hv with h5 _ h6
    subst h5 h6
    rw [Nat.mul_one] at h3 h4
    exact .inr ⟨g, cur, rfl, hh, h1, by omega, by omega, h4, .inr h3.symm⟩
end

/-- 'append' onto a disk's bytes -/
theorem app_dat {w : World} {ops : Array Oper} {rest : List Oper} {o : Oper} {a : Act} {Q : Exit → Act → World → Prop} (hgd : o.guard = none) (s x : Operand)
    (ho : o.op = .call { callee := .builtin .append, args := #[s, x], argTypes := #[32, 32] })
    (A0 : Option Addr) (n c0 : Nat) (bs : List UInt8) (hs : a.eval s = .slice A0 n c0) (hd : Dat w A0 n c0 bs)
    (A : Option Addr) (m c : Nat) (cs : List UInt8) (hx : a.eval x = .slice A m c) (hr : Sl w A m (u8s cs)) (hm : 0 < m)
    (hlen : n + m ≤ 1000000000)
    (h : ∀ A' c' w', Dat w' A' (n + m) c' (bs ++ cs) → Kp (fun k => ablk A0 = some k) w w' → (ablk A' = ablk A0 ∨ ∃ k, ablk A' = some k ∧ w.heap.size ≤ k) → wpList Tryz.prog ops Q rest (a.put o.dst (.slice A' (n + m) c')) w') : wpList Tryz.prog ops Q (o :: rest) a w := by
  by_cases hown : OwnB w 0 A0 n c0 bs
  · refine app_u8 hgd s x ho 0 A0 n c0 bs hs hown A m c cs hx hr hlen (Nat.zero_le _) ?_
    intro A' c' w' h1 h2 h3
    refine h A' c' w' h1.dat ⟨h2.os, h2.tape, h2.output, h2.size, fun k hk hn => h2.block k hk (fun e => hn e.symm)⟩ ?_
    rcases h3 with h3 | h3
    · exact .inl h3
    · exact .inr ⟨_, h3, Nat.le_refl _⟩
  · obtain ⟨hbl, hd⟩ := hd
    have hnc : c0 = n ∧ (A0 = none → n = 0 ∧ c0 = 0) ∧ (∀ b, A0 = some b → ∀ j u, (u8s bs)[j]? = some u → w.cell? (b.add j) = some u) := by
      rcases hd with ⟨rfl, rfl, rfl⟩ | ⟨g, cur, rfl, hb, h1, h2, h3, h4, h5⟩
      · exact ⟨rfl, fun _ => ⟨rfl, rfl⟩, fun b hb => by cases hb⟩
      · refine ⟨?_, (fun hn => by cases hn), fun b hb' j u hu => ?_⟩
        · rcases h5 with h5 | h5
          · exact h5
          · exact (hown ⟨by rw [u8s_len, hbl, Nat.mul_one], .inr ⟨g, c0, cur, rfl, Nat.zero_le _, hb, h1, by omega, by omega, by rw [Nat.mul_one]; exact h4⟩⟩).elim
        · cases hb'
          rw [Addr.add_lit, Nat.zero_add, hb.cell]
          rw [← h4, List.getElem?_take] at hu
          split at hu
          · simpa using hu
          · cases hu
    obtain ⟨hcn, hn0, hold⟩ := hnc
    subst hcn
    obtain ⟨i0, hi0, hz0, hz1, hz2⟩ := info_parts Tryz.info5
    obtain ⟨b, off, rfl, hb, hcell⟩ := hr.2 hm
    refine wpList_append_grows w hgd s x 32 ho 5 i0 (.int .u8 0) 1 1 Tryz.underlying32 hi0 hz0 hz1 hz2 rfl (by omega) A0 c0 c0 (u8s bs) hs hn0 (by rw [u8s_len, hbl, Nat.mul_one]) hold ⟨b, off, none⟩ m c (u8s cs) hx (by rw [hr.1, Nat.mul_one])
      (fun j u hu => by rw [Addr.add_lit]; exact hcell j u hu) (u8s_one cs) (by omega) (by unfold maxLen; omega) (by omega) ?_
    intro v' w' h1 h2
    obtain ⟨A', c', rfl⟩ := own_form h1
    rw [← u8s_app] at h1
    have h1' : OwnB w' w.heap.size A' (c0 + m) c' (bs ++ cs) := h1
    refine h A' c' w' h1'.dat ⟨h2.os, h2.tape, h2.output, h2.size, fun k hk _ => h2.block k hk (by simp)⟩ ?_
    rcases h1.2 with ⟨hv, hz⟩ | ⟨g, cap, cur, hv, hg, _⟩
    · omega
    · injection hv with h5
      subst h5
      exact .inr ⟨g, rfl, hg⟩

set_option maxRecDepth 100000 in
set_option maxHeartbeats 1000000 in
theorem dappend_any (d : Nat) (room : Nat) (sf : Int) (A : Option Addr) (n c : Nat) (bs : List UInt8) (A1 : Option Addr) (m c1 : Nat) (cs : List UInt8) (w : World) (h : DiskAt w d room A n c sf) (hd : Dat w A n c bs) (hs : Sl w A1 m (u8s cs)) (hm : 0 < m)
    (hroom : room ≤ 1048576) (hfit : n + m ≤ room) :
    Calls Tryz.prog 165 #[.pointer (some ⟨d, 0, none⟩), .slice A1 m c1] w fun e w' => ∃ A' c', e = .returned (.int .i64 0) ∧ DiskAt w' d room A' (n + m) c' sf ∧ Dat w' A' (n + m) c' (bs ++ cs) ∧ Kp (fun k => k = d ∨ ablk A = some k) w w' ∧ (ablk A' = ablk A ∨ ∃ k, ablk A' = some k ∧ w.heap.size ≤ k) := by
  obtain ⟨h0, h1, h2, f0, f1, f2⟩ := Blk.c3 h
  have hne := hd.ne_blk h (by decide)
  have hlt := Blk.lt h
  have g1 : IntKind.i64.wrap ((room : Int) - (n : Int)) = (room : Int) - (n : Int) := by rw [IntKind.wrap_i64]; omega
  have g2 : decide ((room : Int) - (n : Int) < (m : Int)) = false := by simp; omega
  go_enter Tryz.func165, Tryz.ntmps165
  go_wp2_with fail
  go_quiet (fail)
  go_wp2_with (at_builtin; apply hold)
  refine unhold (app_dat rfl (.tmp 26) (.tmp 27) rfl A n c bs rfl (hd.drewN nq) A1 m c1 cs rfl (hs.drewN nq) hm (by omega) ?_)
  intro A' c' w1 hd1 hk1 ha1
  have hb1 : Blk w1 d 103 _ := hk1.blk (Blk.drewN h nq) hne
  obtain ⟨k0, k1, k2, e0, e1, e2⟩ := hb1.c3
  have hne1 : ablk A' ≠ some d := by
    rcases ha1 with e | ⟨k, e, hk⟩
    · rw [e]; exact hne
    · rw [e]; intro e2; injection e2 with e2; have : w.heap.size ≤ k := hk; omega
  clear h0 h1 h2 f0 f1 f2
  go_wp2_with (at_builtin; apply hold)
  go_ret
  refine ⟨A', c', rfl, hb1.set_ 1 _, hd1.keep (fun k e _ => Below.heap_setCell _ _ _ _ (by rintro rfl; exact hne1 e)), ?_, ha1⟩
  exact Kp.setCell ((Kp.drewN (Kp.refl _ _) nq).trans hk1 (fun _ _ h => .inr h)) (fun _ => .inl rfl) _

set_option maxRecDepth 100000 in
set_option maxHeartbeats 1000000 in
theorem dfull_any (d : Nat) (room : Nat) (sf : Int) (A : Option Addr) (n c : Nat) (A1 : Option Addr) (m c1 : Nat) (w : World) (h : DiskAt w d room A n c sf)
    (_hroom : room ≤ 1048576) (hn : n ≤ room) (hm : m ≤ 1000000) (hfit : room < n + m) :
    Calls Tryz.prog 165 #[.pointer (some ⟨d, 0, none⟩), .slice A1 m c1] w fun e w' => e = .returned (.int .i64 3) ∧ ∃ q, w' = w.drewN q := by
  obtain ⟨h0, h1, h2, f0, f1, f2⟩ := Blk.c3 h
  have g1 : IntKind.i64.wrap ((room : Int) - (n : Int)) = (room : Int) - (n : Int) := by rw [IntKind.wrap_i64]; omega
  have g2 : decide ((room : Int) - (n : Int) < (m : Int)) = true := by simp; omega
  go_enter Tryz.func165, Tryz.ntmps165
  go_wp2_with fail
  go_quiet (fail)
  go_wp2_with (at_builtin; apply hold)
  go_ret
  exact ⟨rfl, nq, rfl⟩

theorem hold_copy {P : Program} {ops : Array Oper} {Q : Exit → Act → World → Prop} {a : Act} {w : World} {rest : List Oper} {dst : Option Tmp} {d s : Operand} {dT sT ty : TypeId} {pos : String} {af : Array Edge}
    (h : Hold (wpList P ops Q (⟨dst, .call { callee := .builtin .copy, args := #[d, s], argTypes := #[dT, sT] }, ty, pos, af, none⟩ :: rest) a w)) :
    wpList P ops Q (⟨dst, .call { callee := .builtin .copy, args := #[d, s], argTypes := #[dT, sT] }, ty, pos, af, none⟩ :: rest) a w := h

theorem make_u8 (n : Nat) (hn : n ≤ 1000000000) (w : World) : (Instr.makeSlice 32 (.int .i64 (n : Int)) (.int .i64 (n : Int))).run Tryz.prog w = .ok (.slice (some ⟨w.heap.size, 0, none⟩) n n) (w.alloc (.cells (madeCells #[.int .u8 0] n) 5)) := by
  obtain ⟨i0, hi0, hz0, hz1, hz2⟩ := info_parts Tryz.info5
  have hr := run_make (P := Tryz.prog) w 32 5 i0 (.int .u8 0) Tryz.underlying32 hi0 hz0 .i64 .i64 n n (by omega) (by omega) (by rw [hz2]; omega) (by omega)
  simp only [Int.toNat_natCast, hz1, Nat.mul_one] at hr
  exact hr

set_option maxRecDepth 100000 in
set_option maxHeartbeats 1000000 in
theorem dbytes_any (d : Nat) (room sf : Int) (A : Option Addr) (n c : Nat) (bs : List UInt8) (w : World) (h : DiskAt w d room A n c sf) (hd : Dat w A n c bs) (hn : n ≤ 1048576) :
    Calls Tryz.prog 166 #[.pointer (some ⟨d, 0, none⟩)] w fun e w' => ∃ A' c', e = .returned (.slice A' n c') ∧ OwnB w' w.heap.size A' n c' bs ∧ Below w.heap.size w w' := by
  obtain ⟨h0, h1, h2, f0, f1, f2⟩ := Blk.c3 h
  have hlt := Blk.lt h
  have hmk := make_u8 n (by omega)
  go_enter Tryz.func166, Tryz.ntmps166
  go_wp2_with (with_reducible refine hold_copy ?_)
  have hsl := hd.sl.alloc (.cells (madeCells #[.int .u8 0] n) 5)
  have hmc : (madeCells #[Value.int .u8 0] n).toList.length = n := by simp [madeCells]
  refine unhold (wpList_copy_splice rfl (.tmp 12) (.tmp 16) 32 32 rfl 5 Tryz.underlying32 (by kernel_rfl) (some ⟨w.heap.size, 0, none⟩) A n n n c rfl rfl w.heap.size 0 (madeCells #[.int .u8 0] n).toList 5 (by rw [Array.toArray_toList]; exact Blk.new _ _ _) (u8s bs) (by rw [u8s_len, hd.1]; simp)
    (fun hpos => ⟨rfl, by
      obtain ⟨b, off, rfl, hb, hc⟩ := hsl.2 (by rw [u8s_len, hd.1] at hpos; exact hpos)
      exact ⟨_, rfl, fun j v hj => by rw [Addr.add_lit]; exact hc j v hj⟩⟩) (by rw [hmc, u8s_len, hd.1]; omega) (u8s_one bs) w.heap.size w ((Below.refl _ _).alloc (Nat.le_refl _) _) (Nat.le_refl _) ?_)
  intro w1 HG hb1
  have hG : Blk w1 w.heap.size 5 (u8s bs).toArray := by
    have h := HG.out
    have e : splice (madeCells #[Value.int .u8 0] n).toList 0 (u8s bs) = u8s bs := by
      simp only [splice, List.take_zero, List.nil_append, Nat.zero_add]
      rw [List.drop_eq_nil_of_le (by rw [hmc, u8s_len, hd.1]; omega), List.append_nil]
    rw [e] at h
    exact h
  go_wp2_with fail
  go_ret
  refine ⟨some ⟨w.heap.size, 0, none⟩, n, rfl, ?_, hb1⟩
  exact ⟨by rw [u8s_len, hd.1, Nat.mul_one], .inr ⟨w.heap.size, n, (u8s bs).toArray, rfl, Nat.le_refl _, hG, Nat.le_refl _, by unfold maxLen; omega, by simp [u8s_len, hd.1], by rw [Nat.mul_one]; simp [List.take_of_length_le, u8s_len, hd.1]⟩⟩

end Go.Proofs.YtonkblhhknafbaaGreat
