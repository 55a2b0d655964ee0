/- The walks of package disk, last part: Crash, Cut at nought, Lose. -/
import Derived.Test.YtonkblhhknafbaaGreatA8
namespace Go.Proofs.YtonkblhhknafbaaGreat
open Go.RowKit

set_option maxRecDepth 100000 in
set_option maxHeartbeats 1000000 in
theorem dcrash_any (d : Nat) (room : Int) (A : Option Addr) (n c : Nat) (bs : List UInt8) (keep turn : Int) (w : World) (hdk : DiskAt w d room A n c n) (hd : Dat w A n c bs) (hn : n ≤ 1048576) :
    Calls Tryz.prog 37 #[.pointer (some ⟨d, 0, none⟩), .int .i64 keep, .int .i64 turn] w fun e w' => e = .returned (.tuple #[]) ∧ DiskAt w' d room A n n n ∧ Dat w' A n n bs ∧ Kp (· = d) w w' := by
  obtain ⟨h0, h1, h2, f0, f1, f2⟩ := Blk.c3 hdk
  have hne := hd.ne_blk hdk (by decide)
  obtain ⟨hcap1, hcap2⟩ := hd.cap
  have hkk : keep < 0 ∨ keep = 0 ∨ 0 < keep := by omega
  rcases hkk with hkk | hkk | hkk
  all_goals
    (try subst hkk)
    go_enter Tryz.func37, Tryz.ntmps37
    go_wp2_with fail
    go_quiet (fail)
    go_wp2_with (first | (go_at_call 67; apply hold) | (go_at_call 68; apply hold))
    refine unhold ((dcut_len d room n A n c hcap1 hcap2 hd.some_ (w.drewN nq) (Blk.drewN hdk nq) (Int.le_refl _)).mono ?_)
    rintro e w1 ⟨rfl, hd1, hk1⟩
    go_wp2_with (first | (go_at_call 67; apply hold) | (go_at_call 68; apply hold))
    refine unhold ((dsync_any d room n A n n w1 hd1).mono ?_)
    rintro e w2 ⟨rfl, hd2, hk2⟩
    go_wp2_with fail
    go_end0
    have hk : Kp (· = d) w w2 := ((Kp.drewN (Kp.refl (· = d) w) nq).trans hk1 (fun _ _ h => h)).trans hk2 (fun _ _ h => h)
    exact ⟨rfl, hd2, hd.full.kp hk (fun k e _ hS => hne (by rw [e, hS])), hk⟩

theorem run_clear_dat {w : World} {A : Option Addr} {n c : Nat} {bs : List UInt8} (hd : Dat w A n c bs) :
    ∃ w1, (Builtin.clear_ #[32] 0 #[.slice A n c]).run Tryz.prog w = .ok (.tuple #[]) w1 ∧ Dat w1 A 0 0 [] ∧ Kp (fun k => ablk A = some k) w w1 := by
  rcases hd.2 with ⟨rfl, rfl, rfl⟩ | ⟨g, cur, rfl, hb, h1, h2, h3, h4, h5⟩
  · exact ⟨w, clear_none none 0 w, ⟨rfl, .inl ⟨rfl, rfl, rfl⟩⟩, Kp.refl _ _⟩
  · rcases Nat.eq_zero_or_pos n with hn | hn
    · subst hn
      exact ⟨w, clear_none _ c w, ⟨rfl, .inr ⟨g, cur, rfl, hb, Nat.le_refl _, Nat.zero_le _, h3, rfl, .inl rfl⟩⟩, Kp.refl _ _⟩
    · have hzl : (Builtin.zeroCells #[Value.int .u8 0] n).toList.length = n := by rw [Array.length_toList, size_zeroCells]; simp
      have hst := run_storeCells_at Tryz.prog g 0 5 (Builtin.zeroCells #[Value.int .u8 0] n).toList 0 cur w hb (by rw [hzl]; omega) (by
        intro v hv
        simp [Builtin.zeroCells, Nat.mod_one] at hv
        obtain ⟨_, hv⟩ := hv
        subst hv; rfl)
      obtain ⟨row, hrow⟩ : ∃ row, row = (List.take (0 + 0) cur.toList ++ (Builtin.zeroCells #[Value.int .u8 0] n).toList ++ List.drop (0 + 0 + (Builtin.zeroCells #[Value.int .u8 0] n).toList.length) cur.toList).toArray := ⟨_, rfl⟩
      have hrs : row.size = cur.size := by rw [hrow]; simp only [Nat.add_zero, List.take_zero, List.nil_append, List.size_toArray, List.length_append, List.length_drop, hzl, Array.length_toList]; omega
      rw [← hrow] at hst
      have hrun : (Builtin.clear_ #[32] 0 #[.slice (some ⟨g, 0, none⟩) n c]).run Tryz.prog w = .ok (.tuple #[]) (w.setRow g row) := by
        obtain ⟨n', rfl⟩ : ∃ m, n = m + 1 := ⟨n - 1, by omega⟩
        simp only [Builtin.clear_, List.getElem?_toArray, List.getElem?_cons_zero, Sem.run_bind, run_underlying Tryz.underlying32, Result.andThen_ok, Tryz.zeroValue5, Value.cells, hst, Sem.run_pure]
      exact ⟨_, hrun, ⟨rfl, .inr ⟨g, row, rfl, setRow_heap w g cur row 5 (0, 0) hb, Nat.le_refl _, Nat.zero_le _, by omega, rfl, .inl rfl⟩⟩, ⟨rfl, rfl, rfl, by simp [World.setRow], fun k _ hne => setRow_other w g k _ (fun e => hne (by rw [e]; rfl))⟩⟩

set_option maxRecDepth 100000 in
set_option maxHeartbeats 1000000 in
/-- Cut at 0: all is gone. -/
theorem dcut_zero (d : Nat) (room sf : Int) (A : Option Addr) (n c : Nat) (bs : List UInt8) (w : World) (hdk : DiskAt w d room A n c sf) (hd : Dat w A n c bs) (_hn : n ≤ 1048576) (hsf : 0 ≤ sf) :
    Calls Tryz.prog 67 #[.pointer (some ⟨d, 0, none⟩), .int .i64 0] w fun e w' => e = .returned (.int .i64 0) ∧ DiskAt w' d room A 0 0 0 ∧ Dat w' A 0 0 [] ∧ Kp (fun k => k = d ∨ ablk A = some k) w w' := by
  obtain ⟨h0, h1, h2, f0, f1, f2⟩ := Blk.c3 hdk
  have hne := hd.ne_blk hdk (by decide)
  obtain ⟨w1, hcl, hd1, hk1⟩ := run_clear_dat hd
  have hb1 : Blk w1 d 103 _ := hk1.blk hdk hne
  obtain ⟨k0, k1, k2, e0, e1, e2⟩ := hb1.c3
  go_enter Tryz.func67, Tryz.ntmps67
  go_wp2
  all_goals
    go_ret
    refine ⟨rfl, ?_, ?_, ?_⟩
    · refine Blk.of_eq (w := (w1.setCell ⟨d, 1, none⟩ (.slice A 0 0)).setCell ⟨d, 2, none⟩ (.int .i64 0)) ((hb1.set_ 1 _).set_ 2 _) ?_
      first | rfl | rw [show sf = 0 from by omega]
    · exact hd1.keep (fun k e _ => (Below.heap_setCell _ _ _ _ (by rintro rfl; exact hne e)).trans (Below.heap_setCell _ _ _ _ (by rintro rfl; exact hne e)))
    · exact ((hk1.mono (S' := fun k => k = d ∨ ablk A = some k) (fun _ _ h => .inr h)).setCell (fun _ => .inl rfl) _).setCell (fun _ => .inl rfl) _

set_option maxRecDepth 100000 in
set_option maxHeartbeats 1000000 in
theorem dlose_any (d : Nat) (room sf : Int) (A : Option Addr) (n c : Nat) (bs : List UInt8) (w : World) (hdk : DiskAt w d room A n c sf) (hd : Dat w A n c bs) (hn : n ≤ 1048576) (hsf : 0 ≤ sf) :
    Calls Tryz.prog 35 #[.pointer (some ⟨d, 0, none⟩)] w fun e w' => e = .returned (.tuple #[]) ∧ DiskAt w' d room A 0 0 0 ∧ Dat w' A 0 0 [] ∧ Kp (fun k => k = d ∨ ablk A = some k) w w' := by
  go_enter Tryz.func35, Tryz.ntmps35
  go_wp2_with (first | (go_at_call 67; apply hold))
  refine unhold ((dcut_zero d room sf A n c bs w hdk hd hn hsf).mono ?_)
  rintro e w1 ⟨rfl, h1, h2, h3⟩
  go_wp2_with fail
  go_end0
  exact ⟨rfl, h1, h2, h3⟩

end Go.Proofs.YtonkblhhknafbaaGreat
