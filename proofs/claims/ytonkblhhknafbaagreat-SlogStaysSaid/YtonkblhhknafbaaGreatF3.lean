/- The walk of seg.Put where the disk is full. Whatever the heap holds beside. -/
import Derived.Test.YtonkblhhknafbaaGreatF2
namespace Go.Proofs.YtonkblhhknafbaaGreat
open Go.RowKit

set_option maxRecDepth 100000 in
set_option maxHeartbeats 2000000 in
theorem gput_full (g d : Nat) (A : Option Addr) (m c : Nat) (torn : Int) (room : Nat) (sf : Int) (A1 : Option Addr) (n1 c1 : Nat) (B : Option Addr) (k cB : Nat) (p : List UInt8) (kf : Nat) (hkf : (frameB p).length = kf) (w : World)
    (hg : Blk w g 139 (SegC d A m c torn)) (hdk : DiskAt w d room A1 n1 c1 sf) (hp : Sl w B k (u8s p)) (hk : k ≤ 4096) (hroom : room ≤ 1048576) (hn : n1 ≤ room) (hfit : room < n1 + kf) :
    Calls Tryz.prog 84 #[.pointer (some ⟨g, 0, none⟩), .slice B k cB] w fun e w' => e = .returned (.int .i64 3) ∧ Below w.heap.size w w' := by
  obtain ⟨k0, k1, k2, f0, f1, f2⟩ := Blk.c3 hg
  have hlt := hg.lt
  have hdlt := Blk.lt hdk
  have m3 := met_append
  have hkf1 : kf ≤ 1000000 := by
    have h1 := frameB_len p
    have h2 := uvar_len4 p.length (by have := hp.1; rw [u8s_len] at this; omega)
    have h3 := hp.1
    rw [u8s_len] at h3
    omega
  have Hkf := hide hkf
  clear hkf
  go_enter Tryz.func84, Tryz.ntmps84
  go_wp2_with (first | (go_at_call 100; apply hold) | (go_at_call 165; apply hold))
  refine unhold ((frame_any B k cB p w hp hk).mono ?_)
  rintro e w1 ⟨B1, kf', cf, rfl, ho1, hb1⟩
  obtain rfl : kf = kf' := by rw [← ho1.len]; exact Hkf.out.symm
  have hz1 := hb1.size
  have hg1 := below_blk hb1 hg hlt
  have hdk1 : DiskAt w1 d room A1 n1 c1 sf := below_blk hb1 hdk hdlt
  obtain ⟨k0, k1, k2, f0, f1, f2⟩ := Blk.c3 hg1
  go_wp2_with (first | (go_at_call 100; apply hold) | (go_at_call 165; apply hold))
  refine unhold ((dfull_any d room sf A1 n1 c1 B1 kf cf w1 hdk1 hroom hn hkf1 hfit).mono ?_)
  rintro e w2 ⟨rfl, q, rfl⟩
  go_wp2_with fail
  go_ret
  exact ⟨rfl, below_drewN hb1 q⟩
end Go.Proofs.YtonkblhhknafbaaGreat
