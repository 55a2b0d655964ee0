/- The walks of package seg: Open. Whatever the heap holds beside. -/
import Derived.Test.YtonkblhhknafbaaGreatA9
namespace Go.Proofs.YtonkblhhknafbaaGreat
open Go.RowKit

theorem met_bytes (a : Addr) (w : World) : (method 347 64 (.pointer (some a)) "Bytes").run Tryz.prog w = .ok (166, .pointer (some a)) w := by kernel_rfl
theorem met_append (a : Addr) (w : World) : (method 347 64 (.pointer (some a)) "Append").run Tryz.prog w = .ok (165, .pointer (some a)) w := by kernel_rfl
theorem met_cut (a : Addr) (w : World) : (method 347 64 (.pointer (some a)) "Cut").run Tryz.prog w = .ok (67, .pointer (some a)) w := by kernel_rfl
theorem met_sync (a : Addr) (w : World) : (method 347 64 (.pointer (some a)) "Sync").run Tryz.prog w = .ok (68, .pointer (some a)) w := by kernel_rfl

/-- a segment's three cells -/
def SegC (d : Nat) (A : Option Addr) (m c : Nat) (torn : Int) : Array Value := #[.iface 64 (.pointer (some ⟨d, 0, none⟩)), .slice A m c, .int .i64 torn]

set_option maxRecDepth 100000 in
set_option maxHeartbeats 1000000 in
theorem gopen_any (d : Nat) (room : Int) (A : Option Addr) (n c : Nat) (ps : List (List UInt8)) (w : World) (hdk : DiskAt w d room A n c n) (hd : Dat w A n c (catF ps)) (hn : n ≤ 1048576) (hp : ∀ p ∈ ps, p.length ≤ 4096) :
    Calls Tryz.prog 49 #[.pointer (some ⟨d, 0, none⟩)] w fun e w' => ∃ g A' c', e = .returned (.pointer (some ⟨g, 0, none⟩)) ∧ w.heap.size ≤ g ∧ Blk w' g 139 (SegC d A' ps.length c' 0) ∧ RowB w' w.heap.size A' ps.length c' ps ∧ DiskAt w' d room A n n n ∧ Dat w' A n n (catF ps) ∧ Kp (· = d) w w' := by
  have hlt := Blk.lt hdk
  have m1 := met_bytes
  have m2 := met_cut
  have m3 := met_sync
  go_enter Tryz.func49, Tryz.ntmps49
  go_wp2_with (first | (go_at_call 166; apply hold) | (go_at_call 77; apply hold) | (go_at_call 67; apply hold) | (go_at_call 68; apply hold))
  have hb0 : Below w.heap.size w (w.alloc (.cells #[.iface 64 (.pointer (some ⟨d, 0, none⟩)), .slice none 0 0, .int .i64 0] 139)) := (Below.refl _ _).alloc (Nat.le_refl _) _
  have hg0 := Blk.new w 139 #[.iface 64 (.pointer (some ⟨d, 0, none⟩)), .slice none 0 0, .int .i64 0]
  obtain ⟨w0, hw0⟩ : ∃ w0, w0 = w.alloc (.cells #[.iface 64 (.pointer (some ⟨d, 0, none⟩)), .slice none 0 0, .int .i64 0] 139) := ⟨_, rfl⟩
  have hz0 : w0.heap.size = w.heap.size + 1 := by rw [hw0]; simp
  rw [← hw0] at hb0 hg0 ⊢
  clear hw0
  have hdk0 : DiskAt w0 d room A n c n := below_blk hb0 hdk hlt
  have hd0 := hd.below hb0
  refine unhold ((dbytes_any d room n A n c _ w0 hdk0 hd0 hn).mono ?_)
  rintro e w1 ⟨A1, c1, rfl, ho1, hb1⟩
  have hz1 := hb1.size
  have hcap1 := ho1.cap
  go_wp2_with (first | (go_at_call 166; apply hold) | (go_at_call 77; apply hold) | (go_at_call 67; apply hold) | (go_at_call 68; apply hold))
  refine unhold ((scan_any A1 n c1 ps w1 ho1.sl hp hcap1.1 hcap1.2 (by omega)).mono ?_)
  rintro e w2 ⟨A2, m2', c2, rfl, hrow, hb2⟩
  have hz2 := hb2.size
  have hm2 : m2' = ps.length := hrow.choose_spec.2.1
  subst hm2
  have hb02 : Below w0.heap.size w0 w2 := hb1.trans (hb2.mono hz1)
  have hg2 := below_blk hb02 hg0 (by omega)
  have hdk2 : DiskAt w2 d room A n c n := below_blk hb02 hdk0 (by omega)
  have hd2 := hd0.below hb02
  obtain ⟨k0, k1, k2, f0, f1, f2⟩ := Blk.c3 hg2
  have hgd : w.heap.size ≠ d := by omega
  go_wp2_with (first | (go_at_call 166; apply hold) | (go_at_call 77; apply hold) | (go_at_call 67; apply hold) | (go_at_call 68; apply hold))
  have hg3 : Blk ((w2.setCell ⟨w.heap.size, 1, none⟩ (.slice A2 ps.length c2)).setCell ⟨w.heap.size, 2, none⟩ (.int .i64 0)) w.heap.size 139 (SegC d A2 ps.length c2 0) := (hg2.set_ 1 _).set_ 2 _
  have hfar : ∀ k, k ≠ w.heap.size → ((w2.setCell ⟨w.heap.size, 1, none⟩ (.slice A2 ps.length c2)).setCell ⟨w.heap.size, 2, none⟩ (.int .i64 0)).heap[k]? = w2.heap[k]? := fun k hk => (Below.heap_setCell _ _ _ _ hk).trans (Below.heap_setCell _ _ _ _ hk)
  have hk3 : Kp (fun k => k = w.heap.size) w2 ((w2.setCell ⟨w.heap.size, 1, none⟩ (.slice A2 ps.length c2)).setCell ⟨w.heap.size, 2, none⟩ (.int .i64 0)) := ((Kp.refl (fun k => k = w.heap.size) w2).setCell (fun _ => rfl) _).setCell (fun _ => rfl) _
  obtain ⟨w3, hw3⟩ : ∃ w3, w3 = (w2.setCell ⟨w.heap.size, 1, none⟩ (.slice A2 ps.length c2)).setCell ⟨w.heap.size, 2, none⟩ (.int .i64 0) := ⟨_, rfl⟩
  rw [← hw3] at hg3 hfar hk3 ⊢
  clear hw3
  have hz3 := hk3.size
  have hdk3 : DiskAt w3 d room A n c n := Blk.of_eq hdk2 (hfar d (fun e => hgd e.symm))
  have hd3 : Dat w3 A n c (catF ps) := hd2.keep (fun k e _ => hfar k (fun e2 => by have := hd.lt e; omega))
  have hrow3 : RowB w3 w1.heap.size A2 ps.length c2 ps := hrow.keep (fun k hk _ => hfar k (by omega))
  refine unhold ((dcut_len d room n A n c hd.cap.1 hd.cap.2 hd.some_ w3 hdk3 (Int.le_refl _)).mono ?_)
  rintro e w4 ⟨rfl, hdk4, hk4⟩
  have hg4 := hk4.blk hg3 hgd
  have hrow4 := hrow3.keep (w' := w4) (fun k hk hk2 => hk4.block k hk2 (by omega))
  have hd4 : Dat w4 A n n (catF ps) := (hd3.kp hk4 (fun k e _ hS => hd.ne_blk hdk (by decide) (by rw [e, hS]))).full
  obtain ⟨k0, k1, k2, f0, f1, f2⟩ := Blk.c3 hg4
  go_wp2_with (first | (go_at_call 166; apply hold) | (go_at_call 77; apply hold) | (go_at_call 67; apply hold) | (go_at_call 68; apply hold))
  refine unhold ((dsync_any d room n A n n w4 hdk4).mono ?_)
  rintro e w5 ⟨rfl, hdk5, hk5⟩
  have hg5 := hk5.blk hg4 hgd
  have hz4 := hk4.size
  have hz5 := hk5.size
  go_wp2_with fail
  go_ret
  refine ⟨w.heap.size, A2, c2, rfl, Nat.le_refl _, hg5, (hrow4.keep (fun k hk hk2 => hk5.block k hk2 (by omega))).mono (by omega), hdk5, hd4.kp hk5 (fun k e _ hS => hd.ne_blk hdk (by decide) (by rw [e, hS])), ?_⟩
  exact ((((Kp.below (S := (· = d)) hb0).trans (Kp.below (S := (· = d)) hb02) (fun _ _ h => h)).trans hk3 (fun x hx e => by omega)).trans hk4 (fun _ _ h => h)).trans hk5 (fun _ _ h => h)
end Go.Proofs.YtonkblhhknafbaaGreat
