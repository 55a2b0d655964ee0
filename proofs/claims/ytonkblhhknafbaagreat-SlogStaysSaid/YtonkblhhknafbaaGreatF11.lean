/- The walk of slot.Open. Whatever the heap holds beside. -/
import Derived.Test.YtonkblhhknafbaaGreatF10
namespace Go.Proofs.YtonkblhhknafbaaGreat
open Go.RowKit Go.Shelf

theorem MapC.cut {w : World} {F F' : Nat → Prop} {mb : Nat} {cs : List (Int × (Nat × List UInt8))} (h : MapC w F mb cs) (hF : ∀ k, F k → k < w.heap.size → F' k) : MapC w F' mb cs := by
  obtain ⟨l, h1, h2⟩ := h
  refine ⟨l, h1, All2.imp h2 (fun p q _ _ h => ⟨h.1, ?_⟩)⟩
  obtain ⟨A, n, k, b1, b2, b3, b4, b5⟩ := h.2
  exact ⟨A, n, k, b1, b2, b3, b4, fun g e => ⟨hF g (b5 g e).1 (b5 g e).2, (b5 g e).2⟩⟩
theorem encs_len (ps : List Cmd) : (encs ps).length = ps.length := by simp [encs]
theorem encs_get {ps : List Cmd} {i : Nat} {c : Cmd} (h : ps[i]? = some c) : (encs ps)[i]? = some c.enc := by simp [encs, h]

set_option maxRecDepth 100000 in
set_option maxHeartbeats 2000000 in
theorem sopen_any (d room : Nat) (A : Option Addr) (c : Nat) (ps : List Cmd) (w : World) (hdk : DiskAt w d room A (bytesOf ps) c (bytesOf ps)) (hd : Dat w A (bytesOf ps) c (catF (encs ps))) (hok : ∀ p ∈ ps, p.Ok) (hroom : room ≤ 1048576) (hfit : bytesOf ps ≤ room) :
    Calls Tryz.prog 27 #[.pointer (some ⟨d, 0, none⟩)] w fun e w' => ∃ (nd : Nat) (F' : Nat → Prop), e = .returned (.pointer (some ⟨nd, 0, none⟩)) ∧ w.heap.size ≤ nd ∧ NodeAt w' F' nd d room ps ∧ (∀ x, F' x → x = d ∨ ablk A = some x ∨ w.heap.size ≤ x) ∧ Kp (· = d) w w' := by
  have hlt := Blk.lt hdk
  obtain ⟨n, hn⟩ : ∃ n, bytesOf ps = n := ⟨_, rfl⟩
  have hml : ps.length ≤ 1048576 := by have := len_bytesOf ps; omega
  obtain ⟨m, hm⟩ : ∃ m, ps.length = m := ⟨_, rfl⟩
  rw [hn] at hdk hd hfit
  rw [hm] at hml
  have Hn := hide hn
  have Hm := hide hm
  clear hn
  have hAlt := fun k h => hd.lt (k := k) h
  have hAd := hd.ne_blk hdk (by decide)
  have hmm := @run_makeMap Tryz.prog
  go_enter Tryz.func27, Tryz.ntmps27
  go_wp2_with (first | (go_at_call 49; apply hold) | (go_at_call 50; apply hold))
  refine unhold ((gopen_any d room A n c (encs ps) w hdk hd (by omega) (by
    intro p hp
    obtain ⟨q, hq, rfl⟩ := List.mem_map.1 hp
    have := Cmd.enc_len (hok q hq)
    omega)).mono ?_)
  rintro e w1 ⟨g, A', c', rfl, hg1, hgb, hrow, hdk1, hd1, hk1⟩
  rw [encs_len, hm] at hgb hrow
  have hz1 := hk1.size
  have hgblt := hgb.lt
  clear hm
  go_wp2_with (first | (go_at_call 49; apply hold) | (go_at_call 50; apply hold))
  have hmv : MapV ((w1.alloc (.map #[] 0)).alloc (.cells (NodeC g 0 w1.heap.size) 108)) w1.heap.size [] := (MapV.new w1).alloc _
  have hnd : Blk ((w1.alloc (.map #[] 0)).alloc (.cells (NodeC g 0 w1.heap.size) 108)) (w1.heap.size + 1) 108 (NodeC g 0 w1.heap.size) := by
    have := Blk.new (w1.alloc (.map #[] 0)) 108 (NodeC g 0 w1.heap.size)
    rwa [World.size_alloc] at this
  have hb12 : Below w1.heap.size w1 ((w1.alloc (.map #[] 0)).alloc (.cells (NodeC g 0 w1.heap.size) 108)) := ((Below.refl _ _).alloc (Nat.le_refl _) _).alloc (by simp) _
  have hsz2 : ((w1.alloc (.map #[] 0)).alloc (.cells (NodeC g 0 w1.heap.size) 108)).heap.size = w1.heap.size + 2 := by simp
  rw [show (w1.alloc (.map #[] 0)).alloc (.cells #[.pointer (some ⟨g, 0, none⟩), .int .i64 0, .map (some w1.heap.size)] 108) = (w1.alloc (.map #[] 0)).alloc (.cells (NodeC g 0 w1.heap.size) 108) from rfl]
  obtain ⟨w2, hw2⟩ : ∃ w2, w2 = (w1.alloc (.map #[] 0)).alloc (.cells (NodeC g 0 w1.heap.size) 108) := ⟨_, rfl⟩
  rw [← hw2] at hmv hnd hb12 hsz2 ⊢
  clear hw2
  obtain ⟨mb, hmb⟩ : ∃ mb, mb = w1.heap.size := ⟨_, rfl⟩
  obtain ⟨nd, hndE⟩ : ∃ nd, nd = w1.heap.size + 1 := ⟨_, rfl⟩
  rw [← hndE] at hnd ⊢
  rw [← hmb] at hmv hnd ⊢
  have i1 : w1.heap.size ≤ mb := by omega
  have i2 : mb < nd := by omega
  have i3 : nd < w2.heap.size := by omega
  clear hmb hndE hsz2
  have hg2 := below_blk hb12 hgb hgblt
  have hrow2 : RowB w2 w.heap.size A' m c' (encs ps) := hrow.below hb12
  have hmlt : m ≤ 2000000 := by omega
  refine unhold ((glen_any g d A' m c' 0 w2 hg2).mono ?_)
  rintro e w3 ⟨rfl, rfl⟩
  go_wp2_with (first | (go_at_call 49; apply hold) | (go_at_call 50; apply hold) | (go_at_call 51; apply hold) | (go_at_call 52; apply hold))
  go_loopw [17] (fun v wr => ∃ i : Nat, v = .int .i64 i ∧ i ≤ m ∧ Blk wr nd 108 (NodeC g (stOf (ps.take i)).E mb) ∧ MapC wr (fun k => w2.heap.size ≤ k ∧ k < wr.heap.size) mb (stOf (ps.take i)).cs ∧ Kp (fun k => k = nd ∨ k = mb) w2 wr) (fun v _ => m - (intOf v).toNat)
  case atStart => exact ⟨0, rfl, by omega, hnd, ⟨[], hmv, .nil⟩, Kp.refl _ _⟩
  case round =>
    obtain ⟨i, rfl, hi, hndr, hmr, hkr⟩ := hrel
    have hzr := hkr.size
    by_cases hlt2 : i < m
    · have hil : i < ps.length := by rw [Hm.out]; exact hlt2
      have hpi : ps[i]? = some ps[i] := List.getElem?_eq_getElem hil
      obtain ⟨cm, hcm⟩ : ∃ cm, cm = ps[i] := ⟨_, rfl⟩
      rw [← hcm] at hpi
      have hcok : cm.Ok := by rw [hcm]; exact hok _ (List.getElem_mem _)
      have htk : ps.take (i + 1) = ps.take i ++ [cm] := by rw [hcm]; exact List.take_succ_eq_append_getElem hil
      have Htk := hide htk
      clear htk hcm
      have hgr := hkr.blk hg2 (by omega)
      have hrowr : RowB wr w.heap.size A' m c' (encs ps) := hrow.keep (fun k _ hk => (hkr.block k (by have := hb12.size; omega) (by omega)).trans (hb12.block k hk))
      obtain ⟨j0, j1, j2, e0, e1, e2⟩ := Blk.c3 hndr
      go_wp2_with (first | (go_at_call 49; apply hold) | (go_at_call 50; apply hold) | (go_at_call 51; apply hold) | (go_at_call 52; apply hold))
      refine unhold ((gget_any g d A' m c' 0 w.heap.size (encs ps) i cm.enc (encs_get hpi) wr hgr hrowr (by have := Cmd.enc_len hcok; omega) hmlt).mono ?_)
      rintro x w4 ⟨A4, c4, rfl, ho4, hb4⟩
      have hz4 := hb4.size
      go_wp2_with (first | (go_at_call 49; apply hold) | (go_at_call 50; apply hold) | (go_at_call 51; apply hold) | (go_at_call 52; apply hold))
      refine unhold ((redo_any nd g mb _ (stOf (ps.take i)) cm hcok w4 (below_blk hb4 hndr hndr.lt) (hmr.keep hb4.size (hb4.block _ hmr.lt) (fun k hk hlt => hb4.block k hlt) (fun _ h => h)) (stOf_keys _) (fun k hk => ⟨by omega, by omega⟩) A4 _ c4 ho4.sl).mono ?_)
      rintro x w5 ⟨rfl, q1, q2, q3⟩
      have hz5 := q3.size
      go_wp2_with (first | (go_at_call 49; apply hold) | (go_at_call 50; apply hold) | (go_at_call 51; apply hold) | (go_at_call 52; apply hold))
      go_roundw
      case rel =>
        refine ⟨i + 1, rfl, by omega, ?_, ?_, (hkr.trans (Kp.below (S := fun k => k = nd ∨ k = mb) hb4) (fun _ _ h => h)).trans q3 (fun _ _ h => h)⟩
        · rw [Htk.out, stOf_snoc]; exact q1
        · rw [Htk.out, stOf_snoc]; exact q2.cut (fun k hk hlt => ⟨by rcases hk with h | h; exact h.1; omega, hlt⟩)
      case measure => simp [intOf]; omega
    · obtain rfl : i = m := by omega
      go_wp2_with (first | (go_at_call 49; apply hold) | (go_at_call 50; apply hold) | (go_at_call 51; apply hold) | (go_at_call 52; apply hold))
      go_ret
      have htake : ps.take i = ps := List.take_of_length_le (by rw [Hm.out]; exact Nat.le_refl _)
      rw [htake] at hndr hmr
      have hgr := hkr.blk hg2 (by omega)
      obtain ⟨xs, hox, hmx, _⟩ := hrow
      have hzw := hb12.size
      have howr : Own wr 0 32 1 A' i c' xs := (hox.keep (fun k e hk => (hkr.block k (by omega) (by omega)).trans (hb12.block k hk))).mono (Nat.zero_le _)
      have hdlt1 : d < w1.heap.size := Blk.lt hdk1
      have hdkr : DiskAt wr d room A n n n := Blk.of_eq hdk1 ((hkr.block d (by omega) (by omega)).trans (hb12.block d hdlt1))
      have hdr : Dat wr A n n (catF (encs ps)) := hd1.keep (fun k e hk => (hkr.block k (by omega) (by omega)).trans (hb12.block k hk))
      have hA1 := fun k (h : ablk A = some k) => hAlt k h
      have hA2 := fun k (h : ablk A' = some k) => (hox.lt h)
      refine ⟨nd, fun k => k = d ∨ ablk A = some k ∨ (w.heap.size ≤ k ∧ k < wr.heap.size), rfl, by omega, ⟨g, mb, A', c', 0, xs, A, n, fun k => w2.heap.size ≤ k ∧ k < wr.heap.size, hndr, ?_, ?_, ?_, ?_, hmr, ?_, ⟨.inr (.inr ⟨by omega, by omega⟩), .inr (.inr ⟨by omega, by omega⟩), .inr (.inr ⟨by omega, by omega⟩), .inl rfl, ?_, ?_⟩, ?_, hok, hroom, by rw [Hn.out]; exact hfit⟩, ?_, ?_⟩
      · rw [Hm.out]; exact hgr
      · rw [Hm.out]; exact howr
      · rw [Hn.out]; exact hdkr
      · rw [Hn.out]; exact hdr
      · rintro k ⟨b1, b2⟩
        refine ⟨.inr (.inr ⟨by omega, b2⟩), by omega, by omega, by omega, by omega, fun e => ?_, fun e => ?_⟩
        · have := (hA2 k e).2; omega
        · have := hA1 k e; omega
      · intro k e
        exact .inr (.inr ⟨(hA2 k e).1, by have := (hA2 k e).2; omega⟩)
      · intro k e
        exact .inr (.inl e)
      · rintro k (rfl | h | h)
        · omega
        · have := hA1 k h; omega
        · exact h.2
      · rintro k (h | h | h)
        · exact .inl h
        · exact .inr (.inl h)
        · exact .inr (.inr h.1)
      · exact (hk1.trans (Kp.below (S := (· = d)) hb12) (fun _ _ h => h)).trans hkr (fun k hk h => by omega)
end Go.Proofs.YtonkblhhknafbaaGreat
