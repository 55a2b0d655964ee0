/- The walks of package pack. -/
import Derived.Test.YtonkblhhknafbaaGreatK1
namespace Go.Proofs.YtonkblhhknafbaaGreat
open Go.RowKit

set_option maxRecDepth 100000 in
set_option maxHeartbeats 400000 in
theorem uint_any (A : Option Addr) (m c : Nat) (n : Nat) (bs : List UInt8) (w : World) (hr : Sl w A m (u8s bs)) (hn : n < 268435456) (hm : m ≤ 100000) :
    Calls Tryz.prog 57 #[.slice A m c, .int .u64 n] w fun e w' => ∃ A' n' c', e = .returned (.slice A' n' c') ∧ OwnB w' w.heap.size A' n' c' (bs ++ uvar n) ∧ Below w.heap.size w w' := by
  have hlen : bs.length ≤ 100000 := by have := hr.1; rw [u8s_len] at this; omega
  go_enter Tryz.func57, Tryz.ntmps57
  go_wp2_with (at_builtin; apply hold)
  refine unhold (app_u8 rfl (.tmp 5) (.tmp 6) rfl w.heap.size _ _ _ [] rfl (OwnB.lit w _ #[] 0 [] (Nat.le_refl _) rfl (by simp) rfl) A m c bs rfl (hr.alloc _) (by omega) (by simp) ?_)
  intro A1 c1 w1 ho1 hg1 _
  have hb1 : Below w.heap.size w w1 := ((Below.refl _ _).alloc (Nat.le_refl _) _).grown hg1 (by simp) (by intro k hk; cases hk; exact Nat.le_refl _)
  clear hg1
  go_wp2_with (at_builtin; apply hold)
  have hul := uvar_len4 n hn
  go_loopw [0, 1] (fun v q wr => ∃ A' k c' bs' n', v = .slice A' k c' ∧ OwnB wr w.heap.size A' k c' bs' ∧ q = .int .u64 (n' : Nat) ∧ bs' ++ uvar n' = bs ++ uvar n ∧ n' < 268435456 ∧ Below w.heap.size w wr) (fun _ q _ => (intOf q).toNat)
  case atStart => exact ⟨A1, _, c1, bs, n, rfl, by simpa using ho1, rfl, rfl, hn, hb1⟩
  case round =>
    obtain ⟨A', k, c', bs', n', rfl, ho, rfl, he, hn', hb⟩ := hrel
    have He : Hid (bs' ++ uvar n' = bs ++ uvar n) := he
    have hl' : k ≤ 100010 := by
      have := congrArg List.length he
      have := ho.len
      simp only [List.length_append] at *
      omega
    have hz := hb.size
    clear he
    by_cases h128 : 128 ≤ n'
    · have d1 : decide (128 ≤ (n' : Int)) = true := by simp; omega
      go_wp2_with (at_builtin; apply hold)
      rw [or128]
      refine unhold (app_u8 rfl (.tmp 10) (.tmp 14) rfl w.heap.size _ _ _ bs' rfl (ho.alloc _) (some ⟨wr.heap.size, 0, none⟩) 1 1 [UInt8.ofNat (n' % 128 + 128)] rfl
         (Sl.lit _ _ _ _ _ rfl (by rw [u8s_of _ (by omega)])) (by omega) (by simp; omega) ?_)
      intro A2 c2 w2 ho2 hg2 _
      have hb2 : Below w.heap.size w w2 := (hb.alloc hz _).grown hg2 (by simp; omega) (by intro k hk; exact (ho.lt hk).1)
      clear hg2
      go_wp2_with (at_builtin; apply hold)
      go_roundw
      case rel =>
        refine ⟨A2, _, c2, bs' ++ [UInt8.ofNat (n' % 128 + 128)], n' / 128, rfl, ho2, by simp, ?_, by omega, hb2⟩
        rw [← He.out, uvar_hi h128, List.append_assoc]; rfl
      case measure => simp [intOf]; omega
    · have d1 : decide (128 ≤ (n' : Int)) = false := by simp; omega
      go_wp2_with (at_builtin; apply hold)
      refine unhold (app_u8 rfl (.tmp 18) (.tmp 21) rfl w.heap.size _ _ _ bs' rfl (ho.alloc _) (some ⟨wr.heap.size, 0, none⟩) 1 1 [UInt8.ofNat n'] rfl
         (Sl.lit _ _ _ _ _ rfl (by rw [u8s_of _ (by omega)])) (by omega) (by simp; omega) ?_)
      intro A2 c2 w2 ho2 hg2 _
      have hb2 : Below w.heap.size w w2 := (hb.alloc hz _).grown hg2 (by simp; omega) (by intro k hk; exact (ho.lt hk).1)
      clear hg2
      go_wp2_with (at_builtin; apply hold)
      go_ret
      refine ⟨A2, _, c2, rfl, ?_, hb2⟩
      rw [← He.out, uvar_lo (by omega)]
      exact ho2

set_option maxRecDepth 100000 in
set_option maxHeartbeats 400000 in
theorem bytes_any (A : Option Addr) (m c : Nat) (bs : List UInt8) (A' : Option Addr) (m' c' : Nat) (xs : List UInt8) (w : World) (hr : Sl w A m (u8s bs)) (hx : Sl w A' m' (u8s xs)) (hm : m ≤ 100000) (hm' : m' ≤ 1000000) :
    Calls Tryz.prog 90 #[.slice A m c, .slice A' m' c'] w fun e w' => ∃ A' n' c', e = .returned (.slice A' n' c') ∧ OwnB w' w.heap.size A' n' c' (bs ++ uvar xs.length ++ xs) ∧ Below w.heap.size w w' := by
  have hlen : bs.length = m := by have := hr.1; rwa [u8s_len] at this
  obtain rfl : xs.length = m' := by have := hx.1; rwa [u8s_len] at this
  have hul := uvar_len4 xs.length (by omega)
  have Hlen : Hid (bs.length = m) := hlen
  clear hlen
  go_enter Tryz.func90, Tryz.ntmps90
  go_wp2_with (first | (go_at_call 57; apply hold) | (at_builtin; apply hold))
  refine unhold ((uint_any A m c xs.length bs w hr (by omega) hm).mono ?_)
  rintro e w1 ⟨A1, n1, c1, rfl, ho1, hb1⟩
  have hn1 : n1 ≤ 100010 := by have := ho1.len; simp only [List.length_append, Hlen.out] at this; omega
  go_wp2_with (first | (go_at_call 57; apply hold) | (at_builtin; apply hold))
  refine unhold (app_u8 rfl (.tmp 9) (.tmp 10) rfl w.heap.size _ _ _ _ rfl ho1 A' xs.length c' xs rfl (hx.below hb1) (by omega) hb1.size ?_)
  intro A2 c2 w2 ho2 hg2 _
  have hb2 : Below w.heap.size w w2 := hb1.grown hg2 hb1.size (by intro k hk; exact (ho1.lt hk).1)
  clear hg2
  go_wp2_with fail
  go_ret
  exact ⟨A2, _, c2, rfl, ho2, hb2⟩

set_option maxRecDepth 100000 in
set_option maxHeartbeats 400000 in
theorem from_any (A : Option Addr) (m c : Nat) (bs : List UInt8) (w : World) (hr : Sl w A m (u8s bs)) (hm : m ≤ 10000000) :
    Calls Tryz.prog 78 #[.slice A m c] w fun e w' => ∃ r A' c', e = .returned (.pointer (some ⟨r, 0, none⟩)) ∧ w.heap.size ≤ r ∧ Blk w' r 171 #[.slice A' m c'] ∧ OwnB w' w.heap.size A' m c' bs ∧ ablk A' ≠ some r ∧ Below w.heap.size w w' := by
  go_enter Tryz.func78, Tryz.ntmps78
  go_wp2_with (at_builtin; apply hold)
  refine unhold (app_u8 rfl (.tmp 3) (.tmp 4) rfl w.heap.size _ _ _ [] rfl (OwnB.lit w _ #[] 0 [] (Nat.le_refl _) rfl (by simp) rfl) A m c bs rfl (hr.alloc _) (by simp; omega) (by simp) ?_)
  intro A1 c1 w1 ho1 hg1 _
  have hb1 : Below w.heap.size w w1 := ((Below.refl _ _).alloc (Nat.le_refl _) _).grown hg1 (by simp) (by intro k hk; cases hk; exact Nat.le_refl _)
  clear hg1
  have hz := hb1.size
  rw [Nat.zero_add, List.nil_append] at ho1
  rw [Nat.zero_add]
  go_wp2
  go_ret
  exact ⟨w1.heap.size, A1, c1, rfl, hz, Blk.new _ _ _, ho1.alloc _, fun e => by have := (ho1.lt e).2; omega, hb1.alloc hz _⟩

end Go.Proofs.YtonkblhhknafbaaGreat
