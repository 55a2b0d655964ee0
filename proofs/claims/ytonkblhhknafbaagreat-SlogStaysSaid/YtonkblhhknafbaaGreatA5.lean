/- The walks of the check sum, of a frame. -/
import Derived.Test.YtonkblhhknafbaaGreatA2
import Derived.Test.YtonkblhhknafbaaGreatA4
namespace Go.Proofs.YtonkblhhknafbaaGreat
open Go.RowKit

theorem xor8 (a b : Int) : (bits BinOp.xor IntKind.u8 a b).toNat < 256 ∧ bits BinOp.xor IntKind.u8 a b = ((bits BinOp.xor IntKind.u8 a b).toNat : Int) := by
  have h : 0 ≤ bits BinOp.xor IntKind.u8 a b ∧ bits BinOp.xor IntKind.u8 a b < 256 := by
    show 0 ≤ IntKind.u8.wrap _ ∧ IntKind.u8.wrap _ < 256
    simp only [IntKind.wrap, IntKind.bits, IntKind.signed]
    simp
    omega
  omega

/-- a check sum's step, and the steps of a row -/
def cstep (y : Int) (c : UInt8) : Int := bits BinOp.xor IntKind.u32 (y / 256) (tab (bits BinOp.xor IntKind.u8 (y % 256) c.toNat).toNat)
def cfold (bs : List UInt8) : Int := bs.foldl cstep 4294967295
theorem cfold_snoc (bs : List UInt8) (k : Nat) (h : k < bs.length) : cfold (bs.take (k + 1)) = cstep (cfold (bs.take k)) bs[k] := by
  unfold cfold
  rw [List.take_succ_eq_append_getElem h, List.foldl_append]
  rfl

/-- bytes' check sum -/
def csum (bs : List UInt8) : Int := bits BinOp.xor IntKind.u32 IntKind.u32.max (cfold bs)
theorem csum_nat (bs : List UInt8) : (csum bs).toNat < 4294967296 ∧ csum bs = ((csum bs).toNat : Int) := by
  have h : 0 ≤ csum bs ∧ csum bs < 4294967296 := by
    show 0 ≤ IntKind.u32.wrap _ ∧ IntKind.u32.wrap _ < 4294967296
    simp only [IntKind.wrap, IntKind.bits, IntKind.signed]
    simp
    omega
  omega

theorem zero210 : Tryz.zeroCells210.size = 259 ∧ Tryz.zeroCells210[0]? = some (.int .u32 0) ∧ Tryz.zeroCells210[1]? = some (.int .i32 0) := ⟨by kernel_rfl, by kernel_rfl, by kernel_rfl⟩

set_option maxRecDepth 100000 in
set_option maxHeartbeats 1600000 in
theorem sum_any (A : Option Addr) (n c : Nat) (bs : List UInt8) (w : World) (hr : Sl w A n (u8s bs)) (hn : n ≤ 10000000) :
    Calls Tryz.prog 115 #[.slice A n c] w fun e w' => e = .returned (.int .u32 (csum bs)) ∧ Below w.heap.size w w' := by
  have hlb : bs.length = n := by have := hr.1; rwa [u8s_len] at this
  have Hlb := hide hlb
  clear hlb
  go_enter Tryz.func115, Tryz.ntmps115
  go_wp2_with (first | (go_at_call 122; apply hold))
  go_loopw [4, 11] (fun x i wr => ∃ k : Nat, k ≤ n ∧ i = .int .i64 (k : Nat) ∧ x = .int .u32 (cfold (bs.take k)) ∧ TabAt wr w.heap.size ∧ Below w.heap.size w wr) (fun _ i _ => n - (intOf i).toNat)
  case atStart => exact ⟨0, by omega, rfl, rfl, ⟨_, Blk.new _ _ _, zero210.1, .inl zero210.2⟩, (Below.refl _ _).alloc (Nat.le_refl _) _⟩
  case round =>
    obtain ⟨k, hk, rfl, rfl, ht, hb⟩ := hrel
    by_cases hlt : k < n
    · obtain ⟨b, off, u, rfl, hbl, hu, hcell⟩ := (hr.below hb).at_ hlt
      have hl : k < bs.length := by rw [Hlb.out]; exact hlt
      rw [u8s_get _ _ hl] at hu
      cases hu
      have hsn := hide (cfold_snoc bs k hl)
      generalize bs[k] = ch at *
      generalize cfold (bs.take k) = y at *
      go_wp2_with (first | (go_at_call 122; apply hold))
      obtain ⟨h1, h2⟩ := xor8 (y % 256) (ch.toNat : Int)
      rw [h2]
      refine unhold ((tabat w.heap.size _ h1 wr ht).mono ?_)
      rintro e w1 ⟨rfl, ht1, hk1⟩
      have hb1 : Below w.heap.size w w1 := hb.trans ⟨hk1.os, hk1.tape, hk1.output, hk1.size, fun j hj => hk1.block j (by have := hb.size; omega) (by omega)⟩
      clear h2
      go_wp2_with (first | (go_at_call 122; apply hold))
      go_roundw
      case rel => exact ⟨k + 1, by omega, by simp, by rw [hsn.out]; rfl, ht1, hb1⟩
      case measure => simp [intOf]; omega
    · obtain rfl : k = n := by omega
      have e : bs.take k = bs := by rw [← Hlb.out]; simp
      rw [e]
      go_wp2_with (first | (go_at_call 122; apply hold))
      go_ret
      exact ⟨rfl, hb⟩

/-- a sum's four bytes -/
def fourB (n : Nat) : List UInt8 := [UInt8.ofNat (n % 256), UInt8.ofNat (n / 256 % 256), UInt8.ofNat (n / 65536 % 256), UInt8.ofNat (n / 16777216 % 256)]

/-- a sum's four bytes, as cells -/
def fourC (n : Nat) : Array Value := #[.int .u8 ((n : Int) % 256), .int .u8 ((n : Int) / 256 % 256), .int .u8 ((n : Int) / 65536 % 256), .int .u8 ((n : Int) / 16777216)]
theorem fourC_u8s (n : Nat) (hn : n < 4294967296) : (fourC n).toList = u8s (fourB n) := by
  simp [u8s, fourC, fourB, UInt8.toNat_ofNat']
  omega

set_option maxRecDepth 100000 in
set_option maxHeartbeats 400000 in
theorem four_any (n : Nat) (hn : n < 4294967296) (w : World) :
    Calls Tryz.prog 114 #[.int .u32 n] w fun e w' => ∃ g, e = .returned (.slice (some ⟨g, 0, none⟩) 4 4) ∧ w.heap.size ≤ g ∧ Blk w' g 5 (fourC n) ∧ Below w.heap.size w w' := by
  go_enter Tryz.func114, Tryz.ntmps114
  go_wp2
  go_ret
  exact ⟨w.heap.size, rfl, Nat.le_refl _, Blk.new _ _ _, (Below.refl _ _).alloc (Nat.le_refl _) _⟩

theorem Blk.slAll {w : World} {g : Nat} {t : TypeId} {cs : Array Value} {n : Nat} {l : List Value} (h : Blk w g t cs) (hn : cs.size = n) (hl : cs.toList = l) : Sl w (some ⟨g, 0, none⟩) n l := by
  subst hl
  refine ⟨by simpa using hn, fun _ => ⟨g, 0, rfl, h.lt, fun j u hu => ?_⟩⟩
  rw [Nat.zero_add, h.cell]
  simpa using hu

theorem fourB_len (n : Nat) : (fourB n).length = 4 := rfl

/-- a frame -/
def frameB (p : List UInt8) : List UInt8 := uvar p.length ++ p ++ fourB (csum p).toNat

set_option maxRecDepth 100000 in
set_option maxHeartbeats 400000 in
theorem frame_any (A : Option Addr) (n c : Nat) (bs : List UInt8) (w : World) (hr : Sl w A n (u8s bs)) (hn : n ≤ 4096) :
    Calls Tryz.prog 100 #[.slice A n c] w fun e w' => ∃ A' n' c', e = .returned (.tuple #[.slice A' n' c', .int .i64 0]) ∧ OwnB w' w.heap.size A' n' c' (frameB bs) ∧ Below w.heap.size w w' := by
  have hlb : bs.length = n := by have := hr.1; rwa [u8s_len] at this
  have Hlb := hide hlb
  have hul := uvar_len4 bs.length (by omega)
  rw [hlb] at hul
  clear hlb
  go_enter Tryz.func100, Tryz.ntmps100
  go_wp2_with (first | (go_at_call 90; apply hold) | (go_at_call 115; apply hold) | (go_at_call 114; apply hold) | (at_builtin; apply hold))
  refine unhold ((bytes_any none 0 0 [] A n c bs w (Sl.nil _) hr (by omega) (by omega)).mono ?_)
  rintro e w1 ⟨A1, n1, c1, rfl, ho1, hb1⟩
  rw [List.nil_append] at ho1
  have hn1 : n1 ≤ 5000 := by have := ho1.len; simp only [List.length_append, Hlb.out] at this; omega
  have hz1 := hb1.size
  go_wp2_with (first | (go_at_call 90; apply hold) | (go_at_call 115; apply hold) | (go_at_call 114; apply hold) | (at_builtin; apply hold))
  refine unhold ((sum_any A n c bs w1 (hr.below hb1) (by omega)).mono ?_)
  rintro e w2 ⟨rfl, hb2⟩
  obtain ⟨h1, h2⟩ := csum_nat bs
  rw [h2]
  clear h2
  have hfr : frameB bs = uvar bs.length ++ bs ++ fourB (csum bs).toNat := rfl
  have Hfr := hide hfr
  clear hfr
  generalize (csum bs).toNat = sm at *
  have hz2 := hb2.size
  go_wp2_with (first | (go_at_call 90; apply hold) | (go_at_call 115; apply hold) | (go_at_call 114; apply hold) | (at_builtin; apply hold))
  refine unhold ((four_any _ h1 w2).mono ?_)
  rintro e w3 ⟨g3, rfl, _, hbl3, hb3⟩
  have hs3 := hbl3.slAll (n := 4) rfl (fourC_u8s sm h1)
  have hz3 := hb3.size
  go_wp2_with (first | (go_at_call 90; apply hold) | (go_at_call 115; apply hold) | (go_at_call 114; apply hold) | (at_builtin; apply hold))
  refine unhold (app_u8 rfl (.tmp 8) (.tmp 11) rfl w.heap.size _ _ _ _ rfl ((ho1.below hb2).below hb3) _ 4 4 _ rfl hs3 (by omega) (by omega) ?_)
  intro A4 c4 w4 ho4 hg4 _
  have hb4 : Below w.heap.size w w4 := ((hb1.trans (hb2.mono hz1)).trans (hb3.mono (by omega))).grown hg4 (by omega) (by intro k hk; exact (ho1.lt hk).1)
  clear hg4
  go_wp2_with fail
  go_ret2
  exact ⟨A4, _, c4, rfl, by rw [Hfr.out]; exact ho4, hb4⟩
end Go.Proofs.YtonkblhhknafbaaGreat
