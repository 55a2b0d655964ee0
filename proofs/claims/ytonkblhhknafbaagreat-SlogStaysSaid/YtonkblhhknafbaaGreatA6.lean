/- The walk of crc.Open, over the bytes of a frame. -/
import Derived.Test.YtonkblhhknafbaaGreatA5
import Derived.Deep.RegionWith
namespace Go.Proofs.YtonkblhhknafbaaGreat
open Go.RowKit

set_option maxRecDepth 100000 in
theorem eql_arr (d : Nat) (a b c e : Int) (w : World) : (Op.equalIn (d + 2) 189 (.agg #[.int .u8 a, .int .u8 b, .int .u8 c, .int .u8 e]) (.agg #[.int .u8 a, .int .u8 b, .int .u8 c, .int .u8 e])).run Tryz.prog w = .ok true w := by
  rw [Op.equalIn]
  simp only [Sem.run_bind, run_underlying Tryz.underlying189, Result.andThen_ok, Tryz.sizeOf5, Std.Legacy.Range.forIn_eq_forIn_range', Std.Legacy.Range.size]
  simp only [List.range', Nat.sub_zero, Nat.add_sub_cancel, Nat.div_one, List.forIn_cons, List.forIn_nil, Sem.run_bind, Result.andThen_ok, part, Tryz.isAgg5, Bool.false_eq_true, if_false]
  have hq : ∀ (x y : Int) (w : World), (Op.equalIn (d + 1) 5 (.int .u8 x) (.int .u8 y)).run Tryz.prog w = .ok (x == y) w := fun x y w => run_equalIn_int w d 5 .u8 _ x y Tryz.underlying5
  simp [hq, Tryz.isAgg5, Result.andThen]

theorem neq_arr (a b c e : Int) (w : World) : (binOp .neq 189 (.agg #[.int .u8 a, .int .u8 b, .int .u8 c, .int .u8 e]) (.agg #[.int .u8 a, .int .u8 b, .int .u8 c, .int .u8 e])).run Tryz.prog w = .ok (.bool false) w := by
  have h := eql_arr 9998 a b c e w
  simp only [binOp, Op.equal, Op.maxDepth, Sem.run_bind]
  rw [h]
  rfl
theorem arr_at (a : Addr) (c : Nat) (w : World) : (Instr.arrayAt 189 (.slice (some a) 4 c)).run Tryz.prog w = .ok (.pointer (some a)) w := by
  simp [Instr.arrayAt, go_sem]

set_option maxRecDepth 100000 in
set_option maxHeartbeats 1600000 in
theorem copen_any (A : Option Addr) (n c : Nat) (p rest bs : List UInt8) (hbs : bs = frameB p ++ rest) (w : World) (hr : Sl w A n (u8s bs)) (hp : p.length ≤ 4096) (hn : n ≤ c) (hc : c ≤ maxLen) (hn2 : n ≤ 2000000) :
    Calls Tryz.prog 99 #[.slice A n c] w fun e w' => ∃ A' c', e = .returned (.tuple #[.slice A' p.length c', .int .i64 (frameB p).length, .int .i64 0]) ∧ OwnB w' w.heap.size A' p.length c' p ∧ Below w.heap.size w w' := by
  have hlb : bs.length = n := by have := hr.1; rwa [u8s_len] at this
  have Hlb := hide hlb
  have hul := uvar_len4 p.length (by omega)
  obtain ⟨ys, hys⟩ : ∃ ys, ys = p ++ (fourB (csum p).toNat ++ rest) := ⟨_, rfl⟩
  have hbs2 : bs = uvar p.length ++ ys := by rw [hbs, hys]; simp [frameB]
  have hyl : ys.length = p.length + 4 + rest.length := by rw [hys]; simp [fourB_len]; omega
  have hyn : (uvar p.length).length + ys.length = n := by rw [← hlb, hbs2]; simp
  have hfl : (frameB p).length = (uvar p.length).length + p.length + 4 := by simp [frameB, fourB_len]; omega
  rw [hfl]
  have Hys := hide hys
  have Hbs2 := hide hbs2
  have Hyl := hide hyl
  have Hyn := hide hyn
  have hyp : p.length + 4 ≤ ys.length := by omega
  have hys2 : ys.length ≤ 2000000 := by omega
  have Hc := hide hc
  unfold maxLen at hc
  clear hlb hys hbs2 hyl hfl hbs Hyn
  obtain ⟨ul, hul2⟩ : ∃ ul, (uvar p.length).length = ul := ⟨_, rfl⟩
  have Hul := hide hul2
  rw [hul2] at hul hyn ⊢
  clear hul2
  subst hyn
  go_enter Tryz.func99, Tryz.ntmps99
  go_wp2_with (first | (go_at_call 78; apply hold) | (go_at_call 79; apply hold) | (go_at_call 80; apply hold) | (go_at_call 115; apply hold) | (go_at_call 114; apply hold) | (at_builtin; apply hold))
  refine unhold ((from_any A _ c bs w hr (by omega)).mono ?_)
  rintro e w1 ⟨r, A1, c1, rfl, hr0, hblk1, ho1, hne1, hb1⟩
  have hrd1 : Rdr w1 r bs := ⟨A1, _, c1, hblk1, ho1.sl, ho1.cap.1, ho1.cap.2, hne1⟩
  go_wp2_with (first | (go_at_call 78; apply hold) | (go_at_call 79; apply hold) | (go_at_call 80; apply hold) | (go_at_call 115; apply hold) | (go_at_call 114; apply hold) | (at_builtin; apply hold))
  refine unhold ((ruint_any r p.length ys bs Hbs2.out w1 hrd1 (by omega)).mono ?_)
  rintro e w2 ⟨rfl, hrd2, hk2⟩
  have hb2 : Below w.heap.size w w2 := hb1.trans ⟨hk2.os, hk2.tape, hk2.output, hk2.size, fun j hj => hk2.block j (by have := hb1.size; omega) (by omega)⟩
  have q1 : IntKind.u64.wrap ((p.length : Int) + 4) = (p.length : Int) + 4 := by simp [IntKind.wrap, IntKind.bits, IntKind.signed]; omega
  go_wp2_with (first | (go_at_call 78; apply hold) | (go_at_call 79; apply hold) | (go_at_call 80; apply hold) | (go_at_call 115; apply hold) | (go_at_call 114; apply hold) | (at_builtin; apply hold))
  refine unhold ((left_any r ys w2 hrd2).mono ?_)
  rintro e w3 ⟨rfl, rfl⟩
  go_wp2_with (first | (go_at_call 78; apply hold) | (go_at_call 79; apply hold) | (go_at_call 80; apply hold) | (go_at_call 115; apply hold) | (go_at_call 114; apply hold) | (at_builtin; apply hold))
  refine unhold ((left_any r ys w2 hrd2).mono ?_)
  rintro e w3 ⟨rfl, rfl⟩
  go_wp2_with (first | (go_at_call 78; apply hold) | (go_at_call 79; apply hold) | (go_at_call 80; apply hold) | (go_at_call 115; apply hold) | (go_at_call 114; apply hold) | (at_builtin; apply hold))
  have hb2z := hb2.size
  have hrb := hr.below hb2
  have hsx : Sl w2 (A.map (·.add ul)) p.length (u8s p) := by
    have h1 := (hrb.cut (k := ul) (cap := c) (by omega) hn).take_ (k := p.length) (by omega)
    rw [if_neg (by omega), ← u8s_drop, ← u8s_take] at h1
    have e : (bs.drop ul).take p.length = p := by rw [Hbs2.out, ← Hul.out, Hys.out]; simp
    rwa [e] at h1
  rw [Nat.add_sub_cancel_left]
  refine unhold (app_u8 rfl (.tmp 41) (.tmp 45) rfl w2.heap.size _ _ _ [] rfl (OwnB.lit w2 _ #[] 0 [] (Nat.le_refl _) rfl (by simp) rfl) _ p.length _ p rfl ((hsx.alloc _)) (by omega) (by simp) ?_)
  intro A3 c3 w3 ho3 hg3 _
  have hb23 : Below w2.heap.size w2 w3 := ((Below.refl _ _).alloc (Nat.le_refl _) _).grown hg3 (by simp) (by intro k hk; cases hk; exact Nat.le_refl _)
  have hb3 : Below w.heap.size w w3 := hb2.trans (hb23.mono hb2z)
  clear hg3
  rw [Nat.zero_add, List.nil_append] at ho3
  rw [Nat.zero_add]
  go_wp2_with (first | (go_at_call 78; apply hold) | (go_at_call 79; apply hold) | (go_at_call 80; apply hold) | (go_at_call 115; apply hold) | (go_at_call 114; apply hold) | (at_builtin; apply hold))
  obtain ⟨b, off, rfl, hbl, hcell⟩ := hrb.2 (by omega)
  obtain ⟨h1, h2⟩ := csum_nat p
  obtain ⟨sm, hsm⟩ : ∃ sm, (csum p).toNat = sm := ⟨_, rfl⟩
  rw [hsm] at h1 h2
  have Hsm := hide hsm
  have Hcs := hide h2
  clear hsm h2
  obtain ⟨en, hen⟩ : ∃ en : Nat, ul + p.length = en := ⟨_, rfl⟩
  have Hen := hide hen
  rw [show (ul : Int) + (p.length : Int) = (en : Int) by omega]
  have hen1 : en + 4 ≤ ul + ys.length := by omega
  have hb4 : ∀ j, j < 4 → (u8s bs)[en + j]? = (fourC sm).toList[j]? := by
    intro j hj
    rw [fourC_u8s sm h1, Hbs2.out, Hys.out, Hsm.out, ← Hen.out, u8s_app, u8s_app, u8s_app]
    rw [List.getElem?_append_right (by rw [u8s_len, Hul.out]; omega), u8s_len, Hul.out, List.getElem?_append_right (by rw [u8s_len]; omega), u8s_len, List.getElem?_append_left (by rw [u8s_len]; simp [fourB_len]; omega)]
    congr 1; omega
  have k0 : w3.cell? ⟨b, off + en, none⟩ = some (.int .u8 ((sm : Int) % 256)) := (hb23.cell hbl).trans (hcell (en + 0) _ (hb4 0 (by omega)))
  have k1 : w3.cell? ⟨b, off + en + 1, none⟩ = some (.int .u8 ((sm : Int) / 256 % 256)) := (hb23.cell hbl).trans (by rw [Nat.add_assoc]; exact hcell (en + 1) _ (hb4 1 (by omega)))
  have k2 : w3.cell? ⟨b, off + en + 2, none⟩ = some (.int .u8 ((sm : Int) / 65536 % 256)) := (hb23.cell hbl).trans (by rw [Nat.add_assoc]; exact hcell (en + 2) _ (hb4 2 (by omega)))
  have k3 : w3.cell? ⟨b, off + en + 3, none⟩ = some (.int .u8 ((sm : Int) / 16777216)) := (hb23.cell hbl).trans (by rw [Nat.add_assoc]; exact hcell (en + 3) _ (hb4 3 (by omega)))
  have hbl3 : b < w3.heap.size := by have := hb23.size; omega
  clear hb4 hcell
  have g1 : (0 : Int) ≤ (en : Int) := by omega
  have g2 : (en : Int) ≤ (en : Int) + 4 := by omega
  have g3 : (en : Int) + 4 ≤ (c : Int) := by omega
  have g4 : IntKind.i64.wrap ((en : Int) + 4) = (en : Int) + 4 := by rw [IntKind.wrap_i64]; omega
  have g5 : ((en : Int) + 4).toNat = en + 4 := by omega
  have g6 : en + 4 - en = 4 := by omega
  have g7 : ¬ c = en := by omega
  have g8 : (0 : Int) ≤ (en : Int) + 4 := by omega
  have hneq := neq_arr
  have harr := arr_at
  go_region_with
    (first
      | (go_at_call 115; refine (sum_any A3 p.length c3 p _ ?_ (by omega)).mono ?_; exact ho3.sl.drew; rintro e w4 ⟨rfl, hb34⟩; rw [Hcs.out]; have k0' := (hb34.cell (p := ⟨b, off + en, none⟩) hbl3).trans k0; have k1' := (hb34.cell (p := ⟨b, off + en + 1, none⟩) hbl3).trans k1; have k2' := (hb34.cell (p := ⟨b, off + en + 2, none⟩) hbl3).trans k2; have k3' := (hb34.cell (p := ⟨b, off + en + 3, none⟩) hbl3).trans k3; have hbl4 : b < w4.heap.size := Nat.lt_of_lt_of_le hbl3 hb34.size)
      | (go_at_call 114; refine (four_any sm h1 _).mono ?_; rintro e w5 ⟨g5, rfl, hg5, hblk5, hb45⟩; have k0'' := (hb45.cell (p := ⟨b, off + en, none⟩) hbl4).trans k0'; have k1'' := (hb45.cell (p := ⟨b, off + en + 1, none⟩) hbl4).trans k1'; have k2'' := (hb45.cell (p := ⟨b, off + en + 2, none⟩) hbl4).trans k2'; have k3'' := (hb45.cell (p := ⟨b, off + en + 3, none⟩) hbl4).trans k3'; have j0 := hblk5.cell 0; have j1 := hblk5.cell 1; have j2 := hblk5.cell 2; have j3 := hblk5.cell 3; simp only [fourC, List.getElem?_toArray, List.getElem?_cons_zero, List.getElem?_cons_succ] at j0 j1 j2 j3))
  all_goals
    have z3 : w.heap.size ≤ w3.heap.size := hb3.size
    have z4 : w3.heap.size ≤ w4.heap.size := hb34.size
    go_wp2_with fail
    go_ret3
    exact ⟨A3, c3, by rw [Hen.out]; rfl, ((ho3.drew.below hb34).below hb45).mono hb2z, (hb3.drew.trans (hb34.mono z3)).trans (hb45.mono (Nat.le_trans z3 z4))⟩
end Go.Proofs.YtonkblhhknafbaaGreat
