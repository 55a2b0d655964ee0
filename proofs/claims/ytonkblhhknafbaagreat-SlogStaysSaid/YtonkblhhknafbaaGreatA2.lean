/- The walks of package pack: the reader. -/
import Derived.Test.YtonkblhhknafbaaGreatA1
namespace Go.Proofs.YtonkblhhknafbaaGreat
open Go.RowKit

/-- a reader -/
def Rdr (w : World) (r : Nat) (bs : List UInt8) : Prop := ∃ A n c, Blk w r 171 #[.slice A n c] ∧ Sl w A n (u8s bs) ∧ n ≤ c ∧ c ≤ maxLen ∧ ablk A ≠ some r

theorem ablk_cut (A : Option Addr) (c k : Nat) : ablk (if c = k then A else A.map (·.add k)) = ablk A := by
  split
  · rfl
  · cases A with
    | none => rfl
    | some a => simp only [Option.map, ablk, Addr.add]; split <;> rfl

theorem Rdr.cut {w : World} {r : Nat} {bs : List UInt8} {A : Option Addr} {n c : Nat} (hb : Blk w r 171 #[.slice A n c]) (hs : Sl w A n (u8s bs)) (hc : n ≤ c) (hm : c ≤ maxLen) (ha : ablk A ≠ some r) (j : Nat) (hj : j ≤ n) {v : Value} (hv : v = .slice (if c = j then A else A.map (·.add j)) (n - j) (c - j)) :
    Rdr (w.setCell ⟨r, 0, none⟩ v) r (bs.drop j) := by
  subst hv
  refine ⟨_, _, _, hb.set_ 0 _, ?_, by omega, by omega, by rw [ablk_cut]; exact ha⟩
  rw [u8s_drop]
  exact (hs.cut hj hc).setCell (by rw [ablk_cut]; exact ha) _

theorem Rdr.kp {S : Nat → Prop} {w w' : World} {r : Nat} {bs : List UInt8} (h : Rdr w r bs) (hk : Kp S w w') (hr : ¬ S r) (hS : ∀ k, S k → w.heap.size ≤ k) : Rdr w' r bs := by
  obtain ⟨A, n, c, hb, hs, hc, hm, ha⟩ := h
  exact ⟨A, n, c, hk.blk hb hr, hs.kp hk (fun k _ hlt hS' => by have := hS k hS'; omega), hc, hm, ha⟩
theorem Rdr.below {w w' : World} {r : Nat} {bs : List UInt8} (h : Rdr w r bs) (hk : Below w.heap.size w w') : Rdr w' r bs :=
  h.kp (S := Nobody) (Kp.below hk) (fun h => h) (fun _ h => h.elim)

set_option maxRecDepth 100000 in
set_option maxHeartbeats 400000 in
theorem left_any (r : Nat) (bs : List UInt8) (w : World) (hr : Rdr w r bs) :
    Calls Tryz.prog 80 #[.pointer (some ⟨r, 0, none⟩)] w fun e w' => e = .returned (.int .i64 bs.length) ∧ w = w' := by
  obtain ⟨A, n, c, hb, hs, hc, hm, ha⟩ := hr
  obtain rfl : bs.length = n := by have := hs.1; rwa [u8s_len] at this
  obtain ⟨h0, f0⟩ := hb.c1
  go_enter Tryz.func80, Tryz.ntmps80
  go_wp2
  go_ret
  exact ⟨rfl, rfl⟩

theorem and128_lo (q : Nat) (h : q < 128) : (bits BinOp.and IntKind.u8 (q : Int) 128 != 0) = false := by
  have h' : ∀ k : Fin 128, (bits BinOp.and IntKind.u8 (k.val : Int) 128 != 0) = false := by decide +kernel
  exact h' ⟨q, h⟩
theorem and128_hi (q : Nat) : (bits BinOp.and IntKind.u8 ((q % 128 + 128 : Nat) : Int) 128 != 0) = true := by
  have h' : ∀ k : Fin 128, (bits BinOp.and IntKind.u8 ((k.val + 128 : Nat) : Int) 128 != 0) = true := by decide +kernel
  exact h' ⟨q % 128, by omega⟩
theorem andNot128_lo (q : Nat) (h : q < 128) : bits BinOp.andNot IntKind.u8 (q : Int) 128 = (q : Int) := by
  have h' : ∀ k : Fin 128, bits BinOp.andNot IntKind.u8 (k.val : Int) 128 = (k.val : Int) := by decide +kernel
  exact h' ⟨q, h⟩
theorem andNot128_hi (q : Nat) : bits BinOp.andNot IntKind.u8 ((q % 128 + 128 : Nat) : Int) 128 = ((q % 128 : Nat) : Int) := by
  have h' : ∀ k : Fin 128, bits BinOp.andNot IntKind.u8 ((k.val + 128 : Nat) : Int) 128 = (k.val : Int) := by decide +kernel
  exact h' ⟨q % 128, by omega⟩
theorem u64_or (a p k : Nat) (hk : k ≤ 3) (ha : a < 128 ^ k) (hp : p < 128) :
    bits BinOp.or IntKind.u64 (a : Int) (IntKind.u64.wrap ((p : Int) * 2 ^ (7 * k))) = ((a + p * 128 ^ k : Nat) : Int) := by
  have e : (2 : Nat) ^ (7 * k) = 128 ^ k := by rw [Nat.pow_mul]
  have hb : p * 128 ^ k ≤ 127 * 128 ^ 3 := Nat.mul_le_mul (by omega) (Nat.pow_le_pow_right (by omega) hk)
  have hc : 128 ^ k ≤ 128 ^ 3 := Nat.pow_le_pow_right (by omega) hk
  have h1 : (128 : Nat) ^ 3 = 2097152 := rfl
  rw [h1] at hb hc
  have e1 : IntKind.u64.wrap ((p : Int) * 2 ^ (7 * k)) = ((p * 128 ^ k : Nat) : Int) := by
    have : ((p : Int) * 2 ^ (7 * k)) = ((p * 128 ^ k : Nat) : Int) := by rw [← e]; push_cast; rfl
    rw [this]
    generalize p * 128 ^ k = z at *
    simp [IntKind.wrap, IntKind.bits, IntKind.signed]
    omega
  rw [e1]
  have hor : a ||| (p * 128 ^ k) = a + p * 128 ^ k := by
    rw [← e] at ha ⊢
    have := Nat.two_pow_add_eq_or_of_lt ha p
    rw [Nat.mul_comm p, Nat.or_comm, ← this, Nat.add_comm]
  rw [← hor]
  generalize p * 128 ^ k = z at *
  show IntKind.u64.wrap ((BitVec.ofInt 64 (a : Int) ||| BitVec.ofInt 64 (z : Int)).toNat : Int) = _
  have hz : ∀ x : Nat, x < 18446744073709551616 → (BitVec.ofInt 64 (x : Int)).toNat = x := by
    intro x hx
    rw [BitVec.ofInt_natCast, BitVec.toNat_ofNat]
    exact Nat.mod_eq_of_lt hx
  rw [BitVec.toNat_or, hz _ (by omega), hz _ (by omega), hor]
  simp [IntKind.wrap, IntKind.bits, IntKind.signed]
  omega

theorem or0 (p : Nat) (h : p < 128) : bits BinOp.or IntKind.u64 0 (p : Int) = p := by
  have h' : ∀ k : Fin 128, bits BinOp.or IntKind.u64 0 (k.val : Int) = (k.val : Int) := by decide +kernel
  exact h' ⟨p, h⟩

set_option maxRecDepth 100000 in
set_option maxHeartbeats 2000000 in
theorem ruint_any (r : Nat) (N : Nat) (rest : List UInt8) (bs : List UInt8) (hbs : bs = uvar N ++ rest) (w : World) (hr : Rdr w r bs) (hN : N < 268435456) :
    Calls Tryz.prog 79 #[.pointer (some ⟨r, 0, none⟩)] w fun e w' => e = .returned (.tuple #[.int .u64 N, .int .i64 0]) ∧ Rdr w' r rest ∧ Kp (· = r) w w' := by
  obtain ⟨A, n, c, hb, hs, hc, hm, ha⟩ := id hr
  obtain ⟨h0, f0⟩ := hb.c1
  have Hlen : Hid (bs.length = n) := by have := hs.1; rwa [u8s_len] at this
  have Hbs := hide hbs
  clear hbs
  go_enter Tryz.func79, Tryz.ntmps79
  go_wp2_with (first | (go_at_call 80; apply hold) | (at_builtin; apply hold))
  refine wp_scope_jumps 0 (fun a' w' => w' = w ∧ ∃ (k acc : Nat), (k ≤ 3 ∧ acc = N % 128 ^ k ∧ uvar (N / 128 ^ k) ++ rest = bs.drop k ∧ (0 < k → 0 < N / 128 ^ k)) ∧ ∃ (u6 u7 u8 u9 u10 u11 u12 u13 u14 u15 u16 u17 u18 u19 u20 u21 u22 u23 u24 u25 u26 u27 u28 u29 u30 u31 u32 u33 u34 u35 u36 u37 u38 u39 u40 u41 u42 u43 u44 u45 u46 u47 u48 u49 : Value), a' = { tmps := #[.pointer (some ⟨r, 0, none⟩), undef, .int .u64 0, .int .i64 0, .int .u64 (acc : Nat), .int .i64 (k : Nat), u6, u7, u8, u9, u10, u11, u12, u13, u14, u15, u16, u17, u18, u19, u20, u21, u22, u23, u24, u25, u26, u27, u28, u29, u30, u31, u32, u33, u34, u35, u36, u37, u38, u39, u40, u41, u42, u43, u44, u45, u46, u47, u48, u49, undef, undef, undef, undef, undef, undef, undef, undef, undef, undef], defers := [] }) (fun a' _ => 4 - (intOf (a'.tmps.getD 5 undef)).toNat) rfl ?_ ?_
  · have hrest : uvar N ++ rest = bs := Hbs.out.symm
    obtain ⟨c0, tl, hct⟩ : ∃ c0 tl, uvar N ++ rest = c0 :: tl := by
      cases h : uvar N with
      | nil => have := uvar_pos N; rw [h] at this; simp at this
      | cons a b => exact ⟨a, b ++ rest, rfl⟩
    have hlt : 0 < n := by
      have h1 := congrArg List.length (hrest.symm.trans hct)
      have h2 := Hlen.out
      simp only [List.length_cons] at h1
      omega
    have hget : (u8s bs)[0]? = some (.int .u8 (c0.toNat : Int)) := by
      rw [← hrest, hct]; rfl
    obtain ⟨b, off, u, rfl, hbl, hu, hcell⟩ := hs.at_ hlt
    rw [hget] at hu
    cases hu
    rw [Nat.add_zero] at hcell
    have e1 : ((0 : Int) == ((bs.length : Nat) : Int)) = false := by have := Hlen.out; simp only [beq_eq_false_iff_ne]; omega
    have HR := hide hrest
    have HS := hide hs
    clear hrest hget hs
    have hqd : N < 128 ∨ 128 ≤ N := by omega
    rcases hqd with hqd | hqd
    · have hc0 : c0.toNat = N := by
        rw [uvar_lo hqd] at hct
        injection hct with h _
        rw [← h]; simp [UInt8.toNat_ofNat']; omega
      have hdrop : bs.drop 1 = rest := by
        rw [← HR.out, uvar_lo hqd]; rfl
      have hor := u64_or 0 N 0 (by omega) (by omega) hqd
      have Hor := hide hor
      have Hdrop := hide hdrop
      rw [hc0] at hcell
      clear hc0 hor hct hdrop
      have b1 : (bits BinOp.and IntKind.u8 (N : Int) 128 != 0) = false := and128_lo N hqd
      have b2 : bits BinOp.andNot IntKind.u8 (N : Int) 128 = (N : Int) := andNot128_lo N hqd
      rcases Nat.eq_zero_or_pos N with h00 | h00
      · subst h00
        have hcell0 : w.cell? ⟨b, off, none⟩ = some (.int .u8 0) := by simpa using hcell
        have b1' : (bits BinOp.and IntKind.u8 (0 : Int) 128 != 0) = false := and128_lo 0 (by omega)
        have b2' : bits BinOp.andNot IntKind.u8 (0 : Int) 128 = 0 := andNot128_lo 0 (by omega)
        have b5 : bits BinOp.or IntKind.u64 0 0 = 0 := or0 0 (by omega)
        clear hcell b1 b2
        go_wp2_with (first | (go_at_call 80; apply hold) | (at_builtin; apply hold))
        go_step3
        go_wp2_with (first | (go_at_call 80; apply hold) | (at_builtin; apply hold))
        refine unhold ((left_any r bs _ hr).mono ?_)
        rintro e w1 ⟨rfl, rfl⟩
        go_wp2_with (first | (go_at_call 80; apply hold) | (at_builtin; apply hold))
        all_goals
          simp only [Exit.jump]
          go_ret2
          refine ⟨?_, ?_, ?_⟩
          · rfl
          · rw [← Hdrop.out]; exact Rdr.cut hb HS.out hc hm ha _ (by omega) (by simp [*, Addr.add_lit])
          · exact Kp.setCell (S := (· = r)) (Kp.refl _ _) (fun _ => rfl) _
      · have b4 : ((N : Int) == 0) = false := by simp only [beq_eq_false_iff_ne]; omega
        have b5 : bits BinOp.or IntKind.u64 0 (N : Int) = N := or0 N hqd
        go_wp2_with (first | (go_at_call 80; apply hold) | (at_builtin; apply hold))
        go_step3
        go_wp2_with (first | (go_at_call 80; apply hold) | (at_builtin; apply hold))
        refine unhold ((left_any r bs _ hr).mono ?_)
        rintro e w1 ⟨rfl, rfl⟩
        go_wp2_with (first | (go_at_call 80; apply hold) | (at_builtin; apply hold))
        all_goals
          simp only [Exit.jump]
          go_ret2
          refine ⟨?_, ?_, ?_⟩
          · rfl
          · rw [← Hdrop.out]; exact Rdr.cut hb HS.out hc hm ha _ (by omega) (by simp [*, Addr.add_lit])
          · exact Kp.setCell (S := (· = r)) (Kp.refl _ _) (fun _ => rfl) _
    · have hc0 : c0.toNat = N % 128 + 128 := by
        rw [uvar_hi hqd] at hct
        injection hct with h _
        rw [← h]; simp [UInt8.toNat_ofNat']; omega
      rw [hc0] at hcell
      have b1 : (bits BinOp.and IntKind.u8 ((N % 128 + 128 : Nat) : Int) 128 != 0) = true := and128_hi N
      have b2 : bits BinOp.andNot IntKind.u8 ((N % 128 + 128 : Nat) : Int) 128 = ((N % 128 : Nat) : Int) := andNot128_hi N
      have hdrop : uvar (N / 128) ++ rest = bs.drop 1 := by
        rw [← HR.out, uvar_hi hqd]; rfl
      have hor := u64_or 0 (N % 128) 0 (by omega) (by omega) (by omega)
      have Hor := hide hor
      have HD := hide hdrop
      have hc1 : N % 128 + 128 < 256 := by omega
      clear hor hdrop hct hc0
      generalize N % 128 + 128 = cc at *
      have hp128 : N % 128 < 128 := by omega
      have hq0 : 0 < N / 128 := by omega
      obtain ⟨p, hp⟩ : ∃ p, N % 128 = p := ⟨_, rfl⟩
      rw [hp] at b2 hp128 Hor
      have HP := hide hp
      clear hp
      have b5 : bits BinOp.or IntKind.u64 0 (p : Int) = p := or0 p hp128
      go_wp2_with (first | (go_at_call 80; apply hold) | (at_builtin; apply hold))
      go_step3
      go_wp2_with (first | (go_at_call 80; apply hold) | (at_builtin; apply hold))
      refine unhold ((left_any r bs _ hr).mono ?_)
      rintro e w1 ⟨rfl, rfl⟩
      go_wp2_with (first | (go_at_call 80; apply hold) | (at_builtin; apply hold))
      go_step3
      refine ⟨rfl, rfl, 1, p, ⟨by omega, by rw [← HP.out, Nat.pow_one], ?_, fun _ => ?_⟩, _, _, _, _, _, _, _, _, _, _, _, _, _, _, _, _, _, _, _, _, _, _, _, _, _, _, _, _, _, _, _, _, _, _, _, _, _, _, _, _, _, _, _, _, rfl⟩
      · rw [Nat.pow_one]; exact HD.out
      · rw [Nat.pow_one]; exact hq0
  · rintro a' w' ⟨rfl, k, acc, ⟨hk, hacc, hrest, hpos⟩, u6, u7, u8, u9, u10, u11, u12, u13, u14, u15, u16, u17, u18, u19, u20, u21, u22, u23, u24, u25, u26, u27, u28, u29, u30, u31, u32, u33, u34, u35, u36, u37, u38, u39, u40, u41, u42, u43, u44, u45, u46, u47, u48, u49, rfl⟩
    have hqd : N / 128 ^ k < 128 ∨ 128 ≤ N / 128 ^ k := by omega
    obtain ⟨q, hq⟩ : ∃ q, q = N / 128 ^ k := ⟨_, rfl⟩
    rw [← hq] at hrest hpos hqd
    obtain ⟨c0, tl, hct⟩ : ∃ c0 tl, uvar q ++ rest = c0 :: tl := by
      cases h : uvar q with
      | nil => have := uvar_pos q; rw [h] at this; simp at this
      | cons a b => exact ⟨a, b ++ rest, rfl⟩
    have hlt : k < n := by
      have h1 := congrArg List.length (hrest.symm.trans hct)
      have h2 := Hlen.out
      simp only [List.length_drop, List.length_cons] at h1
      omega
    have hget : (u8s bs)[k]? = some (.int .u8 (c0.toNat : Int)) := by
      have h1 : (bs.drop k)[0]? = some c0 := by rw [← hrest, hct]; rfl
      rw [List.getElem?_drop, Nat.add_zero] at h1
      unfold u8s; rw [List.getElem?_map, h1]; rfl
    obtain ⟨b, off, u, rfl, hbl, hu, hcell⟩ := hs.at_ hlt
    rw [hget] at hu
    cases hu
    have haccl : acc < 128 ^ k := by rw [hacc]; exact Nat.mod_lt _ (Nat.pow_pos (by omega))
    have e1 : ((k : Int) == ((bs.length : Nat) : Int)) = false := by have := Hlen.out; simp only [beq_eq_false_iff_ne]; omega
    have e2 : ((k : Int) == 10) = false := by simp only [beq_eq_false_iff_ne]; omega
    have e3 : ((k : Int) == 9) = false := by simp only [beq_eq_false_iff_ne]; omega
    have Hacc : Hid (acc = N % 128 ^ k) := hacc
    have Hq : Hid (q = N / 128 ^ k) := hq
    have HR : Hid (uvar q ++ rest = bs.drop k) := hrest
    have HS := hide hs
    clear hacc hq hrest hget hs
    rcases hqd with hqd | hqd
    · -- the last byte
      have hc0 : c0.toNat = q := by
        rw [uvar_lo hqd] at hct
        injection hct with h _
        rw [← h]; simp [UInt8.toNat_ofNat']; omega
      have hfin : acc + q * 128 ^ k = N := by
        have h1 := Hacc.out; have h2 := Hq.out
        have h3 := Nat.div_add_mod N (128 ^ k)
        rw [← h1, ← h2] at h3
        rw [Nat.mul_comm] at h3; omega
      have hdrop : bs.drop (k + 1) = rest := by
        have h1 := HR.out
        rw [uvar_lo hqd] at h1
        rw [← List.drop_drop, ← h1]; rfl
      have hor := u64_or acc q k hk haccl hqd
      rw [hfin] at hor
      have Hdrop : Hid (bs.drop (k + 1) = rest) := hdrop
      rw [hc0] at hcell
      clear hc0 hfin hct hdrop
      have b1 : (bits BinOp.and IntKind.u8 (q : Int) 128 != 0) = false := and128_lo q hqd
      have b2 : bits BinOp.andNot IntKind.u8 (q : Int) 128 = (q : Int) := andNot128_lo q hqd
      rcases Nat.eq_zero_or_pos q with h00 | h00
      · obtain rfl : k = 0 := by
          rcases Nat.eq_zero_or_pos k with h | h
          · exact h
          · have := hpos h; omega
        subst h00
        have hcell0 : w'.cell? ⟨b, off, none⟩ = some (.int .u8 0) := by simpa using hcell
        have b1' : (bits BinOp.and IntKind.u8 (0 : Int) 128 != 0) = false := and128_lo 0 (by omega)
        have b2' : bits BinOp.andNot IntKind.u8 (0 : Int) 128 = 0 := andNot128_lo 0 (by omega)
        have e1' : ((0 : Int) == ((bs.length : Nat) : Int)) = false := by have := Hlen.out; simp only [beq_eq_false_iff_ne]; omega
        clear hcell b1 b2 e1 e2 e3
        have Hor := hide hor
        clear hor
        go_wp2_with (first | (go_at_call 80; apply hold) | (at_builtin; apply hold))
        refine unhold ((left_any r bs _ hr).mono ?_)
        rintro e w1 ⟨rfl, rfl⟩
        go_wp2_with (first | (go_at_call 80; apply hold) | (at_builtin; apply hold))
        all_goals
          simp only [Exit.jump]
          go_ret2
          refine ⟨?_, ?_, ?_⟩
          · rw [← Hor.out]; rfl
          · rw [← Hdrop.out]; exact Rdr.cut hb HS.out hc hm ha _ (by omega) (by simp [*, Addr.add_lit])
          · exact Kp.setCell (S := (· = r)) (Kp.refl _ _) (fun _ => rfl) _
      · have b4 : ((q : Int) == 0) = false := by simp only [beq_eq_false_iff_ne]; omega
        have Hor := hide hor
        clear hor
        go_wp2_with (first | (go_at_call 80; apply hold) | (at_builtin; apply hold))
        refine unhold ((left_any r bs _ hr).mono ?_)
        rintro e w1 ⟨rfl, rfl⟩
        go_wp2_with (first | (go_at_call 80; apply hold) | (at_builtin; apply hold))
        all_goals
          simp only [Exit.jump]
          go_ret2
          refine ⟨?_, ?_, ?_⟩
          · rw [← Hor.out]; rfl
          · rw [← Hdrop.out]; exact Rdr.cut hb HS.out hc hm ha _ (by omega) (by simp [*, Addr.add_lit])
          · exact Kp.setCell (S := (· = r)) (Kp.refl _ _) (fun _ => rfl) _
    · -- more follow
      have hc0 : c0.toNat = q % 128 + 128 := by
        rw [uvar_hi hqd] at hct
        injection hct with h _
        rw [← h]; simp [UInt8.toNat_ofNat']; omega
      rw [hc0] at hcell
      have b1 : (bits BinOp.and IntKind.u8 ((q % 128 + 128 : Nat) : Int) 128 != 0) = true := and128_hi q
      have b2 : bits BinOp.andNot IntKind.u8 ((q % 128 + 128 : Nat) : Int) 128 = ((q % 128 : Nat) : Int) := andNot128_hi q
      have hk3 : k < 3 := by
        have h2 := Hq.out
        rcases Nat.lt_or_ge k 3 with h | h
        · exact h
        · exfalso
          obtain rfl : k = 3 := by omega
          have : N / 128 ^ 3 < 128 := by omega
          omega
      have hnext : acc + (q % 128) * 128 ^ k = N % 128 ^ (k + 1) ∧ q / 128 = N / 128 ^ (k + 1) := by
        have h1 := Hacc.out; have h2 := Hq.out
        rw [h1, h2, Nat.pow_succ, Nat.div_div_eq_div_mul]
        refine ⟨?_, rfl⟩
        rw [Nat.mod_mul, Nat.mul_comm (128 ^ k)]
      have hdrop : uvar (q / 128) ++ rest = bs.drop (k + 1) := by
        have h1 := HR.out
        rw [uvar_hi hqd] at h1
        rw [← List.drop_drop, ← h1]; rfl
      have hor := u64_or acc (q % 128) k hk haccl (by omega)
      have Hor := hide hor
      have HN := hide hnext
      have HD := hide hdrop
      have hc1 : q % 128 + 128 < 256 := by omega
      clear hor hnext hdrop hct hc0
      generalize q % 128 + 128 = cc at *
      have hp128 : q % 128 < 128 := by omega
      have hq0 : 0 < q / 128 := by omega
      generalize q % 128 = p at *
      generalize q / 128 = q' at *
      go_wp2_with (first | (go_at_call 80; apply hold) | (at_builtin; apply hold))
      refine unhold ((left_any r bs _ hr).mono ?_)
      rintro e w1 ⟨rfl, rfl⟩
      go_wp2_with (first | (go_at_call 80; apply hold) | (at_builtin; apply hold))
      go_step3
      rw [Hor.out]
      refine ⟨rfl, ⟨rfl, k + 1, acc + p * 128 ^ k, ⟨by omega, HN.out.1, ?_, fun _ => ?_⟩, _, _, _, _, _, _, _, _, _, _, _, _, _, _, _, _, _, _, _, _, _, _, _, _, _, _, _, _, _, _, _, _, _, _, _, _, _, _, _, _, _, _, _, _, rfl⟩, ?_⟩
      · rw [← HN.out.2]; exact HD.out
      · rw [← HN.out.2]; exact hq0
      · simp [intOf]; omega

set_option maxRecDepth 100000 in
set_option maxHeartbeats 1000000 in
theorem rbytes_any (r : Nat) (xs rest bs : List UInt8) (hbs : bs = uvar xs.length ++ (xs ++ rest)) (w : World) (hr : Rdr w r bs) (hN : xs.length < 268435456) :
    Calls Tryz.prog 81 #[.pointer (some ⟨r, 0, none⟩)] w fun e w' => ∃ A c, e = .returned (.tuple #[.slice A xs.length c, .int .i64 0]) ∧ OwnB w' w.heap.size A xs.length c xs ∧ Rdr w' r rest ∧ Kp (· = r) w w' := by
  obtain ⟨A0, n0, c0, hb0, hs0, hc0, hm0, ha0⟩ := id hr
  obtain ⟨h0, f0⟩ := hb0.c1
  have Hbs := hide hbs
  clear hbs
  go_enter Tryz.func81, Tryz.ntmps81
  go_wp2_with (first | (go_at_call 79; apply hold) | (go_at_call 80; apply hold) | (at_builtin; apply hold))
  refine unhold ((ruint_any r xs.length (xs ++ rest) bs Hbs.out w hr hN).mono ?_)
  rintro e w1 ⟨rfl, hr1, hk1⟩
  obtain ⟨ys, hys⟩ : ∃ ys, ys = xs ++ rest := ⟨_, rfl⟩
  rw [← hys] at hr1
  have Hys := hide hys
  have hxy : xs.length ≤ ys.length := by rw [hys]; simp
  clear hys
  obtain ⟨A1, n1, c1, hb1, hs1, hc1, hm1, ha1⟩ := id hr1
  obtain ⟨h1, f1⟩ := hb1.c1
  have hrlt := hb1.lt
  obtain rfl : ys.length = n1 := by have := hs1.1; rwa [u8s_len] at this
  have hlc : xs.length ≤ c1 := by omega
  have Hm1 := hide hm1
  unfold maxLen at hm1
  go_wp2_with (first | (go_at_call 79; apply hold) | (go_at_call 80; apply hold) | (at_builtin; apply hold))
  refine unhold ((left_any r ys w1 hr1).mono ?_)
  rintro e w2 ⟨rfl, rfl⟩
  go_wp2_with (first | (go_at_call 79; apply hold) | (go_at_call 80; apply hold) | (at_builtin; apply hold))
  refine unhold (app_u8 rfl (.tmp 35) (.tmp 41) rfl w1.heap.size _ _ _ [] rfl (OwnB.lit w1 _ #[] 0 [] (Nat.le_refl _) rfl (by simp) rfl) A1 xs.length c1 xs rfl (by
    have h := (hs1.take_ hxy).alloc (.cells #[] 5)
    rw [← u8s_take] at h
    have e : ys.take xs.length = xs := by rw [Hys.out]; simp
    rwa [e] at h) (by omega) (by simp) ?_)
  intro A2 c2 w2 ho2 hg2 _
  have hb12 : Below w1.heap.size w1 w2 := ((Below.refl _ _).alloc (Nat.le_refl _) _).grown hg2 (by simp) (by intro k hk; cases hk; exact Nat.le_refl _)
  clear hg2
  rw [Nat.zero_add, List.nil_append] at ho2
  rw [Nat.zero_add]
  have hb2 := below_blk hb12 hb1 hrlt
  have hs2 := hs1.below hb12
  have hr2ne : ablk A2 ≠ some r := fun e => by have := (ho2.lt e).1; omega
  obtain ⟨h2, f2⟩ := hb2.c1
  clear h1 f1
  have hk2 : Kp (· = r) w w2 := hk1.trans (S' := Nobody) (Kp.below hb12) (fun _ _ h => h.elim)
  have hz1 := hk1.size
  go_wp2_with fail
  all_goals
    go_ret2
    refine ⟨A2, c2, rfl, (ho2.mono hz1).setCell hr2ne _, ?_, hk2.setCell (fun _ => rfl) _⟩
    have e : ys.drop xs.length = rest := by rw [Hys.out]; simp
    rw [← e]
    exact Rdr.cut hb2 hs2 hc1 Hm1.out ha1 _ hxy (by simp [*])

end Go.Proofs.YtonkblhhknafbaaGreat
