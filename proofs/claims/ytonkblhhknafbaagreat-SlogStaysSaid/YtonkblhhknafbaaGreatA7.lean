/- The walk of crc.Scan, over frames that are whole. -/
import Derived.Test.YtonkblhhknafbaaGreatA6
import Derived.Test.YtonkblhhknafbaaGreatK2
namespace Go.Proofs.YtonkblhhknafbaaGreat
open Go.RowKit

/-- payloads, framed, one behind the other -/
def catF (pays : List (List UInt8)) : List UInt8 := (pays.map frameB).flatten
theorem catF_nil : catF [] = [] := rfl
theorem catF_cons (p : List UInt8) (l : List (List UInt8)) : catF (p :: l) = frameB p ++ catF l := rfl
theorem catF_app (a b : List (List UInt8)) : catF (a ++ b) = catF a ++ catF b := by simp [catF]
theorem catF_one (p : List UInt8) : catF [p] = frameB p := by simp [catF]
theorem frameB_len (p : List UInt8) : (frameB p).length = (uvar p.length).length + p.length + 4 := by simp [frameB, fourB_len]; omega
theorem catF_split (l : List (List UInt8)) (k : Nat) (h : k < l.length) : (catF l).drop (catF (l.take k)).length = frameB l[k] ++ catF (l.drop (k + 1)) := by
  have e : l = l.take k ++ (l[k] :: l.drop (k + 1)) := by
    rw [List.getElem_cons_drop]; simp
  have e2 : catF l = catF (l.take k) ++ catF (l[k] :: l.drop (k + 1)) := by rw [← catF_app, ← e]
  rw [e2, List.drop_left]
  rfl
theorem catF_take_succ (l : List (List UInt8)) (k : Nat) (h : k < l.length) : (catF (l.take (k + 1))).length = (catF (l.take k)).length + (frameB l[k]).length := by
  rw [List.take_succ_eq_append_getElem h, catF_app, catF_one]; simp

/-- a row of rows of bytes, all of the call's own -/
def RowB (w : World) (base : Nat) (A : Option Addr) (m c : Nat) (pays : List (List UInt8)) : Prop :=
  ∃ xs : List Value, Own w base 32 1 A m c xs ∧ m = pays.length ∧ ∀ (i : Nat) (p : List UInt8), pays[i]? = some p → ∃ (A' : Option Addr) (c' : Nat), xs[i]? = some (Value.slice A' p.length c') ∧ OwnB w base A' p.length c' p
theorem RowB.keep {w w' : World} {base : Nat} {A : Option Addr} {m c : Nat} {pays : List (List UInt8)} (h : RowB w base A m c pays) (hk : ∀ k, base ≤ k → k < w.heap.size → w'.heap[k]? = w.heap[k]?) : RowB w' base A m c pays := by
  obtain ⟨xs, ho, hm, hx⟩ := h
  refine ⟨xs, ho.keep (fun k e hlt => hk k (ho.lt e).1 hlt), hm, fun i p hp => ?_⟩
  obtain ⟨A', c', h1, h2⟩ := hx i p hp
  exact ⟨A', c', h1, h2.keep (fun k e hlt => hk k (h2.lt e).1 hlt)⟩
theorem RowB.below {w w' : World} {base : Nat} {A : Option Addr} {m c : Nat} {pays : List (List UInt8)} (h : RowB w base A m c pays) (hb : Below w.heap.size w w') : RowB w' base A m c pays := h.keep (fun k _ hk => hb.block k hk)
theorem RowB.mono {w : World} {base base' : Nat} {A : Option Addr} {m c : Nat} {pays : List (List UInt8)} (h : RowB w base A m c pays) (hb : base' ≤ base) : RowB w base' A m c pays := by
  obtain ⟨xs, ho, hm, hx⟩ := h
  refine ⟨xs, ho.mono hb, hm, fun i p hp => ?_⟩
  obtain ⟨A', c', h1, h2⟩ := hx i p hp
  exact ⟨A', c', h1, h2.mono hb⟩
/-- one more, behind an append -/
theorem RowB.snoc {w w' : World} {base : Nat} {A A' A1 : Option Addr} {m c c' c1 : Nat} {pays : List (List UInt8)} {p : List UInt8} {xs : List Value}
    (hx : ∀ (i : Nat) (q : List UInt8), pays[i]? = some q → ∃ (A' : Option Addr) (c' : Nat), xs[i]? = some (Value.slice A' q.length c') ∧ OwnB w base A' q.length c' q) (hm : m = pays.length) (ho : Own w base 32 1 A m c xs) (hp : OwnB w base A1 p.length c1 p)
    (ho' : Own w' base 32 1 A' (m + 1) c' (xs ++ [Value.slice A1 p.length c1])) (hk : Kp (fun k => ablk A = some k) w w') : RowB w' base A' (m + 1) c' (pays ++ [p]) := by
  have hxl := ho.len
  refine ⟨_, ho', by simp [hm], fun i q hq => ?_⟩
  have keepB : ∀ {A2 : Option Addr} {n2 c2 : Nat} {q : List UInt8}, OwnB w base A2 n2 c2 q → OwnB w' base A2 n2 c2 q := fun h2 => h2.kp hk (fun k e _ hS => ho.ne_own (e' := 5) h2.own (by decide) e hS)
  by_cases hi : i < pays.length
  · rw [List.getElem?_append_left hi] at hq
    obtain ⟨A2, c2, h1, h2⟩ := hx i q hq
    exact ⟨A2, c2, by rw [List.getElem?_append_left (by omega)]; exact h1, keepB h2⟩
  · rw [List.getElem?_append_right (by omega)] at hq
    have hi0 : i - pays.length = 0 := by
      rcases Nat.eq_zero_or_pos (i - pays.length) with h | h
      · exact h
      · rw [List.getElem?_eq_none (by simp; omega)] at hq; cases hq
    rw [hi0] at hq
    simp at hq
    subst hq
    refine ⟨A1, c1, ?_, keepB hp⟩
    rw [List.getElem?_append_right (by omega), show i - xs.length = 0 by omega]
    rfl

set_option maxRecDepth 100000 in
set_option maxHeartbeats 1000000 in
theorem scan_any (A : Option Addr) (n c : Nat) (pays : List (List UInt8)) (w : World) (hr : Sl w A n (u8s (catF pays))) (hp : ∀ p ∈ pays, p.length ≤ 4096) (hn : n ≤ c) (hc : c ≤ maxLen) (hn2 : n ≤ 2000000) :
    Calls Tryz.prog 77 #[.slice A n c] w fun e w' => ∃ A' m c', e = .returned (.tuple #[.slice A' m c', .int .i64 n]) ∧ RowB w' w.heap.size A' m c' pays ∧ Below w.heap.size w w' := by
  have hlb : (catF pays).length = n := by have := hr.1; rwa [u8s_len] at this
  have Hlb := hide hlb
  have Hc := hide hc
  unfold maxLen at hc
  clear hlb
  go_enter Tryz.func77, Tryz.ntmps77
  go_wp2_with (first | (go_at_call 99; apply hold) | (at_builtin; apply hold))
  go_step3
  go_wp2_with fail
  go_step3
  go_wp2_with fail
  go_loopw [4, 5] (fun v q wr => ∃ k A' m c' at_, v = .slice A' m c' ∧ q = .int .i64 (at_ : Nat) ∧ k ≤ pays.length ∧ at_ = (catF (pays.take k)).length ∧ RowB wr w.heap.size A' m c' (pays.take k) ∧ Below w.heap.size w wr) (fun _ q _ => n - (intOf q).toNat)
  case atStart => exact ⟨0, none, 0, 0, 0, rfl, rfl, by omega, by simp [catF_nil], ⟨[], Own.nil _ _ _ _, rfl, fun i p h => by simp at h⟩, Below.refl _ _⟩
  case round =>
    obtain ⟨k, A', m, c', at_, rfl, rfl, hk, hat, hrow, hb⟩ := hrel
    have hz := hb.size
    by_cases hlt : k < pays.length
    · have hs := catF_split pays k hlt
      have ht := catF_take_succ pays k hlt
      rw [← hat] at hs ht
      obtain ⟨p, hpe⟩ : ∃ p, p = pays[k] := ⟨_, rfl⟩
      have hpl : p.length ≤ 4096 := by rw [hpe]; exact hp _ (List.getElem_mem _)
      have htk : pays.take (k + 1) = pays.take k ++ [p] := by rw [hpe]; exact List.take_succ_eq_append_getElem hlt
      rw [← hpe] at hs ht
      have hfl := frameB_len p
      have hatn : at_ + (frameB p).length ≤ n := by
        have h1 := congrArg List.length hs
        simp only [List.length_drop, List.length_append] at h1
        have := Hlb.out
        omega
      have hfp : 0 < (frameB p).length := by omega
      have hatlt : at_ < n := by omega
      have hmk : m ≤ 2000000 := by
        obtain ⟨xs, _, hm, _⟩ := hrow
        have e1 : ∀ l : List (List UInt8), l.length ≤ (catF l).length := by
          intro l
          induction l with
          | nil => simp
          | cons q l ih => rw [catF_cons, List.length_append, frameB_len]; simp; omega
        have e2 := e1 (pays.take k)
        rw [← hm, ← hat] at e2
        omega
      obtain ⟨fl, hfle⟩ : ∃ fl, fl = (frameB p).length := ⟨_, rfl⟩
      rw [← hfle] at hatn hfp ht
      have Hs := hide hs
      have Ht := hide ht
      have Htk := hide htk
      have Hfl := hide hfle
      have Hat := hide hat
      clear hs ht hpe htk hfl hat hfle
      have hcut := ((hr.below hb).cut (k := at_) (cap := c) (by omega) hn)
      rw [if_neg (by omega), ← u8s_drop] at hcut
      go_wp2_with (first | (go_at_call 99; apply hold) | (at_builtin; apply hold))
      refine unhold ((copen_any _ (n - at_) (c - at_) p _ _ Hs.out wr hcut hpl (by omega) (by unfold maxLen; omega) (by omega)).mono ?_)
      rintro e w1 ⟨A1, c1, rfl, ho1, hb1⟩
      rw [← Hfl.out]
      have hrow1 := hrow.below hb1
      obtain ⟨xs, hox, hmx, hxs⟩ := hrow1
      have Hmx := hide hmx
      clear hmx
      have hz1 := hb1.size
      go_wp2_with (first | (go_at_call 99; apply hold) | (at_builtin; apply hold))
      refine unhold (app_row rfl (.tmp 23) (.tmp 25) rfl w.heap.size _ _ _ xs rfl (hox.alloc _) A1 _ c1 w1 rfl rfl (by omega) (by simp; omega) ?_)
      intro A2 c2 w2 ho2 hg2 _
      have hkp : Kp (fun k => ablk A' = some k) w1 w2 := (Kp.alloc (Kp.refl _ w1) _).grown hg2 (fun k e _ => e)
      have hb2 : Below w.heap.size w w2 := (hb.trans (hb1.mono hz)).trans ⟨hkp.os, hkp.tape, hkp.output, hkp.size, fun j hj => hkp.block j (by omega) (fun e => by have := (hox.lt e).1; omega)⟩
      have hrow2 := RowB.snoc hxs Hmx.out hox (ho1.mono hz) ho2 hkp
      rw [← Htk.out] at hrow2
      clear hg2
      go_wp2_with (first | (go_at_call 99; apply hold) | (at_builtin; apply hold))
      go_roundw
      case rel => exact ⟨k + 1, A2, _, c2, at_ + fl, rfl, by simp, by omega, Ht.out.symm, hrow2, hb2⟩
      case measure => simp [intOf]; omega
    · obtain rfl : k = pays.length := by omega
      rw [List.take_length] at hrow hat
      have hatn : at_ = n := by rw [hat]; exact Hlb.out
      subst hatn
      clear hat
      go_wp2_with (first | (go_at_call 99; apply hold) | (at_builtin; apply hold))
      rw [Exit.noGoto_ret]
      go_ret2
      exact ⟨A', m, c', rfl, hrow, hb⟩
end Go.Proofs.YtonkblhhknafbaaGreat
