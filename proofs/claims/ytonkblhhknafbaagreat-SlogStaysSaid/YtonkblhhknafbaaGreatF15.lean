/- The walks of the atomics, and of Log.ask. Whatever the heap holds beside. -/
import Derived.Test.YtonkblhhknafbaaGreatF14
import Derived.Laws.LoneSync
namespace Go.Proofs.YtonkblhhknafbaaGreat
open Go.RowKit Go.Shelf

theorem add32 {w : World} {a : Addr} {x : Int} (hc : w.cell? a = some (.int .i32 x)) (hz : w.frozen? a = false) (hs : 0 ≤ x ∧ x ≤ 1000) :
    (callFunc 82 #[.pointer (some a), .int .i32 1]).run Tryz.prog w = .ok (.value (.int .i32 (x + 1))) (w.setCell a (.int .i32 (x + 1))) :=
  run_call_add (P := Tryz.prog) (f := 82) Tryz.func82 (by kernel_rfl) (by kernel_rfl) (by kernel_rfl) .i32 (by kernel_rfl) hc hz (by
    have e : IntKind.i32.wrap (x + 1) = x + 1 := by
      simp [IntKind.wrap, IntKind.bits, IntKind.signed]; omega
    simp [Op.intArith, e])
theorem load32 {w : World} {a : Addr} {x : Int} (hc : w.cell? a = some (.int .i32 x)) :
    (callFunc 83 #[.pointer (some a)]).run Tryz.prog w = .ok (.value (.int .i32 x)) w :=
  run_call_load (P := Tryz.prog) (f := 83) Tryz.func83 (by kernel_rfl) (by kernel_rfl) (by kernel_rfl) .i32 (by kernel_rfl) hc

set_option maxRecDepth 100000 in
set_option maxHeartbeats 1000000 in
theorem iadd_any (X : Nat) (x : Nat) (w : World) (hX : Blk w X 113 #[.int .i32 x]) (hx : x ≤ 1000) :
    Calls Tryz.prog 53 #[.pointer (some ⟨X, 0, none⟩), .int .i32 1] w fun e w' => e = .returned (.int .i32 ((x + 1 : Nat) : Int)) ∧ Blk w' X 113 #[.int .i32 ((x + 1 : Nat) : Int)] ∧ Kp (· = X) w w' := by
  obtain ⟨h0, f0⟩ := hX.c1
  have ha := add32 h0 f0 (by omega)
  go_enter Tryz.func53, Tryz.ntmps53
  go_wp2
  go_ret
  exact ⟨rfl, hX.set_ 0 _, (Kp.refl (· = X) w).setCell (fun _ => rfl) _⟩

set_option maxRecDepth 100000 in
set_option maxHeartbeats 1000000 in
theorem iload_any (X : Nat) (x : Nat) (w : World) (hX : Blk w X 113 #[.int .i32 x]) :
    Calls Tryz.prog 54 #[.pointer (some ⟨X, 0, none⟩)] w fun e w' => e = .returned (.int .i32 (x : Int)) ∧ w' = w := by
  obtain ⟨h0, f0⟩ := hX.c1
  have ha := load32 h0
  go_enter Tryz.func54, Tryz.ntmps54
  go_wp2
  go_ret
  exact ⟨rfl, rfl⟩

def ptrV (nd : Nat) : Value := .pointer (some ⟨nd, 0, none⟩)
def rch (bs : List Bool) (i : Nat) : Bool := (bs[i]?).getD false

set_option maxRecDepth 100000 in
set_option maxHeartbeats 2000000 in
theorem ask_any (g : Nat) (cb : Array Value) (heg : ∀ args w, (callFunc g args).run Tryz.prog w = .ok (.enter g args) w) (lg n cn : Nat) (An : Option Addr) (c0 c2 c3 c4 : Value) (nds : List Nat) (R : Option Addr) (m cR : Nat) (bs : List Bool) (Inv : Nat → Nat → World → Prop) (w : World)
    (hlog : ∀ i k w', Inv i k w' → Blk w' lg 63 #[c0, .slice An n cn, c2, c3, c4] ∧ Sl w' An n (nds.map ptrV) ∧ Sl w' R m (bs.map Value.bool))
    (hstab : ∀ i k w' w'', Inv i k w' → Kp (· = w.heap.size) w' w'' → Inv i k w'')
    (hskip : ∀ i k w', i < n → Inv i k w' → rch bs i = false → Inv (i + 1) k w')
    (hstep : ∀ i k w' nd, nds[i]? = some nd → Inv i k w' → rch bs i = true → w.heap.size < w'.heap.size → Calls Tryz.prog g (#[ptrV nd] ++ cb) w' fun e w'' => ∃ r : Int, e = .returned (.int .i64 r) ∧ Inv (i + 1) (if r = 0 then k + 1 else k) w'' ∧ w''.heap[w.heap.size]? = w'.heap[w.heap.size]? ∧ w'.heap.size ≤ w''.heap.size)
    (h0 : Inv 0 0 (w.alloc (.cells #[.int .i32 0] 113))) (hn1 : 1 ≤ n) (hn2 : n ≤ 100) :
    Calls Tryz.prog 28 #[.pointer (some ⟨lg, 0, none⟩), .slice R m cR, .func (.func g) #[] cb] w fun e w' => ∃ k, e = .returned (.bool (decide (n / 2 + 1 ≤ k))) ∧ Inv n k w' := by
  obtain ⟨hl0, hsn0, hsr0⟩ := hlog _ _ _ h0
  obtain ⟨x0, x1, x2, x3, x4, _⟩ := Blk.c5 hl0
  have hnl : nds.length = n := by have := hsn0.1; rwa [List.length_map] at this
  have hbl : bs.length = m := by have := hsr0.1; rwa [List.length_map] at this
  have hX0 : Blk (w.alloc (.cells #[.int .i32 0] 113)) w.heap.size 113 #[.int .i32 (0 : Nat)] := Blk.new _ _ _
  have hs0 : (w.alloc (.cells #[.int .i32 0] 113)).heap.size = w.heap.size + 1 := by simp
  go_enter Tryz.func28, Tryz.ntmps28
  go_wp2_with fail
  clear hl0 hsn0 hsr0 x0 x1 x2 x3 x4
  go_loopw [15] (fun v wr => ∃ i k : Nat, v = .int .i64 i ∧ i ≤ n ∧ k ≤ i ∧ Inv i k wr ∧ Blk wr w.heap.size 113 #[.int .i32 k]) (fun v _ => n - (intOf v).toNat)
  case atStart => exact ⟨0, 0, rfl, by omega, by omega, h0, hX0⟩
  case round =>
    obtain ⟨i, k, rfl, hi, hk, hI, hX⟩ := hrel
    obtain ⟨hl, hsn, hsr⟩ := hlog _ _ _ hI
    obtain ⟨x0, x1, x2, x3, x4, _⟩ := Blk.c5 hl
    have hXlt := hX.lt
    by_cases hlt : i < n
    · have hnd : nds[i]? = some nds[i] := List.getElem?_eq_getElem (by omega)
      obtain ⟨nd, hnde⟩ : ∃ nd, nd = nds[i] := ⟨_, rfl⟩
      rw [← hnde] at hnd
      clear hnde
      obtain ⟨bN, offN, u, rfl, hbN, hu, hcu⟩ := hsn.at_ hlt
      rw [List.getElem?_map, hnd] at hu
      cases hu
      have hcu' : wr.cell? ⟨bN, offN + i, none⟩ = some (.pointer (some ⟨nd, 0, none⟩)) := hcu
      by_cases him : i < m
      · obtain ⟨bR, offR, u2, rfl, hbR, hu2, hcu2⟩ := hsr.at_ him
        have hbi : bs[i]? = some bs[i] := List.getElem?_eq_getElem (by omega)
        obtain ⟨bi, hbie⟩ : ∃ bi, bi = bs[i] := ⟨_, rfl⟩
        rw [← hbie] at hbi
        clear hbie
        rw [List.getElem?_map, hbi] at hu2
        cases hu2
        have hrc : rch bs i = bi := by unfold rch; rw [hbi]; rfl
        cases bi with
        | false =>
          have Hrc := hide hrc
          clear hrc
          go_wp2_with (first | (go_at_fn g; apply hold) | (go_at_call 53; apply hold))
          go_roundw
          case rel => exact ⟨i + 1, k, rfl, by omega, by omega, hskip i k wr hlt hI Hrc.out, hX⟩
          case measure => simp [intOf]; omega
        | true =>
          have hst := hstep i k wr nd hnd hI hrc hXlt
          have Hst := hide hst
          clear hst hrc
          go_wp2_with (first | (go_at_fn g; apply hold) | (go_at_call 53; apply hold))
          refine unhold (Hst.out.mono ?_)
          rintro e w5 ⟨r, rfl, hI5, hX5, hz5⟩
          have hX5' : Blk w5 w.heap.size 113 #[.int .i32 k] := Blk.of_eq hX hX5
          by_cases hr : r = 0
          · subst hr
            rw [if_pos rfl] at hI5
            go_wp2_with (first | (go_at_fn g; apply hold) | (go_at_call 53; apply hold))
            refine unhold ((iadd_any w.heap.size k w5 hX5' (by omega)).mono ?_)
            rintro e w6 ⟨rfl, hX6, hk6⟩
            go_wp2_with fail
            go_roundw
            case rel => exact ⟨i + 1, k + 1, rfl, by omega, by omega, hstab _ _ _ _ hI5 hk6, hX6⟩
            case measure => simp [intOf]; omega
          · rw [if_neg hr] at hI5
            have hrb : decide (r = 0) = false := by simp [hr]
            go_wp2_with (first | (go_at_fn g; apply hold) | (go_at_call 53; apply hold))
            go_roundw
            case rel => exact ⟨i + 1, k, rfl, by omega, by omega, hI5, hX5'⟩
            case measure => simp [intOf]; omega
      · have hrc : rch bs i = false := by
          unfold rch
          rw [List.getElem?_eq_none (by omega)]; rfl
        have Hrc := hide hrc
        clear hrc
        have him' : decide ((i : Int) < (m : Int)) = false := by simp; omega
        go_wp2_with (first | (go_at_fn g; apply hold) | (go_at_call 53; apply hold))
        go_roundw
        case rel => exact ⟨i + 1, k, rfl, by omega, by omega, hskip i k wr hlt hI Hrc.out, hX⟩
        case measure => simp [intOf]; omega
    · obtain rfl : i = n := by omega
      have gk : IntKind.i64.wrap (k : Int) = (k : Int) := by rw [IntKind.wrap_i64]; omega
      go_wp2_with fail
      go_quiet (first | (go_at_call 54; exact Calls.quiet_of_same (iload_any w.heap.size k _ (Blk.drewN hX _))) | (go_at_call 55; exact Calls.quiet_of_same ((need_any i hn1 hn2 _).mono (fun _ _ h => ⟨h.1, h.2.symm⟩))))
      go_wp2_with fail
      go_ret
      refine ⟨k, ?_, hstab _ _ _ _ hI ((Kp.refl _ wr).drewN nq)⟩
      show Ending.returned (Value.bool (decide ((i : Int) / 2 + 1 ≤ (k : Int)))) = _
      rw [show decide ((i : Int) / 2 + 1 ≤ (k : Int)) = decide (i / 2 + 1 ≤ k) from decide_eq_decide.2 (by omega)]
end Go.Proofs.YtonkblhhknafbaaGreat
