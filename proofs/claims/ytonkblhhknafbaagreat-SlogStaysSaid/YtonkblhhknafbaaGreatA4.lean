/- The walks of the check sum. -/
import Derived.Test.YtonkblhhknafbaaGreatA3
namespace Go.Proofs.YtonkblhhknafbaaGreat
open Go.RowKit

/-- a step of a byte's part -/
def tstep (n : Int) : Int := bits BinOp.xor IntKind.u32 (n / 2) (bits BinOp.and IntKind.u32 2197175160 (-bits BinOp.and IntKind.u32 n 1 % 4294967296))
def titer : Nat → Int → Int
  | 0, n => n
  | m + 1, n => tstep (titer m n)
/-- a byte's part -/
def tab (k : Nat) : Int := titer 8 k

/-- the table's cells once k bytes are laid -/
def TabRow (cs cr : Array Value) (k : Nat) : Prop := cr.size = 259 ∧ (∀ i, i < 3 → cr[i]? = cs[i]?) ∧ ∀ j, j < k → cr[3 + j]? = some (.int .u32 (tab j))

theorem TabRow.step {cs cr : Array Value} {k : Nat} (h : TabRow cs cr k) (hk : k < 256) : TabRow cs (cr.setIfInBounds (3 + k) (.int .u32 (tab k))) (k + 1) := by
  obtain ⟨h1, h2, h3⟩ := h
  refine ⟨by simpa using h1, fun i hi => ?_, fun j hj => ?_⟩
  · rw [Array.getElem?_setIfInBounds_ne (by omega)]; exact h2 i hi
  · by_cases e : j = k
    · subst e
      rw [Array.getElem?_setIfInBounds_self_of_lt (by omega)]
    · rw [Array.getElem?_setIfInBounds_ne (by omega)]
      exact h3 j (by omega)

set_option maxRecDepth 100000 in
set_option maxHeartbeats 1600000 in
theorem tabfill (b pl : Nat) (cs : Array Value) (w : World) (hp : w.cell? ⟨pl, 0, none⟩ = some (.pointer (some ⟨b, 0, none⟩))) (hb : Blk w b 210 cs) (hsz : cs.size = 259) (hne : b ≠ pl) :
    Calls Tryz.prog 125 #[.pointer (some ⟨pl, 0, none⟩)] w fun e w' => e = .returned (.tuple #[]) ∧ (∃ cr, Blk w' b 210 cr ∧ TabRow cs cr 256) ∧ Kp (· = b) w w' := by
  go_enter Tryz.func125, Tryz.ntmps125
  go_wp2_with fail
  go_loopw [3] (fun i wr => ∃ k : Nat, k ≤ 256 ∧ i = .int .i64 (k : Nat) ∧ wr.cell? ⟨pl, 0, none⟩ = some (.pointer (some ⟨b, 0, none⟩)) ∧ (∃ cr, Blk wr b 210 cr ∧ TabRow cs cr k) ∧ Kp (· = b) w wr) (fun i _ => 256 - (intOf i).toNat)
  case atStart => exact ⟨0, by omega, rfl, hp, ⟨cs, hb, hsz, fun _ _ => rfl, fun _ h => absurd h (by omega)⟩, Kp.refl _ _⟩
  case round =>
    obtain ⟨k, hk, rfl, hpr, ⟨cr, hbr, htr⟩, hkp⟩ := hrel
    have hf := hbr.free (3 + k)
    obtain ⟨wo, hwo⟩ : ∃ wo, wo = wr := ⟨_, rfl⟩
    subst hwo
    by_cases hlt : k < 256
    · obtain ⟨x, hx⟩ : ∃ x, cr[3 + k]? = some x := ⟨_, Array.getElem?_eq_getElem (by have := htr.1; omega)⟩
      have hx' := (hbr.cell (3 + k)).trans hx
      clear hx
      go_wp2_with fail
      go_loop [2, 8] (fun x j => ∃ m : Nat, m ≤ 8 ∧ j = .int .i64 (m : Nat) ∧ x = .int .u32 (titer m k)) (fun _ j => 8 - (intOf j).toNat)
      case atStart => exact ⟨0, by omega, rfl, rfl⟩
      case round =>
        obtain ⟨m, hm, rfl, rfl⟩ := hrel
        by_cases hlt8 : m < 8
        · go_wp2_with fail
          go_round
          case rel => exact ⟨m + 1, by omega, by simp, rfl⟩
          case measure => simp [intOf]; omega
        · obtain rfl : m = 8 := by omega
          go_wp2_with fail
          go_roundw
          case rel =>
            refine ⟨k + 1, by omega, by simp, ?_, ⟨_, hbr.set_ (3 + k) _, htr.step hlt⟩, hkp.setCell (fun _ => rfl) _⟩
            exact (World.cell?_setCell_other _ ⟨b, 3 + k, none⟩ ⟨pl, 0, none⟩ _ (fun h => hne (by injection h))).trans hpr
          case measure => simp [intOf]; omega
    · obtain rfl : k = 256 := by omega
      go_wp2_with fail
      go_end0
      exact ⟨rfl, ⟨cr, hbr, htr⟩, hkp⟩

theorem enters_fn {P : Program} {f : FuncId} {fn : Func} {c : Code} (hf : P.funcs[f]? = some fn) (hname : (fn.name == "runtime.NumGoroutine") = false) (hb : fn.body = some c) (args : Array Value) (w : World) : (callFunc f args).run P w = .ok (.enter f args) w := by
  have h1 : fn.name ≠ "runtime.NumGoroutine" := by simpa using hname
  simp [callFunc, hf, h1, hb, mark]
theorem eg125 : ∀ (args : Array Value) (w : World), Sem.run Tryz.prog (callFunc 125 args) w = .ok (.enter 125 args) w := enters_fn Tryz.func125 (by kernel_rfl) rfl

/-- the table, not yet laid (d = 0) or laid (d = 1) -/
def TabAt (w : World) (b : Nat) : Prop := ∃ cs, Blk w b 210 cs ∧ cs.size = 259 ∧
  ((cs[0]? = some (.int .u32 0) ∧ cs[1]? = some (.int .i32 0)) ∨ (cs[0]? = some (.int .u32 1) ∧ ∀ j, j < 256 → cs[3 + j]? = some (.int .u32 (tab j))))

set_option maxRecDepth 100000 in
set_option maxHeartbeats 1600000 in
theorem tabat (b : Nat) (c : Nat) (hc : c < 256) (w : World) (h : TabAt w b) :
    Calls Tryz.prog 122 #[.pointer (some ⟨b, 0, none⟩), .int .u8 c] w fun e w' => e = .returned (.int .u32 (tab c)) ∧ TabAt w' b ∧ Kp (· = b) w w' := by
  obtain ⟨cs, hb, hsz, h⟩ := h
  have hlt := hb.lt
  have hmf : ∀ (fn : Fn) (first cap : Array Value) (w : World), (Instr.makeFunc fn first cap).run Tryz.prog w = .ok (.func fn first cap) w := fun _ _ _ _ => rfl
  rcases h with ⟨h0, h1⟩ | ⟨h0, h3⟩
  · have hbo : Blk (w.alloc (.cells #[.pointer (some ⟨b, 0, none⟩)] 198)) b 210 cs := hb.alloc _
    have hne : b ≠ w.heap.size := by omega
    have hset := hbo.set_ 1 (.int .i32 1)
    have hpl : ((w.alloc (.cells #[.pointer (some ⟨b, 0, none⟩)] 198)).setCell ⟨b, 1, none⟩ (.int .i32 1)).cell? ⟨w.heap.size, 0, none⟩ = some (.pointer (some ⟨b, 0, none⟩)) :=
      (World.cell?_setCell_other _ ⟨b, 1, none⟩ ⟨w.heap.size, 0, none⟩ _ (fun h => hne (by injection h))).trans (by simp)
    have hfill := tabfill b w.heap.size _ _ hpl hset (by simpa using hsz) hne
    have hdo := do_first b 0 125 #[.pointer (some ⟨w.heap.size, 0, none⟩)] (w.alloc (.cells #[.pointer (some ⟨b, 0, none⟩)] 198))
      (fun w' => (∃ cr, Blk w' b 210 cr ∧ TabRow (cs.setIfInBounds 1 (.int .i32 1)) cr 256) ∧ Kp (· = b) (w.alloc (.cells #[.pointer (some ⟨b, 0, none⟩)] 198)) w') eg125
      ((hbo.cell 0).trans h0) ((hbo.cell 1).trans h1) (hbo.free 0) (hbo.free 1) (hfill.mono (by
        rintro e w' ⟨rfl, ⟨cr, hcr, htr⟩, hk⟩
        have hk' : Kp (· = b) (w.alloc (.cells #[.pointer (some ⟨b, 0, none⟩)] 198)) w' := (Kp.setCell (S := (· = b)) (Kp.refl _ _) (fun _ => rfl) _).trans hk (fun _ _ h => h)
        refine ⟨rfl, ⟨⟨cr, hcr, htr⟩, hk'⟩, ?_, ?_, hcr.free 0, hcr.free 1⟩
        · rw [hcr.cell 0, htr.2.1 0 (by omega), Array.getElem?_setIfInBounds_ne (by omega)]; exact h0
        · rw [hcr.cell 1, htr.2.1 1 (by omega), Array.getElem?_setIfInBounds_self_of_lt (by omega)]))
    have Hdo := hide hdo
    clear hdo hfill hpl hset
    go_enter Tryz.func122, Tryz.ntmps122
    go_wp2_with (first | (go_at_call 124; apply hold))
    refine unhold (Hdo.out.mono ?_)
    rintro e w1 ⟨rfl, w2, ⟨⟨cr, hcr, htr⟩, hk⟩, rfl⟩
    have hb2 : Blk ((w2.drew.setCell ⟨b, 0, none⟩ (.int .u32 1)).setCell ⟨b, 0 + 1, none⟩ (.int .i32 0)) b 210 ((cr.setIfInBounds 0 (.int .u32 1)).setIfInBounds 1 (.int .i32 0)) := (hcr.drew.set_ 0 _).set_ 1 _
    have hk2 : Kp (· = b) (w.alloc (.cells #[.pointer (some ⟨b, 0, none⟩)] 198)) ((w2.drew.setCell ⟨b, 0, none⟩ (.int .u32 1)).setCell ⟨b, 0 + 1, none⟩ (.int .i32 0)) := (hk.drew.setCell (fun _ => rfl) _).setCell (fun _ => rfl) _
    generalize (w2.drew.setCell ⟨b, 0, none⟩ (.int .u32 1)).setCell ⟨b, 0 + 1, none⟩ (.int .i32 0) = w3 at *
    have hk3 : Kp (· = b) w w3 := (Kp.alloc (Kp.refl (· = b) w) _).trans hk2 (fun _ _ h => h)
    have hpl3 : w3.cell? ⟨w.heap.size, 0, none⟩ = some (.pointer (some ⟨b, 0, none⟩)) := (hk2.cell (p := ⟨w.heap.size, 0, none⟩) (by simp) (fun h => hne h.symm)).trans (by simp)
    have hcell : w3.cell? ⟨b, 3 + c, none⟩ = some (.int .u32 (tab c)) := by
      rw [hb2.cell, Array.getElem?_setIfInBounds_ne (by omega), Array.getElem?_setIfInBounds_ne (by omega)]
      exact htr.2.2 c hc
    have htab : TabAt w3 b := ⟨_, hb2, by simpa using htr.1, .inr ⟨by
      rw [Array.getElem?_setIfInBounds_ne (by omega), Array.getElem?_setIfInBounds_self_of_lt (by have := htr.1; omega)], fun j hj => by
      rw [Array.getElem?_setIfInBounds_ne (by omega), Array.getElem?_setIfInBounds_ne (by omega)]; exact htr.2.2 j hj⟩⟩
    clear hb2 htr hcr hk hk2
    go_wp2_with (first | (go_at_call 124; apply hold))
    go_ret
    exact ⟨rfl, htab, hk3⟩
  · have hcell : w.cell? ⟨b, 3 + c, none⟩ = some (.int .u32 (tab c)) := (hb.cell _).trans (h3 c hc)
    have h0' : (w.alloc (.cells #[.pointer (some ⟨b, 0, none⟩)] 198)).cell? ⟨b, 0, none⟩ = some (.int .u32 1) := ((hb.alloc _).cell 0).trans h0
    go_enter Tryz.func122, Tryz.ntmps122
    go_wp2_with (first | (go_at_call 124; apply hold))
    refine unhold ((do_done ⟨b, 0, none⟩ _ _ h0').mono ?_)
    rintro e w1 ⟨rfl, rfl⟩
    go_wp2_with (first | (go_at_call 124; apply hold))
    go_ret
    exact ⟨rfl, ⟨cs, hb.alloc _, hsz, .inr ⟨h0, h3⟩⟩, (Kp.refl _ _).alloc _⟩

end Go.Proofs.YtonkblhhknafbaaGreat
