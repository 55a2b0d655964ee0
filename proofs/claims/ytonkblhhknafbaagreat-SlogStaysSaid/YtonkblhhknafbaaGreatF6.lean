/- The walk of slices.Equal at bytes. Whatever the heap holds beside. -/
import Derived.Test.YtonkblhhknafbaaGreatF5
namespace Go.Proofs.YtonkblhhknafbaaGreat
open Go.RowKit

theorem drop_ne_of {α : Type} [DecidableEq α] (xs ys : List α) (k : Nat) (h : xs[k]? ≠ ys[k]?) : xs ≠ ys := fun e => h (by rw [e])

set_option maxRecDepth 100000 in
set_option maxHeartbeats 1000000 in
/-- slices.Equal of bytes -/
theorem equal_any (A : Option Addr) (n c : Nat) (xs : List UInt8) (B : Option Addr) (m k : Nat) (ys : List UInt8) (w : World) (hx : Sl w A n (u8s xs)) (hy : Sl w B m (u8s ys)) (hn : m ≤ 100000000) :
    Calls Tryz.prog 89 #[.slice A n c, .slice B m k] w fun e w' => e = .returned (.bool (decide (xs = ys))) ∧ ∃ q, w' = w.drewN q := by
  have hxl : xs.length = n := by have := hx.1; rwa [u8s_len] at this
  have hyl : ys.length = m := by have := hy.1; rwa [u8s_len] at this
  have Hxl := hide hxl
  have Hyl := hide hyl
  go_enter Tryz.func89, Tryz.ntmps89
  by_cases hnm : n = m
  · subst hnm
    clear hxl hyl
    go_wp2_with fail
    go_loopw [13] (fun v wr => ∃ i q, v = .int .i64 (i : Nat) ∧ i ≤ n ∧ (∀ j, j < i → xs[j]? = ys[j]?) ∧ wr = w.drewN q) (fun v _ => n - (intOf v).toNat)
    case atStart => exact ⟨0, 0, rfl, by omega, fun j hj => by omega, rfl⟩
    case round =>
      obtain ⟨i, q, rfl, hi, hsame, hwr⟩ := hrel
      by_cases hlt : i < n
      · obtain ⟨b, off, u, rfl, hb, hu, hcu⟩ := hx.at_ hlt
        obtain ⟨b', off', v, rfl, hb', hv, hcv⟩ := hy.at_ hlt
        have hxi : i < xs.length := by have := Hxl.out; omega
        have hyi : i < ys.length := by have := Hyl.out; omega
        rw [u8s_get xs i hxi] at hu
        rw [u8s_get ys i hyi] at hv
        cases hu
        cases hv
        have c1 : wr.cell? ⟨b, off + i, none⟩ = some (.int .u8 (xs[i]).toNat) := by rw [hwr]; exact hcu
        have c2 : wr.cell? ⟨b', off' + i, none⟩ = some (.int .u8 (ys[i]).toNat) := by rw [hwr]; exact hcv
        have Hwr := hide hwr
        clear hwr
        obtain ⟨xa, hxa⟩ : ∃ xa : Nat, xa = (xs[i]).toNat := ⟨_, rfl⟩
        obtain ⟨ya, hya⟩ : ∃ ya : Nat, ya = (ys[i]).toNat := ⟨_, rfl⟩
        rw [← hxa] at c1
        rw [← hya] at c2
        have Hxa := hide hxa
        have Hya := hide hya
        clear hxa hya hcu hcv
        by_cases hxy : xa = ya
        · subst hxy
          go_wp2_with fail
          go_quiet (fail)
          go_wp2_with fail
          go_roundw
          case rel =>
            refine ⟨i + 1, q + nq, rfl, by omega, fun j hj => ?_, by rw [Hwr.out]; simp [World.drewN]; omega⟩
            rcases Nat.lt_or_eq_of_le (Nat.le_of_lt_succ hj) with h | rfl
            · exact hsame j h
            · rw [List.getElem?_eq_getElem hxi, List.getElem?_eq_getElem hyi]
              congr 1
              exact UInt8.toNat_inj.1 (by rw [← Hxa.out, ← Hya.out])
          case measure => simp [intOf]; omega
        · have hne : decide ((xa : Int) = (ya : Int)) = false := by simp; omega
          go_wp2_with fail
          go_quiet (fail)
          go_wp2_with fail
          go_ret
          refine ⟨?_, q + nq, by rw [Hwr.out]; simp [World.drewN]; omega⟩
          have : xs ≠ ys := fun e => by
            subst e
            exact hxy (by rw [Hxa.out, Hya.out])
          simp [this]
      · obtain rfl : i = n := by omega
        go_wp2_with fail
        go_ret
        refine ⟨?_, q, rfl⟩
        have : xs = ys := by
          apply List.ext_getElem?
          intro j
          by_cases hj : j < i
          · exact hsame j hj
          · have h1 := Hxl.out
            have h2 := Hyl.out
            rw [List.getElem?_eq_none (by omega), List.getElem?_eq_none (by omega)]
        simp [this]
  · have g : decide ((n : Int) = (m : Int)) = false := by simp; omega
    go_wp2_with fail
    go_ret
    refine ⟨?_, 0, rfl⟩
    have : xs ≠ ys := fun e => hnm (by rw [← hxl, ← hyl, e])
    simp [this]
end Go.Proofs.YtonkblhhknafbaaGreat
