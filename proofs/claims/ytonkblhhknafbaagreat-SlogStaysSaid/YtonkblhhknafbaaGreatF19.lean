/- The walk of slog's Log.Open. Whatever the heap holds beside. -/
import Derived.Test.YtonkblhhknafbaaGreatP3
namespace Go.Proofs.YtonkblhhknafbaaGreat
open Go.RowKit Go.Shelf

/-- a row of rows of bytes -/
def RowL (w : World) (F : Nat → Prop) (base : Nat) (A : Option Addr) (m c : Nat) (rw : List (List UInt8)) : Prop :=
  ∃ xs, Own w base 32 1 A m c xs ∧ All2 (fun v b => ∃ A1 c1, v = .slice A1 b.length c1 ∧ Sl w A1 b.length (u8s b) ∧ ∀ g, ablk A1 = some g → F g ∧ g < w.heap.size) xs rw
theorem RowL.go {w w' : World} {F F' : Nat → Prop} {base : Nat} {A : Option Addr} {m c : Nat} {rw : List (List UInt8)} (h : RowL w F base A m c rw) (hz : w.heap.size ≤ w'.heap.size) (hA : ∀ k, ablk A = some k → base ≤ k → k < w.heap.size → w'.heap[k]? = w.heap[k]?) (hk : ∀ k, F k → k < w.heap.size → w'.heap[k]? = w.heap[k]?) (hF : ∀ k, F k → k < w.heap.size → F' k) : RowL w' F' base A m c rw := by
  obtain ⟨xs, h1, h2⟩ := h
  exact ⟨xs, h1.keep (fun k e hlt => hA k e (h1.lt e).1 hlt), h2.imp (fun v b _ _ ⟨A1, c1, e, h3, h4⟩ => ⟨A1, c1, e, h3.keep hz (fun k e hlt => hk k (h4 k e).1 hlt), fun g e => ⟨hF g (h4 g e).1 (h4 g e).2, Nat.lt_of_lt_of_le (h4 g e).2 hz⟩⟩)⟩
theorem RowL.len {w : World} {F : Nat → Prop} {base : Nat} {A : Option Addr} {m c : Nat} {rw : List (List UInt8)} (h : RowL w F base A m c rw) : m = rw.length := by
  obtain ⟨xs, h1, h2⟩ := h
  have := h1.len
  rw [h2.len] at this
  omega
theorem RowL.lt {w : World} {F : Nat → Prop} {base : Nat} {A : Option Addr} {m c : Nat} {rw : List (List UInt8)} (h : RowL w F base A m c rw) {k : Nat} (hk : ablk A = some k) : base ≤ k ∧ k < w.heap.size := by
  obtain ⟨xs, h1, h2⟩ := h
  exact h1.lt hk

theorem RowL.snoc {w w' : World} {F : Nat → Prop} {base : Nat} {A A' A1 : Option Addr} {m c c' c1 : Nat} {xs : List Value} {rw : List (List UInt8)} {b : List UInt8}
    (hx : All2 (fun v b => ∃ A1 c1, v = .slice A1 b.length c1 ∧ Sl w A1 b.length (u8s b) ∧ ∀ g, ablk A1 = some g → F g ∧ g < w.heap.size) xs rw) (ho : Own w base 32 1 A m c xs) (hFb : ∀ y, F y → y < base) (hb : Sl w A1 b.length (u8s b)) (hbF : ∀ g, ablk A1 = some g → F g ∧ g < w.heap.size)
    (ho' : Own w' base 32 1 A' (m + 1) c' (xs ++ [.slice A1 b.length c1])) (hk : Kp (fun k => ablk A = some k) w w') : RowL w' F base A' (m + 1) c' (rw ++ [b]) := by
  have keep : ∀ k, F k → k < w.heap.size → w'.heap[k]? = w.heap[k]? := fun k h hlt => hk.block k hlt (fun e => by have := (ho.lt e).1; have := hFb k h; omega)
  refine ⟨_, ho', All2.app (hx.imp (fun v b _ _ ⟨A1, c1, e, h3, h4⟩ => ⟨A1, c1, e, h3.keep hk.size (fun k e hlt => keep k (h4 k e).1 hlt), fun g e => ⟨(h4 g e).1, Nat.lt_of_lt_of_le (h4 g e).2 hk.size⟩⟩)) (.cons ⟨A1, c1, rfl, hb.keep hk.size (fun k e hlt => keep k (hbF k e).1 hlt), fun g e => ⟨(hbF g e).1, Nat.lt_of_lt_of_le (hbF g e).2 hk.size⟩⟩ .nil)⟩
theorem NodeAt.ok {w : World} {F : Nat → Prop} {nd d room : Nat} {ps : List Cmd} (h : NodeAt w F nd d room ps) : ∀ p ∈ ps, p.Ok := by
  obtain ⟨sg, mb, A, c, torn, xs, A1, c1, G, _, _, _, _, _, _, _, _, _, h10, _⟩ := h
  exact h10
theorem reps_ok {w : World} {Fn : Nat → Nat → Prop} {room n : Nat} {nds ds : List Nat} {N : List (List Cmd)} {bs : List Bool} {f : List Cmd → Int × List Cmd} {rs : List (List KC)} (hN : Nodes w Fn room nds ds (askN bs f N n)) (hn : N.length = n) (hr : RepsOf bs f N n rs) : ∀ cs ∈ rs, CellsOk cs := by
  intro cs hcs
  obtain ⟨j, hj, hp, _⟩ := All2.mem' hr hcs
  unfold okIs at hj
  obtain ⟨hj1, hj2⟩ := List.mem_filter.1 hj
  have hjn : j < n := List.mem_range.1 hj1
  have hrc : rch bs j = true := by
    rw [Bool.and_eq_true] at hj2
    exact hj2.1
  have hat : (askN bs f N n)[j]? = some (f (N.getD j [])).2 := by rw [askN_lt hjn (by omega), if_pos hrc]
  have hl : j < (askN bs f N n).length := by rw [askN_len]; omega
  have hnode := hN.at_ j _ _ _ (List.getElem?_eq_getElem (by rw [hN.ln]; exact hl)) (List.getElem?_eq_getElem (by rw [hN.ld]; exact hl)) hat
  intro q hq
  exact stOf_ok hnode.ok q (hp.mem_iff.1 hq)
theorem best_rising {rs : List (List KC)} {out : List KC} (hb : Best rs out) (hok : ∀ cs ∈ rs, CellsOk cs) : Rising out := by
  refine ⟨hb.1, fun q hq => ?_⟩
  obtain ⟨cs, h1, h2⟩ := hb.2.1 q hq
  obtain ⟨a, b1, b2, _, b4⟩ := hok cs h1 q h2
  exact ⟨a, b1, b2, b4⟩
theorem reps_len {bs : List Bool} {f : List Cmd → Int × List Cmd} {N : List (List Cmd)} {n : Nat} {rs : List (List KC)} (hr : RepsOf bs f N n rs) (hok : ∀ cs ∈ rs, CellsOk cs) : rs.length ≤ n ∧ rs.flatten.length ≤ 4096 * n := by
  have h1 : rs.length ≤ n := by
    rw [← hr.len]
    unfold okIs
    exact Nat.le_trans (List.length_filter_le _ _) (by simp)
  have h2 : ∀ cs ∈ rs, cs.length ≤ 4096 := by
    intro cs hcs
    obtain ⟨j, _, _, hs⟩ := All2.mem' hr hcs
    have := sorted_len (cs.map (·.1)) 0 hs (fun x hx => by
      obtain ⟨q, hq, rfl⟩ := List.mem_map.1 hx
      obtain ⟨a, b1, b2, _⟩ := hok cs hcs q hq
      rw [b1]; omega)
    rw [List.length_map] at this
    omega
  have h3 : rs.flatten.length ≤ 4096 * rs.length := by
    clear h1 hr hok
    induction rs with
    | nil => simp
    | cons c l ih =>
      have := h2 c (.head _)
      have := ih (fun cs h => h2 cs (.tail _ h))
      simp only [List.flatten_cons, List.length_append, List.length_cons]
      omega
  exact ⟨h1, Nat.le_trans h3 (Nat.mul_le_mul_left _ h1)⟩

set_option maxRecDepth 100000 in
set_option maxHeartbeats 4000000 in
/-- Log.Open -/
theorem lopen_any (lg n cn : Nat) (An : Option Addr) (c0 c4 : Value) (op : Bool) (nds ds : List Nat) (R : Option Addr) (m cR : Nat) (bs : List Bool) (room : Nat) (N : List (List Cmd)) (Fn : Nat → Nat → Prop) (E : Nat) (he : E + 1 ≤ 1048576) (w : World)
    (hl : Blk w lg 63 #[c0, .slice An n cn, .bool op, .int .i64 E, c4]) (hA : Sl w An n (nds.map ptrV)) (hR : Sl w R m (bs.map Value.bool)) (hN : Nodes w Fn room nds ds N)
    (hlF : ∀ i, ¬ Fn i lg) (hAF : ∀ b, ablk An = some b → b < w.heap.size ∧ b ≠ lg ∧ ∀ i, ¬ Fn i b) (hRF : ∀ b, sblk R m = some b → b < w.heap.size ∧ b ≠ lg ∧ ∀ i, ¬ Fn i b) (hn1 : 1 ≤ n) (hn2 : n ≤ 100) (hNn : N.length = n) :
    Calls Tryz.prog 11 #[ptrV lg, .slice R m cR] w fun q w' => ∃ (r : Int) (N' : List (List Cmd)) (rw' : Option (List (List UInt8))) (Fn' : Nat → Nat → Prop), q = .returned (.int .i64 r) ∧ OpenR room n bs N (E + 1) r N' rw' ∧ Nodes w' Fn' room nds ds N' ∧ (∀ i y, Fn' i y → Fn i y ∨ w.heap.size ≤ y) ∧ Kp (fun y => (∃ i, Fn i y) ∨ y = lg) w w' ∧
      (match rw' with
        | none => Blk w' lg 63 #[c0, .slice An n cn, .bool false, .int .i64 ((E + 1 : Nat) : Int), c4]
        | some rw => ∃ A4 m4 c4', Blk w' lg 63 #[c0, .slice An n cn, .bool true, .int .i64 ((E + 1 : Nat) : Int), .slice A4 m4 c4'] ∧ RowL w' (fun y => w.heap.size ≤ y ∧ (∀ i, ¬ Fn' i y) ∧ ablk A4 ≠ some y) w.heap.size A4 m4 c4' rw ∧ (∀ y, ablk A4 = some y → ∀ i, ¬ Fn' i y)) := by
  have hnot : ∀ (x : Bool) (w : World), (Op.unary .not (.bool x)).run Tryz.prog w = .ok (.bool (!x)) w := fun _ _ => rfl
  have hmf : ∀ fn first cap w, (Instr.makeFunc fn first cap).run Tryz.prog w = .ok (.func fn first cap) w := fun _ _ _ _ => rfl
  obtain ⟨x0, x1, x2, x3, x4, y0, y1, y2, y3, y4⟩ := Blk.c5 hl
  have hllt := hl.lt
  have gw : IntKind.i64.wrap ((E : Int) + 1) = ((E + 1 : Nat) : Int) := by rw [IntKind.wrap_i64]; omega
  unfold ptrV
  go_enter Tryz.func11, Tryz.ntmps11
  go_wp2_with (go_at_call 28; apply hold)
  have hl0 : Blk ((((w.setCell ⟨lg, 2, none⟩ (.bool false)).setCell ⟨lg, 3, none⟩ (.int .i64 ((E : Int) + 1))).alloc (.cells #[.pointer (some ⟨lg, 0, none⟩)] 25)).alloc (.cells #[.slice none 0 0] 69)) lg 63 #[c0, .slice An n cn, .bool false, .int .i64 ((E + 1 : Nat) : Int), c4] := (((hl.set_ 2 (.bool false)).set_ 3 (.int .i64 ((E : Int) + 1))).alloc _).alloc _
  have hsz : ((((w.setCell ⟨lg, 2, none⟩ (.bool false)).setCell ⟨lg, 3, none⟩ (.int .i64 ((E : Int) + 1))).alloc (.cells #[.pointer (some ⟨lg, 0, none⟩)] 25)).alloc (.cells #[.slice none 0 0] 69)).heap.size = w.heap.size + 2 := by simp [World.setCell]
  have hk0 : Kp (· = lg) w ((((w.setCell ⟨lg, 2, none⟩ (.bool false)).setCell ⟨lg, 3, none⟩ (.int .i64 ((E : Int) + 1))).alloc (.cells #[.pointer (some ⟨lg, 0, none⟩)] 25)).alloc (.cells #[.slice none 0 0] 69)) := ((((Kp.refl (· = lg) w).setCell (fun _ => rfl) _).setCell (fun _ => rfl) _).alloc _).alloc _
  have hpl : Blk ((((w.setCell ⟨lg, 2, none⟩ (.bool false)).setCell ⟨lg, 3, none⟩ (.int .i64 ((E : Int) + 1))).alloc (.cells #[.pointer (some ⟨lg, 0, none⟩)] 25)).alloc (.cells #[.slice none 0 0] 69)) w.heap.size 25 #[ptrV lg] := by
    have := (Blk.new ((w.setCell ⟨lg, 2, none⟩ (.bool false)).setCell ⟨lg, 3, none⟩ (.int .i64 ((E : Int) + 1))) 25 #[ptrV lg]).alloc (.cells #[.slice none 0 0] 69)
    simpa [World.setCell, ptrV] using this
  have hpr : Blk ((((w.setCell ⟨lg, 2, none⟩ (.bool false)).setCell ⟨lg, 3, none⟩ (.int .i64 ((E : Int) + 1))).alloc (.cells #[.pointer (some ⟨lg, 0, none⟩)] 25)).alloc (.cells #[.slice none 0 0] 69)) (w.heap.size + 1) 69 #[.slice none 0 0] := by
    have := Blk.new (((w.setCell ⟨lg, 2, none⟩ (.bool false)).setCell ⟨lg, 3, none⟩ (.int .i64 ((E : Int) + 1))).alloc (.cells #[.pointer (some ⟨lg, 0, none⟩)] 25)) 69 #[.slice none 0 0]
    rw [World.size_alloc] at this
    simpa [World.setCell] using this
  obtain ⟨w0, hw0⟩ : ∃ w0, w0 = ((((w.setCell ⟨lg, 2, none⟩ (.bool false)).setCell ⟨lg, 3, none⟩ (.int .i64 ((E : Int) + 1))).alloc (.cells #[.pointer (some ⟨lg, 0, none⟩)] 25)).alloc (.cells #[.slice none 0 0] 69)) := ⟨_, rfl⟩
  rw [← hw0] at hl0 hsz hk0 hpl hpr ⊢
  clear hw0 gw
  obtain ⟨pl, hple⟩ : ∃ pl, pl = w.heap.size := ⟨_, rfl⟩
  obtain ⟨pr, hpre⟩ : ∃ pr, pr = w.heap.size + 1 := ⟨_, rfl⟩
  rw [← hpre] at hpr ⊢
  rw [← hple] at hpl ⊢
  have i1 : w.heap.size ≤ pl := by omega
  have i2 : pl < pr := by omega
  have i3 : pr < w0.heap.size := by omega
  clear hple hpre hsz
  have hFlt : ∀ i y, Fn i y → y < w.heap.size := fun i y h => hN.lt h
  have hA0 : Sl w0 An n (nds.map ptrV) := hA.kp hk0 (fun b e _ hS => (hAF b e).2.1 hS)
  have hR0 : Sl w0 R m (bs.map Value.bool) := hR.kps hk0 (fun b e _ hS => (hRF b e).2.1 hS)
  have hN0 : Nodes w0 Fn room nds ds N := hN.keep hk0.size (fun i k h => hk0.block k (hFlt i k h) (fun e => hlF i (e ▸ h)))
  have hz0 := hk0.size
  refine unhold ((oask_any lg n cn pl pr An c0 (.bool false) c4 nds ds R m cR bs room N Fn (E + 1) he w0 hl0 hA0 hR0 hN0 hpl hpr (fun i h => by have := hFlt i _ h; omega) (fun i h => by have := hFlt i _ h; omega) hlF
    (fun b e => ⟨by have := (hAF b e).1; omega, by have := (hAF b e).1; omega, (hAF b e).2.2⟩) (fun b e => ⟨by have := (hRF b e).1; omega, by have := (hRF b e).1; omega, (hRF b e).2.2⟩) hn1 hn2).mono ?_)
  rintro q w1 ⟨rfl, Fn1, A1, n1, c1, rs, hN1, hF1, hk1, hpr1, hrep, hrof⟩
  have hz1 := hk1.size
  have hk01 : Kp (fun y => (∃ i, Fn i y) ∨ y = lg) w w1 := (hk0.mono (fun _ _ h => .inr h)).trans hk1 (fun y hy h => by
    rcases h with h | h
    · exact .inl h
    · omega)
  have hF1' : ∀ i y, Fn1 i y → Fn i y ∨ w.heap.size ≤ y := fun i y h => by
    rcases hF1 i y h with h1 | h1
    · exact .inl h1
    · exact .inr (by omega)
  have hlpr : lg ≠ pr := by omega
  have hl1 := hk1.blk hl0 (fun h => by rcases h with ⟨i, h⟩ | h; exact hlF i h; exact hlpr h)
  by_cases hq : n / 2 + 1 ≤ askK bs (fun ps => sstep room ps (E + 1)) N n
  · have hqb : decide (n / 2 + 1 ≤ askK bs (fun ps => sstep room ps (E + 1)) N n) = true := by simp [hq]
    rw [hqb]
    obtain ⟨x0, y0⟩ := hpr1.c1
    go_wp2_with (go_at_call 31; apply hold)
    have hNlen : (askN bs (fun ps => sstep room ps (E + 1)) N n).length = n := by rw [askN_len, hNn]
    have hcok := reps_ok hN1 hNn hrof
    obtain ⟨hrl, hrt⟩ := reps_len hrof hcok
    have hreps := hrep.reps
    have hn1l := hreps.len
    refine unhold ((merge_any A1 n1 c1 rs w1 _ hreps hcok (by omega) (by omega)).mono ?_)
    rintro q w2 ⟨A2, m2, c2, out, rfl, hrow2, hbest, hb2⟩
    have hris := best_rising hbest hcok
    have hz2 := hb2.size
    have hN2 := hN1.below hb2
    have hl2 := below_blk hb2 hl1 hl1.lt
    obtain ⟨N1, hN1e⟩ : ∃ N1, N1 = askN bs (fun ps => sstep room ps (E + 1)) N n := ⟨_, rfl⟩
    rw [← hN1e] at hN1 hN2 hNlen
    have HN1 := hide hN1e
    clear hN1e
    obtain ⟨vs2, hm2, hsl2, hA2, hall2⟩ := hrow2
    have hml2 : m2 ≤ 4096 := by
      have h1 := sorted_len (out.map (·.1)) 0 hris.1 (fun x hx => by
        obtain ⟨q, hq, rfl⟩ := List.mem_map.1 hx
        obtain ⟨a, b1, b2, _⟩ := hris.2 q hq
        rw [b1]; omega)
      rw [List.length_map] at h1
      have := hall2.len
      omega
    have hol : out.length = m2 := by rw [hm2, hall2.len]
    have Hrof := hide hrof
    clear hqb hrof hrep hreps
    go_wp2_with fail
    go_loopw [6, 31] (fun v q wr => ∃ (i : Nat) (A : Option Addr) (m c : Nat), v = .slice A m c ∧ q = .int .i64 i ∧ i ≤ m2 ∧ RowL wr (fun y => w1.heap.size ≤ y ∧ y < w2.heap.size) w2.heap.size A m c (rowOf (out.take i)) ∧ Below w2.heap.size w2 wr) (fun _ q _ => m2 - (intOf q).toNat)
    case atStart => exact ⟨0, none, 0, 0, rfl, rfl, by omega, ⟨[], Own.nil _ _ _ _, .nil⟩, Below.refl _ _⟩
    case round =>
      obtain ⟨i, A5, m5, c5, rfl, rfl, hi, hrw, hbr⟩ := hrel
      by_cases hlt : i < m2
      · have hvi : vs2[i]? = some vs2[i] := List.getElem?_eq_getElem (by omega)
        obtain ⟨v, hve⟩ : ∃ v, v = vs2[i] := ⟨_, rfl⟩
        rw [← hve] at hvi
        clear hve
        obtain ⟨q, hqi, hcv⟩ := hall2.get hvi
        obtain ⟨bb, off, rfl, hbb, hcell⟩ := hsl2.2 (by omega)
        obtain ⟨g0, g1, g2⟩ := flat_get vs2 i v hvi
        have kk := fun o u hu => (hbr.cell (p := ⟨bb, off + o, none⟩) hbb).trans (hcell o u hu)
        have d0 := kk _ _ g0
        have d1 := kk _ _ g1
        have d2 := kk _ _ g2
        rw [← Nat.add_assoc] at d1 d2
        clear g0 g1 g2 kk hcell
        obtain ⟨a, ha, halt, hxl⟩ := hris.2 q (List.mem_of_getElem? hqi)
        have hio : i < out.length := by omega
        have htk : out.take (i + 1) = out.take i ++ [q] := by
          rw [List.take_succ_eq_append_getElem hio]
          have h2 := List.getElem?_eq_getElem hio
          rw [hqi] at h2
          cases h2
          rfl
        have hris1 : Rising (out.take i ++ [q]) := htk ▸ rising_take hris (i + 1)
        have hm5 := hrw.len
        have hm5a : m5 ≤ a := by
          have h1 := (rowOf_len _ _ rfl hris1.init.1).1 q.1 hris1.init.2
          rw [ha] at h1
          omega
        have hrow' : rowOf (out.take (i + 1)) = rowOf (out.take i) ++ List.replicate (a - m5) [] ++ [q.2.2] := by
          rw [htk, rowOf_snoc, rowStep, ha, ← hm5]
          rfl
        have Hrow := hide hrow'
        obtain ⟨b1, b2, b3, b4, b5, b6⟩ := hcv
        obtain ⟨vat, vep, vA, vn, vc⟩ := v
        simp only [] at b1 b2 b3 b4 b5 b6 d0 d1 d2
        have hvat : vat = (a : Int) := b1.trans ha
        subst hvat
        have hvn : q.2.2.length = vn := by have := b3.1; rwa [u8s_len] at this
        have Hvn := hide hvn
        clear hrow' htk hm5 b1 b2 ha hvn
        have hzr := hbr.size
        obtain ⟨wo, hwo⟩ : ∃ wo, wo = wr := ⟨_, rfl⟩
        have hY : Blk (wr.alloc (.cells #[.int .i64 (a : Int), .int .i64 vep, .slice vA vn vc] 77)) wr.heap.size 77 #[.int .i64 (a : Int), .int .i64 vep, .slice vA vn vc] := Blk.new _ _ _
        have hwY : Below wr.heap.size wr (wr.alloc (.cells #[.int .i64 (a : Int), .int .i64 vep, .slice vA vn vc] 77)) := (Below.refl _ _).alloc (Nat.le_refl _) _
        have hsY : (wr.alloc (.cells #[.int .i64 (a : Int), .int .i64 vep, .slice vA vn vc] 77)).heap.size = wr.heap.size + 1 := by simp
        go_wp2_with fail
        obtain ⟨wY, hwYe⟩ : ∃ wY, wY = wr.alloc (.cells #[.int .i64 (a : Int), .int .i64 vep, .slice vA vn vc] 77) := ⟨_, rfl⟩
        rw [← hwYe] at hY hwY hsY ⊢
        clear hwYe
        obtain ⟨Y, hYe⟩ : ∃ Y, Y = wr.heap.size := ⟨_, rfl⟩
        rw [← hYe] at hY ⊢
        have j6 : Y < wY.heap.size := by omega
        have j7 : wr.heap.size ≤ Y := by omega
        clear hYe hsY
        have hrwY : RowL wY (fun y => w1.heap.size ≤ y ∧ y < w2.heap.size) w2.heap.size A5 m5 c5 (rowOf (out.take i)) := hrw.go hwY.size (fun k _ _ hlt => hwY.block k hlt) (fun k _ hlt => hwY.block k hlt) (fun _ h _ => h)
        have hbY : Below w2.heap.size w2 wY := hbr.trans (hwY.mono hzr)
        have hzY := hbY.size
        go_loopw [6] (fun v wq => ∃ (A : Option Addr) (m c : Nat), v = .slice A m c ∧ m5 ≤ m ∧ m ≤ a ∧ RowL wq (fun y => w1.heap.size ≤ y ∧ y < w2.heap.size) w2.heap.size A m c (rowOf (out.take i) ++ List.replicate (m - m5) []) ∧ Below w2.heap.size w2 wq ∧ Blk wq Y 77 #[.int .i64 (a : Int), .int .i64 vep, .slice vA vn vc] ∧ (∀ y, ablk A = some y → y ≠ Y)) (fun v _ => a - sliceLen v)
        case atStart => exact ⟨A5, m5, c5, rfl, by omega, hm5a, by simpa using hrwY, hbY, hY, fun y e => by have := (hrw.lt e).2; omega⟩
        case round =>
          obtain ⟨A6, m6, c6, rfl, hm6, hm6a, hrw6, hb6, hY6, hAY⟩ := hrel
          obtain ⟨s0, s1, s2, t0, t1, t2⟩ := Blk.c3 hY6
          have hz6 := hb6.size
          have hYlt := hY6.lt
          by_cases hlt6 : m6 < a
          · have hlb : decide ((m6 : Int) < (a : Int)) = true := by simp; omega
            go_wp2_with (at_builtin; apply hold)
            obtain ⟨xs6, hox6, hall6⟩ := hrw6
            refine unhold (app_row rfl (.tmp 40) (.tmp 41) rfl w2.heap.size A6 m6 c6 xs6 rfl (hox6.alloc _) none 0 0 wr rfl rfl (by omega) (by simp; omega) ?_)
            intro A7 c7 w7 ho7 hg7 hA7
            have hk7 : Kp (fun x => ablk A6 = some x) wr w7 := ((Kp.refl _ wr).alloc _).grown hg7 (fun x e _ => e)
            clear hg7
            have hr7 := RowL.snoc (b := []) hall6 hox6 (fun y h => h.2) (Sl.nil _) (fun g e => by cases e) ho7 hk7
            go_wp2_with fail
            go_roundw
            case rel =>
              refine ⟨A7, m6 + 1, c7, ⟨rfl, rfl, rfl⟩, by omega, by omega, ?_, below_kp hb6 hk7 (fun x e => (hox6.lt e).1) hz6, hk7.blk hY6 (fun e => hAY Y e rfl), fun y e hyY => ?_⟩
              · rw [show m6 + 1 - m5 = (m6 - m5) + 1 by omega, List.replicate_succ', ← List.append_assoc]
                exact hr7
              · rcases hA7 with h | h
                · exact hAY y (by rw [← h]; exact e) hyY
                · rw [e] at h
                  simp at h
                  omega
            case measure => simp [sliceLen]; omega
          · obtain rfl : m6 = a := by omega
            go_wp2_with (at_builtin; apply hold)
            obtain ⟨xs6, hox6, hall6⟩ := hrw6
            refine unhold (app_row rfl (.tmp 43) (.tmp 46) rfl w2.heap.size A6 m6 c6 xs6 rfl (hox6.alloc _) vA vn vc wr rfl rfl (by omega) (by simp; omega) ?_)
            intro A7 c7 w7 ho7 hg7 hA7
            have hk7 : Kp (fun x => ablk A6 = some x) wr w7 := ((Kp.refl _ wr).alloc _).grown hg7 (fun x e _ => e)
            clear hg7
            have hvr : Sl wr vA vn (u8s q.2.2) := b3.below hb6
            have hr7 := RowL.snoc (b := q.2.2) (A1 := vA) (c1 := vc) hall6 hox6 (fun y h => h.2) (by rw [Hvn.out]; exact hvr) (fun g e => ⟨b6 g e, by have := (b6 g e).2; omega⟩) (by rw [Hvn.out]; exact ho7) hk7
            rw [← Hrow.out] at hr7
            go_wp2_with fail
            go_roundw
            case rel =>
              exact ⟨i + 1, A7, _, c7, rfl, rfl, by omega, hr7, below_kp hb6 hk7 (fun x e => (hox6.lt e).1) hz6⟩
            case measure => simp [intOf]; omega
      · obtain rfl : i = m2 := by omega
        rw [List.take_of_length_le (by omega)] at hrw
        obtain ⟨hrwl1, hrwl2⟩ := (rowOf_len _ _ rfl hris).2
        obtain ⟨rw_, hrwe⟩ : ∃ x, x = rowOf out := ⟨_, rfl⟩
        rw [← hrwe] at hrw hrwl1 hrwl2
        have Hrw := hide hrwe
        clear hrwe
        have hm5 := hrw.len
        obtain ⟨xs5, hox5, hall5⟩ := hrw
        have hzr := hbr.size
        have hN3 := hN2.below hbr
        have hFlt1 : ∀ i y, Fn1 i y → y < w1.heap.size := fun i y h => hN1.lt h
        have hb13 : Below w1.heap.size w1 wr := hb2.trans (hbr.mono hz2)
        have hl3 := below_blk hb13 hl1 hl1.lt
        have hpl1 : Blk w1 pl 25 #[ptrV lg] := hk1.blk hpl (fun h => by
          rcases h with ⟨i, h⟩ | h
          · have := hFlt i _ h; omega
          · omega)
        have hpl3 := below_blk hb13 hpl1 hpl1.lt
        have hFlg : ∀ i y, Fn1 i y → y < w.heap.size → Fn i y := fun i y h hlt => by
          rcases hF1 i y h with h1 | h1
          · exact h1
          · omega
        have hlF1 : ∀ i, ¬ Fn1 i lg := fun i h => hlF i (hFlg i _ h hllt)
        have hA3 : Sl wr An n (nds.map ptrV) := (hA0.kp hk1 (fun b e _ h => by
          rcases h with ⟨i, h⟩ | h
          · exact (hAF b e).2.2 i h
          · have := (hAF b e).1; omega)).below hb13
        have hR3 : Sl wr R m (bs.map Value.bool) := (hR0.kps hk1 (fun b e _ h => by
          rcases h with ⟨i, h⟩ | h
          · exact (hRF b e).2.2 i h
          · have := (hRF b e).1; omega)).below hb13
        obtain ⟨w3, hw3⟩ : ∃ w3, w3 = wr := ⟨_, rfl⟩
        rw [← hw3] at hox5 hall5 hzr hN3 hb13 hl3 hpl3 hA3 hR3 hbr
        have hkF : ∀ w', Kp (fun y => ∃ i, Fn1 i y) w3 w' → Kp (fun y => (∃ i, Fn i y) ∨ y = lg) w w' := fun w' h => (hk01.trans (Kp.below (S := Nobody) hb13) (fun _ _ h => h.elim)).trans h (fun y hy ⟨i, h⟩ => .inl ⟨i, hFlg i y h hy⟩)
        go_wp2_with fail
        go_loopw [51] (fun v wq => ∃ (j : Nat) (Fn' : Nat → Nat → Prop), v = .int .i64 j ∧ j ≤ m5 ∧ Nodes wq Fn' room nds ds (wN room n bs (E + 1) rw_ N1 j) ∧ (∀ i, i < j → n / 2 + 1 ≤ wK room n bs (E + 1) rw_ N1 i) ∧ (∀ i y, Fn' i y → Fn1 i y ∨ w3.heap.size ≤ y) ∧ Kp (fun y => ∃ i, Fn1 i y) w3 wq) (fun v _ => m5 - (intOf v).toNat)
        case atStart => exact ⟨0, Fn1, rfl, by omega, hw3 ▸ hN3, fun i h => by omega, fun i y h => .inl h, hw3 ▸ Kp.refl _ _⟩
        case round =>
          obtain ⟨j, Fn', rfl, hj, hNj, hok, hFj, hkj⟩ := hrel
          have hplj := hkj.blk hpl3 (fun ⟨i, h⟩ => by
            rcases hF1 i _ h with h1 | h1
            · have := hFlt i _ h1; omega
            · omega)
          obtain ⟨x0, y0⟩ := hplj.c1
          by_cases hlt : j < m5
          · have hjr : j < rw_.length := by omega
            have hbj : rw_[j]? = some rw_[j] := List.getElem?_eq_getElem hjr
            have hgd : rw_.getD j [] = rw_[j] := by simp [List.getD, hbj]
            obtain ⟨b, hbe⟩ : ∃ b, b = rw_[j] := ⟨_, rfl⟩
            rw [← hbe] at hbj hgd
            have hbl : b.length ≤ 2048 := hrwl2 b (List.mem_of_getElem? hbj)
            clear hbe
            obtain ⟨vj, hvj, A8, c8, rfl, hs8, hF8⟩ := hall5.get' hbj
            obtain ⟨g5, rfl, hg5, hg5', hc5, _, _⟩ := hox5.at_ (by omega)
            have hcj := hc5 j _ hvj
            have hcj' : wr.cell? ⟨g5, j, none⟩ = some (.slice A8 b.length c8) := (hkj.cell (p := ⟨g5, j, none⟩) hg5' (fun ⟨i, h⟩ => by have := hFlt1 i _ h; simp at this; omega)).trans hcj
            have Hgd := hide hgd
            clear hgd
            go_wp2_with (go_at_call 32; apply hold)
            have hnF : ∀ i y, Fn' i y → y < w3.heap.size → Fn1 i y := fun i y h hlt => by
              rcases hFj i y h with h1 | h1
              · exact h1
              · omega
            have hA3lt : ∀ y, ablk An = some y → y < w3.heap.size := fun y e => by have := (hAF y e).1; omega
            have hR3lt : ∀ y, sblk R m = some y → y < w3.heap.size := fun y e => by have := (hRF y e).1; omega
            have hkn : ∀ y, (∀ i, ¬ Fn i y) → y < w0.heap.size → ∀ i, ¬ Fn1 i y := fun y h hlt i h1 => by
              rcases hF1 i y h1 with h2 | h2
              · exact h i h2
              · omega
            refine unhold ((lwrite_any lg n cn An c0 (.bool false) c4 nds ds R m cR bs room _ Fn' (E + 1) j b he (by omega) hbl A8 b.length c8 wr (hkj.blk hl3 (fun ⟨i, h⟩ => hlF1 i h)) (hA3.kp hkj (fun y e _ ⟨i, h⟩ => hkn y (hAF y e).2.2 (by have := (hAF y e).1; omega) i h)) (hR3.kps hkj (fun y e _ ⟨i, h⟩ => hkn y (hRF y e).2.2 (by have := (hRF y e).1; omega) i h)) (hs8.kp hkj (fun y e _ ⟨i, h⟩ => by have := (hF8 y e).1.1; have := hFlt1 i y h; omega)) hNj
              (fun i h => hlF1 i (hnF i _ h hl3.lt)) (fun y e i h => hkn y (hAF y e).2.2 (by have := (hAF y e).1; omega) i (hnF i _ h (hA3lt y e))) (fun y e i h => hkn y (hRF y e).2.2 (by have := (hRF y e).1; omega) i (hnF i _ h (hR3lt y e))) (fun y e i h => by have := (hF8 y (sblk_ablk e)).1.1; have := hFlt1 i y (hnF i y h (by have := (hF8 y (sblk_ablk e)).2; omega)); omega)
              ⟨fun y e => by have := hR3lt y e; have := hkj.size; omega, fun y e => by have := (hF8 y (sblk_ablk e)).2; have := hkj.size; omega, fun y e => by have := hA3lt y e; have := hkj.size; omega⟩ hn1 hn2).mono ?_)
            rintro q w5 ⟨rfl, Fn5, h5, hF5, hk5⟩
            have hz5 := hk5.size
            have hzj := hkj.size
            have hN5 : Nodes w5 Fn5 room nds ds (wN room n bs (E + 1) rw_ N1 (j + 1)) := by simp only [wN]; rw [Hgd.out]; exact h5
            have hF5' : ∀ i y, Fn5 i y → Fn1 i y ∨ w3.heap.size ≤ y := fun i y h => by
              rcases hF5 i y h with h1 | h1
              · exact hFj i y h1
              · exact .inr (by omega)
            have hk5' : Kp (fun y => ∃ i, Fn1 i y) w3 w5 := hkj.trans hk5 (fun y hy ⟨i, h⟩ => ⟨i, hnF i y h hy⟩)
            have hwk : askK bs (fun ps => wstep room ps (E + 1) j b) (wN room n bs (E + 1) rw_ N1 j) n = wK room n bs (E + 1) rw_ N1 j := by unfold wK; rw [Hgd.out]
            rw [hwk]
            by_cases hwq : n / 2 + 1 ≤ wK room n bs (E + 1) rw_ N1 j
            · have hwqb : decide (n / 2 + 1 ≤ wK room n bs (E + 1) rw_ N1 j) = true := by simp [hwq]
              rw [hwqb]
              go_wp2_with fail
              go_roundw
              case rel =>
                refine ⟨j + 1, Fn5, rfl, by omega, hN5, fun i hi => ?_, hF5', hk5'⟩
                rcases Nat.lt_or_eq_of_le (Nat.le_of_lt_succ hi) with h | rfl
                · exact hok i h
                · exact hwq
              case measure => simp [intOf]; omega
            · have hwqb : decide (n / 2 + 1 ≤ wK room n bs (E + 1) rw_ N1 j) = false := by simp [hwq]
              rw [hwqb]
              go_wp2_with fail
              go_ret
              have e1 := Hrw.out
              have e2 := HN1.out
              subst e1 e2
              refine ⟨8, _, none, Fn5, rfl, .inr ⟨hq, rs, out, Hrof.out, hbest, hris, j, by omega, hok, .inr ⟨by omega, by omega, rfl, rfl, rfl⟩⟩, hN5, fun i y h => ?_, hkF w5 hk5', hk5'.blk hl3 (fun ⟨i, h⟩ => hlF1 i h)⟩
              rcases hF5' i y h with h1 | h1
              · exact hF1' i y h1
              · exact .inr (by omega)
          · obtain rfl : j = m5 := by omega
            have hl5 := hkj.blk hl3 (fun ⟨i, h⟩ => hlF1 i h)
            obtain ⟨z0, z1, z2, z3, z4, t0, t1, t2, t3, t4⟩ := hl5.c5
            unfold ptrV at x0
            go_wp2_with fail
            go_region
            go_wp2_with fail
            go_ret
            have e1 := Hrw.out
            have e2 := HN1.out
            subst e1 e2
            subst hm5
            have hnF : ∀ i y, Fn' i y → y < w3.heap.size → Fn1 i y := fun i y h hlt => by
              rcases hFj i y h with h1 | h1
              · exact h1
              · omega
            have hzj := hkj.size
            have hl3lt := hl3.lt
            have hA5 : ∀ y, ablk A5 = some y → w2.heap.size ≤ y ∧ y < w3.heap.size := fun y e => hox5.lt e
            have hA5n : ∀ y, ablk A5 = some y → ∀ i, ¬ Fn' i y := fun y e i h => by
              have h1 := hA5 y e
              have := hFlt1 i y (hnF i y h h1.2)
              omega
            have hkS : Kp (· = lg) wr (((wr.setCell ⟨lg, 4, none⟩ (.slice A5 (rowOf out).length c5)).setCell ⟨lg, 2, none⟩ (.bool true)).drew) := (((Kp.refl (· = lg) wr).setCell (fun _ => rfl) _).setCell (fun _ => rfl) _).drew
            have hlg5 : Blk (((wr.setCell ⟨lg, 4, none⟩ (.slice A5 (rowOf out).length c5)).setCell ⟨lg, 2, none⟩ (.bool true)).drew) lg 63 #[c0, .slice An n cn, .bool true, .int .i64 ((E + 1 : Nat) : Int), .slice A5 (rowOf out).length c5] := ((hl5.set_ 4 _).set_ 2 _).drew
            have hRl : RowL w3 (fun y => w1.heap.size ≤ y ∧ y < w2.heap.size) w2.heap.size A5 (rowOf out).length c5 (rowOf out) := ⟨xs5, hox5, hall5⟩
            have hRl2 := hRl.go (w' := wr) (F' := fun y => w1.heap.size ≤ y ∧ y < w2.heap.size) hzj (fun k e _ hlt => hkj.block k hlt (fun ⟨i, h⟩ => by have := (hA5 k e).1; have := hFlt1 i k h; omega)) (fun k h hlt => hkj.block k hlt (fun ⟨i, h2⟩ => by have := hFlt1 i k h2; omega)) (fun _ h _ => h)
            have hlgA5 : ablk A5 ≠ some lg := fun e => by have := (hA5 lg e).1; omega
            have hRl3 := hRl2.go (F' := fun y => w.heap.size ≤ y ∧ (∀ i, ¬ Fn' i y) ∧ ablk A5 ≠ some y) hkS.size (fun k e _ hlt => hkS.block k hlt (fun h => hlgA5 (by rw [← h]; exact e))) (fun k h hlt => hkS.block k hlt (by omega)) (fun k h hlt => ⟨by omega, fun i h2 => by have := hFlt1 i k (hnF i k h2 (by omega)); omega, fun e => by have := (hA5 k e).1; omega⟩)
            obtain ⟨xs9, ho9, hall9⟩ := hRl3
            refine ⟨0, _, some (rowOf out), Fn', rfl, .inr ⟨hq, rs, out, Hrof.out, hbest, hris, _, Nat.le_refl _, hok, .inl ⟨rfl, rfl, rfl, rfl⟩⟩, hNj.keep hkS.size (fun i k h => hkS.block k (hNj.lt h) (fun e => hlF1 i (by rw [← e]; exact hnF i k h (by omega)))), fun i y h => ?_, (hkF wr hkj).trans hkS (fun y _ e => .inr e), A5, _, c5, hlg5, ⟨xs9, ho9.mono (by omega), hall9⟩, hA5n⟩
            rcases hFj i y h with h1 | h1
            · exact hF1' i y h1
            · exact .inr (by omega)
  · have hqb : decide (n / 2 + 1 ≤ askK bs (fun ps => sstep room ps (E + 1)) N n) = false := by simp [hq]
    rw [hqb]
    go_wp2_with fail
    go_ret
    exact ⟨8, _, none, Fn1, rfl, .inl ⟨by omega, rfl, rfl, rfl⟩, hN1, hF1', hk01, hl1⟩
end Go.Proofs.YtonkblhhknafbaaGreat
