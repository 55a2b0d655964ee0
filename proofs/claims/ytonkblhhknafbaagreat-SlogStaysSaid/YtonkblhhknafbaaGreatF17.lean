/- The walks of Log's write, over the nodes that are asked. Whatever the heap holds beside. -/
import Derived.Test.YtonkblhhknafbaaGreatF16
namespace Go.Proofs.YtonkblhhknafbaaGreat
open Go.RowKit Go.Shelf

/-- all of a log's nodes -/
structure Nodes (w : World) (Fn : Nat → Nat → Prop) (room : Nat) (nds ds : List Nat) (N : List (List Cmd)) : Prop where
  ln : nds.length = N.length
  ld : ds.length = N.length
  at_ : ∀ i nd d ps, nds[i]? = some nd → ds[i]? = some d → N[i]? = some ps → NodeAt w (Fn i) nd d room ps
  apart : ∀ i j k, i ≠ j → Fn i k → ¬ Fn j k
  inn : ∀ i k, Fn i k → i < N.length
theorem Nodes.lt {w : World} {Fn : Nat → Nat → Prop} {room : Nat} {nds ds : List Nat} {N : List (List Cmd)} (h : Nodes w Fn room nds ds N) {i k : Nat} (hk : Fn i k) : k < w.heap.size := by
  have hi := h.inn i k hk
  exact (h.at_ i _ _ _ (List.getElem?_eq_getElem (by rw [h.ln]; exact hi)) (List.getElem?_eq_getElem (by rw [h.ld]; exact hi)) (List.getElem?_eq_getElem hi)).lt hk
theorem Nodes.keep {w w' : World} {Fn : Nat → Nat → Prop} {room : Nat} {nds ds : List Nat} {N : List (List Cmd)} (h : Nodes w Fn room nds ds N) (hz : w.heap.size ≤ w'.heap.size) (hk : ∀ i k, Fn i k → w'.heap[k]? = w.heap[k]?) : Nodes w' Fn room nds ds N :=
  ⟨h.ln, h.ld, fun i nd d ps h1 h2 h3 => (h.at_ i nd d ps h1 h2 h3).keep hz (fun k hF => hk i k hF), h.apart, h.inn⟩
theorem Nodes.below {w w' : World} {Fn : Nat → Nat → Prop} {room : Nat} {nds ds : List Nat} {N : List (List Cmd)} (h : Nodes w Fn room nds ds N) (hb : Below w.heap.size w w') : Nodes w' Fn room nds ds N :=
  h.keep hb.size (fun _i k hF => hb.block k (h.lt hF))
/-- one node has gone on -/
theorem Nodes.step {w w' : World} {Fn : Nat → Nat → Prop} {room : Nat} {nds ds : List Nat} {N : List (List Cmd)} (h : Nodes w Fn room nds ds N) {i nd d : Nat} {ps' : List Cmd} {F' S : Nat → Prop} (hnd : nds[i]? = some nd) (hd : ds[i]? = some d) (hn : NodeAt w' F' nd d room ps') (hF : ∀ x, F' x → Fn i x ∨ w.heap.size ≤ x) (hk : Kp S w w') (hS : ∀ j x, j ≠ i → Fn j x → ¬ S x) :
    Nodes w' (fun j => if j = i then F' else Fn j) room nds ds (N.set i ps') := by
  have hil : i < N.length := by rw [← h.ln]; exact (List.getElem?_eq_some_iff.1 hnd).1
  refine ⟨by simpa using h.ln, by simpa using h.ld, fun j nd' d' ps h1 h2 h3 => ?_, fun j l k hjl hj hl => ?_, fun j k hj => ?_⟩
  · by_cases e : j = i
    · subst e
      rw [hnd] at h1
      rw [hd] at h2
      cases h1
      cases h2
      rw [List.getElem?_set_self hil] at h3
      cases h3
      rw [if_pos rfl]
      exact hn
    · rw [if_neg e]
      rw [List.getElem?_set_ne (fun e2 => e e2.symm)] at h3
      exact (h.at_ j nd' d' ps h1 h2 h3).keep hk.size (fun k hF => hk.block k (h.lt hF) (hS j k e hF))
  · by_cases e : j = i
    · subst e
      rw [if_pos rfl] at hj
      rw [if_neg (fun e => hjl e.symm)] at hl
      rcases hF k hj with h1 | h1
      · exact h.apart j l k hjl h1 hl
      · have := h.lt hl; omega
    · rw [if_neg e] at hj
      by_cases e2 : l = i
      · subst e2
        rw [if_pos rfl] at hl
        rcases hF k hl with h1 | h1
        · exact h.apart j l k hjl hj h1
        · have := h.lt hj; omega
      · rw [if_neg e2] at hl
        exact h.apart j l k hjl hj hl
  · by_cases e : j = i
    · subst e; simpa using hil
    · rw [if_neg e] at hj
      simpa using h.inn j k hj

/-- the block of a slice, if it has elements -/
def sblk (A : Option Addr) (n : Nat) : Option Nat := if n = 0 then none else ablk A
theorem sblk_ablk {A : Option Addr} {n k : Nat} (h : sblk A n = some k) : ablk A = some k := by
  unfold sblk at h
  split at h
  · cases h
  · exact h
theorem sblk_pos {A : Option Addr} {n k : Nat} (h : sblk A n = some k) : 0 < n := by
  unfold sblk at h
  split at h
  · cases h
  · omega
theorem sblk_of {A : Option Addr} {n : Nat} (h : 0 < n) : sblk A n = ablk A := if_neg (by omega)
theorem Sl.ltS {w : World} {A : Option Addr} {n k : Nat} {xs : List Value} (h : Sl w A n xs) (e : sblk A n = some k) : k < w.heap.size := by
  obtain ⟨b, off, rfl, hb, _⟩ := h.2 (sblk_pos e)
  have := sblk_ablk e
  simp only [ablk, Option.some.injEq] at this
  omega
theorem Sl.kps {w w' : World} {S : Nat → Prop} {A : Option Addr} {n : Nat} {xs : List Value} (h : Sl w A n xs) (hb : Kp S w w') (hn : ∀ k, sblk A n = some k → k < w.heap.size → ¬ S k) : Sl w' A n xs := by
  rcases Nat.eq_zero_or_pos n with h0 | h0
  · exact ⟨h.1, fun h => by omega⟩
  · exact h.kp hb (fun k e => hn k (by rw [sblk_of h0]; exact e))

/-- the nodes that are asked, one after the other -/
def askN (bs : List Bool) (f : List Cmd → Int × List Cmd) (N : List (List Cmd)) : Nat → List (List Cmd)
  | 0 => N
  | i + 1 => if rch bs i then (askN bs f N i).set i (f (N.getD i [])).2 else askN bs f N i
/-- how many answered OK -/
def askK (bs : List Bool) (f : List Cmd → Int × List Cmd) (N : List (List Cmd)) : Nat → Nat
  | 0 => 0
  | i + 1 => if rch bs i ∧ (f (N.getD i [])).1 = 0 then askK bs f N i + 1 else askK bs f N i
section
variable {bs : List Bool} {f : List Cmd → Int × List Cmd} {N : List (List Cmd)}
theorem askN_len (i : Nat) : (askN bs f N i).length = N.length := by
  induction i with
  | zero => rfl
  | succ i ih => simp only [askN]; split <;> simp [ih]
theorem askN_ge {i j : Nat} (h : i ≤ j) : (askN bs f N i)[j]? = N[j]? := by
  induction i with
  | zero => rfl
  | succ i ih =>
    simp only [askN]
    split
    · rw [List.getElem?_set_ne (by omega), ih (by omega)]
    · exact ih (by omega)
theorem askN_lt {i j : Nat} (h : j < i) (hj : j < N.length) : (askN bs f N i)[j]? = if rch bs j then some (f (N.getD j [])).2 else N[j]? := by
  induction i with
  | zero => omega
  | succ i ih =>
    simp only [askN]
    by_cases e : j = i
    · subst e
      by_cases hr : rch bs j = true
      · rw [if_pos hr, if_pos hr, List.getElem?_set_self (by rw [askN_len]; exact hj)]
      · rw [if_neg hr, if_neg hr, askN_ge (Nat.le_refl _)]
    · split
      · rw [List.getElem?_set_ne (fun e2 => e e2.symm), ih (by omega)]
      · exact ih (by omega)
end

set_option maxRecDepth 100000 in
set_option maxHeartbeats 2000000 in
/-- Log.write -/
theorem lwrite_any (lg n cn : Nat) (An : Option Addr) (c0 c2 c4 : Value) (nds ds : List Nat) (R : Option Addr) (m cR : Nat) (bs : List Bool) (room : Nat) (N : List (List Cmd)) (Fn : Nat → Nat → Prop) (e a : Nat) (x : List UInt8) (he : e ≤ 1048576) (ha : a < 4096) (hx : x.length ≤ 2048) (B : Option Addr) (k cB : Nat) (w : World)
    (hl : Blk w lg 63 #[c0, .slice An n cn, c2, .int .i64 e, c4]) (hA : Sl w An n (nds.map ptrV)) (hR : Sl w R m (bs.map Value.bool)) (hB : Sl w B k (u8s x)) (hN : Nodes w Fn room nds ds N)
    (hlF : ∀ i, ¬ Fn i lg) (hAF : ∀ b, ablk An = some b → ∀ i, ¬ Fn i b) (hRF : ∀ b, sblk R m = some b → ∀ i, ¬ Fn i b) (hBF : ∀ b, sblk B k = some b → ∀ i, ¬ Fn i b) (_hlts : (∀ b, sblk R m = some b → b < w.heap.size) ∧ (∀ b, sblk B k = some b → b < w.heap.size) ∧ (∀ b, ablk An = some b → b < w.heap.size)) (hn1 : 1 ≤ n) (hn2 : n ≤ 100) :
    Calls Tryz.prog 32 #[ptrV lg, .int .i64 a, .slice B k cB, .slice R m cR] w fun q w' => q = .returned (.bool (decide (n / 2 + 1 ≤ askK bs (fun ps => wstep room ps e a x) N n))) ∧
      ∃ Fn' : Nat → Nat → Prop, Nodes w' Fn' room nds ds (askN bs (fun ps => wstep room ps e a x) N n) ∧ (∀ i y, Fn' i y → Fn i y ∨ w.heap.size ≤ y) ∧ Kp (fun y => ∃ i, Fn i y) w w' := by
  have hmf : ∀ fn first cap w, (Instr.makeFunc fn first cap).run Tryz.prog w = .ok (.func fn first cap) w := fun _ _ _ _ => rfl
  unfold ptrV
  go_enter Tryz.func32, Tryz.ntmps32
  go_wp2_with (go_at_call 28; apply hold)
  have hb0 : Below w.heap.size w (((w.alloc (.cells #[.pointer (some ⟨lg, 0, none⟩)] 25)).alloc (.cells #[.int .i64 (a : Int)] 3)).alloc (.cells #[.slice B k cB] 32)) := (((Below.refl _ _).alloc (Nat.le_refl _) _).alloc (by simp) _).alloc (by simp; omega) _
  have hp0 : Blk (((w.alloc (.cells #[.pointer (some ⟨lg, 0, none⟩)] 25)).alloc (.cells #[.int .i64 (a : Int)] 3)).alloc (.cells #[.slice B k cB] 32)) w.heap.size 25 #[ptrV lg] := ((Blk.new _ _ _).alloc _).alloc _
  have hp1 : Blk (((w.alloc (.cells #[.pointer (some ⟨lg, 0, none⟩)] 25)).alloc (.cells #[.int .i64 (a : Int)] 3)).alloc (.cells #[.slice B k cB] 32)) (w.heap.size + 1) 3 #[.int .i64 (a : Int)] := by
    have := (Blk.new (w.alloc (.cells #[.pointer (some ⟨lg, 0, none⟩)] 25)) 3 #[.int .i64 (a : Int)]).alloc (.cells #[.slice B k cB] 32)
    rwa [World.size_alloc] at this
  have hp2 : Blk (((w.alloc (.cells #[.pointer (some ⟨lg, 0, none⟩)] 25)).alloc (.cells #[.int .i64 (a : Int)] 3)).alloc (.cells #[.slice B k cB] 32)) (w.heap.size + 1 + 1) 32 #[.slice B k cB] := by
    have := Blk.new ((w.alloc (.cells #[.pointer (some ⟨lg, 0, none⟩)] 25)).alloc (.cells #[.int .i64 (a : Int)] 3)) 32 #[.slice B k cB]
    rwa [World.size_alloc, World.size_alloc] at this
  have hs0 : (((w.alloc (.cells #[.pointer (some ⟨lg, 0, none⟩)] 25)).alloc (.cells #[.int .i64 (a : Int)] 3)).alloc (.cells #[.slice B k cB] 32)).heap.size = w.heap.size + 3 := by simp
  obtain ⟨w0, hw0⟩ : ∃ w0, w0 = (((w.alloc (.cells #[.pointer (some ⟨lg, 0, none⟩)] 25)).alloc (.cells #[.int .i64 (a : Int)] 3)).alloc (.cells #[.slice B k cB] 32)) := ⟨_, rfl⟩
  rw [← hw0] at hb0 hp0 hp1 hp2 hs0 ⊢
  clear hw0
  obtain ⟨f, hf⟩ : ∃ f : List Cmd → Int × List Cmd, f = fun ps => wstep room ps e a x := ⟨_, rfl⟩
  have hFlt : ∀ i y, Fn i y → y < w.heap.size := fun i y h => hN.lt h
  have hl0 := below_blk hb0 hl hl.lt
  have hA0 := hA.below hb0
  have hR0 := hR.below hb0
  have hB0 := hB.below hb0
  have hN0 := hN.below hb0
  have hask := ask_any 65 #[ptrV w.heap.size, ptrV (w.heap.size + 1), ptrV (w.heap.size + 1 + 1)] (enters_of Tryz.func65 (by kernel_rfl) rfl) lg n cn An c0 c2 (.int .i64 e) c4 nds R m cR bs
    (fun i kk w' => ∃ Fn' : Nat → Nat → Prop, Nodes w' Fn' room nds ds (askN bs f N i) ∧ kk = askK bs f N i ∧ (∀ j y, Fn' j y → Fn j y ∨ w0.heap.size < y) ∧ Kp (fun y => ∃ j, Fn j y) w0 w') w0
    (fun i kk w' ⟨Fn', q1, q2, q3, q4⟩ => ⟨q4.blk hl0 (fun ⟨j, h⟩ => hlF j h), hA0.kp q4 (fun b e _ ⟨j, h⟩ => hAF b e j h), hR0.kps q4 (fun b e _ ⟨j, h⟩ => hRF b e j h)⟩)
    (fun i kk w' w'' ⟨Fn', q1, q2, q3, q4⟩ hk => ⟨Fn', q1.keep hk.size (fun j y h => hk.block y (q1.lt h) (fun e => by rcases q3 j y h with h1 | h1 <;> first | (have := hFlt j y h1; omega) | omega)), q2, q3, q4.trans hk (fun y hy e => by omega)⟩)
    (fun i kk w' hi ⟨Fn', q1, q2, q3, q4⟩ hr => ⟨Fn', by simp only [askN, hr]; exact q1, by simp only [askK, hr]; simpa using q2, q3, q4⟩)
    (fun i kk w' nd hnd ⟨Fn', q1, q2, q3, q4⟩ hr hX => by
      have hiN : i < N.length := by rw [← hN.ln]; exact (List.getElem?_eq_some_iff.1 hnd).1
      have hdN : i < ds.length := by rw [hN.ld]; exact hiN
      have hd : ds[i]? = some ds[i] := List.getElem?_eq_getElem hdN
      have hps : N[i]? = some N[i] := List.getElem?_eq_getElem hiN
      have hps' : (askN bs f N i)[i]? = some N[i] := by rw [askN_ge (Nat.le_refl _)]; exact hps
      have hgd : N.getD i [] = N[i] := by simp [List.getD, hps]
      have hnode := q1.at_ i nd _ _ hnd hd hps'
      have hz := q4.size
      refine (wcl_any w.heap.size (w.heap.size + 1) (w.heap.size + 1 + 1) lg c0 (.slice An n cn) c2 c4 nd _ room (Fn' i) N[i] e a x he ha hx w' hnode B k cB (hB0.kps q4 (fun b e _ ⟨j, h⟩ => hBF b e j h)) (q4.blk hp0 (fun ⟨j, h⟩ => by have := hFlt j _ h; omega)) (q4.blk hp1 (fun ⟨j, h⟩ => by have := hFlt j _ h; omega)) (q4.blk hp2 (fun ⟨j, h⟩ => by have := hFlt j _ h; omega)) (q4.blk hl0 (fun ⟨j, h⟩ => hlF j h))).mono ?_
      rintro q w'' ⟨rfl, F'', r1, r2, r3⟩
      have hXn : ¬ Fn' i w0.heap.size := fun h => by rcases q3 i _ h with h1 | h1 <;> first | (have := hFlt i _ h1; omega) | omega
      refine ⟨_, rfl, ⟨fun j => if j = i then F'' else Fn' j, ?_, ?_, ?_, ?_⟩, r3.block _ hX hXn, r3.size⟩
      · have h1 := q1.step hnd hd r1 r2 r3 (fun j y hne hj hi => q1.apart j i y hne hj hi)
        have h2 : askN bs f N (i + 1) = (askN bs f N i).set i (wstep room N[i] e a x).2 := by simp only [askN, hr, if_true, hgd, hf]
        rw [h2]; exact h1
      · simp only [askK, hr, hgd]
        rw [hf]
        simp only [true_and]
        rw [← hf, q2]
      · intro j y hj
        by_cases e1 : j = i
        · subst e1
          rw [if_pos rfl] at hj
          rcases r2 y hj with h1 | h1
          · exact q3 j y h1
          · exact .inr (by omega)
        · rw [if_neg e1] at hj
          exact q3 j y hj
      · refine q4.trans r3 (fun y hy h => ?_)
        rcases q3 i y h with h1 | h1
        · exact ⟨i, h1⟩
        · omega)
    ⟨Fn, hN0.below ((Below.refl _ _).alloc (Nat.le_refl _) _), rfl, fun j y h => .inl h, (Kp.refl _ w0).alloc _⟩ hn1 hn2
  refine unhold (hask.mono ?_)
  rintro q w1 ⟨kk, rfl, Fn', q1, rfl, q3, q4⟩
  go_wp2_with fail
  go_ret
  rw [← hf]
  refine ⟨rfl, Fn', ?_, fun i y h => ?_, (Kp.below hb0).trans q4 (fun y _ h => h)⟩
  · exact q1
  · rcases q3 i y h with h1 | h1
    · exact .inl h1
    · exact .inr (by omega)
end Go.Proofs.YtonkblhhknafbaaGreat
