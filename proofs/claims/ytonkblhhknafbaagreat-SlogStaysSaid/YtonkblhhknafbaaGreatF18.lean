/- The walk of ask as Open calls it, whatever order the nodes are asked in. Whatever the heap holds beside. -/
import Derived.Test.YtonkblhhknafbaaGreatF17
namespace Go.Proofs.YtonkblhhknafbaaGreat
open Go.RowKit Go.Shelf

theorem RowM.go {w w' : World} {F F' : Nat → Prop} {A : Option Addr} {m : Nat} {cs : List KC} (h : RowM w F A m cs) (hz : w.heap.size ≤ w'.heap.size) (hk : ∀ k, F k → k < w.heap.size → w'.heap[k]? = w.heap[k]?) (hF : ∀ k, F k → k < w.heap.size → F' k) : RowM w' F' A m cs :=
  (h.cut (F' := fun k => F k ∧ k < w.heap.size) (fun _k h1 h2 => ⟨h1, h2⟩)).keep hz (fun k h1 _ => hk k h1.1 h1.2) (fun k h1 => hF k h1.1 h1.2)
/-- the nodes that answered OK -/
def okIs (bs : List Bool) (f : List Cmd → Int × List Cmd) (N : List (List Cmd)) (i : Nat) : List Nat := (List.range i).filter (fun j => rch bs j && decide ((f (N.getD j [])).1 = 0))
theorem okIs_succ (bs : List Bool) (f : List Cmd → Int × List Cmd) (N : List (List Cmd)) (i : Nat) : okIs bs f N (i + 1) = okIs bs f N i ++ (if rch bs i = true ∧ (f (N.getD i [])).1 = 0 then [i] else []) := by
  unfold okIs
  rw [List.range_succ, List.filter_append]
  congr 1
  by_cases h : rch bs i = true ∧ (f (N.getD i [])).1 = 0
  · rw [if_pos h]
    rw [List.filter_cons_of_pos (by rw [h.1, h.2]; rfl)]
    rfl
  · rw [if_neg h]
    by_cases h1 : rch bs i = true
    · have h2 : ¬ (f (N.getD i [])).1 = 0 := fun e => h ⟨h1, e⟩
      rw [List.filter_cons_of_neg (by rw [decide_eq_false h2]; simp)]
      rfl
    · rw [List.filter_cons_of_neg (by simp [h1])]
      rfl
theorem okIs_len (bs : List Bool) (f : List Cmd → Int × List Cmd) (N : List (List Cmd)) (i : Nat) : (okIs bs f N i).length = askK bs f N i := by
  induction i with
  | zero => rfl
  | succ i ih =>
    rw [okIs_succ, List.length_append, ih]
    simp only [askK]
    split <;> simp
/-- what the nodes that answered OK handed back -/
def RepsOf (bs : List Bool) (f : List Cmd → Int × List Cmd) (N : List (List Cmd)) (i : Nat) (rs : List (List KC)) : Prop :=
  All2 (fun j cs => cs.Perm (stOf (f (N.getD j [])).2).cs ∧ (cs.map (·.1)).Pairwise (· < ·)) (okIs bs f N i) rs

/-- the replies so far -/
def RepI (w : World) (G : Nat → Prop) (base : Nat) (A : Option Addr) (n c : Nat) (rs : List (List KC)) : Prop :=
  ∃ xs, Own w base 71 1 A n c xs ∧ All2 (fun v cs => ∃ A1 m1 c1, v = .slice A1 m1 c1 ∧ RowM w G A1 m1 cs) xs rs
theorem RepI.reps {w : World} {G : Nat → Prop} {base : Nat} {A : Option Addr} {n c : Nat} {rs : List (List KC)} (h : RepI w G base A n c rs) : Reps w (fun k => G k ∨ ablk A = some k) A n rs := by
  obtain ⟨xs, h1, h2⟩ := h
  exact ⟨xs, h1.sl, fun g e => ⟨.inr e, (h1.lt e).2⟩, h2.imp (fun v cs _ _ ⟨A1, m1, c1, e, h⟩ => ⟨A1, m1, c1, e, h.keep (Nat.le_refl _) (fun _ _ _ => rfl) (fun _ h => .inl h)⟩)⟩

theorem oask_any (lg n cn pl pr : Nat) (An : Option Addr) (c0 c2 c4 : Value) (nds ds : List Nat) (R : Option Addr) (m cR : Nat) (bs : List Bool) (room : Nat) (N : List (List Cmd)) (Fn : Nat → Nat → Prop) (e : Nat) (he : e ≤ 1048576) (w : World)
    (hl : Blk w lg 63 #[c0, .slice An n cn, c2, .int .i64 e, c4]) (hA : Sl w An n (nds.map ptrV)) (hR : Sl w R m (bs.map Value.bool)) (hN : Nodes w Fn room nds ds N)
    (hpl : Blk w pl 25 #[ptrV lg]) (hpr : Blk w pr 69 #[.slice none 0 0]) (hplF : ∀ i, ¬ Fn i pl) (hprF : ∀ i, ¬ Fn i pr)
    (hlF : ∀ i, ¬ Fn i lg) (hAF : ∀ b, ablk An = some b → b < w.heap.size ∧ b ≠ pr ∧ ∀ i, ¬ Fn i b) (hRF : ∀ b, sblk R m = some b → b < w.heap.size ∧ b ≠ pr ∧ ∀ i, ¬ Fn i b) (hn1 : 1 ≤ n) (hn2 : n ≤ 100) :
    Calls Tryz.prog 28 #[ptrV lg, .slice R m cR, .func (.func 29) #[] #[ptrV pl, ptrV pr]] w fun q w' => q = .returned (.bool (decide (n / 2 + 1 ≤ askK bs (fun ps => sstep room ps e) N n))) ∧
      ∃ (Fn' : Nat → Nat → Prop) (A' : Option Addr) (n' c' : Nat) (rs : List (List KC)), Nodes w' Fn' room nds ds (askN bs (fun ps => sstep room ps e) N n) ∧ (∀ i y, Fn' i y → Fn i y ∨ w.heap.size ≤ y) ∧ Kp (fun y => (∃ i, Fn i y) ∨ y = pr) w w' ∧
        Blk w' pr 69 #[.slice A' n' c'] ∧ RepI w' (fun y => w.heap.size ≤ y ∧ ∀ j, ¬ Fn' j y) w.heap.size A' n' c' rs ∧ RepsOf bs (fun ps => sstep room ps e) N n rs := by
  obtain ⟨f, hf⟩ : ∃ f : List Cmd → Int × List Cmd, f = fun ps => sstep room ps e := ⟨_, rfl⟩
  rw [← hf]
  have hFlt : ∀ i y, Fn i y → y < w.heap.size := fun i y h => hN.lt h
  have hlpr : lg ≠ pr := hl.ne_ hpr (by decide)
  have hplpr : pl ≠ pr := hpl.ne_ hpr (by decide)
  have hprlt := hpr.lt
  have hask := ask_any 29 #[ptrV pl, ptrV pr] (enters_of Tryz.func29 (by kernel_rfl) rfl) lg n cn An c0 c2 (.int .i64 e) c4 nds R m cR bs
    (fun i kk w' => ∃ (Fn' : Nat → Nat → Prop) (A' : Option Addr) (n' c' : Nat) (rs : List (List KC)), Nodes w' Fn' room nds ds (askN bs f N i) ∧ kk = askK bs f N i ∧ (∀ j y, Fn' j y → Fn j y ∨ w.heap.size < y) ∧ Kp (fun y => (∃ j, Fn j y) ∨ y = pr) w w' ∧
      Blk w' pr 69 #[.slice A' n' c'] ∧ RepI w' (fun y => w.heap.size < y ∧ (∀ j, ¬ Fn' j y) ∧ ablk A' ≠ some y) (w.heap.size + 1) A' n' c' rs ∧ RepsOf bs f N i rs ∧ (∀ y, ablk A' = some y → ∀ j, ¬ Fn' j y) ∧ n' ≤ i) w
    (fun i kk w' ⟨Fn', A', n', c', rs, q1, q2, q3, q4, _⟩ => ⟨q4.blk hl (fun h => by rcases h with ⟨j, h⟩ | h; exact hlF j h; exact hlpr h), hA.kp q4 (fun b e _ h => by rcases h with ⟨j, h⟩ | h; exact (hAF b e).2.2 j h; exact (hAF b e).2.1 h), hR.kps q4 (fun b e _ h => by rcases h with ⟨j, h⟩ | h; exact (hRF b e).2.2 j h; exact (hRF b e).2.1 h)⟩)
    (fun i kk w' w'' ⟨Fn', A', n', c', rs, q1, q2, q3, q4, q5, ⟨xs, q6, q6'⟩, q7, q8, q9⟩ hk => ⟨Fn', A', n', c', rs, q1.keep hk.size (fun j y h => hk.block y (q1.lt h) (fun e => by rcases q3 j y h with h1 | h1 <;> first | (have := hFlt j y h1; omega) | omega)), q2, q3, q4.trans hk (fun y hy e => by omega), hk.blk q5 (by omega),
      ⟨xs, q6.kp hk (fun y e _ hS => by have := (q6.lt e).1; omega), q6'.imp (fun v cs _ _ ⟨A1, m1, c1, e1, h1⟩ => ⟨A1, m1, c1, e1, h1.keep hk.size (fun y hy hlt => hk.block y hlt (by have := hy.1; omega)) (fun _ h => h)⟩)⟩, q7, q8, q9⟩)
    (fun i kk w' hi ⟨Fn', A', n', c', rs, q1, q2, q3, q4, q5, q6, q7, q8, q9⟩ hr => ⟨Fn', A', n', c', rs, by simp only [askN, hr]; exact q1, by simp only [askK, hr]; simpa using q2, q3, q4, q5, q6, by unfold RepsOf at q7 ⊢; rw [okIs_succ, if_neg (by simp [hr]), List.append_nil]; exact q7, q8, by omega⟩)
    (fun i kk w' nd hnd ⟨Fn', A', n', c', rs, q1, q2, q3, q4, q5, ⟨xs, q6, q6'⟩, q7, q8, q9⟩ hr hX => by
      have hiN : i < N.length := by rw [← hN.ln]; exact (List.getElem?_eq_some_iff.1 hnd).1
      have hin : i < n := by
        have h1 := hA.1
        rw [List.length_map] at h1
        have := (List.getElem?_eq_some_iff.1 hnd).1
        omega
      have hdN : i < ds.length := by rw [hN.ld]; exact hiN
      have hd : ds[i]? = some ds[i] := List.getElem?_eq_getElem hdN
      have hps : N[i]? = some N[i] := List.getElem?_eq_getElem hiN
      have hps' : (askN bs f N i)[i]? = some N[i] := by rw [askN_ge (Nat.le_refl _)]; exact hps
      have hgd : N.getD i [] = N[i] := by simp [List.getD, hps]
      have hnode := q1.at_ i nd _ _ hnd hd hps'
      have hz := q4.size
      have hFlg : ∀ y, Fn' i y → y < w.heap.size → Fn i y := fun y h hlt => by
        rcases q3 i y h with h1 | h1
        · exact h1
        · omega
      refine (ocl_any pl pr lg c0 (.slice An n cn) c2 c4 nd _ room (Fn' i) N[i] e he w' hnode (w.heap.size + 1) A' n' c' xs (q4.blk hpl (fun h => by rcases h with ⟨j, h⟩ | h; exact hplF j h; exact hplpr h)) q5 q6 (q4.blk hl (fun h => by rcases h with ⟨j, h⟩ | h; exact hlF j h; exact hlpr h))
        ⟨fun h => hplF i (hFlg _ h hpl.lt), fun h => hprF i (hFlg _ h hprlt), fun h => hlF i (hFlg _ h hl.lt)⟩ (fun y e => q8 y e i) (by omega) (by omega)).mono ?_
      rintro q w'' ⟨rfl, F'', r1, r2, r3, r4⟩
      have hXn : ¬ (Fn' i w.heap.size ∨ w.heap.size = pr ∨ ablk A' = some w.heap.size) := fun h => by
        rcases h with h | h | h
        · rcases q3 i _ h with h1 | h1
          · have := hFlt i _ h1; omega
          · omega
        · omega
        · have := (q6.lt h).1; omega
      have hr3 := r3.size
      have hS : ∀ j y, j ≠ i → Fn' j y → ¬ (Fn' i y ∨ y = pr ∨ ablk A' = some y) := fun j y hne hj h => by
        rcases h with h | h | h
        · exact q1.apart j i y hne hj h
        · subst h
          rcases q3 j _ hj with h1 | h1
          · exact hprF j h1
          · omega
        · exact q8 y h j hj
      have h1 := q1.step hnd hd r1 r2 r3 hS
      have h2 : askN bs f N (i + 1) = (askN bs f N i).set i (sstep room N[i] e).2 := by simp only [askN, hr, if_true, hgd, hf]
      have hF'' : ∀ j y, (if j = i then F'' else Fn' j) y → Fn' j y ∨ w'.heap.size ≤ y := fun j y hj => by
        by_cases e1 : j = i
        · subst e1
          rw [if_pos rfl] at hj
          exact r2 y hj
        · rw [if_neg e1] at hj
          exact .inl hj
      have hc3 : ∀ j y, (if j = i then F'' else Fn' j) y → Fn j y ∨ w.heap.size < y := fun j y hj => by
        rcases hF'' j y hj with h | h
        · exact q3 j y h
        · exact .inr (by omega)
      have hk4 : Kp (fun y => (∃ j, Fn j y) ∨ y = pr) w w'' := q4.trans r3 (fun y hy h => by
        rcases h with h | h | h
        · rcases q3 i y h with h1 | h1
          · exact .inl ⟨i, h1⟩
          · omega
        · exact .inr h
        · have := (q6.lt h).1; omega)
      refine ⟨_, rfl, ?_, r3.block _ hX hXn, hr3⟩
      have hk2 : (if (sstep room N[i] e).1 = 0 then kk + 1 else kk) = askK bs f N (i + 1) := by
        simp only [askK, hr, hgd, hf, true_and]
        rw [← hf, ← q2]
      rw [h2, hk2]
      rcases r4 with ⟨s0, s1, s2⟩ | ⟨s0, A2, c2', A1, m1, c1, cs', s1, s2, s3, s4, s5, s6, s7⟩
      · refine ⟨_, A', n', c', rs, h1, rfl, hc3, hk4, s1, ⟨xs, s2, q6'.imp (fun v cs _ _ ⟨B1, k1, d1, e1, g1⟩ => ⟨B1, k1, d1, e1, ?_⟩)⟩, ?_, fun y e j hj => ?_, by omega⟩
        · exact g1.go hr3 (fun y ⟨a1, a2, a3⟩ hlt => r3.block y hlt (fun h => by
            rcases h with h | h | h
            · exact a2 i h
            · omega
            · exact a3 h)) (fun y ⟨a1, a2, a3⟩ hlt => ⟨a1, fun j hj => by
            rcases hF'' j y hj with h | h
            · exact a2 j h
            · omega, a3⟩)
        · unfold RepsOf at q7 ⊢
          rw [okIs_succ, if_neg (by rw [hgd, hf]; exact fun h => s0 h.2), List.append_nil]; exact q7
        · rcases hF'' j y hj with h | h
          · exact q8 y e j h
          · have := (q6.lt e).2; omega
      · refine ⟨_, A2, n' + 1, c2', rs ++ [cs'], h1, rfl, hc3, hk4, s1, ⟨_, s2, All2.app (q6'.imp (fun v cs _ _ ⟨B1, k1, d1, e1, g1⟩ => ⟨B1, k1, d1, e1, ?_⟩)) (.cons ⟨A1, m1, c1, rfl, ?_⟩ .nil)⟩, ?_, fun y e j hj => ?_, by omega⟩
        · exact g1.go hr3 (fun y ⟨a1, a2, a3⟩ hlt => r3.block y hlt (fun h => by
            rcases h with h | h | h
            · exact a2 i h
            · omega
            · exact a3 h)) (fun y ⟨a1, a2, a3⟩ hlt => ⟨a1, fun j hj => by
            rcases hF'' j y hj with h | h
            · exact a2 j h
            · omega, fun h => by
            rcases s3 y h with h1 | h1
            · exact a3 h1
            · omega⟩)
        · exact s7.cut (fun y ⟨a1, a2, a3⟩ hlt => ⟨by omega, fun j hj => by
            by_cases e1 : j = i
            · subst e1
              rw [if_pos rfl] at hj
              exact a2 hj
            · rw [if_neg e1] at hj
              have := q1.lt hj
              omega, a3⟩)
        · unfold RepsOf at q7 ⊢
          rw [okIs_succ, if_pos ⟨hr, by rw [hgd, hf]; exact s0⟩]
          exact All2.app q7 (.cons ⟨by rw [hgd, hf]; exact s5, s6⟩ .nil)
        · by_cases e1 : j = i
          · subst e1
            rw [if_pos rfl] at hj
            exact s4 y e hj
          · rw [if_neg e1] at hj
            rcases s3 y e with h | h
            · exact q8 y h j hj
            · have := q1.lt hj; omega)
    ⟨Fn, none, 0, 0, [], hN.below ((Below.refl _ _).alloc (Nat.le_refl _) _), rfl, fun j y h => .inl h, (Kp.refl _ w).alloc _, hpr.alloc _, ⟨[], Own.nil _ _ _ _, .nil⟩, .nil, (fun y e => by cases e), by omega⟩ hn1 hn2
  refine hask.mono ?_
  rintro q w1 ⟨kk, rfl, Fn', A', n', c', rs, q1, rfl, q3, q4, q5, ⟨xs, q6, q6'⟩, q7, q8, q9⟩
  refine ⟨rfl, Fn', A', n', c', rs, q1, fun i y h => ?_, q4, q5, ⟨xs, q6.mono (by omega), q6'.imp (fun v cs _ _ ⟨B1, k1, d1, e1, g1⟩ => ⟨B1, k1, d1, e1, g1.cut (fun y ⟨a1, a2, _⟩ _ => ⟨by omega, a2⟩)⟩)⟩, q7⟩
  rcases q3 i y h with h1 | h1
  · exact .inl h1
  · exact .inr (by omega)
end Go.Proofs.YtonkblhhknafbaaGreat
