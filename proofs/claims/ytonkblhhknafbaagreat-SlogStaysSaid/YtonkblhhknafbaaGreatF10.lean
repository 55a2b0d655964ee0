/- The walk of slot.Seal. Whatever the heap holds beside. -/
import Derived.Test.YtonkblhhknafbaaGreatF9
namespace Go.Proofs.YtonkblhhknafbaaGreat
open Go.RowKit Go.Shelf

abbrev KC := Int × (Nat × List UInt8)
def CvM (w : World) (F : Nat → Prop) (v : CV) (q : KC) : Prop :=
  v.at_ = q.1 ∧ v.ep = (q.2.1 : Int) ∧ Sl w v.A v.n (u8s q.2.2) ∧ v.n ≤ v.c ∧ v.c ≤ maxLen ∧ ∀ g, ablk v.A = some g → F g ∧ g < w.heap.size
theorem CvM.keep {w w' : World} {F F' : Nat → Prop} {v : CV} {q : KC} (h : CvM w F v q) (hz : w.heap.size ≤ w'.heap.size) (hk : ∀ k, F k → k < w.heap.size → w'.heap[k]? = w.heap[k]?) (hF : ∀ k, F k → F' k) : CvM w' F' v q := by
  obtain ⟨h1, h2, h3, h4, h5, h6⟩ := h
  exact ⟨h1, h2, h3.keep hz (fun g e hlt => hk g (h6 g e).1 hlt), h4, h5, fun g e => ⟨hF g (h6 g e).1, Nat.lt_of_lt_of_le (h6 g e).2 hz⟩⟩
/-- a row of cells that is read -/
def RowM (w : World) (F : Nat → Prop) (A : Option Addr) (m : Nat) (cs : List KC) : Prop :=
  ∃ vs : List CV, m = vs.length ∧ Sl w A (m * 3) (flat vs) ∧ (∀ g, ablk A = some g → F g ∧ g < w.heap.size) ∧ All2 (CvM w F) vs cs
theorem RowM.keep {w w' : World} {F F' : Nat → Prop} {A : Option Addr} {m : Nat} {cs : List KC} (h : RowM w F A m cs) (hz : w.heap.size ≤ w'.heap.size) (hk : ∀ k, F k → k < w.heap.size → w'.heap[k]? = w.heap[k]?) (hF : ∀ k, F k → F' k) : RowM w' F' A m cs := by
  obtain ⟨vs, h1, h2, h3, h4⟩ := h
  exact ⟨vs, h1, h2.keep hz (fun g e hlt => hk g (h3 g e).1 hlt), fun g e => ⟨hF g (h3 g e).1, Nat.lt_of_lt_of_le (h3 g e).2 hz⟩, h4.imp (fun v q _ _ h => h.keep hz hk hF)⟩
theorem RowM.len {w : World} {F : Nat → Prop} {A : Option Addr} {m : Nat} {cs : List KC} (h : RowM w F A m cs) : m = cs.length := by
  obtain ⟨vs, h1, _, _, h4⟩ := h
  rw [h1, h4.len]
theorem All2.comp {α β γ : Type} {S : α → β → Prop} {R : β → γ → Prop} {a : List α} {b : List β} {c : List γ} (h1 : All2 S a b) (h2 : All2 R b c) : All2 (fun x z => ∃ y, y ∈ b ∧ z ∈ c ∧ S x y ∧ R y z) a c := by
  induction h1 generalizing c with
  | nil => cases h2; exact .nil
  | cons r1 _ ih =>
    cases h2 with
    | cons r2 t2 => exact .cons ⟨_, .head _, .head _, r1, r2⟩ ((ih t2).imp (fun x z _ _ ⟨y, m1, m2, s1, s2⟩ => ⟨y, .tail _ m1, .tail _ m2, s1, s2⟩))
theorem below_kp {B : Nat} {S : Nat → Prop} {a w w' : World} (h : Below B a w) (k : Kp S w w') (hs : ∀ x, S x → B ≤ x) (hB : B ≤ w.heap.size) : Below B a w' :=
  ⟨k.os.trans h.os, k.tape.trans h.tape, k.output.trans h.output, Nat.le_trans h.size k.size, fun i hi => (k.block i (Nat.lt_of_lt_of_le hi hB) (fun hx => by have := hs i hx; omega)).trans (h.block i hi)⟩
/-- a copied cell of the call's own -/
def OwC (w : World) (base : Nat) (cs : List KC) (cv : CV) (p : Int × Value) : Prop := ∃ q, look cs p.1 = some q ∧ cv.at_ = p.1 ∧ cv.ep = (q.1 : Int) ∧ OwnB w base cv.A cv.n cv.c q.2
theorem OwC.lt {w : World} {base : Nat} {cs : List KC} {cv : CV} {p : Int × Value} (h : OwC w base cs cv p) {k : Nat} (hk : ablk cv.A = some k) : base ≤ k ∧ k < w.heap.size := by
  obtain ⟨q, _, _, _, ho⟩ := h
  exact ho.lt hk
theorem OwC.kp {w w' : World} {S : Nat → Prop} {base : Nat} {cs : List KC} {cv : CV} {p : Int × Value} (h : OwC w base cs cv p) (hk : Kp S w w') (hn : ∀ x, ablk cv.A = some x → ¬ S x) : OwC w' base cs cv p := by
  obtain ⟨q, h1, h2, h3, ho⟩ := h
  exact ⟨q, h1, h2, h3, ho.kp hk (fun x e _ => hn x e)⟩
/-- what a node's cells may be -/
def CellsOk (cs : List KC) : Prop := ∀ q ∈ cs, ∃ a : Nat, q.1 = (a : Int) ∧ a < 4096 ∧ q.2.1 ≤ 1048576 ∧ q.2.2.length ≤ 2048
theorem act_ok {s : St} {c : Cmd} (h : CellsOk s.cs) (hc : c.Ok) : CellsOk (act s c).cs := by
  cases c with
  | up e => simp only [act]; split <;> exact h
  | write e a x =>
    obtain ⟨h1, h2, h3⟩ := hc
    simp only [act]
    split
    · exact h
    · split
      · intro q hq
        rcases upd_mem hq with rfl | hq
        · exact ⟨a, rfl, h2, h1, h3⟩
        · exact h q hq
      · exact h
theorem acts_ok : ∀ (l : List Cmd) {s : St}, CellsOk s.cs → (∀ c ∈ l, c.Ok) → CellsOk (acts s l).cs
  | [], _, h, _ => h
  | c :: l, _, h, hl => acts_ok l (act_ok h (hl c (.head _))) (fun d hd => hl d (.tail _ hd))
theorem stOf_ok {ps : List Cmd} (h : ∀ c ∈ ps, c.Ok) : CellsOk (stOf ps).cs := acts_ok ps (fun q hq => by cases hq) h
theorem act_len (s : St) (c : Cmd) : (act s c).cs.length ≤ s.cs.length + 1 := by
  cases c with
  | up e => simp only [act]; split <;> simp
  | write e a x =>
    simp only [act]
    split
    · omega
    · split
      · exact upd_len
      · omega
theorem acts_len : ∀ (l : List Cmd) (s : St), (acts s l).cs.length ≤ s.cs.length + l.length
  | [], s => by simp [acts]
  | c :: l, s => by
    have h1 := acts_len l (act s c)
    have h2 := act_len s c
    have e : acts s (c :: l) = acts (act s c) l := rfl
    rw [e, List.length_cons]
    omega
def sliceLen : Value → Nat
  | .slice _ n _ => n
  | _ => 0
theorem sorted_of {ds : List CS} {m : List KC} (h1 : All2 (fun (v : CV) (q : KC) => v.at_ = q.1) (ds.map CS.cv) m) (h2 : ds.Pairwise (fun x y => x.at_.val ≤ y.at_.val)) (h3 : Keys m) : (m.map (·.1)).Pairwise (· < ·) := by
  have e : m.map (·.1) = ds.map (fun s => (s.at_.val : Int)) := by
    clear h2 h3
    induction ds generalizing m with
    | nil => cases h1; rfl
    | cons d ds ih =>
      cases h1 with
      | cons a b =>
        simp only [List.map_cons]
        rw [ih b, ← a]
        rfl
  have h4 : (m.map (·.1)).Pairwise (· ≤ ·) := by
    rw [e, List.pairwise_map]
    exact h2.imp (fun h => by omega)
  have h5 : (m.map (·.1)).Pairwise (· ≠ ·) := h3
  exact (h4.and h5).imp (fun ⟨a, b⟩ => by omega)
theorem perm_keys {β : Type} {a b : List (Int × β)} (h : a.Perm b) : Keys a ↔ Keys b := (h.map _).nodup_iff
/-- a copied cell, its place told -/
def OwK (w : World) (base : Nat) (cv : CV) (q : KC) : Prop := cv.at_ = q.1 ∧ cv.ep = (q.2.1 : Int) ∧ OwnB w base cv.A cv.n cv.c q.2.2
theorem owk_of {w w3 : World} {base : Nat} {G : Nat → Prop} {cs m1 : List KC} {vs : List CV} {out : List (Int × Value)} (hk : Keys cs) (hp : m1.Perm cs) (h1 : All2 (OwC w base cs) vs out) (h2 : Rel2 (CellV w3 G) out m1) : All2 (OwK w base) vs m1 :=
  (All2.comp h1 h2).imp (fun v z _ _ ⟨y, _, hz, ⟨q, a1, a2, a3, a4⟩, b1, _⟩ => by
    have hl := look_of hk (hp.mem_iff.1 (show (z.1, z.2) ∈ m1 from hz))
    rw [b1, hl] at a1
    cases a1
    exact ⟨a2.trans b1, a3, a4⟩)
/-- what Seal comes to -/
def sstep (room : Nat) (ps : List Cmd) (e : Nat) : Int × List Cmd := if e ≤ (stOf ps).E then (7, ps) else putC room ps (.up e)

set_option maxRecDepth 100000 in
set_option maxHeartbeats 2000000 in
theorem seal_any (nd d room : Nat) (F : Nat → Prop) (ps : List Cmd) (e : Nat) (he : e ≤ 1048576) (w : World) (hn : NodeAt w F nd d room ps) :
    Calls Tryz.prog 30 #[.pointer (some ⟨nd, 0, none⟩), .int .i64 e] w fun q w' => ∃ (A' : Option Addr) (m' c' : Nat), q = .returned (.tuple #[.slice A' m' c', .int .i64 (sstep room ps e).1]) ∧ (∃ F' : Nat → Prop, NodeAt w' F' nd d room (sstep room ps e).2 ∧ (∀ x, F' x → F x ∨ w.heap.size ≤ x) ∧
      ((sstep room ps e).1 = 0 → ∃ cs', cs'.Perm (stOf (sstep room ps e).2).cs ∧ (cs'.map (·.1)).Pairwise (· < ·) ∧ RowM w' (fun k => w.heap.size ≤ k ∧ ¬ F' k) A' m' cs')) ∧ Kp F w w' := by
  have hn' := hn
  obtain ⟨sg, mb, A, c, torn, xs, A1, c1, G, h1, h2, h3, h4, h5, h6, h7, ⟨f1, f2, f3, f4, f5, f6⟩, h9, h10, h11, h12⟩ := hn'
  obtain ⟨j0, j1, j2, e0, e1, e2⟩ := Blk.c3 h1
  have hlt := h1.lt
  have hok : (Cmd.up e).Ok := he
  have g2 : decide ((1048576 : Int) < (e : Int)) = false := by simp; omega
  have g0 : decide ((e : Int) < 0) = false := by simp
  have gw : IntKind.u64.wrap (e : Int) = (e : Int) := by rw [IntKind.wrap_u64]; omega
  go_enter Tryz.func30, Tryz.ntmps30
  by_cases hE : e ≤ (stOf ps).E
  · have g4 : decide ((e : Int) ≤ ((stOf ps).E : Int)) = true := by simp; omega
    go_wp2_with fail
    go_ret2
    have hs : sstep room ps e = (7, ps) := by unfold sstep; rw [if_pos hE]
    rw [hs]
    exact ⟨none, 0, 0, rfl, ⟨F, hn, fun x h => .inl h, fun h => by simp at h⟩, Kp.refl _ _⟩
  · have g4 : decide ((e : Int) ≤ ((stOf ps).E : Int)) = false := by simp; omega
    go_wp2_with (first | (go_at_call 57; apply hold) | (go_at_call 56; apply hold))
    refine unhold ((uint_any none 0 0 2 [] w (Sl.nil _) (by omega) (by omega)).mono ?_)
    rintro q w1 ⟨A2, n2, c2, rfl, o1, hb1⟩
    have hz1 := hb1.size
    rw [List.nil_append] at o1
    have l1 := o1.len
    have u1 := uvar_len1 2 (by omega)
    go_wp2_with (first | (go_at_call 57; apply hold) | (go_at_call 56; apply hold))
    refine unhold ((uint_any A2 n2 c2 e (uvar 2) w1 o1.sl (by omega) (by omega)).mono ?_)
    rintro q w2 ⟨A3, n3, c3, rfl, o2, hb2⟩
    have hz2 := hb2.size
    have hb02 : Below w.heap.size w w2 := hb1.trans (hb2.mono hz1)
    go_wp2_with (first | (go_at_call 57; apply hold) | (go_at_call 56; apply hold))
    refine unhold ((note_put nd d room F ps _ hok w2 (hn.below hb02) A3 n3 c3 o2.sl (fun y hy hF => by have := h9 y hF; have := (o2.lt hy).1; have := hb02.size; omega)).mono ?_)
    rintro q w3 ⟨F', rfl, k1, k2, k3⟩
    have hz3 := k3.size
    have hw3 : Kp F w w3 := (Kp.below (S := F) hb02).trans k3 (fun _ _ h => h)
    have k2' : ∀ x, F' x → F x ∨ w.heap.size ≤ x := fun y hy => by
      rcases k2 y hy with h | h
      · exact .inl h
      · exact .inr (Nat.le_trans hb02.size h)
    by_cases hfit : bytesOf (ps ++ [.up e]) ≤ room
    · have hp : putC room ps (.up e) = (0, ps ++ [.up e]) := by unfold putC; rw [if_pos hfit]
      rw [hp]
      rw [hp] at k1
      simp only [] at k1 ⊢
      have k1' := k1
      have hF'lt : ∀ x, F' x → x < w3.heap.size := fun x h => k1.lt h
      obtain ⟨sg3, mb3, A3', c3', torn3, xs3, A4, c4, G3, r1, r2, r3, r4, r5, r6, r7, ⟨s1, s2, s3, s4, s5, s6⟩, r9, r10, r11, r12⟩ := k1'
      obtain ⟨j0, j1, j2, e0, e1, e2⟩ := Blk.c3 r1
      obtain ⟨l, hml, hrel⟩ := r6
      have hlk : Keys l := hrel.nodup.2 (stOf_keys _)
      have hmlt := hml.lt
      have hcok : CellsOk (stOf (ps ++ [.up e])).cs := stOf_ok r10
      obtain ⟨cs, hcs⟩ : ∃ cs, cs = (stOf (ps ++ [.up e])).cs := ⟨_, rfl⟩
      have hkcs : Keys cs := hcs ▸ stOf_keys _
      rw [← hcs] at hrel hcok
      have hrelL := hrel
      clear hrel
      have Hcs := hide hcs
      clear hcs
      have hll : l.length ≤ 1048576 := by
        have q1 := All2.len hrelL
        have q2 := acts_len (ps ++ [Cmd.up e]) St.none
        have q3 := len_bytesOf (ps ++ [Cmd.up e])
        have q4 : (acts St.none (ps ++ [Cmd.up e])).cs.length = cs.length := by rw [Hcs.out]; rfl
        have q5 : St.none.cs.length = 0 := rfl
        omega
      go_wp2_with (first | (at_range; apply hold))
      refine unhold (op_range rfl _ 106 rfl Tryz.underlying106 rfl hml ?_)
      intro w4 hit4 hb4 hz4
      have hml4 : MapV w4 mb3 l := hml.of_eq (hb4.block _ hmlt)
      obtain ⟨r, hr⟩ : ∃ r, r = w3.heap.size := ⟨_, rfl⟩
      rw [← hr] at hit4 hz4 ⊢
      have hr1 : w3.heap.size ≤ r := by omega
      have hr2 : r ≤ w3.heap.size := by omega
      clear hr
      go_wp2_with fail
      go_frame
      have hbw4 : Below w3.heap.size w3 w4 := hb4
      go_loopw [7] (fun v wr => ∃ A m c out vs, v = .slice A m c ∧ m = out.length ∧ IterV wr r mb3 l out ∧ MapV wr mb3 l ∧ Own wr (r + 1) 77 3 A m c (flat vs) ∧ All2 (OwC wr (r + 1) cs) vs out ∧ Below w3.heap.size w3 wr ∧ r < wr.heap.size) (fun v _ => l.length - sliceLen v)
      case atStart => exact ⟨none, 0, 0, [], [], rfl, rfl, hit4, hml4, Own.nil _ _ _ _, .nil, hbw4, by omega⟩
      case round =>
        obtain ⟨A5, m5, c5, out, vs, rfl, rfl, hit, hmlr, hown, hall, hbr, hrlt⟩ := hrel
        go_wp2_with (first | (at_next; apply hold))
        have hmr3 : mb3 < r := by omega
        refine unhold (op_next rfl _ rfl rfl hit hmlr ?_ ?_)
        · intro hperm
          go_wp2_with (first | (go_at_call 59; apply hold))
          obtain ⟨m1, hm1, hR⟩ := All2.perm hperm hrelL
          have hT := owk_of hkcs hm1 hall hR
          have hbd : ∀ v ∈ vs, ∃ a : Nat, v.at_ = (a : Int) ∧ a < 4096 := by
            intro v hv
            obtain ⟨q, hq, a1, _⟩ := hT.mem hv
            obtain ⟨a, b1, b2, _⟩ := hcok q (hm1.mem_iff.1 hq)
            exact ⟨a, a1.trans b1, b2⟩
          have hlen : vs.length = out.length := hall.len
          have hss : sstep room ps e = (0, ps ++ [.up e]) := by unfold sstep; rw [if_neg hE, hp]
          have Hss := hide hss
          clear hss
          have hol : out.length ≤ 1048576 := by rw [hperm.length_eq]; exact hll
          go_wp2_with (first | (go_at_call 59; apply hold))
          refine unhold ((sort_own 60 _ cmp60 (r + 1) A5 out.length c5 vs wr hown hbd (by omega)).mono ?_)
          rintro x w7 ⟨rfl, ds', hpd, hsd, hcd, hk7⟩
          have hz7 := hk7.size
          have hb7 : Below w3.heap.size w3 w7 := below_kp hbr hk7 (fun x h => by have := (hown.lt h).1; omega) hbr.size
          go_wp2_with fail
          go_ret2
          rw [Hss.out]
          obtain ⟨m2, hm2, hT2⟩ := All2.perm (l1 := ds'.map CS.cv) hpd hT
          have hm2c : m2.Perm cs := hm2.trans hm1
          have hlen2 : (ds'.map CS.cv).length = out.length := by rw [hpd.length_eq, hlen]
          have hkey2 : Keys m2 := (perm_keys hm2c).2 hkcs
          have hT7 : All2 (CvM w7 (fun k => w.heap.size ≤ k ∧ ¬ F' k)) (ds'.map CS.cv) m2 := hT2.imp (fun v q _ _ ⟨a1, a2, a3⟩ => by
            have o7 : OwnB w7 (r + 1) v.A v.n v.c q.2.2 := a3.kp hk7 (fun x e _ hS => hown.ne_own a3.own (by decide) e hS)
            refine ⟨a1, a2, o7.sl, o7.cap.1, o7.cap.2, fun g e => ⟨⟨?_, fun hF => ?_⟩, (o7.lt e).2⟩⟩
            · have := (o7.lt e).1
              have := hw3.size
              omega
            · have := (o7.lt e).1
              have := hF'lt g hF
              omega)
          refine ⟨A5, out.length, c5, rfl, ⟨F', k1.below hb7, k2', fun _ => ⟨m2, by rw [← Hcs.out]; exact hm2c, sorted_of (hT2.imp (fun v q _ _ h => h.1)) hsd hkey2, ⟨ds'.map CS.cv, hlen2.symm, hcd, ?_, hT7⟩⟩⟩, hw3.trans (Kp.below (S := F) hb7) (fun _ _ h => h)⟩
          intro g e
          have h1 := (hown.lt e).1
          have h2 := (hown.lt e).2
          have := hw3.size
          exact ⟨⟨by omega, fun hF => by have := hF'lt _ hF; omega⟩, by omega⟩
        · intro k v w5 hkv holt hit5 hk5 hen
          obtain ⟨q, hq, hq1, hcv⟩ := All2.mem hrelL hkv
          simp only [] at hq1 hcv
          subst hq1
          obtain ⟨A6, n6, c6, rfl, b1, b2, b3, b4⟩ := hcv
          have hb5 : Below w3.heap.size w3 w5 := below_kp hbr hk5 (fun x h => by omega) hbr.size
          have hz5 := hb5.size
          have hk5z := hk5.size
          have hml5 : MapV w5 mb3 l := hmlr.of_eq (hk5.block _ hmlr.lt (by omega))
          have hown5 : Own w5 (r + 1) 77 3 A5 out.length c5 (flat vs) := hown.kp hk5 (fun x e _ hS => by have := (hown.lt e).1; omega)
          have hall5 : All2 (OwC w5 (r + 1) cs) vs out := hall.imp (fun cv p _ _ h => h.kp hk5 (fun x e1 e2 => by have := (h.lt e1).1; omega))
          go_wp2_with (first | (go_at_call 58; apply hold) | (at_builtin; apply hold))
          refine unhold ((copied_any q.1 (q.2.1 : Int) A6 n6 c6 q.2.2 _ ((b1.below hb5).alloc _) (by have := (hcok q hq); have e1 := b1.1; rw [u8s_len] at e1; obtain ⟨_, _, _, _, e2⟩ := this; omega)).mono ?_)
          rintro x w6 ⟨A7, c7, rfl, o6, hb6⟩
          go_wp2_with (first | (go_at_call 58; apply hold) | (at_builtin; apply hold))
          have hW : Below w5.heap.size w5 (w5.alloc (.cells #[.int .i64 q.1, .int .i64 (q.2.1 : Int), .slice A6 n6 c6] 77)) := (Below.refl _ _).alloc (Nat.le_refl _) _
          have hz6 := hb6.size
          rw [World.size_alloc] at hz6
          have h56 : Below w5.heap.size w5 w6 := hW.trans (hb6.mono hW.size)
          have hown6 := hown5.below h56
          have hon : Own w6 (r + 1) 5 1 A7 n6 c7 (u8s q.2.2) := o6.own.mono (by have := hb6.size; simp at *; omega)
          refine unhold (app_cell rfl (.tmp 45) (.tmp 48) rfl (r + 1) A5 _ c5 vs rfl (hown6.alloc _) ⟨q.1, q.2.1, A7, n6, c7⟩ w6 rfl rfl (by omega) (by simp; omega) ?_)
          intro A8 c8 w8 ho8 hg8 hA8
          have h68 : Kp (fun x => ablk A5 = some x) w6 w8 := ((Kp.refl _ w6).alloc _).grown hg8 (fun x e _ => e)
          have h58 : Kp (fun x => ablk A5 = some x) w5 w8 := (Kp.below h56).trans h68 (fun _ _ h => h)
          have hz8 := h58.size
          clear hg8
          go_wp2_with fail
          go_roundw
          case rel =>
            refine ⟨A8, _, c8, out ++ [(q.1, _)], vs ++ [⟨q.1, q.2.1, A7, n6, c7⟩], rfl, by simp, hit5.of_eq (h58.block r (by omega) (fun e => by have := (hown5.lt e).1; omega)), hml5.of_eq (h58.block _ hml5.lt (fun e => by have := (hown5.lt e).1; omega)), ho8, ?_, below_kp hb5 h58 (fun x e => by have := (hown5.lt e).1; omega) hb5.size, by omega⟩
            refine All2.app (hall5.imp (fun cv p _ _ h => ?_)) (.cons ⟨q.2, look_of hkcs hq, rfl, rfl, ?_⟩ .nil)
            · obtain ⟨q', d1, d2, d3, d4⟩ := h
              exact ⟨q', d1, d2, d3, d4.kp h58 (fun x e _ hS => hown5.ne_own d4.own (by decide) e hS)⟩
            · exact OwnB.kp (bs := q.2.2) hon h68 (fun x e _ hS => hown6.ne_own hon (by decide) e hS)
          case measure => simp [sliceLen]; omega
    · have hp : putC room ps (.up e) = (3, ps) := by unfold putC; rw [if_neg hfit]
      rw [hp]
      rw [hp] at k1
      simp only [] at k1 ⊢
      go_wp2_with (first | (at_range; apply hold))
      go_ret2
      have hs : sstep room ps e = (3, ps) := by unfold sstep; rw [if_neg hE, hp]
      rw [hs]
      exact ⟨none, 0, 0, rfl, ⟨F', k1, k2', fun h => by simp at h⟩, hw3⟩
end Go.Proofs.YtonkblhhknafbaaGreat
