/- Plain: what was written by a quorum stays in the row, whoever is reached later. -/
import Derived.Test.YtonkblhhknafbaaGreatP5
namespace Go.Proofs.YtonkblhhknafbaaGreat

/-- what a node holds at a place -/
def LK (N : List (List Cmd)) (j a : Nat) : Option (Nat × List UInt8) := look (stOf (N.getD j [])).cs (a : Int)

theorem sstep_look {room : Nat} {ps : List Cmd} {e : Nat} : (stOf (sstep room ps e).2).cs = (stOf ps).cs := by
  unfold sstep putC
  split
  · rfl
  · split
    · rw [stOf_snoc]
      simp only [act]
      split <;> rfl
    · rfl
theorem put_look {room : Nat} {ps : List Cmd} {e a : Nat} {x : List UInt8} (he : (stOf ps).E ≤ e) (hl : ∀ c, look (stOf ps).cs (a : Int) = some c → c.1 < e) :
    (∀ k : Int, k ≠ a → look (stOf (putC room ps (.write e a x)).2).cs k = look (stOf ps).cs k) ∧
    ((putC room ps (.write e a x)).1 = 0 → look (stOf (putC room ps (.write e a x)).2).cs (a : Int) = some (e, x)) ∧
    (look (stOf (putC room ps (.write e a x)).2).cs (a : Int) = look (stOf ps).cs (a : Int) ∨ (look (stOf (putC room ps (.write e a x)).2).cs (a : Int) = some (e, x) ∧ ∀ c, look (stOf ps).cs (a : Int) = some c → c.1 < e)) := by
  unfold putC
  split
  · rw [stOf_write he hl]
    exact ⟨fun k hk => look_upd_other hk, fun _ => look_upd_same, .inr ⟨look_upd_same, hl⟩⟩
  · exact ⟨fun _ _ => rfl, fun h => by simp at h, .inl rfl⟩
theorem wstep_look {room : Nat} {ps : List Cmd} {e a : Nat} {x : List UInt8} :
    (∀ k : Int, k ≠ a → look (stOf (wstep room ps e a x).2).cs k = look (stOf ps).cs k) ∧
    ((wstep room ps e a x).1 = 0 → look (stOf (wstep room ps e a x).2).cs (a : Int) = some (e, x)) ∧
    (look (stOf (wstep room ps e a x).2).cs (a : Int) = look (stOf ps).cs (a : Int) ∨ (look (stOf (wstep room ps e a x).2).cs (a : Int) = some (e, x) ∧ ∀ c, look (stOf ps).cs (a : Int) = some c → c.1 < e)) := by
  unfold wstep
  split
  · exact ⟨fun _ _ => rfl, fun h => by simp at h, .inl rfl⟩
  · rename_i he
    cases hl : look (stOf ps).cs (a : Int) with
    | none =>
      have := put_look (room := room) (ps := ps) (e := e) (a := a) (x := x) (by omega) (fun c h => by rw [hl] at h; cases h)
      rw [hl] at this
      exact this
    | some c =>
      obtain ⟨e0, x0⟩ := c
      simp only []
      split
      · split
        · rename_i h
          exact ⟨fun _ _ => rfl, fun _ => by rw [hl, h.1, h.2], .inl hl⟩
        · exact ⟨fun _ _ => rfl, fun h => by simp at h, .inl hl⟩
      · have := put_look (room := room) (ps := ps) (e := e) (a := a) (x := x) (by omega) (fun c h => by rw [hl] at h; cases h; simp; omega)
        rw [hl] at this
        exact this
theorem ask_getD {bs : List Bool} {f : List Cmd → Int × List Cmd} {N : List (List Cmd)} {n j : Nat} (hn : N.length = n) : (askN bs f N n).getD j [] = if j < n ∧ rch bs j = true then (f (N.getD j [])).2 else N.getD j [] := by
  by_cases hj : j < n
  · rw [askN_getD hj hn]
    by_cases hr : rch bs j = true
    · rw [if_pos hr, if_pos ⟨hj, hr⟩]
    · rw [if_neg hr, if_neg (fun h => hr h.2)]
  · rw [if_neg (fun h => hj h.1)]
    simp only [List.getD]
    rw [List.getElem?_eq_none (by rw [askN_len]; omega), List.getElem?_eq_none (by omega)]

/-! ### quorums -/
def Quo (n : Nat) (p : Nat → Prop) : Prop := ∃ q : Nat → Bool, (∀ j, j < n → q j = true → p j) ∧ n / 2 + 1 ≤ ((List.range n).filter q).length
theorem filter_meet (n : Nat) (q q' : Nat → Bool) (h : ∀ j, j < n → q j = true → q' j = true → False) : ((List.range n).filter q).length + ((List.range n).filter q').length ≤ n := by
  induction n with
  | zero => simp
  | succ n ih =>
    have := ih (fun j hj => h j (by omega))
    rw [List.range_succ, List.filter_append, List.filter_append, List.length_append, List.length_append]
    have h1 := h n (by omega)
    cases h2 : q n <;> cases h3 : q' n
    · rw [List.filter_cons_of_neg (by simp [h2]), List.filter_cons_of_neg (by simp [h3])]; simp; omega
    · rw [List.filter_cons_of_neg (by simp [h2]), List.filter_cons_of_pos (by simp [h3])]; simp; omega
    · rw [List.filter_cons_of_pos (by simp [h2]), List.filter_cons_of_neg (by simp [h3])]; simp; omega
    · exact absurd h3 (by rw [Bool.not_eq_true]; cases h4 : q' n with | false => rfl | true => exact (h1 h2 h4).elim)
theorem Quo.meet {n : Nat} {p p' : Nat → Prop} (h : Quo n p) (h' : Quo n p') : ∃ j, j < n ∧ p j ∧ p' j := by
  obtain ⟨q, h1, h2⟩ := h
  obtain ⟨q', h3, h4⟩ := h'
  apply Classical.byContradiction
  intro hn
  have := filter_meet n q q' (fun j hj a b => hn ⟨j, hj, h1 j hj a, h3 j hj b⟩)
  omega
theorem Quo.mono {n : Nat} {p p' : Nat → Prop} (h : Quo n p) (f : ∀ j, j < n → p j → p' j) : Quo n p' := by
  obtain ⟨q, h1, h2⟩ := h
  exact ⟨q, fun j hj hq => f j hj (h1 j hj hq), h2⟩
theorem quo_ask {bs : List Bool} {f : List Cmd → Int × List Cmd} {N : List (List Cmd)} {n : Nat} (h : n / 2 + 1 ≤ askK bs f N n) : Quo n (fun j => rch bs j = true ∧ (f (N.getD j [])).1 = 0) := by
  refine ⟨fun j => rch bs j && decide ((f (N.getD j [])).1 = 0), fun j _ hq => by simpa using hq, ?_⟩
  rw [← okIs_len] at h
  exact h

/-! ### a round of writes -/
section
variable {room n e a : Nat} {x : List UInt8} {bs : List Bool} {N : List (List Cmd)}
def wrN (room n : Nat) (bs : List Bool) (e a : Nat) (x : List UInt8) (N : List (List Cmd)) : List (List Cmd) := askN bs (fun ps => wstep room ps e a x) N n
theorem wr_far (hn : N.length = n) (j k : Nat) (hk : k ≠ a) : LK (wrN room n bs e a x N) j k = LK N j k := by
  unfold LK wrN
  rw [ask_getD hn]
  split
  · exact wstep_look.1 _ (by omega)
  · rfl
theorem wr_at (hn : N.length = n) (j : Nat) : LK (wrN room n bs e a x N) j a = LK N j a ∨ (LK (wrN room n bs e a x N) j a = some (e, x) ∧ ∀ c, LK N j a = some c → c.1 < e) := by
  unfold LK wrN
  rw [ask_getD hn]
  split
  · exact wstep_look.2.2
  · exact .inl rfl
theorem wr_quo (hn : N.length = n) (h : n / 2 + 1 ≤ askK bs (fun ps => wstep room ps e a x) N n) : Quo n (fun j => LK (wrN room n bs e a x N) j a = some (e, x)) :=
  (quo_ask h).mono fun j hj ⟨h1, h2⟩ => by
    unfold LK wrN
    rw [ask_getD hn, if_pos ⟨hj, h1⟩]
    exact wstep_look.2.1 h2
theorem wr_len : (wrN room n bs e a x N).length = N.length := askN_len n
end
/-- what a quorum has, and nobody has otherwise with as high an epoch -/
def Has (n : Nat) (N : List (List Cmd)) (row : List (List UInt8)) : Prop :=
  ∀ (i : Nat) (b : List UInt8), row[i]? = some b → ∃ e, Quo n (fun j => ∃ c, LK N j i = some c ∧ e ≤ c.1) ∧ ∀ j c, LK N j i = some c → e ≤ c.1 → c.2 = b
theorem Has.wr {room n e a : Nat} {x : List UInt8} {bs : List Bool} {N : List (List Cmd)} {row : List (List UInt8)} (h : Has n N row) (hn : N.length = n) (hx : ∀ b, row[a]? = some b → x = b) : Has n (wrN room n bs e a x N) row := by
  intro i b hb
  obtain ⟨e0, hq, hv⟩ := h i b hb
  refine ⟨e0, ?_⟩
  by_cases hi : i = a
  · subst hi
    refine ⟨hq.mono fun j _ ⟨c, h1, h2⟩ => ?_, fun j c h1 h2 => ?_⟩
    · rcases wr_at (room := room) (bs := bs) (e := e) (a := i) (x := x) hn j with h3 | ⟨h3, h4⟩
      · exact ⟨c, by rw [h3]; exact h1, h2⟩
      · have := h4 c h1
        exact ⟨(e, x), h3, by simp only []; omega⟩
    · rcases wr_at (room := room) (bs := bs) (e := e) (a := i) (x := x) hn j with h3 | ⟨h3, h4⟩
      · rw [h3] at h1
        exact hv j c h1 h2
      · rw [h3] at h1
        cases h1
        exact hx b hb
  · refine ⟨hq.mono fun j _ ⟨c, h1, h2⟩ => ⟨c, by rw [wr_far hn j i hi]; exact h1, h2⟩, fun j c h1 h2 => ?_⟩
    rw [wr_far hn j i hi] at h1
    exact hv j c h1 h2

/-! ### the row that cells make -/
theorem rowOf_at : ∀ (n : Nat) (out : List KC), out.length = n → Rising out → ∀ q ∈ out, (rowOf out)[q.1.toNat]? = some q.2.2
  | 0, out, hn, _, q, hq => by
    have : out = [] := List.eq_nil_of_length_eq_zero hn
    subst this
    cases hq
  | n + 1, out, hn, h, q, hq => by
    obtain ⟨out', p, rfl⟩ : ∃ out' q, out = out' ++ [q] := by
      have hne : out ≠ [] := by rintro rfl; simp at hn
      exact ⟨out.dropLast, out.getLast hne, (List.dropLast_concat_getLast hne).symm⟩
    obtain ⟨h1, h2⟩ := h.init
    have i3 := rowOf_at n out' (by simpa using hn) h1
    obtain ⟨i1, _, _⟩ := rowOf_len n out' (by simpa using hn) h1
    obtain ⟨a, ha, hlt, hx⟩ := h.2 p (by simp)
    have hl := i1 p.1 h2
    rw [rowOf_snoc]
    unfold rowStep
    rcases List.mem_append.1 hq with hq | hq
    · have h3 := i3 q hq
      have h4 := (List.getElem?_eq_some_iff.1 h3).1
      rw [List.append_assoc, List.getElem?_append_left h4]
      exact h3
    · simp at hq
      subst hq
      rw [List.getElem?_append_right (by simp; omega)]
      have : q.1.toNat - (rowOf out' ++ List.replicate (q.1.toNat - (rowOf out').length) []).length = 0 := by simp; omega
      rw [this]
      rfl

/-! ### the log is safe -/
structure Safe (n : Nat) (s : LS) : Prop where
  len : s.N.length = n
  top : ∀ j a c, LK s.N j a = some c → c.1 ≤ s.E
  has : Has n s.N s.row
  tip : s.op = true → ∀ j a c, s.row.length ≤ a → LK s.N j a = some c → c.1 < s.E
  rl : s.row.length ≤ 4096
  bl : ∀ b ∈ s.row, b.length ≤ 2048

theorem LK_nil (n j a : Nat) : LK (List.replicate n []) j a = none := by
  have : (List.replicate n ([] : List Cmd)).getD j [] = [] := by
    simp only [List.getD, List.getElem?_replicate]
    split <;> rfl
  unfold LK
  rw [this]
  rfl
theorem Safe.start (n : Nat) : Safe n ⟨List.replicate n [], false, 0, []⟩ :=
  { len := by simp
    top := fun j a c h => by rw [LK_nil] at h; cases h
    has := fun i b h => by simp at h
    tip := fun h => by simp at h
    rl := by simp
    bl := fun b h => by simp at h }
theorem Safe.append {n room : Nat} {s : LS} {bs : List Bool} {b : List UInt8} (h : Safe n s) : Safe n (appF room n bs s b).2.2 := by
  obtain ⟨N, op, E, row⟩ := s
  obtain ⟨h1, h2, h3, h4, h5, h6⟩ := h
  simp only [] at h1 h2 h3 h4 h5 h6
  unfold appF
  simp only []
  split
  · exact ⟨h1, h2, h3, h4, h5, h6⟩
  · rename_i hop
    split
    · exact ⟨h1, h2, h3, h4, h5, h6⟩
    · rename_i hb
      split
      · exact ⟨h1, h2, h3, h4, h5, h6⟩
      · rename_i hl
        have hop' : op = true := by simpa using hop
        have htip := h4 hop'
        have htop : ∀ j a c, LK (wrN room n bs E row.length b N) j a = some c → c.1 ≤ E := fun j a c hc => by
          by_cases ha : a = row.length
          · subst ha
            rcases wr_at (room := room) (bs := bs) (e := E) (a := row.length) (x := b) h1 j with h7 | ⟨h7, _⟩
            · exact h2 j _ c (by rw [← h7]; exact hc)
            · rw [h7] at hc; cases hc; exact Nat.le_refl _
          · exact h2 j a c (by rw [← wr_far h1 j a ha]; exact hc)
        have hhas : Has n (wrN room n bs E row.length b N) row := h3.wr h1 (fun b hb => by
          rw [List.getElem?_eq_none (Nat.le_refl _)] at hb; cases hb)
        have hlen : (wrN room n bs E row.length b N).length = n := by rw [wr_len]; exact h1
        split
        · rename_i hk
          refine ⟨hlen, htop, fun i b' hb' => ?_, fun _ j a c ha hc => ?_, by simp; omega, fun b' hb' => ?_⟩
          · simp only [] at hb' ⊢
            rcases Nat.lt_or_ge i row.length with hi | hi
            · rw [List.getElem?_append_left hi] at hb'
              exact hhas i b' hb'
            · have hi2 : i = row.length := by
                have := (List.getElem?_eq_some_iff.1 hb').1
                simp at this
                omega
              subst hi2
              have hbb : b' = b := by simpa using hb'.symm
              subst hbb
              refine ⟨E, (wr_quo h1 hk).mono fun j _ h7 => ⟨_, h7, Nat.le_refl _⟩, fun j c hc hE => ?_⟩
              rcases wr_at (room := room) (bs := bs) (e := E) (a := row.length) (x := b') h1 j with h7 | ⟨h7, _⟩
              · have := htip j _ c (Nat.le_refl _) (by rw [← h7]; exact hc)
                omega
              · have hc' : LK (wrN room n bs E row.length b' N) j row.length = some c := hc
                rw [h7] at hc'; cases hc'; rfl
          · have ha' : a ≠ row.length := by simp at ha; omega
            have hc' : LK (wrN room n bs E row.length b N) j a = some c := hc
            rw [wr_far h1 j a ha'] at hc'
            exact htip j a c (by simp at ha; omega) hc'
          · rcases List.mem_append.1 hb' with hb' | hb'
            · exact h6 b' hb'
            · simp at hb'; subst hb'; omega
        · exact ⟨hlen, htop, hhas, fun h => by simp at h, h5, h6⟩

/-- what an Open's writes come to -/
structure WInv (room n : Nat) (bs : List Bool) (e : Nat) (rw row : List (List UInt8)) (N1 : List (List Cmd)) (i : Nat) : Prop where
  top : ∀ j a c, LK (wN room n bs e rw N1 i) j a = some c → c.1 ≤ e
  has : Has n (wN room n bs e rw N1 i) row
  fresh : ∀ j a c, i ≤ a → LK (wN room n bs e rw N1 i) j a = some c → c.1 < e
  quo : ∀ a, a < i → n / 2 + 1 ≤ wK room n bs e rw N1 a → Quo n (fun j => LK (wN room n bs e rw N1 i) j a = some (e, rw.getD a []))
  val : ∀ a, a < i → ∀ j c, LK (wN room n bs e rw N1 i) j a = some c → e ≤ c.1 → c.2 = rw.getD a []
theorem winv {room n : Nat} {bs : List Bool} {e : Nat} {rw row : List (List UInt8)} {N1 : List (List Cmd)} (hn : N1.length = n) (ht : ∀ j a c, LK N1 j a = some c → c.1 < e) (hh : Has n N1 row) (hx : ∀ (i : Nat) (b : List UInt8), row[i]? = some b → rw[i]? = some b) : ∀ i, WInv room n bs e rw row N1 i
  | 0 => ⟨fun j a c h => Nat.le_of_lt (ht j a c h), hh, fun j a c _ h => ht j a c h, fun a h => by omega, fun a h => by omega⟩
  | i + 1 => by
    obtain ⟨h1, h2, h3, h4, h5⟩ := winv (room := room) (bs := bs) hn ht hh hx i
    have hln : (wN room n bs e rw N1 i).length = n := by rw [wN_len]; exact hn
    have hw : wN room n bs e rw N1 (i + 1) = wrN room n bs e i (rw.getD i []) (wN room n bs e rw N1 i) := rfl
    refine ⟨fun j a c h => ?_, ?_, fun j a c ha h => ?_, fun a ha hk => ?_, fun a ha j c h he => ?_⟩
    · rw [hw] at h
      by_cases hai : a = i
      · subst hai
        rcases wr_at (room := room) (bs := bs) (e := e) (a := a) (x := rw.getD a []) hln j with h7 | ⟨h7, _⟩
        · rw [h7] at h; exact h1 j a c h
        · rw [h7] at h; cases h; exact Nat.le_refl _
      · rw [wr_far hln j a hai] at h; exact h1 j a c h
    · rw [hw]
      exact h2.wr hln (fun b hb => by simp [List.getD, hx i b hb])
    · rw [hw, wr_far hln j a (by omega)] at h
      exact h3 j a c (by omega) h
    · rw [hw]
      by_cases hai : a = i
      · subst hai
        exact wr_quo hln hk
      · exact (h4 a (by omega) hk).mono fun j _ h => by rw [wr_far hln j a hai]; exact h
    · rw [hw] at h
      by_cases hai : a = i
      · subst hai
        rcases wr_at (room := room) (bs := bs) (e := e) (a := a) (x := rw.getD a []) hln j with h7 | ⟨h7, _⟩
        · rw [h7] at h
          have := h3 j a c (Nat.le_refl _) h
          omega
        · rw [h7] at h; cases h; rfl
      · rw [wr_far hln j a hai] at h
        exact h5 a (by omega) j c h he

/-- an Open that is OK begins with what was there; whatever it comes to, all stays safe -/
theorem Safe.open {n room : Nat} {s : LS} {bs : List Bool} {r : Int} {N' : List (List Cmd)} {rw' : Option (List (List UInt8))} (h : Safe n s) (ho : OpenR room n bs s.N (s.E + 1) r N' rw') :
    Safe n ⟨N', rw'.isSome, s.E + 1, rw'.getD s.row⟩ ∧ ((r = 0 ∧ ∃ rw, rw' = some rw ∧ s.row <+: rw) ∨ (r = 8 ∧ rw' = none)) := by
  obtain ⟨N, op, E, row⟩ := s
  obtain ⟨h1, h2, h3, h4, h5, h6⟩ := h
  simp only [] at h1 h2 h3 h4 h5 h6 ho ⊢
  obtain ⟨N1, hN1⟩ : ∃ N1, N1 = askN bs (fun ps => sstep room ps (E + 1)) N n := ⟨_, rfl⟩
  have hl1 : ∀ j a, LK N1 j a = LK N j a := fun j a => by
    unfold LK
    rw [hN1, ask_getD h1]
    split
    · rw [sstep_look]
    · rfl
  have hn1 : N1.length = n := by rw [hN1, askN_len]; exact h1
  have hh1 : Has n N1 row := fun i b hb => by
    obtain ⟨e, hq, hv⟩ := h3 i b hb
    exact ⟨e, hq.mono fun j _ ⟨c, h7, h8⟩ => ⟨c, by rw [hl1]; exact h7, h8⟩, fun j c h7 => hv j c (by rw [← hl1]; exact h7)⟩
  have ht1 : ∀ j a c, LK N1 j a = some c → c.1 < E + 1 := fun j a c h => by
    rw [hl1] at h
    have := h2 j a c h
    omega
  unfold OpenR at ho
  rw [← hN1] at ho
  rcases ho with ⟨_, rfl, rfl, rfl⟩ | ⟨hk, rs, out, hrs, hbest, hrise, j, hj, hok, hrest⟩
  · exact ⟨⟨hn1, fun j a c h => Nat.le_of_lt (ht1 j a c h), hh1, fun h => by simp at h, h5, h6⟩, .inr ⟨rfl, rfl⟩⟩
  · have hx : ∀ (i : Nat) (b : List UInt8), row[i]? = some b → (rowOf out)[i]? = some b := by
      intro i b hb
      obtain ⟨e0, hq, hv⟩ := h3 i b hb
      obtain ⟨j0, hj0, ⟨c, hc, hec⟩, hr0, hs0⟩ := hq.meet (quo_ask hk)
      have hmem : j0 ∈ okIs bs (fun ps => sstep room ps (E + 1)) N n := by
        unfold okIs
        exact List.mem_filter.2 ⟨List.mem_range.2 hj0, by rw [hr0]; exact decide_eq_true hs0⟩
      obtain ⟨cs, hcs, hp, _⟩ := All2.mem hrs hmem
      have hin : ((i : Int), c) ∈ cs := by
        refine hp.mem_iff.2 (look_mem ?_)
        simp only []
        rw [sstep_look]
        exact hc
      obtain ⟨q', hq1, hq2, hq3⟩ := hbest.2.2 cs hcs _ hin
      obtain ⟨cs', hcs', hq4⟩ := hbest.2.1 q' hq1
      obtain ⟨j1, hj1, hp1, _⟩ := All2.mem' hrs hcs'
      have hl2 : LK N j1 i = some q'.2 := by
        have h7 := hp1.mem_iff.1 hq4
        have h8 := look_of (stOf_keys _) (k := q'.1) (v := q'.2) h7
        simp only [] at h8
        rw [sstep_look, hq2] at h8
        exact h8
      have hval := hv j1 q'.2 hl2 (Nat.le_trans hec hq3)
      have := rowOf_at _ out rfl hrise q' hq1
      rw [hq2] at this
      simp at this
      rw [this, hval]
    have hpre : row <+: rowOf out := by
      rw [List.prefix_iff_eq_take]
      apply List.ext_getElem?
      intro i
      rcases Nat.lt_or_ge i row.length with hi | hi
      · rw [List.getElem?_take, if_pos hi, List.getElem?_eq_getElem hi, hx i _ (List.getElem?_eq_getElem hi)]
      · rw [List.getElem?_take, if_neg (by omega), List.getElem?_eq_none hi]
    obtain ⟨_, hr1, hr2⟩ := rowOf_len _ out rfl hrise
    have hw := winv (room := room) (bs := bs) hn1 ht1 hh1 hx
    rcases hrest with ⟨rfl, rfl, rfl, rfl⟩ | ⟨_, _, rfl, rfl, rfl⟩
    · have hw1 := hw (rowOf out).length
      refine ⟨⟨by rw [wN_len]; exact hn1, hw1.top, fun i b hb => ?_, fun _ j a c ha hc => hw1.fresh j a c ha hc, hr1, hr2⟩, .inl ⟨rfl, _, rfl, hpre⟩⟩
      simp only [Option.getD_some] at hb ⊢
      have hi := (List.getElem?_eq_some_iff.1 hb).1
      have hg : (rowOf out).getD i [] = b := by simp [List.getD, hb]
      refine ⟨E + 1, (hw1.quo i hi (hok i hi)).mono fun j _ h7 => ⟨_, h7, Nat.le_refl _⟩, fun j c hc he => ?_⟩
      rw [← hg]
      exact hw1.val i hi j c hc he
    · have hw1 := hw (j + 1)
      exact ⟨⟨by rw [wN_len]; exact hn1, hw1.top, hw1.has, fun h => by simp at h, h5, h6⟩, .inr ⟨rfl, rfl⟩⟩
theorem Safe.crash {n : Nat} {s : LS} (h : Safe n s) (i : Int) : (agF n id s i).2 = s := by
  unfold agF
  split
  · rename_i hi
    have hlt : i.toNat < s.N.length := by rw [h.len]; omega
    have : s.N.set i.toNat (id (s.N.getD i.toNat [])) = s.N := by
      simp only [id, List.getD, List.getElem?_eq_getElem hlt, Option.getD_some, List.set_getElem_self]
    rw [this]
  · rfl
end Go.Proofs.YtonkblhhknafbaaGreat
