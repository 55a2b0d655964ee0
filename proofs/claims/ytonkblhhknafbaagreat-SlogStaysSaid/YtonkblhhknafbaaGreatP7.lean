/- Plain: with room and a quorum, all is answered OK, and a row stays. -/
import Derived.Test.YtonkblhhknafbaaGreatP6
namespace Go.Proofs.YtonkblhhknafbaaGreat

/-- nodes that all have room, and hold of each place what the row has there, or nothing; those of P hold all -/
structure Live (n m : Nat) (P : Nat → Prop) (s : LS) : Prop where
  len : s.N.length = n
  nc : ∀ j, (s.N.getD j []).length ≤ m
  enc : ∀ j, ∀ d ∈ s.N.getD j [], d.enc.length ≤ 2060
  eps : ∀ j, (stOf (s.N.getD j [])).E ≤ s.E
  top : ∀ j a c, LK s.N j a = some c → c.1 ≤ s.E
  val : ∀ j a c, LK s.N j a = some c → s.row[a]? = some c.2
  full : ∀ j, P j → ∀ a, a < s.row.length → ∃ c, LK s.N j a = some c
  rl : s.row.length ≤ 4096
  bl : ∀ b ∈ s.row, b.length ≤ 2048

theorem getD_rep (n j : Nat) : (List.replicate n ([] : List Cmd)).getD j [] = [] := by
  simp only [List.getD, List.getElem?_replicate]
  split <;> rfl
theorem Live.start (n : Nat) : Live n 0 (fun _ => True) ⟨List.replicate n [], false, 0, []⟩ := by
  refine ⟨by simp, fun j => ?_, fun j d h => ?_, fun j => ?_, fun j a c h => ?_, fun j a c h => ?_, fun j _ a h => by simp at h, by simp, fun b h => by simp at h⟩
  · simp only [getD_rep]; exact Nat.le_refl _
  · simp only [getD_rep] at h; cases h
  · simp only [getD_rep]; exact Nat.le_refl _
  · rw [LK_nil] at h; cases h
  · rw [LK_nil] at h; cases h

section
variable {room n m e a : Nat} {x : List UInt8} {bs : List Bool} {N : List (List Cmd)}
theorem live_wr (hn : N.length = n) (hr : room = 1048576) (hm : m + 1 ≤ 507) (hc : ∀ j, (N.getD j []).length ≤ m) (henc : ∀ j, ∀ d ∈ N.getD j [], d.enc.length ≤ 2060) (heps : ∀ j, (stOf (N.getD j [])).E ≤ e)
    (hl : ∀ j c, LK N j a = some c → c.1 < e) (he : e ≤ 1048576) (ha : a < 4096) (hx : x.length ≤ 2048) :
    askK bs (fun ps => wstep room ps e a x) N n = cnt bs n ∧ ∀ j, (wrN room n bs e a x N).getD j [] = if j < n ∧ rch bs j = true then N.getD j [] ++ [.write e a x] else N.getD j [] := by
  subst hr
  have hok : (Cmd.write e a x).enc.length ≤ 2060 := enc_le ⟨he, ha, hx⟩
  have hw : ∀ j, wstep 1048576 (N.getD j []) e a x = (0, N.getD j [] ++ [.write e a x]) := fun j =>
    wstep_ok (heps j) (hl j) (fits_snoc (L := 2060) (k := 507) ⟨by omega, by omega⟩ (henc j) hok (by have := hc j; omega))
  refine ⟨askK_all fun j _ _ => by simp only [hw j], fun j => ?_⟩
  unfold wrN
  rw [ask_getD hn]
  split
  · simp only [hw j]
  · rfl
end
theorem live_enc {N N' : List (List Cmd)} {c : Cmd} {n m : Nat} {p : Nat → Prop} [∀ j, Decidable (p j)] (h : ∀ j, N'.getD j [] = if p j then N.getD j [] ++ [c] else N.getD j []) (hc : ∀ j, (N.getD j []).length ≤ m) (henc : ∀ j, ∀ d ∈ N.getD j [], d.enc.length ≤ n) (hok : c.enc.length ≤ n) :
    (∀ j, (N'.getD j []).length ≤ m + 1) ∧ ∀ j, ∀ d ∈ N'.getD j [], d.enc.length ≤ n := by
  refine ⟨fun j => ?_, fun j d hd => ?_⟩
  · rw [h j]
    have := hc j
    split
    · rw [List.length_append, List.length_singleton]; omega
    · omega
  · rw [h j] at hd
    split at hd
    · rcases List.mem_append.1 hd with hd | hd
      · exact henc j d hd
      · simp at hd; subst hd; exact hok
    · exact henc j d hd
theorem live_eps {N N' : List (List Cmd)} {e a E : Nat} {x : List UInt8} {p : Nat → Prop} [∀ j, Decidable (p j)] (h : ∀ j, N'.getD j [] = if p j then N.getD j [] ++ [.write e a x] else N.getD j []) (heps : ∀ j, (stOf (N.getD j [])).E ≤ E) : ∀ j, (stOf (N'.getD j [])).E ≤ E := fun j => by
  rw [h j]
  have := heps j
  split
  · rw [stOf_snoc]
    simp only [act]
    split
    · exact this
    · split <;> exact this
  · exact this

theorem Live.append {n m : Nat} {P : Nat → Prop} {s : LS} {bs : List Bool} {b : List UInt8} (h : Live n m P s) (hop : s.op = true) (hb : 1 ≤ b.length ∧ b.length ≤ 2048) (hl : s.row.length < 4096) (hm : m + 1 ≤ 507) (hE : s.E ≤ 1000) (hq : n / 2 + 1 ≤ cnt bs n) :
    appF 1048576 n bs s b = ((s.row.length : Int), 0, ⟨wrN 1048576 n bs s.E s.row.length b s.N, true, s.E, s.row ++ [b]⟩) ∧
    Live n (m + 1) (fun j => P j ∧ j < n ∧ rch bs j = true) ⟨wrN 1048576 n bs s.E s.row.length b s.N, true, s.E, s.row ++ [b]⟩ := by
  obtain ⟨N, op, E, row⟩ := s
  obtain ⟨h1, h2, h3, h4, h5, h6, h7, h8, h9⟩ := h
  simp only [] at h1 h2 h3 h4 h5 h6 h7 h8 h9 hop hE hl ⊢
  subst hop
  have hno : ∀ j c, LK N j row.length = some c → c.1 < E := fun j c hc => by
    have := h6 j _ c hc
    rw [List.getElem?_eq_none (Nat.le_refl _)] at this
    cases this
  obtain ⟨hk, hg⟩ := live_wr (bs := bs) (x := b) h1 rfl hm h2 h3 h4 hno (by omega) hl hb.2
  obtain ⟨g1, g2⟩ := live_enc hg h2 h3 (enc_le (c := .write E row.length b) ⟨by omega, hl, hb.2⟩)
  refine ⟨?_, by rw [wr_len]; exact h1, g1, g2, live_eps hg h4, fun j a c hc => ?_, fun j a c hc => ?_, fun j hj a ha => ?_, by simp; omega, fun b' hb' => ?_⟩
  · unfold appF
    simp only []
    rw [if_neg (by simp), if_neg (by omega), if_neg (by omega), hk, if_pos hq]
    rfl
  · simp only [] at hc ⊢
    by_cases ha : a = row.length
    · subst ha
      rcases wr_at (room := 1048576) (bs := bs) (e := E) (a := row.length) (x := b) h1 j with h | ⟨h, _⟩
      · rw [h] at hc; exact h5 j _ c hc
      · rw [h] at hc; cases hc; exact Nat.le_refl _
    · rw [wr_far h1 j a ha] at hc; exact h5 j a c hc
  · simp only [] at hc ⊢
    by_cases ha : a = row.length
    · subst ha
      rcases wr_at (room := 1048576) (bs := bs) (e := E) (a := row.length) (x := b) h1 j with h | ⟨h, _⟩
      · rw [h] at hc
        have := h6 j _ c hc
        rw [List.getElem?_eq_none (Nat.le_refl _)] at this
        cases this
      · rw [h] at hc; cases hc; simp
    · rw [wr_far h1 j a ha] at hc
      have := h6 j a c hc
      rw [List.getElem?_append_left (List.getElem?_eq_some_iff.1 this).1]
      exact this
  · simp only [] at ha ⊢
    by_cases hal : a = row.length
    · subst hal
      refine ⟨(E, b), ?_⟩
      unfold LK
      rw [hg j, if_pos hj.2]
      rw [stOf_write (h4 j) (hno j)]
      exact look_upd_same
    · rw [wr_far h1 j a hal]
      exact h7 j hj.1 a (by simp at ha; omega)
  · rcases List.mem_append.1 hb' with hb' | hb'
    · exact h9 b' hb'
    · simp at hb'; subst hb'; exact hb.2

/-- what an Open's writes come to, with room -/
structure LInv (n m : Nat) (bs : List Bool) (e : Nat) (rw : List (List UInt8)) (N1 : List (List Cmd)) (i : Nat) : Prop where
  nc : ∀ j, ((wN 1048576 n bs e rw N1 i).getD j []).length ≤ m + i
  enc : ∀ j, ∀ d ∈ (wN 1048576 n bs e rw N1 i).getD j [], d.enc.length ≤ 2060
  eps : ∀ j, (stOf ((wN 1048576 n bs e rw N1 i).getD j [])).E ≤ e
  top : ∀ j a c, LK (wN 1048576 n bs e rw N1 i) j a = some c → c.1 ≤ e
  fresh : ∀ j a c, i ≤ a → LK (wN 1048576 n bs e rw N1 i) j a = some c → c.1 < e
  val : ∀ j a c, LK (wN 1048576 n bs e rw N1 i) j a = some c → rw[a]? = some c.2
  old : ∀ j a c, LK N1 j a = some c → ∃ c', LK (wN 1048576 n bs e rw N1 i) j a = some c'
  new : ∀ j, j < n → rch bs j = true → ∀ a, a < i → ∃ c, LK (wN 1048576 n bs e rw N1 i) j a = some c
  oks : ∀ a, a < i → wK 1048576 n bs e rw N1 a = cnt bs n
theorem linv {n m : Nat} {bs : List Bool} {e : Nat} {rw : List (List UInt8)} {N1 : List (List Cmd)} (hn : N1.length = n) (hc : ∀ j, (N1.getD j []).length ≤ m) (henc : ∀ j, ∀ d ∈ N1.getD j [], d.enc.length ≤ 2060) (heps : ∀ j, (stOf (N1.getD j [])).E ≤ e)
    (ht : ∀ j a c, LK N1 j a = some c → c.1 < e) (hv : ∀ j a c, LK N1 j a = some c → rw[a]? = some c.2) (hm : m + rw.length ≤ 507) (he : e ≤ 1048576) (hrl : rw.length ≤ 4096) (hbl : ∀ b ∈ rw, b.length ≤ 2048) : ∀ i, i ≤ rw.length → LInv n m bs e rw N1 i
  | 0, _ => ⟨hc, henc, heps, fun j a c h => Nat.le_of_lt (ht j a c h), fun j a c _ h => ht j a c h, hv, fun j a c h => ⟨c, h⟩, fun j _ _ a h => by omega, fun a h => by omega⟩
  | i + 1, hi => by
    obtain ⟨h1, h2, h3, h4, h5, h6, h7, h8, h9⟩ := linv (bs := bs) hn hc henc heps ht hv hm he hrl hbl i (by omega)
    have hln : (wN 1048576 n bs e rw N1 i).length = n := by rw [wN_len]; exact hn
    have hw : wN 1048576 n bs e rw N1 (i + 1) = wrN 1048576 n bs e i (rw.getD i []) (wN 1048576 n bs e rw N1 i) := rfl
    have hri : rw[i]? = some rw[i] := List.getElem?_eq_getElem (by omega)
    have hgd : rw.getD i [] = rw[i] := by simp [List.getD, hri]
    have hx : (rw.getD i []).length ≤ 2048 := by rw [hgd]; exact hbl _ (List.getElem_mem _)
    have hno : ∀ j c, LK (wN 1048576 n bs e rw N1 i) j i = some c → c.1 < e := fun j c h => h5 j i c (Nat.le_refl _) h
    obtain ⟨hk, hg⟩ := live_wr (bs := bs) (x := rw.getD i []) hln rfl (by omega) h1 h2 h3 hno he (by omega) hx
    obtain ⟨g1, g2⟩ := live_enc hg h1 h2 (enc_le (c := .write e i (rw.getD i [])) ⟨he, by omega, hx⟩)
    have hg3 := live_eps hg h3
    rw [← hw] at hg g1 g2 hg3
    refine ⟨g1, g2, hg3, fun j a c h => ?_, fun j a c ha h => ?_, fun j a c h => ?_, fun j a c h => ?_, fun j hj hr a ha => ?_, fun a ha => ?_⟩
    · rw [hw] at h
      by_cases hai : a = i
      · subst hai
        rcases wr_at (room := 1048576) (bs := bs) (e := e) (a := a) (x := rw.getD a []) hln j with h' | ⟨h', _⟩
        · rw [h'] at h; exact h4 j a c h
        · rw [h'] at h; cases h; exact Nat.le_refl _
      · rw [wr_far hln j a hai] at h; exact h4 j a c h
    · rw [hw, wr_far hln j a (by omega)] at h
      exact h5 j a c (by omega) h
    · rw [hw] at h
      by_cases hai : a = i
      · subst hai
        rcases wr_at (room := 1048576) (bs := bs) (e := e) (a := a) (x := rw.getD a []) hln j with h' | ⟨h', _⟩
        · rw [h'] at h; exact h6 j a c h
        · rw [h'] at h; cases h; rw [hri, hgd]
      · rw [wr_far hln j a hai] at h; exact h6 j a c h
    · obtain ⟨c', h'⟩ := h7 j a c h
      rw [hw]
      by_cases hai : a = i
      · subst hai
        rcases wr_at (room := 1048576) (bs := bs) (e := e) (a := a) (x := rw.getD a []) hln j with h'' | ⟨h'', _⟩
        · exact ⟨c', by rw [h'']; exact h'⟩
        · exact ⟨_, h''⟩
      · exact ⟨c', by rw [wr_far hln j a hai]; exact h'⟩
    · by_cases hai : a = i
      · subst hai
        refine ⟨(e, rw.getD a []), ?_⟩
        unfold LK
        rw [hg j, if_pos ⟨hj, hr⟩, stOf_write (h3 j) (hno j)]
        exact look_upd_same
      · rw [hw, wr_far hln j a hai]
        exact h8 j hj hr a (by omega)
    · by_cases hai : a = i
      · subst hai
        exact hk
      · exact h9 a (by omega)

theorem Live.open {n m : Nat} {P : Nat → Prop} {s : LS} {bs : List Bool} {r : Int} {N' : List (List Cmd)} {rw' : Option (List (List UInt8))} (h : Live n m P s) (ho : OpenR 1048576 n bs s.N (s.E + 1) r N' rw') (hm : m + 1 + s.row.length ≤ 507) (hE : s.E ≤ 1000) (hq : n / 2 + 1 ≤ cnt bs n)
    (hP : ∃ j, j < n ∧ P j ∧ rch bs j = true) :
    r = 0 ∧ rw' = some s.row ∧ Live n (m + 1 + s.row.length) (fun j => P j ∨ (j < n ∧ rch bs j = true)) ⟨N', true, s.E + 1, s.row⟩ := by
  obtain ⟨N, op, E, row⟩ := s
  obtain ⟨h1, h2, h3, h4, h5, h6, h7, h8, h9⟩ := h
  simp only [] at h1 h2 h3 h4 h5 h6 h7 h8 h9 ho hE hm ⊢
  have hs : ∀ j, sstep 1048576 (N.getD j []) (E + 1) = (0, N.getD j [] ++ [.up (E + 1)]) := fun j =>
    sstep_ok (by have := h4 j; omega) (fits_snoc (L := 2060) (k := 507) ⟨by omega, by omega⟩ (h3 j) (enc_le (c := .up (E + 1)) (by simp only [Cmd.Ok]; omega)) (by have := h2 j; omega))
  obtain ⟨N1, hN1⟩ : ∃ N1, N1 = askN bs (fun ps => sstep 1048576 ps (E + 1)) N n := ⟨_, rfl⟩
  have hg : ∀ j, N1.getD j [] = if j < n ∧ rch bs j = true then N.getD j [] ++ [.up (E + 1)] else N.getD j [] := fun j => by
    rw [hN1, ask_getD h1]
    split
    · simp only [hs j]
    · rfl
  have hl1 : ∀ j a, LK N1 j a = LK N j a := fun j a => by
    unfold LK
    rw [hN1, ask_getD h1]
    split
    · rw [sstep_look]
    · rfl
  have hn1 : N1.length = n := by rw [hN1, askN_len]; exact h1
  obtain ⟨g1, g2⟩ := live_enc hg h2 h3 (enc_le (c := .up (E + 1)) (by simp only [Cmd.Ok]; omega))
  have g3 : ∀ j, (stOf (N1.getD j [])).E ≤ E + 1 := fun j => by
    rw [hg j]
    split
    · rw [stOf_up (by have := h4 j; omega)]; exact Nat.le_refl _
    · have := h4 j; omega
  have hk : askK bs (fun ps => sstep 1048576 ps (E + 1)) N n = cnt bs n := askK_all fun j _ _ => by simp only [hs j]
  unfold OpenR at ho
  rw [← hN1, hk] at ho
  rcases ho with ⟨h, _⟩ | ⟨_, rs, out, hrs, hbest, hrise, j, hj, _, hrest⟩
  · omega
  · have hin : ∀ q ∈ out, ∃ j, LK N j q.1.toNat = some q.2 ∧ q.1 = (q.1.toNat : Int) := by
      intro q hq
      obtain ⟨cs, hcs, hq4⟩ := hbest.2.1 q hq
      obtain ⟨j1, _, hp1, _⟩ := All2.mem' hrs hcs
      obtain ⟨a, ha, _⟩ := hrise.2 q hq
      have ha' : q.1 = (q.1.toNat : Int) := by omega
      refine ⟨j1, ?_, ha'⟩
      have h7 := hp1.mem_iff.1 hq4
      have h8 := look_of (stOf_keys _) (k := q.1) (v := q.2) h7
      simp only [] at h8
      rw [sstep_look] at h8
      unfold LK
      rw [← ha']
      exact h8
    have hrow : rowOf out = row := by
      obtain ⟨j0, hj0, hp0, hr0⟩ := hP
      have hmem : j0 ∈ okIs bs (fun ps => sstep 1048576 ps (E + 1)) N n := by
        unfold okIs
        exact List.mem_filter.2 ⟨List.mem_range.2 hj0, by simp only [hs j0, hr0]; rfl⟩
      obtain ⟨cs, hcs, hp, _⟩ := All2.mem hrs hmem
      have hat : ∀ a, a < row.length → (rowOf out)[a]? = row[a]? := fun a ha => by
        obtain ⟨c, hc⟩ := h7 j0 hp0 a ha
        have hin' : ((a : Int), c) ∈ cs := by
          refine hp.mem_iff.2 (look_mem ?_)
          simp only []
          rw [sstep_look]
          exact hc
        obtain ⟨q', hq1, hq2, _⟩ := hbest.2.2 cs hcs _ hin'
        have h10 := rowOf_at _ out rfl hrise q' hq1
        obtain ⟨j1, hl1, _⟩ := hin q' hq1
        have h11 := h6 _ _ _ hl1
        rw [hq2] at h10 h11
        simp at h10 h11
        rw [h10, h11]
      have hlen : (rowOf out).length ≤ row.length := by
        have := (rowOf_len _ out rfl hrise).1 (row.length : Int) (fun p hp => by
          obtain ⟨j1, hl1, he1⟩ := hin p hp
          have := (List.getElem?_eq_some_iff.1 (h6 _ _ _ hl1)).1
          omega)
        omega
      apply List.ext_getElem?
      intro i
      rcases Nat.lt_or_ge i row.length with hi | hi
      · exact hat i hi
      · rw [List.getElem?_eq_none hi, List.getElem?_eq_none (by omega)]
    rw [hrow] at hrest hj
    have hw := linv (bs := bs) (e := E + 1) (rw := row) hn1 g1 g2 g3 (fun j a c h => by rw [hl1] at h; have := h5 j a c h; omega) (fun j a c h => by rw [hl1] at h; exact h6 j a c h) hm (by omega) h8 h9
    rcases hrest with ⟨rfl, rfl, rfl, rfl⟩ | ⟨hjl, hlt, _⟩
    · have hw1 := hw row.length (Nat.le_refl _)
      refine ⟨rfl, rfl, by rw [wN_len]; exact hn1, hw1.nc, hw1.enc, hw1.eps, hw1.top, hw1.val, fun j hj a ha => ?_, h8, h9⟩
      rcases hj with hj | ⟨hj, hr⟩
      · obtain ⟨c, hc⟩ := h7 j hj a ha
        exact hw1.old j a c (by rw [hl1]; exact hc)
      · exact hw1.new j hj hr a ha
    · exfalso
      have := (hw (j + 1) (by omega)).oks j (by omega)
      omega
theorem Live.lose {n m : Nat} {P : Nat → Prop} {s : LS} (h : Live n m P s) (k : Nat) (hk : k < n) :
    agF n (fun _ => []) s (k : Int) = (0, ⟨s.N.set k [], s.op, s.E, s.row⟩) ∧ Live n m (fun j => P j ∧ j ≠ k) ⟨s.N.set k [], s.op, s.E, s.row⟩ := by
  obtain ⟨N, op, E, row⟩ := s
  obtain ⟨h1, h2, h3, h4, h5, h6, h7, h8, h9⟩ := h
  simp only [] at h1 h2 h3 h4 h5 h6 h7 h8 h9 ⊢
  have hg : ∀ j, (N.set k []).getD j [] = if j = k then [] else N.getD j [] := fun j => by
    simp only [List.getD, List.getElem?_set]
    by_cases e : j = k
    · subst e
      rw [if_pos rfl, if_pos rfl, if_pos (by omega)]; rfl
    · rw [if_neg (fun h => e h.symm), if_neg e]
  have hl : ∀ j a, LK (N.set k []) j a = if j = k then none else LK N j a := fun j a => by
    unfold LK
    rw [hg j]
    split
    · rfl
    · rfl
  refine ⟨?_, by simpa using h1, fun j => ?_, fun j d hd => ?_, fun j => ?_, fun j a c hc => ?_, fun j a c hc => ?_, fun j hj a ha => ?_, h8, h9⟩
  · unfold agF
    rw [if_pos ⟨by omega, by omega⟩]
    simp
  · simp only [hg]
    split
    · simp
    · exact h2 j
  · simp only [hg] at hd
    split at hd
    · cases hd
    · exact h3 j d hd
  · simp only [hg]
    split
    · exact Nat.zero_le _
    · exact h4 j
  · simp only [hl] at hc
    split at hc
    · cases hc
    · exact h5 j a c hc
  · simp only [hl] at hc
    split at hc
    · cases hc
    · exact h6 j a c hc
  · simp only [hl]
    rw [if_neg hj.2]
    exact h7 j hj.1 a ha
theorem Live.mono {n m m' : Nat} {P P' : Nat → Prop} {s : LS} (h : Live n m P s) (hm : m ≤ m') (hP : ∀ j, P' j → P j) : Live n m' P' s :=
  ⟨h.len, fun j => Nat.le_trans (h.nc j) hm, h.enc, h.eps, h.top, h.val, fun j hj => h.full j (hP j hj), h.rl, h.bl⟩
/-- without a quorum an Open is not OK -/
theorem open_few {n room : Nat} {s : LS} {bs : List Bool} {r : Int} {N' : List (List Cmd)} {rw' : Option (List (List UInt8))} (ho : OpenR room n bs s.N (s.E + 1) r N' rw') (hq : cnt bs n < n / 2 + 1) : r = 8 ∧ rw' = none := by
  unfold OpenR at ho
  have hk : askK bs (fun ps => sstep room ps (s.E + 1)) s.N n ≤ cnt bs n := askK_le
  rcases ho with ⟨_, rfl, _, rfl⟩ | ⟨h, _⟩
  · exact ⟨rfl, rfl⟩
  · omega
end Go.Proofs.YtonkblhhknafbaaGreat
