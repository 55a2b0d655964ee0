/- Plain: what the document's example comes to. -/
import Derived.Test.YtonkblhhknafbaaGreatP4
namespace Go.Proofs.YtonkblhhknafbaaGreat

theorem sstep_x {ps : List Cmd} {e : Nat} (he : (stOf ps).E < e) (he2 : e < 128) (hp : ∀ d ∈ ps, d.enc.length ≤ 6) (hl : ps.length ≤ 9) : sstep 1000 ps e = (0, ps ++ [.up e]) :=
  sstep_ok he (fits_snoc (L := 6) (k := 10) ⟨by omega, by omega⟩ hp (by rw [up_len he2]; omega) (by omega))
theorem wstep_x {ps : List Cmd} {e a : Nat} {x : List UInt8} (he : (stOf ps).E ≤ e) (hk : ∀ c, look (stOf ps).cs (a : Int) = some c → c.1 < e) (he2 : e < 128) (ha : a < 128) (hx : x.length = 1) (hp : ∀ d ∈ ps, d.enc.length ≤ 6) (hl : ps.length ≤ 9) : wstep 1000 ps e a x = (0, ps ++ [.write e a x]) :=
  wstep_ok he hk (fits_snoc (L := 6) (k := 10) ⟨by omega, by omega⟩ hp (by rcases write_len (x := x) he2 ha with h | h <;> omega) (by omega))
theorem best_nil {rs : List (List KC)} {out : List KC} (hb : Best rs out) (h : ∀ cs ∈ rs, cs = []) : out = [] := by
  cases out with
  | nil => rfl
  | cons q l =>
    obtain ⟨cs, h1, h2⟩ := hb.2.1 q (.head _)
    rw [h cs h1] at h2
    cases h2
def xu1 : Cmd := .up 1
def xu2 : Cmd := .up 2
def xw7 : Cmd := .write 1 0 [7]
def xw8 : Cmd := .write 1 1 [8]
theorem xlen : ∀ d ∈ [xu1, xu2, xw7, xw8], d.enc.length ≤ 6 := by
  intro d hd
  simp only [List.mem_cons, List.not_mem_nil, or_false] at hd
  rcases hd with rfl | rfl | rfl | rfl
  · rw [xu1, up_len (by omega)]; omega
  · rw [xu2, up_len (by omega)]; omega
  · rcases write_len (e := 1) (a := 0) (x := [7]) (by omega) (by omega) with h | h
    · exact h
    · simp at h
  · rcases write_len (e := 1) (a := 1) (x := [8]) (by omega) (by omega) with h | h
    · exact h
    · simp at h
theorem xsub {l : List Cmd} (h : ∀ d ∈ l, d ∈ [xu1, xu2, xw7, xw8]) : ∀ d ∈ l, d.enc.length ≤ 6 := fun d hd => xlen d (h d hd)

theorem shown1 {r : Int} {N' : List (List Cmd)} {rw' : Option (List (List UInt8))} (h : OpenR 1000 3 [true, true] [[], [], []] 1 r N' rw') : r = 0 ∧ N' = [[xu1], [xu1], []] ∧ rw' = some [] := by
  have e1 : sstep 1000 [] 1 = (0, [xu1]) := sstep_x (by decide) (by omega) (by intro d hd; cases hd) (by decide)
  have hk : askK [true, true] (fun ps => sstep 1000 ps 1) [[], [], []] 3 = 2 := by
    simp [askK, rch, e1]
  have hN : askN [true, true] (fun ps => sstep 1000 ps 1) [[], [], []] 3 = [[xu1], [xu1], []] := by
    simp [askN, rch, e1]
  rcases h with ⟨h1, _⟩ | ⟨_, rs, out, hrs, hbest, _, j, hj, _, hrest⟩
  · rw [hk] at h1; omega
  · have hnil : ∀ cs ∈ rs, cs = [] := by
      intro cs hcs
      obtain ⟨i, hi, hp, _⟩ := All2.mem' hrs hcs
      have hi3 : i < 3 := by
        unfold okIs at hi
        exact List.mem_range.1 (List.mem_filter.1 hi).1
      have : ([[], [], []] : List (List Cmd)).getD i [] = [] := by
        rcases (by omega : i = 0 ∨ i = 1 ∨ i = 2) with rfl | rfl | rfl <;> rfl
      rw [this] at hp
      simp only [e1] at hp
      exact hp.eq_nil
    have ho := best_nil hbest hnil
    subst ho
    have hl : (rowOf []).length = 0 := rfl
    rw [hl] at hj
    obtain rfl : j = 0 := by omega
    rcases hrest with ⟨_, h2, h3, h4⟩ | ⟨h1, _⟩
    · refine ⟨h2, ?_, h4⟩
      rw [h3, hN]
      rfl
    · rw [hl] at h1; omega
theorem shown2 : appF 1000 3 [true, true] ⟨[[xu1], [xu1], []], true, 1, []⟩ [7] = (0, 0, ⟨[[xu1, xw7], [xu1, xw7], []], true, 1, [[7]]⟩) := by
  have e1 : wstep 1000 [xu1] 1 0 [7] = (0, [xu1, xw7]) := wstep_x (by decide) (fun c h => by have e : look (stOf [xu1]).cs ((0 : Nat) : Int) = none := rfl; rw [e] at h; cases h) (by omega) (by omega) rfl (xsub (by simp)) (by decide)
  have hk : askK [true, true] (fun ps => wstep 1000 ps 1 0 [7]) [[xu1], [xu1], []] 3 = 2 := by
    simp [askK, rch, e1]
  have hN : askN [true, true] (fun ps => wstep 1000 ps 1 0 [7]) [[xu1], [xu1], []] 3 = [[xu1, xw7], [xu1, xw7], []] := by
    simp [askN, rch, e1]
  unfold appF
  simp only [List.length_nil]
  rw [hk, hN]
  simp
theorem shown3 : appF 1000 3 [true] ⟨[[xu1, xw7], [xu1, xw7], []], true, 1, [[7]]⟩ [8] = (0, 8, ⟨[[xu1, xw7, xw8], [xu1, xw7], []], false, 1, [[7]]⟩) := by
  have e1 : wstep 1000 [xu1, xw7] 1 1 [8] = (0, [xu1, xw7, xw8]) := wstep_x (by decide) (fun c h => by have e : look (stOf [xu1, xw7]).cs ((1 : Nat) : Int) = none := rfl; rw [e] at h; cases h) (by omega) (by omega) rfl (xsub (by simp)) (by decide)
  have hk : askK [true] (fun ps => wstep 1000 ps 1 1 [8]) [[xu1, xw7], [xu1, xw7], []] 3 = 1 := by
    simp [askK, rch, e1]
  have hN : askN [true] (fun ps => wstep 1000 ps 1 1 [8]) [[xu1, xw7], [xu1, xw7], []] 3 = [[xu1, xw7, xw8], [xu1, xw7], []] := by
    simp [askN, rch, e1]
  unfold appF
  simp only [List.length_cons, List.length_nil, Nat.zero_add]
  rw [hk, hN]
  simp

theorem two_keys : ∀ l : List Int, l.Pairwise (· < ·) → (∀ x ∈ l, x = 0 ∨ x = 1) → 0 ∈ l → 1 ∈ l → l = [0, 1]
  | [], _, _, h, _ => by cases h
  | [x], _, h, h0, h1 => by
    simp at h0 h1
    omega
  | [x, y], hp, h, h0, h1 => by
    have a := h x (by simp)
    have b := h y (by simp)
    simp at hp
    have ex : x = 0 := by omega
    have ey : y = 1 := by omega
    rw [ex, ey]
  | x :: y :: z :: t, hp, h, _, _ => by
    have a := h x (by simp)
    have b := h y (by simp)
    have c := h z (by simp)
    simp only [List.pairwise_cons] at hp
    have h1 := hp.1 y (by simp)
    have h2 := hp.2.1 z (by simp)
    omega
theorem shown4 {r : Int} {N' : List (List Cmd)} {rw' : Option (List (List UInt8))} (h : OpenR 1000 3 [true, false, true] [[xu1, xw7, xw8], [xu1, xw7], []] 2 r N' rw') : r = 0 ∧ rw' = some [[7], [8]] := by
  have e1 : sstep 1000 [xu1, xw7, xw8] 2 = (0, [xu1, xw7, xw8, xu2]) := sstep_x (by decide) (by omega) (xsub (by simp)) (by decide)
  have e2 : sstep 1000 [] 2 = (0, [xu2]) := sstep_x (by decide) (by omega) (by intro d hd; cases hd) (by decide)
  have hk : askK [true, false, true] (fun ps => sstep 1000 ps 2) [[xu1, xw7, xw8], [xu1, xw7], []] 3 = 2 := by
    simp [askK, rch, e1, e2]
  have hN : askN [true, false, true] (fun ps => sstep 1000 ps 2) [[xu1, xw7, xw8], [xu1, xw7], []] 3 = [[xu1, xw7, xw8, xu2], [xu1, xw7], [xu2]] := by
    simp [askN, rch, e1, e2]
  rcases h with ⟨h1, _⟩ | ⟨_, rs, out, hrs, hbest, _, j, hj, hok, hrest⟩
  · rw [hk] at h1; omega
  · have hI : okIs [true, false, true] (fun ps => sstep 1000 ps 2) [[xu1, xw7, xw8], [xu1, xw7], []] 3 = [0, 2] := by
      have h3 : List.range 3 = [0, 1, 2] := rfl
      unfold okIs
      rw [h3]
      simp [rch, e1, e2]
    unfold RepsOf at hrs
    rw [hI] at hrs
    have hst1 : (stOf [xu1, xw7, xw8, xu2]).cs = [((0 : Int), (1, [7])), ((1 : Int), (1, [8]))] := rfl
    have hst2 : (stOf [xu2]).cs = [] := rfl
    have hout : out = [((0 : Int), (1, [7])), ((1 : Int), (1, [8]))] := by
      cases hrs with
      | @cons _ cs0 _ rs1 a b =>
        cases b with
        | @cons _ cs2 _ rs2 a2 b2 =>
          cases b2
          have hp0 := a.1
          have hp2 := a2.1
          have g0 : ([[xu1, xw7, xw8], [xu1, xw7], []] : List (List Cmd)).getD 0 [] = [xu1, xw7, xw8] := rfl
          have g2 : ([[xu1, xw7, xw8], [xu1, xw7], []] : List (List Cmd)).getD 2 [] = [] := rfl
          rw [g0] at hp0
          rw [g2] at hp2
          simp only [e1, hst1] at hp0
          simp only [e2, hst2] at hp2
          have hc2 : cs2 = [] := hp2.eq_nil
          subst hc2
          have hm : ∀ q ∈ out, q = ((0 : Int), (1, [7])) ∨ q = ((1 : Int), (1, [8])) := by
            intro q hq
            obtain ⟨cs, h1, h2⟩ := hbest.2.1 q hq
            simp only [List.mem_cons, List.not_mem_nil, or_false] at h1
            rcases h1 with rfl | rfl
            · have := hp0.mem_iff.1 h2
              simpa using this
            · cases h2
          have h0 : (0 : Int) ∈ out.map (·.1) := by
            obtain ⟨q', h1, h2, _⟩ := hbest.2.2 cs0 (by simp) ((0 : Int), (1, [7])) (hp0.mem_iff.2 (by simp))
            exact List.mem_map.2 ⟨q', h1, h2⟩
          have h1 : (1 : Int) ∈ out.map (·.1) := by
            obtain ⟨q', h1, h2, _⟩ := hbest.2.2 cs0 (by simp) ((1 : Int), (1, [8])) (hp0.mem_iff.2 (by simp))
            exact List.mem_map.2 ⟨q', h1, h2⟩
          have hkeys := two_keys (out.map (·.1)) hbest.1 (fun x hx => by
            obtain ⟨q, hq, rfl⟩ := List.mem_map.1 hx
            rcases hm q hq with rfl | rfl
            · exact .inl rfl
            · exact .inr rfl) h0 h1
          have hl : out.length = 2 := by have := congrArg List.length hkeys; simpa using this
          match out, hl, hm, hkeys with
          | [p, q], _, hm, hkeys =>
            simp at hkeys
            have hp := hm p (by simp)
            have hq := hm q (by simp)
            rcases hp with rfl | rfl
            · rcases hq with rfl | rfl
              · simp at hkeys
              · rfl
            · simp at hkeys
    subst hout
    have hrow : rowOf [((0 : Int), (1, [7])), ((1 : Int), (1, [8]))] = [[7], [8]] := rfl
    rw [hrow, hN] at hrest hok
    rw [hrow] at hj
    have w1 : wstep 1000 [xu1, xw7, xw8, xu2] 2 0 [7] = (0, [xu1, xw7, xw8, xu2, .write 2 0 [7]]) := wstep_x (by decide) (fun c h => by have e : look (stOf [xu1, xw7, xw8, xu2]).cs ((0 : Nat) : Int) = some (1, [7]) := rfl; rw [e] at h; cases h; decide) (by omega) (by omega) rfl (xsub (by simp)) (by decide)
    have w2 : wstep 1000 [xu2] 2 0 [7] = (0, [xu2, .write 2 0 [7]]) := wstep_x (by decide) (fun c h => by have e : look (stOf [xu2]).cs ((0 : Nat) : Int) = none := rfl; rw [e] at h; cases h) (by omega) (by omega) rfl (xsub (by simp)) (by decide)
    have hwl : (Cmd.write 2 0 [7]).enc.length ≤ 6 := by
      rcases write_len (e := 2) (a := 0) (x := [7]) (by omega) (by omega) with h | h
      · exact h
      · simp at h
    have w3 : wstep 1000 [xu1, xw7, xw8, xu2, .write 2 0 [7]] 2 1 [8] = (0, [xu1, xw7, xw8, xu2, .write 2 0 [7], .write 2 1 [8]]) := wstep_x (by decide) (fun c h => by have e : look (stOf [xu1, xw7, xw8, xu2, .write 2 0 [7]]).cs ((1 : Nat) : Int) = some (1, [8]) := rfl; rw [e] at h; cases h; decide) (by omega) (by omega) rfl (fun d hd => by
      simp only [List.mem_cons, List.not_mem_nil, or_false] at hd
      rcases hd with rfl | rfl | rfl | rfl | rfl
      · exact xlen _ (by simp)
      · exact xlen _ (by simp)
      · exact xlen _ (by simp)
      · exact xlen _ (by simp)
      · exact hwl) (by decide)
    have w4 : wstep 1000 [xu2, .write 2 0 [7]] 2 1 [8] = (0, [xu2, .write 2 0 [7], .write 2 1 [8]]) := wstep_x (by decide) (fun c h => by have e : look (stOf [xu2, .write 2 0 [7]]).cs ((1 : Nat) : Int) = none := rfl; rw [e] at h; cases h) (by omega) (by omega) rfl (fun d hd => by
      simp only [List.mem_cons, List.not_mem_nil, or_false] at hd
      rcases hd with rfl | rfl
      · exact xlen _ (by simp)
      · exact hwl) (by decide)
    have hN0 : wN 1000 3 [true, false, true] 2 [[7], [8]] [[xu1, xw7, xw8, xu2], [xu1, xw7], [xu2]] 1 = [[xu1, xw7, xw8, xu2, .write 2 0 [7]], [xu1, xw7], [xu2, .write 2 0 [7]]] := by
      simp [wN, askN, rch, w1, w2]
    have hk0 : wK 1000 3 [true, false, true] 2 [[7], [8]] [[xu1, xw7, xw8, xu2], [xu1, xw7], [xu2]] 0 = 2 := by
      simp [wK, wN, askK, rch, w1, w2]
    have hk1 : wK 1000 3 [true, false, true] 2 [[7], [8]] [[xu1, xw7, xw8, xu2], [xu1, xw7], [xu2]] 1 = 2 := by
      unfold wK
      rw [hN0]
      simp [askK, rch, w3, w4]
    rcases hrest with ⟨_, h2, _, h4⟩ | ⟨h1, h2, _⟩
    · exact ⟨h2, h4⟩
    · exfalso
      have hj2 : j = 0 ∨ j = 1 := by simp at h1; omega
      rcases hj2 with rfl | rfl
      · rw [hk0] at h2; omega
      · rw [hk1] at h2; omega
end Go.Proofs.YtonkblhhknafbaaGreat
