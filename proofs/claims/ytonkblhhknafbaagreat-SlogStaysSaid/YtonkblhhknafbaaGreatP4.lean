/- Plain: when a command fits; what Write and Seal come to then; who is asked. -/
import Derived.Test.YtonkblhhknafbaaGreatF25
namespace Go.Proofs.YtonkblhhknafbaaGreat

theorem frame_le {p : List UInt8} {L : Nat} (h : p.length ≤ L) (hL : L ≤ 10000) : (frameB p).length ≤ L + 6 := by
  have h1 := frameB_len p
  have h2 := uvar_len2 p.length (by omega)
  omega
theorem bytesOf_le {L : Nat} (hL : L ≤ 10000) : ∀ ps : List Cmd, (∀ c ∈ ps, c.enc.length ≤ L) → bytesOf ps ≤ (L + 6) * ps.length := by
  intro ps h
  unfold bytesOf encs
  induction ps with
  | nil => simp [catF]
  | cons c l ih =>
    have h1 := frame_le (h c (.head _)) hL
    have h2 := ih (fun d hd => h d (.tail _ hd))
    rw [List.map_cons, catF_cons, List.length_append, List.length_cons, Nat.mul_add, Nat.mul_one]
    omega
theorem up_len {e : Nat} (h : e < 128) : (Cmd.up e).enc.length = 2 := by
  simp only [Cmd.enc, List.length_append, uvar_len1 2 (by omega), uvar_len1 e h]
theorem write_len {e a : Nat} {x : List UInt8} (he : e < 128) (ha : a < 128) : (Cmd.write e a x).enc.length ≤ 5 + x.length ∨ 128 ≤ x.length := by
  by_cases h : x.length < 128
  · left
    simp only [Cmd.enc, List.length_append, uvar_len1 1 (by omega), uvar_len1 e he, uvar_len1 a ha, uvar_len1 x.length h]
    omega
  · right; omega
theorem enc_le {c : Cmd} (h : c.Ok) : c.enc.length ≤ 2060 := Cmd.enc_len h
/-- all commands are at most so long: n of them fit -/
def Fits (room L k : Nat) : Prop := L ≤ 10000 ∧ (L + 6) * k ≤ room
theorem fits_snoc {room L k : Nat} (h : Fits room L k) {ps : List Cmd} {c : Cmd} (hp : ∀ d ∈ ps, d.enc.length ≤ L) (hc : c.enc.length ≤ L) (hk : ps.length + 1 ≤ k) : bytesOf (ps ++ [c]) ≤ room := by
  have h1 := bytesOf_le h.1 (ps ++ [c]) (fun d hd => by
    rcases List.mem_append.1 hd with hd | hd
    · exact hp d hd
    · simp at hd; subst hd; exact hc)
  have h2 : (L + 6) * (ps ++ [c]).length ≤ (L + 6) * k := Nat.mul_le_mul_left _ (by simpa using hk)
  exact Nat.le_trans (Nat.le_trans h1 h2) h.2
theorem sstep_ok {room : Nat} {ps : List Cmd} {e : Nat} (he : (stOf ps).E < e) (hf : bytesOf (ps ++ [.up e]) ≤ room) : sstep room ps e = (0, ps ++ [.up e]) := by
  unfold sstep putC
  rw [if_neg (by omega), if_pos hf]
theorem wstep_ok {room : Nat} {ps : List Cmd} {e a : Nat} {x : List UInt8} (he : (stOf ps).E ≤ e) (hl : ∀ c, look (stOf ps).cs (a : Int) = some c → c.1 < e) (hf : bytesOf (ps ++ [.write e a x]) ≤ room) : wstep room ps e a x = (0, ps ++ [.write e a x]) := by
  unfold wstep putC
  rw [if_neg (by omega)]
  cases h : look (stOf ps).cs (a : Int) with
  | none => simp only []; rw [if_pos hf]
  | some c =>
    obtain ⟨e0, x0⟩ := c
    have := hl _ h
    simp only [] at this ⊢
    rw [if_neg (by omega), if_pos hf]
theorem stOf_up {ps : List Cmd} {e : Nat} (he : (stOf ps).E < e) : stOf (ps ++ [.up e]) = ⟨e, (stOf ps).cs⟩ := by
  rw [stOf_snoc]
  simp only [act]
  rw [if_pos he]
theorem stOf_write {ps : List Cmd} {e a : Nat} {x : List UInt8} (he : (stOf ps).E ≤ e) (hl : ∀ c, look (stOf ps).cs (a : Int) = some c → c.1 < e) : stOf (ps ++ [.write e a x]) = ⟨(stOf ps).E, upd (stOf ps).cs (a : Int) (e, x)⟩ := by
  rw [stOf_snoc]
  simp only [act]
  rw [if_neg (by omega)]
  have : fresh (stOf ps) e a = true := by
    unfold fresh
    cases h : look (stOf ps).cs (a : Int) with
    | none => rfl
    | some c =>
      obtain ⟨e0, x0⟩ := c
      have := hl _ h
      simp only [] at this ⊢
      simp [this]
  rw [this]
  rfl
/-- how many of the first n are reached -/
def cnt (bs : List Bool) (n : Nat) : Nat := ((List.range n).filter (fun i => rch bs i)).length
theorem cnt_succ (bs : List Bool) (n : Nat) : cnt bs (n + 1) = cnt bs n + (if rch bs n = true then 1 else 0) := by
  unfold cnt
  rw [List.range_succ, List.filter_append, List.length_append]
  congr 1
  by_cases h : rch bs n = true
  · rw [if_pos h, List.filter_cons_of_pos (by simpa using h)]; rfl
  · rw [if_neg h, List.filter_cons_of_neg (by simpa using h)]; rfl
theorem askK_all {bs : List Bool} {f : List Cmd → Int × List Cmd} {N : List (List Cmd)} {n : Nat} (h : ∀ i, i < n → rch bs i = true → (f (N.getD i [])).1 = 0) : askK bs f N n = cnt bs n := by
  induction n with
  | zero => rfl
  | succ n ih =>
    rw [cnt_succ]
    simp only [askK]
    rw [ih (fun i hi hr => h i (by omega) hr)]
    by_cases hr : rch bs n = true
    · rw [if_pos ⟨hr, h n (by omega) hr⟩, if_pos hr]
    · rw [if_neg (fun e => hr e.1), if_neg hr]; rfl
theorem askK_le {bs : List Bool} {f : List Cmd → Int × List Cmd} {N : List (List Cmd)} {n : Nat} : askK bs f N n ≤ cnt bs n := by
  induction n with
  | zero => exact Nat.le_refl _
  | succ n ih =>
    rw [cnt_succ]
    simp only [askK]
    by_cases hr : rch bs n = true
    · rw [if_pos hr]
      split <;> omega
    · rw [if_neg hr, if_neg (fun e => hr e.1)]
      exact ih
/-- a node behind an asking -/
theorem askN_getD {bs : List Bool} {f : List Cmd → Int × List Cmd} {N : List (List Cmd)} {n j : Nat} (hj : j < n) (hn : N.length = n) : (askN bs f N n).getD j [] = if rch bs j then (f (N.getD j [])).2 else N.getD j [] := by
  have h1 := askN_lt (bs := bs) (f := f) (N := N) hj (by omega)
  by_cases hr : rch bs j = true
  · rw [if_pos hr] at h1 ⊢
    simp only [List.getD, h1, Option.getD_some]
  · rw [if_neg hr] at h1 ⊢
    simp only [List.getD, h1]
end Go.Proofs.YtonkblhhknafbaaGreat
