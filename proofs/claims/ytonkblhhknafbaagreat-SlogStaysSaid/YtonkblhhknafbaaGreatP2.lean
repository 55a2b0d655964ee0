/- Plain: groups of cells by their places; the best of each. -/
import Derived.Test.YtonkblhhknafbaaGreatF12
namespace Go.Proofs.YtonkblhhknafbaaGreat

/-- what Merge hands back, of the replies that it was handed -/
def Best (rs : List (List KC)) (out : List KC) : Prop :=
  (out.map (·.1)).Pairwise (· < ·) ∧ (∀ q ∈ out, ∃ cs ∈ rs, q ∈ cs) ∧ ∀ cs ∈ rs, ∀ q ∈ cs, ∃ q' ∈ out, q'.1 = q.1 ∧ q.2.1 ≤ q'.2.1

structure GInv (gs : List (Int × List KC)) (seen : List KC) : Prop where
  keys : Keys gs
  has : ∀ q ∈ seen, ∃ g, look gs q.1 = some g ∧ q ∈ g
  of : ∀ k g, look gs k = some g → g ≠ [] ∧ (∀ q ∈ g, q.1 = k ∧ q ∈ seen) ∧ g.length ≤ seen.length
  len : gs.length ≤ seen.length
theorem GInv.nil : GInv [] [] := ⟨Keys.nil, fun q h => by simp at h, fun k g h => by simp [look] at h, by simp⟩
def addG (gs : List (Int × List KC)) (q : KC) : List (Int × List KC) := upd gs q.1 ((look gs q.1).getD [] ++ [q])
theorem GInv.add {gs : List (Int × List KC)} {seen : List KC} (h : GInv gs seen) (q : KC) : GInv (addG gs q) (seen ++ [q]) := by
  have hg : ∀ x ∈ (look gs q.1).getD [] ++ [q], x.1 = q.1 ∧ x ∈ seen ++ [q] := by
    intro x hx
    rcases List.mem_append.1 hx with hx | hx
    · cases hl : look gs q.1 with
      | none => rw [hl] at hx; simp at hx
      | some g =>
        rw [hl] at hx
        have := (h.of _ _ hl).2.1 x hx
        exact ⟨this.1, List.mem_append_left _ this.2⟩
    · simp at hx; subst hx; exact ⟨rfl, by simp⟩
  refine ⟨upd_keys h.keys, fun x hx => ?_, fun k g hl => ?_, ?_⟩
  · by_cases e : x.1 = q.1
    · refine ⟨_, by rw [e]; exact look_upd_same, ?_⟩
      rcases List.mem_append.1 hx with hx | hx
      · obtain ⟨g, h1, h2⟩ := h.has x hx
        rw [e] at h1
        rw [h1]
        exact List.mem_append_left _ h2
      · simp at hx; subst hx; simp
    · rcases List.mem_append.1 hx with hx | hx
      · obtain ⟨g, h1, h2⟩ := h.has x hx
        exact ⟨g, by unfold addG; rw [look_upd_other e]; exact h1, h2⟩
      · simp at hx; subst hx; exact absurd rfl e
  · by_cases e : k = q.1
    · subst e
      unfold addG at hl
      rw [look_upd_same] at hl
      cases hl
      refine ⟨by simp, hg, ?_⟩
      cases hl : look gs q.1 with
      | none => simp
      | some g => have := (h.of _ _ hl).2.2; simp; omega
    · unfold addG at hl
      rw [look_upd_other e] at hl
      obtain ⟨h1, h2, h3⟩ := h.of _ _ hl
      exact ⟨h1, fun x hx => ⟨(h2 x hx).1, List.mem_append_left _ (h2 x hx).2⟩, by simp; omega⟩
  · have := upd_len (l := gs) (k := q.1) (v := (look gs q.1).getD [] ++ [q])
    have := h.len
    unfold addG
    simp
    omega

section
variable {β γ : Type} {R R' : Int → β → γ → Prop} {l : List (Int × β)} {m : List (Int × γ)}
/-- a store: the other keys' elements turn as they may -/
theorem Rel2.upd_ne (h : Rel2 R l m) {k : Int} {v : β} {c : γ} (hr : R' k v c) (ho : ∀ k' v' c', (k', v') ∈ l → k' ≠ k → R k' v' c' → R' k' v' c') : Rel2 R' (YtonkblhhknafbaaGreat.upd l k v) (YtonkblhhknafbaaGreat.upd m k c) := by
  cases hm : look m k with
  | none =>
    have hl := h.none hm
    unfold YtonkblhhknafbaaGreat.upd
    rw [hm, hl]
    refine All2.app (All2.imp h (fun p q hp hq ⟨h1, h2⟩ => ⟨h1, ho p.1 p.2 q.2 hp (fun e => look_none_iff.1 hl p hp e) h2⟩)) (.cons ⟨rfl, hr⟩ .nil)
  | some c0 =>
    obtain ⟨v0, hl, _⟩ := h.some hm
    unfold YtonkblhhknafbaaGreat.upd
    rw [hm, hl]
    simp only []
    clear hm hl
    unfold Rel2 at h ⊢
    induction h with
    | nil => exact .nil
    | @cons p q l' m' h1 h2 ih =>
      simp only [List.map_cons]
      refine .cons ?_ (ih (fun k' v' c' hp hn hr => ho k' v' c' (.tail _ hp) hn hr))
      obtain ⟨hk, hr'⟩ := h1
      by_cases e : q.1 = k
      · rw [if_pos e, if_pos (hk.trans e)]
        exact ⟨rfl, hr⟩
      · rw [if_neg e, if_neg (fun h => e (hk ▸ h))]
        exact ⟨hk, ho p.1 p.2 q.2 (.head _) (fun h => e (hk ▸ h)) hr'⟩
end
end Go.Proofs.YtonkblhhknafbaaGreat
