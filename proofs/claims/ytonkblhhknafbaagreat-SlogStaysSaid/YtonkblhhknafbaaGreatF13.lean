/- The groups of quor.Merge in memory. Whatever the heap holds beside. -/
import Derived.Test.YtonkblhhknafbaaGreatP2
namespace Go.Proofs.YtonkblhhknafbaaGreat
open Go.RowKit Go.Shelf

theorem Tryz.zero71 (w : World) : (zeroValue 71).run Tryz.prog w = .ok (.slice none 0 0) w := by kernel_rfl

/-- replies that are read -/
def Reps (w : World) (F : Nat → Prop) (A : Option Addr) (n : Nat) (rs : List (List KC)) : Prop :=
  ∃ vs : List Value, Sl w A n vs ∧ (∀ g, ablk A = some g → F g ∧ g < w.heap.size) ∧ All2 (fun v cs => ∃ A' m' c', v = .slice A' m' c' ∧ RowM w F A' m' cs) vs rs
theorem CvM.old {w : World} {F : Nat → Prop} {v : CV} {q : KC} (h : CvM w F v q) : CvM w (· < w.heap.size) v q := by
  obtain ⟨h1, h2, h3, h4, h5, h6⟩ := h
  exact ⟨h1, h2, h3, h4, h5, fun g e => ⟨(h6 g e).2, (h6 g e).2⟩⟩
theorem RowM.old {w : World} {F : Nat → Prop} {A : Option Addr} {m : Nat} {cs : List KC} (h : RowM w F A m cs) : RowM w (· < w.heap.size) A m cs := by
  obtain ⟨vs, h1, h2, h3, h4⟩ := h
  exact ⟨vs, h1, h2, fun g e => ⟨(h3 g e).2, (h3 g e).2⟩, h4.imp (fun v q _ _ h => h.old)⟩
theorem Reps.old {w : World} {F : Nat → Prop} {A : Option Addr} {n : Nat} {rs : List (List KC)} (h : Reps w F A n rs) : Reps w (· < w.heap.size) A n rs := by
  obtain ⟨vs, h1, h2, h3⟩ := h
  exact ⟨vs, h1, fun g e => ⟨(h2 g e).2, (h2 g e).2⟩, h3.imp (fun v cs _ _ ⟨A', m', c', e, h⟩ => ⟨A', m', c', e, h.old⟩)⟩
theorem Reps.len {w : World} {F : Nat → Prop} {A : Option Addr} {n : Nat} {rs : List (List KC)} (h : Reps w F A n rs) : n = rs.length := by
  obtain ⟨vs, h1, _, h3⟩ := h
  rw [← h3.len, h1.1]

def vblk : Value → Option Nat
  | .slice A _ _ => ablk A
  | _ => none
/-- a group in the map -/
def GrpV (w : World) (F : Nat → Prop) (base : Nat) (v : Value) (g : List KC) : Prop :=
  ∃ A n c vs, v = .slice A n c ∧ Own w base 77 3 A n c (flat vs) ∧ All2 (CvM w F) vs g
theorem GrpV.keep {w w' : World} {F : Nat → Prop} {base : Nat} {v : Value} {g : List KC} (h : GrpV w F base v g) (hz : w.heap.size ≤ w'.heap.size) (hF : ∀ k, F k → k < w.heap.size → w'.heap[k]? = w.heap[k]?) (hk : ∀ k, vblk v = some k → base ≤ k → k < w.heap.size → w'.heap[k]? = w.heap[k]?) : GrpV w' F base v g := by
  obtain ⟨A, n, c, vs, rfl, h1, h2⟩ := h
  exact ⟨A, n, c, vs, rfl, h1.keep (fun k e hlt => hk k e (h1.lt e).1 hlt), h2.imp (fun v q _ _ h => h.keep hz hF (fun _ h => h))⟩
def Dist (L : List (Int × Value)) : Prop := ∀ p ∈ L, ∀ q ∈ L, p.1 ≠ q.1 → ∀ k, vblk p.2 = some k → vblk q.2 ≠ some k
/-- the map of groups -/
def Groups (w : World) (F : Nat → Prop) (base mb : Nat) (L : List (Int × Value)) (gs : List (Int × List KC)) : Prop :=
  MapV w mb L ∧ Rel2 (fun _ v g => GrpV w F base v g) L gs ∧ Dist L
theorem Groups.keys {w : World} {F : Nat → Prop} {base mb : Nat} {L : List (Int × Value)} {gs : List (Int × List KC)} (h : Groups w F base mb L gs) (hk : Keys gs) : Keys L := h.2.1.nodup.2 hk
/-- what lies at a key -/
theorem Groups.at_ {w : World} {F : Nat → Prop} {base mb : Nat} {L : List (Int × Value)} {gs : List (Int × List KC)} (h : Groups w F base mb L gs) (k : Int) :
    ∃ A n c vs, (look L k).getD (.slice none 0 0) = .slice A n c ∧ Own w base 77 3 A n c (flat vs) ∧ All2 (CvM w F) vs ((look gs k).getD []) ∧ (∀ p ∈ L, p.1 ≠ k → ∀ b, ablk A = some b → vblk p.2 ≠ some b) := by
  cases hg : look gs k with
  | none =>
    rw [h.2.1.none hg]
    exact ⟨none, 0, 0, [], rfl, Own.nil _ _ _ _, .nil, fun p _ _ b e => by cases e⟩
  | some g =>
    obtain ⟨v, hv, A, n, c, vs, rfl, h1, h2⟩ := h.2.1.some hg
    rw [hv]
    exact ⟨A, n, c, vs, rfl, h1, h2, fun p hp hne b e => h.2.2 _ (look_mem hv) p hp (fun e => hne e.symm) b e⟩
theorem upd_mem' {β : Type} {l : List (Int × β)} {k : Int} {v : β} {p : Int × β} (h : p ∈ upd l k v) : p = (k, v) ∨ (p ∈ l ∧ p.1 ≠ k) := by
  unfold upd at h
  split at h
  · obtain ⟨q, hq, rfl⟩ := List.mem_map.1 h
    by_cases e : q.1 = k
    · rw [if_pos e]; exact .inl rfl
    · rw [if_neg e]; exact .inr ⟨hq, e⟩
  · rename_i hn
    rcases List.mem_append.1 h with h | h
    · exact .inr ⟨h, look_none_iff.1 hn p h⟩
    · simp at h; exact .inl h
theorem Groups.lt {w : World} {F : Nat → Prop} {base mb : Nat} {L : List (Int × Value)} {gs : List (Int × List KC)} (h : Groups w F base mb L gs) {p : Int × Value} (hp : p ∈ L) {b : Nat} (hb : vblk p.2 = some b) : base ≤ b ∧ b < w.heap.size ∧ b ≠ mb := by
  obtain ⟨q, _, _, A, n, c, vs, e, ho, _⟩ := All2.mem h.2.1 hp
  rw [e] at hb
  exact ⟨(ho.lt hb).1, (ho.lt hb).2, fun e2 => h.1.ne_own ho (by rw [← e2]; exact hb)⟩
/-- the store of a longer group -/
theorem Groups.store {w w8 w9 : World} {F : Nat → Prop} {base mb : Nat} {L : List (Int × Value)} {gs : List (Int × List KC)} (h : Groups w F base mb L gs) (hFb : ∀ k, F k → k < base) (k : Int) (A A' : Option Addr) (n c n' c' : Nat) (vs0 vs : List CV) (g : List KC)
    (_hA : (look L k).getD (.slice none 0 0) = .slice A n c) (hoA : Own w base 77 3 A n c (flat vs0)) (hne : ∀ p ∈ L, p.1 ≠ k → ∀ b, ablk A = some b → vblk p.2 ≠ some b)
    (ho : Own w8 base 77 3 A' n' c' (flat vs)) (hg : All2 (CvM w8 F) vs g) (hA' : ∀ b, ablk A' = some b → ablk A = some b ∨ w.heap.size ≤ b) (h8 : Kp (fun x => ablk A = some x) w w8) (hm9 : MapV w9 mb (upd L k (.slice A' n' c'))) (h9 : Kp (· = mb) w8 w9) (hmb : base ≤ mb) :
    Groups w9 F base mb (upd L k (.slice A' n' c')) (upd gs k g) := by
  have hmA : ablk A ≠ some mb := h.1.ne_own hoA
  have hm8 : MapV w8 mb L := h.1.of_eq (h8.block _ h.1.lt hmA)
  have hz8 := h8.size
  have hz9 := h9.size
  refine ⟨hm9, Rel2.upd_ne h.2.1 ⟨A', n', c', vs, rfl, ho.kp h9 (fun x e _ hS => hm8.ne_own ho (by rw [e, hS])), hg.imp (fun v q _ _ h => h.keep hz9 (fun x hx hlt => h9.block x hlt (by have := hFb x hx; omega)) (fun _ h => h))⟩ (fun k' v' g' hp hne' hG => ?_), ?_⟩
  · refine hG.keep (by omega) (fun x hx hlt => ?_) (fun x hx hb hlt => ?_)
    · have := hFb x hx
      rw [h9.block x (by omega) (by omega)]
      exact h8.block x hlt (fun e => by have := (hoA.lt e).1; omega)
    · have h1 := h.lt hp hx
      rw [h9.block x (by omega) (by omega)]
      exact h8.block x hlt (fun e => hne _ hp hne' x e hx)
  · intro p hp q hq hpq b hb
    rcases upd_mem' hp with rfl | ⟨hp, hpk⟩
    · rcases upd_mem' hq with rfl | ⟨hq, hqk⟩
      · exact absurd rfl hpq
      · rcases hA' b hb with h1 | h1
        · exact hne q hq hqk b h1
        · exact fun e => by have := (h.lt hq e).2.1; omega
    · rcases upd_mem' hq with rfl | ⟨hq, hqk⟩
      · intro e
        rcases hA' b e with h1 | h1
        · exact hne p hp hpk b h1 hb
        · have := (h.lt hp hb).2.1; omega
      · exact h.2.2 p hp q hq hpq b hb
theorem Groups.keepR {w w' : World} {W base mb r : Nat} {L : List (Int × Value)} {gs : List (Int × List KC)} (h : Groups w (· < W) base mb L gs) (hr : ∀ p ∈ L, ∀ b, vblk p.2 = some b → b < r) (hm : mb < r) (hW : W ≤ r) (hz : w.heap.size ≤ w'.heap.size) (hk : ∀ k, k < r → k < w.heap.size → w'.heap[k]? = w.heap[k]?) : Groups w' (· < W) base mb L gs :=
  ⟨h.1.of_eq (hk mb hm h.1.lt), All2.imp h.2.1 (fun p _g hp _ ⟨h1, h2⟩ => ⟨h1, h2.keep hz (fun k hF hlt => hk k (Nat.lt_of_lt_of_le hF hW) hlt) (fun k e _ hlt => hk k (hr p hp k e) hlt)⟩), h.2.2⟩
theorem Own.sl3 {w : World} {base : Nat} {A : Option Addr} {n c : Nat} {vs : List CV} (h : Own w base 77 3 A n c (flat vs)) : Sl w A (n * 3) (flat vs) := by
  refine ⟨h.len, fun hn => ?_⟩
  obtain ⟨g, rfl, _, hlt, hc, _⟩ := h.at_ (by omega)
  exact ⟨g, 0, rfl, hlt, fun j u hu => by rw [Nat.zero_add]; exact hc j u hu⟩
theorem All2.mem' {α β : Type} {R : α → β → Prop} {l : List α} {m : List β} (h : All2 R l m) {b : β} (hb : b ∈ m) : ∃ a, a ∈ l ∧ R a b := by
  obtain ⟨i, hi⟩ := List.getElem?_of_mem hb
  obtain ⟨a, ha, hr⟩ := h.get' hi
  exact ⟨a, List.mem_of_getElem? ha, hr⟩
/-- the best of each group, whichever order they came in -/
theorem best_of {rs : List (List KC)} {gs : List (Int × List KC)} {L dn : List (Int × Value)} {out m2 : List KC} (hgi : GInv gs rs.flatten) (hR : L.map (·.1) = gs.map (·.1)) (hp : dn.Perm L) (hb : All2 (fun (q : KC) (p : Int × Value) => ∃ g, look gs p.1 = some g ∧ q ∈ g ∧ ∀ q' ∈ g, q'.2.1 ≤ q.2.1) out dn) (hm : m2.Perm out) (hs : (m2.map (·.1)).Pairwise (· < ·)) : Best rs m2 := by
  refine ⟨hs, fun q hq => ?_, fun cs hcs q hq => ?_⟩
  · obtain ⟨p, _, g, hg, hqg, _⟩ := hb.mem (hm.mem_iff.1 hq)
    have := ((hgi.of _ _ hg).2.1 q hqg).2
    obtain ⟨cs, h1, h2⟩ := List.mem_flatten.1 this
    exact ⟨cs, h1, h2⟩
  · obtain ⟨g, hg, hqg⟩ := hgi.has q (List.mem_flatten.2 ⟨cs, hcs, hq⟩)
    have h1 : q.1 ∈ L.map (·.1) := by rw [hR]; exact List.mem_map.2 ⟨_, look_mem hg, rfl⟩
    obtain ⟨p, hpL, hpe⟩ := List.mem_map.1 h1
    obtain ⟨q', hq', g', hg', hqg', hmax⟩ := hb.mem' (hp.mem_iff.2 hpL)
    rw [hpe, hg] at hg'
    cases hg'
    exact ⟨q', hm.mem_iff.2 hq', ((hgi.of _ _ hg).2.1 q' hqg').1, hmax q hqg⟩
theorem keys_of_best {gs : List (Int × List KC)} {seen : List KC} {L dn : List (Int × Value)} {out : List KC} (hgi : GInv gs seen) (hkL : Keys L) (hp : dn.Perm L) (hb : All2 (fun (q : KC) (p : Int × Value) => ∃ g, look gs p.1 = some g ∧ q ∈ g ∧ ∀ q' ∈ g, q'.2.1 ≤ q.2.1) out dn) : Keys out := by
  have e : out.map (·.1) = dn.map (·.1) := by
    clear hp hkL
    induction hb with
    | nil => rfl
    | cons h1 _ ih =>
      obtain ⟨g, hg, hq, _⟩ := h1
      simp only [List.map_cons]
      rw [ih, ((hgi.of _ _ hg).2.1 _ hq).1]
  unfold Keys
  rw [e]
  exact (perm_keys hp).2 hkL
end Go.Proofs.YtonkblhhknafbaaGreat
