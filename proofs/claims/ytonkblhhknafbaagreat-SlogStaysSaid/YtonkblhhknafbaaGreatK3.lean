/- Maps keyed by ints, whatever their values: entries as a list in the order of their births. -/
import Derived.Test.YtonkblhhknafbaaGreatK2
import Derived.Maps.RangeRun
import Derived.Maps.OwnOps
import Derived.Maps.RangeWalk
namespace Go.Proofs.YtonkblhhknafbaaGreat
open Go.RowKit Go.MapKept
open Go.ChangeMaps (setBlock)

def mkE (p : (Int × Value) × Nat) : MapEntry := { key := .int .i64 p.1.1, val := p.1.2, born := p.2 }
def mkEs (l : List (Int × Value)) : Array MapEntry := (l.zipIdx.map mkE).toArray
def MapV (w : World) (b : Nat) (l : List (Int × Value)) : Prop := w.heap[b]? = some (.map (mkEs l) l.length)
def look {β : Type} (l : List (Int × β)) (k : Int) : Option β := (l.find? (fun p => p.1 == k)).map (·.2)
def upd {β : Type} (l : List (Int × β)) (k : Int) (v : β) : List (Int × β) :=
  match look l k with
  | some _ => l.map (fun p => if p.1 = k then (k, v) else p)
  | none => l ++ [(k, v)]
def Keys {β : Type} (l : List (Int × β)) : Prop := (l.map (·.1)).Nodup

section
variable {P : Program} {w w' : World} {b : Nat} {l : List (Int × Value)}
theorem MapV.lt (h : MapV w b l) : b < w.heap.size := lt_of_block h
theorem MapV.of_eq (h : MapV w b l) (e : w'.heap[b]? = w.heap[b]?) : MapV w' b l := e.trans h
theorem MapV.new (w : World) : MapV (w.alloc (.map #[] 0)) w.heap.size [] := by
  show (w.heap.push _)[w.heap.size]? = _
  simp [mkEs]
theorem MapV.drewN (h : MapV w b l) (n : Nat) : MapV (w.drewN n) b l := h
theorem MapV.alloc (h : MapV w b l) (o : Obj) : MapV (w.alloc o) b l := (Below.heap_alloc w o b h.lt).trans h
theorem MapV.far (h : MapV w b l) {p : Addr} (hp : b ≠ p.block) (u : Value) : MapV (w.setCell p u) b l := (Below.heap_setCell w p u b hp).trans h
theorem MapV.ne_blk {g : Nat} {t : TypeId} {cs : Array Value} (h : MapV w b l) (hg : Blk w g t cs) : b ≠ g := by
  rintro rfl
  unfold MapV at h
  unfold Blk at hg
  rw [h] at hg
  cases hg
theorem MapV.ne_own {base : Nat} {e : TypeId} {size : Nat} {A : Option Addr} {n c : Nat} {xs : List Value} (h : MapV w b l) (ho : Own w base e size A n c xs) : ablk A ≠ some b := by
  rcases ho.2 with ⟨hv, _⟩ | ⟨g', cap, cur, hv, _, hh, _⟩
  · injection hv with hA
    subst hA
    simp [ablk]
  · injection hv with hA
    subst hA
    intro he
    simp [ablk] at he
    subst he
    exact h.ne_blk (t := e) (cs := cur) hh rfl
theorem mkEs_keys (l : List (Int × Value)) : ∀ x ∈ (mkEs l).toList, IsKey (.int .i64) x.key := by
  intro x hx
  simp [mkEs] at hx
  obtain ⟨v, k, i, _, rfl⟩ := hx
  simp [mkE, IsKey]
theorem mkEs_get (l : List (Int × Value)) (j : Nat) (e : MapEntry) : (mkEs l).toList[j]? = some e ↔ ∃ k v, l[j]? = some (k, v) ∧ e = { key := .int .i64 k, val := v, born := j } := by
  simp only [mkEs, List.getElem?_map, List.getElem?_zipIdx, Nat.zero_add]
  constructor
  · intro h
    cases hl : l[j]? with
    | none => simp [hl] at h
    | some p =>
      simp [hl, mkE] at h
      exact ⟨p.1, p.2, by simp, h.symm⟩
  · rintro ⟨k, v, hl, rfl⟩
    simp [hl, mkE]
theorem mkEs_size (l : List (Int × Value)) : (mkEs l).size = l.length := by simp [mkEs]
end
section
variable {β : Type} {l : List (Int × β)}
theorem look_none {k : Int} (h : ∀ p ∈ l, p.1 ≠ k) : look l k = none := by
  unfold look
  rw [List.find?_eq_none.2 (fun p hp => by simpa using h p hp)]
  rfl
theorem look_mem {k : Int} {v : β} (h : look l k = some v) : (k, v) ∈ l := by
  unfold look at h
  cases hf : l.find? (fun p => p.1 == k) with
  | none => simp [hf] at h
  | some p =>
    simp [hf] at h
    subst h
    have h1 := List.find?_some hf
    have h2 := List.mem_of_find?_eq_some hf
    simp at h1
    subst h1
    exact h2
theorem look_of {k : Int} {v : β} (hk : Keys l) (h : (k, v) ∈ l) : look l k = some v := by
  induction l with
  | nil => cases h
  | cons p l ih =>
    unfold Keys at hk
    simp only [List.map_cons, List.nodup_cons] at hk
    rcases List.mem_cons.1 h with rfl | h
    · simp [look]
    · have hne : p.1 ≠ k := fun e => hk.1 (List.mem_map.2 ⟨_, h, e.symm⟩)
      have := ih hk.2 h
      unfold look at this ⊢
      rw [List.find?_cons_of_neg (by simpa using hne)]
      exact this
theorem look_nil (k : Int) : look ([] : List (Int × β)) k = none := rfl
theorem look_none_iff {k : Int} : look l k = none ↔ ∀ p ∈ l, p.1 ≠ k := by
  constructor
  · intro h p hp e
    unfold look at h
    simp at h
    exact h p.1 p.2 hp e
  · exact look_none
theorem upd_keys {k : Int} {v : β} (h : Keys l) : Keys (upd l k v) := by
  unfold upd
  split
  · unfold Keys at h ⊢
    have : (l.map (fun p => if p.1 = k then (k, v) else p)).map (·.1) = l.map (·.1) := by
      rw [List.map_map]
      apply List.map_congr_left
      intro p _
      simp only [Function.comp]
      split
      · rename_i e; exact e.symm
      · rfl
    rw [this]; exact h
  · rename_i hn
    unfold Keys at h ⊢
    rw [List.map_append, List.nodup_append]
    refine ⟨h, by simp, ?_⟩
    intro x hx y hy
    obtain ⟨p, hp, rfl⟩ := List.mem_map.1 hx
    simp at hy
    subst hy
    exact look_none_iff.1 hn p hp
theorem look_upd_same {k : Int} {v : β} : look (upd l k v) k = some v := by
  unfold upd
  split
  · rename_i u hu
    have hm := look_mem hu
    clear hu
    induction l with
    | nil => cases hm
    | cons p l ih =>
      by_cases e : p.1 = k
      · simp [look, e]
      · simp only [List.map_cons, if_neg e]
        have : look (p :: l.map (fun p => if p.1 = k then (k, v) else p)) k = look (l.map (fun p => if p.1 = k then (k, v) else p)) k := by
          unfold look
          rw [List.find?_cons_of_neg (by simpa using e)]
        rw [this]
        refine ih ?_
        rcases List.mem_cons.1 hm with rfl | h
        · exact absurd rfl e
        · exact h
  · rename_i hn
    unfold look at hn ⊢
    rw [List.find?_append]
    simp at hn
    have : l.find? (fun p => p.1 == k) = none := List.find?_eq_none.2 (fun p hp => by simpa using hn p.1 p.2 hp)
    rw [this]
    simp
theorem look_upd_other {k k' : Int} {v : β} (hne : k' ≠ k) : look (upd l k v) k' = look l k' := by
  unfold upd
  split
  · rename_i u hu
    clear hu
    induction l with
    | nil => rfl
    | cons p l ih =>
      simp only [List.map_cons]
      by_cases e : p.1 = k
      · rw [if_pos e]
        unfold look at ih ⊢
        rw [List.find?_cons_of_neg (by simpa using fun h => hne h.symm), List.find?_cons_of_neg (by simp; rw [e]; exact fun h => hne h.symm)]
        exact ih
      · rw [if_neg e]
        by_cases e2 : p.1 = k'
        · unfold look
          rw [List.find?_cons_of_pos (by simpa using e2), List.find?_cons_of_pos (by simpa using e2)]
        · unfold look at ih ⊢
          rw [List.find?_cons_of_neg (by simpa using e2), List.find?_cons_of_neg (by simpa using e2)]
          exact ih
  · unfold look
    rw [List.find?_append]
    rw [List.find?_cons_of_neg (by simpa using fun h => hne h.symm)]
    simp
theorem upd_len {k : Int} {v : β} : (upd l k v).length ≤ l.length + 1 := by
  unfold upd
  split <;> simp
theorem upd_mem {k : Int} {v : β} {p : Int × β} (h : p ∈ upd l k v) : p = (k, v) ∨ p ∈ l := by
  unfold upd at h
  split at h
  · obtain ⟨q, hq, rfl⟩ := List.mem_map.1 h
    split
    · exact .inl rfl
    · exact .inr hq
  · rcases List.mem_append.1 h with h | h
    · exact .inr h
    · simp at h; exact .inl h
end

section
variable {P : Program} {w w' : World} {b : Nat} {l : List (Int × Value)}
theorem run_lookV {t e : TypeId} {z : Value} (ht : P.underlying t = some (.map 3 e)) (h3 : P.underlying 3 = some (.int .i64)) (hz : ∀ w, (zeroValue e).run P w = .ok z w) (hm : MapV w b l) (hk : Keys l) (k : Int) (ok : Bool) :
    (Instr.lookup t (.map (some b)) (.int .i64 k) ok).run P w = .ok (if ok then .tuple #[(look l k).getD z, .bool (look l k).isSome] else (look l k).getD z) w := by
  have hik : IsKey (.int .i64) (.int .i64 k) := by simp [IsKey]
  rcases findNow_spec hik (mkEs l).toList 0 (mkEs_keys l) with ⟨h1, h2⟩ | ⟨j, e', h1, h2, h3'⟩
  · have hn : look l k = none := by
      refine look_none (fun p hp e => ?_)
      obtain ⟨j, hj⟩ := List.getElem?_of_mem hp
      have := (mkEs_get l j _).2 ⟨p.1, p.2, hj, rfl⟩
      exact h2 _ (List.mem_of_getElem? this) (by rw [e])
    simp only [Instr.lookup, Sem.run_bind, run_underlying ht, Result.andThen_ok, Go.MapKept.run_getObj_map hm, Sem.run_pure, run_checkKey h3 hik, run_findKey h3 h1, hz, hn]
    rfl
  · obtain ⟨k', v, hj, rfl⟩ := (mkEs_get l j e').1 h2
    simp at h3'
    subst h3'
    have hs : look l k' = some v := look_of hk (List.mem_of_getElem? hj)
    simp only [Instr.lookup, Sem.run_bind, run_underlying ht, Result.andThen_ok, Go.MapKept.run_getObj_map hm, Sem.run_pure, run_checkKey h3 hik, run_findKey h3 h1, hs]
    rfl
theorem upd_mkEs_some {k : Int} {v u : Value} {j : Nat} (hk : Keys l) (hj : l[j]? = some (k, u)) : mkEs (upd l k v) = (mkEs l).modify j fun e => { e with key := .int .i64 k, val := v } := by
  have hs : look l k = some u := look_of hk (List.mem_of_getElem? hj)
  unfold upd
  rw [hs]
  apply Array.ext'
  apply List.ext_getElem?
  intro i
  rw [Array.toList_modify, List.getElem?_modify]
  by_cases hij : j = i
  · subst hij
    rw [(mkEs_get _ j _).2 ⟨k, u, hj, rfl⟩]
    rw [(mkEs_get _ j { key := .int .i64 k, val := v, born := j }).2 ⟨k, v, by simp [hj], rfl⟩]
    simp
  · simp only [hij, if_false]
    cases hli : l[i]? with
    | none =>
      have e1 : (mkEs l).toList[i]? = none := by rw [List.getElem?_eq_none]; have := List.getElem?_eq_none_iff.1 hli; simp [mkEs_size]; exact this
      rw [e1]
      rw [List.getElem?_eq_none]
      · rfl
      · have := List.getElem?_eq_none_iff.1 hli
        simp [mkEs_size]; exact this
    | some p =>
      have hne : p.1 ≠ k := by
        intro e
        have h1 := List.getElem?_eq_some_iff.1 hj
        have h2 := List.getElem?_eq_some_iff.1 hli
        obtain ⟨hj1, hj2⟩ := h1
        obtain ⟨hi1, hi2⟩ := h2
        have hp := List.pairwise_iff_getElem.1 (show (l.map (·.1)).Pairwise (· ≠ ·) from hk)
        rcases Nat.lt_or_gt_of_ne hij with h | h
        · exact hp j i (by simpa using hj1) (by simpa using hi1) h (by simp [hj2, hi2, e])
        · exact hp i j (by simpa using hi1) (by simpa using hj1) h (by simp [hj2, hi2, e])
      rw [(mkEs_get l i _).2 ⟨p.1, p.2, hli, rfl⟩, (mkEs_get _ i { key := .int .i64 p.1, val := p.2, born := i }).2 ⟨p.1, p.2, by simp [hli, hne], rfl⟩]
      rfl
theorem run_updV {t e : TypeId} (ht : P.underlying t = some (.map 3 e)) (h3 : P.underlying 3 = some (.int .i64)) (hm : MapV w b l) (hk : Keys l) (k : Int) (v : Value) :
    ∃ w', (Instr.mapUpdate t (.map (some b)) (.int .i64 k) v).run P w = .ok () w' ∧ MapV w' b (upd l k v) ∧ Kp (· = b) w w' := by
  have hik : IsKey (.int .i64) (.int .i64 k) := by simp [IsKey]
  have hlt := hm.lt
  have kp : ∀ o : Obj, Kp (· = b) w { w with heap := w.heap.setIfInBounds b o } := fun o => ⟨rfl, rfl, rfl, by simp, fun i _ hi => (heap_set hm).2 i hi⟩
  rcases findNow_spec hik (mkEs l).toList 0 (mkEs_keys l) with ⟨h1, h2⟩ | ⟨j, e', h1, h2, h3'⟩
  · have hn : look l k = none := by
      refine look_none (fun p hp e => ?_)
      obtain ⟨j, hj⟩ := List.getElem?_of_mem hp
      have := (mkEs_get l j _).2 ⟨p.1, p.2, hj, rfl⟩
      exact h2 _ (List.mem_of_getElem? this) (by rw [e])
    refine ⟨_, ?_, ?_, kp (.map (mkEs (upd l k v)) (upd l k v).length)⟩
    · have hu : upd l k v = l ++ [(k, v)] := by unfold upd; rw [hn]
      have he : mkEs (upd l k v) = (mkEs l).push { key := .int .i64 k, val := v, born := l.length } := by
        rw [hu]; simp [mkEs, mkE, List.zipIdx_append]
      simp only [Instr.mapUpdate, Sem.run_bind, run_underlying ht, Result.andThen_ok, Go.MapKept.run_getObj_map hm, run_checkKey h3 hik, run_findKey h3 h1, run_setObj_map _ hm, he]
      rw [hu]; simp
    · exact (heap_set hm).1
  · obtain ⟨k', u, hj, rfl⟩ := (mkEs_get l j e').1 h2
    simp at h3'
    subst h3'
    have hs : look l k' = some u := look_of hk (List.mem_of_getElem? hj)
    refine ⟨_, ?_, ?_, kp (.map (mkEs (upd l k' v)) (upd l k' v).length)⟩
    · have hul : (upd l k' v).length = l.length := by unfold upd; rw [hs]; simp
      have hjj : (mkEs l)[j]? = some { key := .int .i64 k', val := u, born := j } := by simpa using h2
      simp only [Instr.mapUpdate, Sem.run_bind, run_underlying ht, Result.andThen_ok, Go.MapKept.run_getObj_map hm, run_checkKey h3 hik, run_findKey h3 h1, Nat.zero_add, hjj, Option.map_some, Option.getD_some, run_keyThatStays hik, run_setObj_map _ hm, upd_mkEs_some (v := v) hk hj, hul]
    · exact (heap_set hm).1
end

/-! ### ranging -/
def leftL (l : List (Int × Value)) (seen : Array Nat) : List (Int × Value) := (l.zipIdx.filter (fun p => !seen.contains p.2)).map (·.1)
/-- an iterator that has handed out 'out' -/
def IterV (w : World) (r b : Nat) (l out : List (Int × Value)) : Prop := ∃ seen, w.heap[r]? = some (.mapIter (some b) l.length seen l.length) ∧ (out ++ leftL l seen).Perm l

theorem IterV.lt {w : World} {r b : Nat} {l out : List (Int × Value)} (h : IterV w r b l out) : r < w.heap.size := by
  obtain ⟨_, h, _⟩ := h
  exact lt_of_block h
theorem IterV.of_eq {w w' : World} {r b : Nat} {l out : List (Int × Value)} (h : IterV w r b l out) (e : w'.heap[r]? = w.heap[r]?) : IterV w' r b l out := by
  obtain ⟨s, h1, h2⟩ := h
  exact ⟨s, e.trans h1, h2⟩
theorem leftOf_mk (l : List (Int × Value)) (seen : Array Nat) : (leftOf (mkEs l) seen).toList = (l.zipIdx.filter (fun p => !seen.contains p.2)).map mkE := by
  unfold leftOf mkEs
  rw [Array.toList_filter, List.filter_map]
  rfl
theorem perm_pick {α : Type} : ∀ (L : List (α × Nat)) (x : α × Nat) (seen : Array Nat), (L.map (·.2)).Nodup → x ∈ L → seen.contains x.2 = false →
    ((L.filter (fun p => !seen.contains p.2)).map (·.1)).Perm (x.1 :: (L.filter (fun p => !(seen.push x.2).contains p.2)).map (·.1))
  | [], x, seen, _, hx, _ => by cases hx
  | y :: L, x, seen, hn, hx, hs => by
    simp only [List.map_cons, List.nodup_cons] at hn
    rcases List.mem_cons.1 hx with rfl | hx
    · rw [List.filter_cons_of_pos (by simpa using hs), List.filter_cons_of_neg (by simp)]
      simp only [List.map_cons]
      have : L.filter (fun p => !(seen.push x.2).contains p.2) = L.filter (fun p => !seen.contains p.2) := by
        apply List.filter_congr
        intro p hp
        have hne : p.2 ≠ x.2 := fun e => hn.1 (List.mem_map.2 ⟨p, hp, e⟩)
        simp [hne]
      rw [this]
    · have hne : y.2 ≠ x.2 := fun e => hn.1 (List.mem_map.2 ⟨x, hx, e.symm⟩)
      have ih := perm_pick L x seen hn.2 hx hs
      by_cases hy : seen.contains y.2 = true
      · have hy' : (seen.push x.2).contains y.2 = true := by simp at hy; simp [hy]
        rw [List.filter_cons_of_neg (by simpa using hy), List.filter_cons_of_neg (by rw [hy']; simp)]
        exact ih
      · have hy' : ¬ (seen.push x.2).contains y.2 = true := by simp at hy; simp [hy, hne]
        rw [List.filter_cons_of_pos (by simpa using hy), List.filter_cons_of_pos (by simpa using hy')]
        simp only [List.map_cons]
        exact (List.Perm.cons _ ih).trans (List.Perm.swap _ _ _)
theorem zipIdx_nodup (l : List (Int × Value)) : (l.zipIdx.map (·.2)).Nodup := by
  rw [List.zipIdx_map_snd]
  exact List.nodup_range' ..
section
variable {P : Program} {w w' : World} {b r : Nat} {l out : List (Int × Value)}
theorem run_rangeV {t e : TypeId} (ht : P.underlying t = some (.map 3 e)) (hm : MapV w b l) :
    ∃ w', (Instr.range t (.map (some b))).run P w = .ok (.pointer (some ⟨w.heap.size, 0, none⟩)) w' ∧ IterV w' w.heap.size b l [] ∧ Below w.heap.size w w' ∧ w'.heap.size = w.heap.size + 1 := by
  refine ⟨w.alloc (.mapIter (some b) l.length #[] l.length), ?_, ⟨#[], ?_, ?_⟩, (Below.refl _ _).alloc (Nat.le_refl _) _, by simp⟩
  · simp only [Instr.range, Sem.run_bind, run_underlying ht, Result.andThen_ok, Go.MapKept.run_getObj_map hm, Sem.run_pure]
    rfl
  · show (w.heap.push _)[w.heap.size]? = _
    simp
  · rw [List.nil_append]
    unfold leftL
    rw [List.filter_eq_self.2 (by simp), List.zipIdx_map_fst]
theorem run_nextV (ty : TypeId) (hi : IterV w r b l out) (hm : MapV w b l) :
    (out.Perm l ∧ (Instr.next (.pointer (some ⟨r, 0, none⟩)) false ty).run P w = .ok (.tuple #[.bool false]) w) ∨
    ∃ k v w', (k, v) ∈ l ∧ out.length < l.length ∧ (Instr.next (.pointer (some ⟨r, 0, none⟩)) false ty).run P w = .ok (.tuple #[.bool true, .int .i64 k, v]) w' ∧ IterV w' r b l (out ++ [(k, v)]) ∧ Kp (· = r) w w' ∧
      (Instr.entry (.pointer (some ⟨r, 0, none⟩))).run P w' = .ok (.tuple #[.int .i64 k, v]) w' := by
  obtain ⟨seen, hr, hp⟩ := hi
  rcases run_next_at (P := P) w ty r b l.length l.length seen (mkEs l) l.length hr hm (by
    intro x hx
    obtain ⟨j, hj⟩ := List.getElem?_of_mem hx
    obtain ⟨k, v, h1, rfl⟩ := (mkEs_get l j x).1 hj
    exact (List.getElem?_eq_some_iff.1 h1).1) (Nat.le_refl _) with ⟨h0, hrun⟩ | ⟨e, he, w1, hw1, hrun⟩
  · left
    refine ⟨?_, hrun⟩
    have h1 : (leftOf (mkEs l) seen).toList.length = 0 := by simpa using h0
    rw [leftOf_mk] at h1
    have h2 : leftL l seen = [] := by
      unfold leftL
      rw [List.length_map] at h1
      rw [List.eq_nil_of_length_eq_zero h1]; rfl
    rw [h2, List.append_nil] at hp
    exact hp
  · right
    rw [leftOf_mk] at he
    obtain ⟨x, hx, rfl⟩ := List.mem_map.1 he
    obtain ⟨hx1, hx2⟩ := List.mem_filter.1 hx
    obtain ⟨⟨k, v⟩, i⟩ := x
    have hget : l[i]? = some (k, v) := by
      have := List.mem_zipIdx_iff_getElem?.1 hx1
      simpa using this
    have hpk := perm_pick l.zipIdx ((k, v), i) seen (zipIdx_nodup l) hx1 (by simpa using hx2)
    have hr1 : w1.heap[r]? = some (.mapIter (some b) l.length seen l.length) := by rcases hw1 with rfl | rfl <;> exact hr
    have hm1 : MapV w1 b l := by rcases hw1 with rfl | rfl <;> exact hm
    have hrb : r ≠ b := by rintro rfl; rw [show w.heap[r]? = _ from hm] at hr; cases hr
    have hr2 : (setBlock w1 r (.mapIter (some b) l.length (seen.push i) l.length)).heap[r]? = some (.mapIter (some b) l.length (seen.push i) l.length) := by
      have hlt : r < w1.heap.size := lt_of_block hr1
      simp [setBlock, hlt]
    have hp2 : (out ++ [(k, v)] ++ leftL l (seen.push i)).Perm l := by
      rw [List.append_assoc]
      exact (List.Perm.append_left out (hpk.symm.trans (List.Perm.refl _))).trans hp
    have hkp : Kp (· = r) w (setBlock w1 r (.mapIter (some b) l.length (seen.push i) l.length)) := by
      refine ⟨?_, ?_, ?_, ?_, ?_⟩
      · rcases hw1 with rfl | rfl <;> rfl
      · rcases hw1 with rfl | rfl <;> rfl
      · rcases hw1 with rfl | rfl <;> rfl
      · rcases hw1 with rfl | rfl <;> simp [setBlock]
      · intro j _ hj
        have : (setBlock w1 r (.mapIter (some b) l.length (seen.push i) l.length)).heap[j]? = w1.heap[j]? := by simp [setBlock, Ne.symm hj]
        rw [this]
        rcases hw1 with rfl | rfl <;> rfl
    have hm2 : MapV (setBlock w1 r (.mapIter (some b) l.length (seen.push i) l.length)) b l := hm.of_eq (hkp.block b hm.lt (fun e => hrb e.symm))
    refine ⟨k, v, _, List.mem_of_getElem? hget, ?_, hrun, ⟨seen.push i, hr2, hp2⟩, hkp, ?_⟩
    · have := hp2.length_eq
      simp at this
      omega
    · refine run_entry_at (P := P) (e := mkE ((k, v), i)) _ r b l.length seen (mkEs l) l.length hr2 hm2 ?_ ?_
      · simp only [mkEs]
        exact List.mem_map.2 ⟨_, hx1, rfl⟩
      · have : (mkEs l).toList.map (·.born) = l.zipIdx.map (·.2) := by
          simp only [mkEs, List.map_map]
          rfl
        rw [this]
        exact zipIdx_nodup l

variable {ops : Array Oper} {rest : List Oper} {o : Oper} {a : Act} {Q : Exit → Act → World → Prop}
theorem op_look (hgd : o.guard = none) (m x : Operand) (t : TypeId) (ok : Bool) (hop : o.op = Op.lookup t m x ok) {e : TypeId} {z : Value} (ht : P.underlying t = some (.map 3 e)) (h3 : P.underlying 3 = some (.int .i64)) (hz : ∀ w, (zeroValue e).run P w = .ok z w)
    (hm : a.eval m = .map (some b)) (hmap : MapV w b l) (hk : Keys l) (k : Int) (hx : a.eval x = .int .i64 k)
    (h : wpList P ops Q rest (a.put o.dst (if ok then .tuple #[(look l k).getD z, .bool (look l k).isSome] else (look l k).getD z)) w) : wpList P ops Q (o :: rest) a w := by
  refine wpList_plain hgd fun K' hK' => ?_
  have hrun := run_lookV ht h3 hz hmap hk k ok
  unfold Oper.wp
  simp only [execOp, hop, hm, hx, hrun, Sem.run_bind, Sem.run_pure, Result.andThen_ok]
  exact hK' _ _ h
theorem op_upd (hgd : o.guard = none) (m x y : Operand) (t : TypeId) (hop : o.op = Op.mapUpdate t m x y) {e : TypeId} (ht : P.underlying t = some (.map 3 e)) (h3 : P.underlying 3 = some (.int .i64))
    (hm : a.eval m = .map (some b)) (hmap : MapV w b l) (hk : Keys l) (k : Int) (hx : a.eval x = .int .i64 k) (v : Value) (hy : a.eval y = v)
    (h : ∀ w', MapV w' b (upd l k v) → Kp (· = b) w w' → wpList P ops Q rest (a.put o.dst undef) w') : wpList P ops Q (o :: rest) a w := by
  refine wpList_plain hgd fun K' hK' => ?_
  obtain ⟨w', hrun, h1, h2⟩ := run_updV ht h3 hmap hk k v
  unfold Oper.wp
  simp only [execOp, hop, hm, hx, hy, hrun, Sem.run_bind, Sem.run_pure, Result.andThen_ok]
  exact hK' _ _ (h w' h1 h2)
theorem op_range (hgd : o.guard = none) (m : Operand) (t : TypeId) (hop : o.op = Op.range t m) {e : TypeId} (ht : P.underlying t = some (.map 3 e))
    (hm : a.eval m = .map (some b)) (hmap : MapV w b l)
    (h : ∀ w', IterV w' w.heap.size b l [] → Below w.heap.size w w' → w'.heap.size = w.heap.size + 1 → wpList P ops Q rest (a.put o.dst (.pointer (some ⟨w.heap.size, 0, none⟩))) w') : wpList P ops Q (o :: rest) a w := by
  refine wpList_plain hgd fun K' hK' => ?_
  obtain ⟨w', hrun, h1, h2, h3⟩ := run_rangeV ht hmap
  unfold Oper.wp
  simp only [execOp, hop, hm, hrun, Sem.run_bind, Sem.run_pure, Result.andThen_ok]
  exact hK' _ _ (h w' h1 h2 h3)
theorem op_next (hgd : o.guard = none) (m : Operand) (hop : o.op = Op.next m false)
    (hm : a.eval m = .pointer (some ⟨r, 0, none⟩)) (hi : IterV w r b l out) (hmap : MapV w b l)
    (h0 : out.Perm l → wpList P ops Q rest (a.put o.dst (.tuple #[.bool false])) w)
    (h : ∀ k v w', (k, v) ∈ l → out.length < l.length → IterV w' r b l (out ++ [(k, v)]) → Kp (· = r) w w' → (Instr.entry (.pointer (some ⟨r, 0, none⟩))).run P w' = .ok (.tuple #[.int .i64 k, v]) w' → wpList P ops Q rest (a.put o.dst (.tuple #[.bool true, .int .i64 k, v])) w') : wpList P ops Q (o :: rest) a w := by
  refine wpList_plain hgd fun K' hK' => ?_
  rcases run_nextV (P := P) o.type hi hmap with ⟨hp, hrun⟩ | ⟨k, v, w', h1, h2, hrun, h3, h4, h5⟩
  · unfold Oper.wp
    simp only [execOp, hop, hm, hrun, Sem.run_bind, Sem.run_pure, Result.andThen_ok]
    exact hK' _ _ (h0 hp)
  · unfold Oper.wp
    simp only [execOp, hop, hm, hrun, Sem.run_bind, Sem.run_pure, Result.andThen_ok]
    exact hK' _ _ (h k v w' h1 h2 h3 h4 h5)
end
end Go.Proofs.YtonkblhhknafbaaGreat
