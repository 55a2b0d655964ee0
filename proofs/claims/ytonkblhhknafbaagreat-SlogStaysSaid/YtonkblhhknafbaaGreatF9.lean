/- The walk of slices.SortFunc at cells, whatever order the sort ends in. Whatever the heap holds beside. -/
import Derived.Test.YtonkblhhknafbaaGreatF8
import Derived.Shelf.SlSortCmp.WholeK
import Derived.Test.YtonkblhhknafbaaGreatL9
namespace Go.Proofs.YtonkblhhknafbaaGreat
open Go.RowKit Go.Shelf Go.Sort

/-- a cell whose place is small -/
structure CS where
  at_ : Fin 4096
  ep : Int
  A : Option Addr
  n : Nat
  c : Nat
instance : Inhabited CS := ⟨⟨0, 0, none, 0, 0⟩⟩
def CS.cv (s : CS) : CV := ⟨(s.at_.val : Int), s.ep, s.A, s.n, s.c⟩
def encS (s : CS) : List Value := s.cv.vals
def flatS (d : Array CS) : List Value := flat (d.toList.map CS.cv)
theorem flatK_flat (d : Array CS) : (flatK encS 3 d).toList = flatS d := by
  apply List.ext_getElem?
  intro t
  by_cases ht : t < d.size * 3
  · have h1 : (flatK encS 3 d)[t]! = (encS d[t / 3]!)[t % 3]! := get_flatK encS 3 d t ht
    have hs : t < (flatK encS 3 d).size := by rw [size_flatK]; exact ht
    rw [Array.getElem?_toList, Array.getElem?_eq_getElem hs, ← getElem!_pos _ t hs, h1]
    have hi : t / 3 < d.size := by omega
    have hv : (d.toList.map CS.cv)[t / 3]? = some (d[t / 3]!).cv := by
      rw [List.getElem?_map, Array.getElem?_toList, Array.getElem?_eq_getElem hi, getElem!_pos d (t / 3) hi]; rfl
    obtain ⟨g0, g1, g2⟩ := flat_get _ _ _ hv
    have ht3 : t = t / 3 * 3 + t % 3 := by omega
    have hm : t % 3 = 0 ∨ t % 3 = 1 ∨ t % 3 = 2 := by omega
    unfold flatS
    obtain ⟨q, hq⟩ : ∃ q, q = t / 3 := ⟨_, rfl⟩
    rw [← hq] at g0 g1 g2 ht3 ⊢
    rcases hm with hm | hm | hm
    · rw [hm] at ht3 ⊢
      rw [ht3]; exact g0.symm
    · rw [hm] at ht3 ⊢
      rw [ht3]; exact g1.symm
    · rw [hm] at ht3 ⊢
      rw [ht3]; exact g2.symm
  · rw [List.getElem?_eq_none (by simp [size_flatK]; omega), List.getElem?_eq_none (by rw [flatS, flat_len]; simp; omega)]
theorem holdsK_of {w : World} {b off : Nat} {d : Array CS} (hc : ∀ j u, (flatS d)[j]? = some u → w.cell? ⟨b, off + j, none⟩ = some u) (hf : ∀ j, w.frozen? ⟨b, j, none⟩ = false) : HoldsK encS 3 w b off d := by
  intro j hj
  refine ⟨?_, hf _⟩
  rw [hc j ((flatK encS 3 d)[j]!) (by rw [← flatK_flat, Array.getElem?_toList, Array.getElem?_eq_getElem hj, getElem!_pos _ j hj])]
  rfl
theorem of_holdsK {w : World} {b off : Nat} {d : Array CS} (h : HoldsK encS 3 w b off d) : ∀ j u, (flatS d)[j]? = some u → w.cell? ⟨b, off + j, none⟩ = some u := by
  intro j u hu
  rw [← flatK_flat, Array.getElem?_toList] at hu
  have hj : j < (flatK encS 3 d).size := (Array.getElem?_eq_some_iff.1 hu).1
  rw [Array.getElem?_eq_getElem hj] at hu
  cases hu
  rw [(h j hj).1, getElem!_pos _ j hj]
  rfl
theorem cs_of : ∀ (vs : List CV), (∀ v ∈ vs, ∃ a : Nat, v.at_ = (a : Int) ∧ a < 4096) → ∃ ds : List CS, ds.map CS.cv = vs
  | [], _ => ⟨[], rfl⟩
  | v :: vs, h => by
    obtain ⟨ds, hds⟩ := cs_of vs (fun u hu => h u (.tail _ hu))
    obtain ⟨a, ha, hlt⟩ := h v (.head _)
    refine ⟨⟨⟨a, hlt⟩, v.ep, v.A, v.n, v.c⟩ :: ds, ?_⟩
    simp only [List.map_cons, hds]
    congr 1
    simp [CS.cv, ← ha]

/-- what is asked of a comparison -/
def CmpOk (g : Nat) (cf : CS → CS → Int) : Prop :=
  (∀ x y : CS, ∀ W : World, Calls Tryz.prog g #[.agg (encS x).toArray, .agg (encS y).toArray] W fun e w' => e = .returned (.int .i64 (cf x y)) ∧ ∃ q os', w' = grow (W.drewN q) os') ∧
  (∀ x y, ltOf cf x y = decide (x.at_.val < y.at_.val)) ∧ (∀ args w, (callFunc g args).run Tryz.prog w = .ok (.enter g args) w)

theorem kp_sortWorld {w : World} {b off n : Nat} {d : Array CS} {os : Array Obj} (_hb : b < w.heap.size) : Kp (· = b) w (sortWorldK encS 3 w b off n d os) := by
  refine ⟨rfl, rfl, rfl, size_sortWorldK_c encS 3 w b off n d os, fun k hk hne => ?_⟩
  unfold sortWorldK
  have h1 : (grow (putRowK encS 3 (Sort.ahead w n) b off d) os).heap[k]? = (putRowK encS 3 (Sort.ahead w n) b off d).heap[k]? := by
    show (_ ++ os)[k]? = _
    rw [Array.getElem?_append_left (by rw [size_putRowK]; exact hk)]
  rw [h1]
  simp only [putRowK, putRow, mapBlock, Sort.ahead]
  rw [Array.getElem?_modify, if_neg (fun e => hne e.symm)]

theorem sort_some (g : Nat) (cf : CS → CS → Int) (hg : CmpOk g cf) (b off m c : Nat) (ds : List CS) (w : World) (hm : ds.length = m) (hb : b < w.heap.size) (hc : ∀ j u, (flat (ds.map CS.cv))[j]? = some u → w.cell? ⟨b, off + j, none⟩ = some u) (hf : ∀ j, w.frozen? ⟨b, j, none⟩ = false) (hml : m < 4611686018427387904) :
    Calls Tryz.prog 59 #[.slice (some ⟨b, off, none⟩) m c, .func (.func g) #[] #[]] w fun e w' => e = .returned (.tuple #[]) ∧ ∃ ds' : List CS, ds'.Perm ds ∧ ds'.Pairwise (fun x y => x.at_.val ≤ y.at_.val) ∧ (∀ j u, (flat (ds'.map CS.cv))[j]? = some u → w'.cell? ⟨b, off + j, none⟩ = some u) ∧ Kp (· = b) w w' := by
  subst hm
  obtain ⟨h1, h2, h3⟩ := hg
  have hH : HoldsK encS 3 w b off ds.toArray := holdsK_of (by simpa [flatS] using hc) hf
  have hO : SWO (ltOf cf) := ⟨fun x => by rw [h2]; simp, fun x y z a b => by rw [h2] at *; simp at *; omega, fun x y z a b => by rw [h2] at *; simp at *; omega⟩
  have hcon := AnyQ.slices_SortFunc Tryz.sortC 3 Tryz.isAgg77 Tryz.sizeOf77 encS (fun _ => rfl) (fun x v hv => by simp [encS, CV.vals] at hv; rcases hv with rfl | rfl | rfl <;> rfl) cf hO g #[] b off c ds.toArray w h3 (fun m os dk hs x y => by simpa using h1 x y _) hH hb (by simpa using hml)
  change Calls Tryz.prog 59 _ _ _ at hcon
  rw [show ds.toArray.size = ds.length from rfl] at hcon
  refine hcon.mono ?_
  rintro e w' ⟨rfl, d', n, os, hp, hs, rfl⟩
  obtain ⟨p1, p2, p3⟩ := hp
  have hsz : d'.size = ds.length := by simpa using p1
  have hH' : HoldsK encS 3 (sortWorldK encS 3 w b off n d' os) b off d' := holdsK_sortWorldK_c encS 3 w b off ds.toArray d' n os hH hb p1
  have e1 : d'.extract 0 ds.length = d' := by rw [← hsz]; simp
  have e2 : ds.toArray.extract 0 ds.length = ds.toArray := by simp
  rw [e1, e2] at p3
  refine ⟨rfl, d'.toList, p3, ?_, of_holdsK hH', kp_sortWorld hb⟩
  rw [List.pairwise_iff_getElem]
  intro i j hi hj hij
  have := hs i j (Nat.zero_le _) hij (by simpa [hsz] using hj)
  rw [h2] at this
  simp at this hi hj
  rw [getElem!_pos d' i (by omega), getElem!_pos d' j (by omega)] at this
  simpa using this

set_option maxRecDepth 100000 in
set_option maxHeartbeats 1000000 in
/-- the comparison of Seal -/
theorem cmp60 : CmpOk 60 (fun x y => (x.at_.val : Int) - (y.at_.val : Int)) := by
  refine ⟨fun x y W => ?_, fun x y => ?_, enters_of Tryz.func60 (by kernel_rfl) rfl⟩
  · obtain ⟨⟨a, ha⟩, e1, A1, n1, c1⟩ := x
    obtain ⟨⟨b, hb⟩, e2, A2, n2, c2⟩ := y
    simp only [encS, CS.cv, CV.vals]
    have gw : IntKind.i64.wrap ((a : Int) - (b : Int)) = (a : Int) - (b : Int) := by rw [IntKind.wrap_i64]; omega
    go_enter Tryz.func60, Tryz.ntmps60
    go_wp2_with fail
    go_ret
    exact ⟨rfl, 0, _, by rw [alloc_eq_grow, alloc_eq_grow, grow_grow]; rfl⟩
  · unfold ltOf
    simp
    omega

set_option maxRecDepth 100000 in
set_option maxHeartbeats 1000000 in
/-- the comparison of Merge -/
theorem cmp64 : CmpOk 64 (fun x y => if x.at_.val < y.at_.val then -1 else 1) := by
  refine ⟨fun x y W => ?_, fun x y => ?_, enters_of Tryz.func64 (by kernel_rfl) rfl⟩
  · obtain ⟨⟨a, ha⟩, e1, A1, n1, c1⟩ := x
    obtain ⟨⟨b, hb⟩, e2, A2, n2, c2⟩ := y
    simp only [encS, CS.cv, CV.vals]
    by_cases hab : a < b
    · have gw : decide ((a : Int) < (b : Int)) = true := by simp; omega
      go_enter Tryz.func64, Tryz.ntmps64
      go_wp2_with fail
      go_ret
      exact ⟨by simp, 0, _, by rw [alloc_eq_grow, alloc_eq_grow, grow_grow]; rfl⟩
    · have gw : decide ((a : Int) < (b : Int)) = false := by simp; omega
      go_enter Tryz.func64, Tryz.ntmps64
      go_wp2_with fail
      go_ret
      exact ⟨by simp, 0, _, by rw [alloc_eq_grow, alloc_eq_grow, grow_grow]; rfl⟩
  · unfold ltOf
    by_cases h : x.at_.val < y.at_.val <;> simp [h]

set_option maxRecDepth 100000 in
set_option maxHeartbeats 1000000 in
theorem ins_none (g : Nat) (w : World) : Calls Tryz.prog 101 #[.slice none 0 0, .int .i64 0, .int .i64 0, .func (.func g) #[] #[]] w fun e w' => e = .returned (.tuple #[]) ∧ w = w' := by
  go_enter Tryz.func101, Tryz.ntmps101
  go_wp2_with fail
  refine wp_loop_once ?_
  go_wp2_with fail
  go_end0
  exact ⟨rfl, rfl⟩
set_option maxRecDepth 100000 in
set_option maxHeartbeats 1000000 in
theorem pdq_none (g bl : Nat) (w : World) : Calls Tryz.prog 87 #[.slice none 0 0, .int .i64 0, .int .i64 0, .int .i64 bl, .func (.func g) #[] #[]] w fun e w' => e = .returned (.tuple #[]) ∧ w = w' := by
  go_enter Tryz.func87, Tryz.ntmps87
  go_wp2_with fail
  refine wp_loop_once ?_
  go_wp2_with (go_at_call 101; apply hold)
  refine unhold ((ins_none g w).mono ?_)
  rintro e w1 ⟨rfl, rfl⟩
  go_wp2_with fail
  refine bodyPost_ret (results_none rfl _ _ _) rfl ?_
  exact ⟨rfl, rfl⟩
set_option maxRecDepth 100000 in
set_option maxHeartbeats 1000000 in
theorem sort_none (g : Nat) (w : World) : Calls Tryz.prog 59 #[.slice none 0 0, .func (.func g) #[] #[]] w fun e w' => e = .returned (.tuple #[]) ∧ w = w' := by
  have hl : Calls Tryz.prog 88 #[.int .u64 0] w fun e w' => e = .returned (.int .i64 (Lib.bitLen 0 : Nat)) ∧ w' = w := by
    have h := Any.bits_Len (SlLaysF0.n15.bits (P := Tryz.prog) { Tryz.sortC with }) (0 : Int) w (by omega) (by omega)
    exact h
  obtain ⟨bl, hbl⟩ : ∃ bl : Nat, Lib.bitLen 0 = bl := ⟨_, rfl⟩
  rw [hbl] at hl
  clear hbl
  go_enter Tryz.func59, Tryz.ntmps59
  go_wp2_with (first | (go_at_call 88; apply hold) | (go_at_call 87; apply hold))
  refine unhold (hl.mono ?_)
  rintro e w1 ⟨rfl, rfl⟩
  go_wp2_with (first | (go_at_call 88; apply hold) | (go_at_call 87; apply hold))
  refine unhold ((pdq_none g bl _).mono ?_)
  rintro e w2 ⟨rfl, rfl⟩
  go_wp2_with fail
  go_end0
  exact ⟨rfl, rfl⟩

/-- slices.SortFunc at cells of the call's own -/
theorem sort_own (g : Nat) (cf : CS → CS → Int) (hg : CmpOk g cf) (base : Nat) (A : Option Addr) (m c : Nat) (vs : List CV) (w : World) (hown : Own w base 77 3 A m c (flat vs)) (hbd : ∀ v ∈ vs, ∃ a : Nat, v.at_ = (a : Int) ∧ a < 4096) (hm : m ≤ 100000000) :
    Calls Tryz.prog 59 #[.slice A m c, .func (.func g) #[] #[]] w fun e w' => e = .returned (.tuple #[]) ∧ ∃ ds' : List CS, (ds'.map CS.cv).Perm vs ∧ ds'.Pairwise (fun x y => x.at_.val ≤ y.at_.val) ∧ Sl w' A (m * 3) (flat (ds'.map CS.cv)) ∧ Kp (fun k => ablk A = some k) w w' := by
  obtain ⟨ds, hds⟩ := cs_of vs hbd
  have hlen : vs.length = m := by have := hown.len; rw [flat_len] at this; omega
  have hcells := fun gb h => World.ownsRow.cells hown (g := gb) h
  rcases hown.2 with ⟨hv, h0⟩ | ⟨gb, cap, cur, hv, hgb, hh, _⟩
  · injection hv with q1 q2 q3
    subst q1 q3
    subst q2
    refine (sort_none g w).mono ?_
    rintro e w' ⟨rfl, rfl⟩
    have hvs : vs = [] := List.eq_nil_of_length_eq_zero hlen
    subst hvs
    exact ⟨rfl, [], .refl _, .nil, ⟨rfl, fun h => by omega⟩, Kp.refl _ _⟩
  · injection hv with q1 q2 q3
    subst q1 q3
    have h1 : ∀ j u, (flat (ds.map CS.cv))[j]? = some u → w.cell? ⟨gb, 0 + j, none⟩ = some u := fun j u hu => by
      rw [hds] at hu
      have := hcells gb rfl j u hu
      simpa [Addr.add_lit] using this
    have h2 : ds.length = m := by rw [← hlen, ← hds, List.length_map]
    have h3 : m < 4611686018427387904 := by omega
    refine (sort_some g cf hg gb 0 m c ds w h2 (lt_of_block hh) h1 (fun j => Blk.free (t := 77) (cs := cur) hh j) h3).mono ?_
    rintro e w' ⟨rfl, ds', hp, hs, hc, hk⟩
    have hlt := lt_of_block hh
    refine ⟨rfl, ds', hds ▸ hp.map CS.cv, hs, ⟨?_, fun _ => ⟨gb, 0, rfl, by have := hk.size; omega, hc⟩⟩, hk.mono (fun x _ h => by subst h; rfl)⟩
    rw [flat_len, List.length_map, hp.length_eq, h2]
end Go.Proofs.YtonkblhhknafbaaGreat
