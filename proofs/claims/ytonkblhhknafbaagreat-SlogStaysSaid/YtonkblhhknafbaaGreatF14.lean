/- The walk of quor.Merge. Whatever the heap holds beside. -/
import Derived.Test.YtonkblhhknafbaaGreatF13
namespace Go.Proofs.YtonkblhhknafbaaGreat
open Go.RowKit Go.Shelf

/-- one cell more onto a row of cells, as a step of a region -/
theorem step_app_cell {w : World} {ops : Array Oper} {o : Oper} {a : Act} {K : Act → World → Prop} {Q : Exit → Act → World → Prop} {E : Prop} (hgd : o.guard = none) (s x : Operand)
    (ho : o.op = .call { callee := .builtin .append, args := #[s, x], argTypes := #[71, 71] })
    (base : Nat) (A0 : Option Addr) (n c0 : Nat) (vs : List CV) (hs : a.eval s = .slice A0 n c0) (hown : Own w base 77 3 A0 n c0 (flat vs))
    (v : CV) (W : World) (hW : w = W.alloc (.cells #[.int .i64 v.at_, .int .i64 v.ep, .slice v.A v.n v.c] 77)) (hx : a.eval x = .slice (some ⟨W.heap.size, 0, none⟩) 1 1)
    (hlen : n + 1 ≤ 100000000) (hbase : base ≤ w.heap.size)
    (h : ∀ A' c' w', Own w' base 77 3 A' (n + 1) c' (flat (vs ++ [v])) → w.grownBy w' (ablk A0) → (ablk A' = ablk A0 ∨ ablk A' = some w.heap.size) → K (a.put o.dst (.slice A' (n + 1) c')) w') :
    if Region.wanted o (yielded ops a.tmps) = true then Oper.wp Tryz.prog o a w K Q else E := by
  have hw : Region.wanted o (yielded ops a.tmps) = true := by simp [Region.wanted, hgd]
  rw [if_pos hw]
  obtain ⟨i0, hi0, hz0, hz1, hz2⟩ := info_parts Tryz.info77
  subst hW
  obtain ⟨v', w', hrun, h2, h3, _, h4⟩ := run_append_own_at (P := Tryz.prog) (W.alloc (.cells #[.int .i64 v.at_, .int .i64 v.ep, .slice v.A v.n v.c] 77)) base 71 o.type 77 i0 _ 3 40 Tryz.underlying71 hi0 hz0 hz1 hz2 rfl (by omega) (.slice A0 n c0) n (flat vs) hown ⟨W.heap.size, 0, none⟩ 1 1 v.vals rfl
    (fun j u hu => by
      rw [Addr.add_lit, Nat.zero_add, World.cell?_alloc_at _ _ _ _ rfl]
      simpa [CV.vals] using hu) (by intro u hu; simp [CV.vals] at hu; rcases hu with rfl | rfl | rfl <;> rfl) (by unfold maxLen; omega) (by omega) hbase
  obtain ⟨A', c', rfl⟩ := own_form h2
  rw [own_blk] at h3
  rw [own_blk, own_blk] at h4
  have e : flat vs ++ v.vals = flat (vs ++ [v]) := by rw [flat_app]; simp [flat]
  rw [e] at h2
  unfold Oper.wp
  simp only [execOp, ho, resolve, invoke, builtin, Sem.run_bind, Sem.run_pure, Result.andThen_ok, List.map_toArray, List.map_cons, List.map_nil, hs, hx, hrun]
  exact h A' c' w' h2 h3 h4

theorem merge_step {w wY w8 w9 : World} {base mb : Nat} {L : List (Int × Value)} {gs : List (Int × List KC)} {v : CV} {q : KC} {Ag A8 : Option Addr} {ng cg c8 : Nat} {vg : List CV} {o : Obj}
    (hG : Groups wY (· < w.heap.size) base mb L gs) (hb : Below w.heap.size w wY) (hi1 : w.heap.size ≤ base) (hi2 : base ≤ mb) (hcv : CvM w (· < w.heap.size) v q)
    (hA : (look L v.at_).getD (.slice none 0 0) = .slice Ag ng cg) (hoA : Own wY base 77 3 Ag ng cg (flat vg)) (hcg : All2 (CvM wY (· < w.heap.size)) vg ((look gs v.at_).getD [])) (hne : ∀ p ∈ L, p.1 ≠ v.at_ → ∀ b, ablk Ag = some b → vblk p.2 ≠ some b)
    (ho8 : Own w8 base 77 3 A8 (ng + 1) c8 (flat (vg ++ [v]))) (hA8 : ablk A8 = ablk Ag ∨ ablk A8 = some (wY.drew.alloc o).heap.size) (hk8 : Kp (fun x => ablk Ag = some x) wY w8) (hm9 : MapV w9 mb (upd L v.at_ (.slice A8 (ng + 1) c8))) (hk9 : Kp (· = mb) w8 w9) :
    Groups w9 (· < w.heap.size) base mb (upd L v.at_ (.slice A8 (ng + 1) c8)) (addG gs q) ∧ Below w.heap.size w w9 := by
  have hz := hb.size
  have hz8 := hk8.size
  have hv8 : CvM w8 (· < w.heap.size) v q := hcv.keep (by omega) (fun k hk hlt => (hk8.block k (by omega) (fun e => by have := (hoA.lt e).1; omega)).trans (hb.block k hk)) (fun _ h => h)
  have hg8 : All2 (CvM w8 (· < w.heap.size)) (vg ++ [v]) ((look gs v.at_).getD [] ++ [q]) := All2.app (hcg.imp (fun a b _ _ h => h.keep hz8 (fun k hk hlt => hk8.block k hlt (fun e => by have := (hoA.lt e).1; omega)) (fun _ h => h))) (.cons hv8 .nil)
  refine ⟨?_, ?_⟩
  · have h := hG.store (fun k hk => by omega) v.at_ Ag A8 ng cg (ng + 1) c8 vg (vg ++ [v]) _ hA hoA hne ho8 hg8 (fun b e => ?_) hk8 hm9 hk9 hi2
    · unfold addG
      rw [← hcv.1]
      exact h
    · rcases hA8 with h | h
      · exact .inl (by rw [← h]; exact e)
      · rw [e] at h
        simp at h
        exact .inr (by omega)
  · exact below_kp (below_kp hb hk8 (fun x e => by have := (hoA.lt e).1; omega) hz) hk9 (fun x e => by omega) (by omega)

set_option maxRecDepth 100000 in
set_option maxHeartbeats 8000000 in
theorem merge_any (A : Option Addr) (n c : Nat) (rs : List (List KC)) (w : World) (F : Nat → Prop) (hr : Reps w F A n rs) (hok : ∀ cs ∈ rs, CellsOk cs) (htot : rs.flatten.length ≤ 1000000) (hn : n ≤ 1000000) :
    Calls Tryz.prog 31 #[.slice A n c] w fun e w' => ∃ (A' : Option Addr) (m' c' : Nat) (out : List KC), e = .returned (.slice A' m' c') ∧ RowM w' (w.heap.size ≤ ·) A' m' out ∧ Best rs out ∧ Below w.heap.size w w' := by
  have hr0 := hr.old
  have hnl := hr.len
  have Hnl := hide hnl
  clear hnl hr
  obtain ⟨rvs, hrs, hrA, hrall⟩ := hr0
  have hmm := @run_makeMap Tryz.prog
  go_enter Tryz.func31, Tryz.ntmps31
  go_wp2_with fail
  have hM0 : Groups (w.alloc (.map #[] 0)) (· < w.heap.size) w.heap.size w.heap.size [] [] := ⟨MapV.new w, .nil, fun p hp => by simp at hp⟩
  have hb0 : Below w.heap.size w (w.alloc (.map #[] 0)) := (Below.refl _ _).alloc (Nat.le_refl _) _
  have hs0 : (w.alloc (.map #[] 0)).heap.size = w.heap.size + 1 := by simp
  obtain ⟨w0, hw0⟩ : ∃ w0, w0 = w.alloc (.map #[] 0) := ⟨_, rfl⟩
  rw [← hw0] at hM0 hb0 hs0 ⊢
  clear hw0
  obtain ⟨mb, hmbe⟩ : ∃ mb, mb = w.heap.size := ⟨_, rfl⟩
  obtain ⟨base, hbe⟩ : ∃ base, base = w.heap.size := ⟨_, rfl⟩
  have hM1 : Groups w0 (· < w.heap.size) base mb [] [] := by rw [hmbe, hbe]; exact hM0
  clear hM0
  rw [← hmbe]
  have i1 : w.heap.size ≤ base := by omega
  have i2 : base ≤ mb := by omega
  have i3 : mb < w0.heap.size := by omega
  have i4 : base ≤ w.heap.size := by omega
  clear hmbe hbe hs0
  go_loopw [14] (fun v wr => ∃ (i : Nat) (L : List (Int × Value)) (gs : List (Int × List KC)), v = .int .i64 i ∧ i ≤ n ∧ Groups wr (· < w.heap.size) base mb L gs ∧ GInv gs (rs.take i).flatten ∧ Below w.heap.size w wr) (fun v _ => n - (intOf v).toNat)
  case atStart => exact ⟨0, [], [], rfl, by omega, hM1, GInv.nil, hb0⟩
  case round =>
    obtain ⟨i, L, gs, rfl, hi, hG, hgi, hbr⟩ := hrel
    by_cases hlt : i < n
    · obtain ⟨bA, offA, rv, rfl, hbA, hrv, hcA⟩ := hrs.at_ hlt
      obtain ⟨cs, hcs, A1, m1, c1, rfl, hrow⟩ := hrall.get hrv
      have hcA' : wr.cell? ⟨bA, offA + i, none⟩ = some (.slice A1 m1 c1) := (hbr.cell (p := ⟨bA, offA + i, none⟩) hbA).trans hcA
      obtain ⟨vs, hm1, hsl, hA1, hall⟩ := hrow
      have hcsm : cs ∈ rs := List.mem_of_getElem? hcs
      have hcok := hok cs hcsm
      have hlenv : vs.length = cs.length := hall.len
      have htk : (rs.take (i + 1)).flatten = (rs.take i).flatten ++ cs := by
        have : i < rs.length := (List.getElem?_eq_some_iff.1 hcs).1
        have e : rs.take (i + 1) = rs.take i ++ [cs] := by
          rw [List.take_succ_eq_append_getElem this]
          have := List.getElem?_eq_getElem this
          rw [hcs] at this
          cases this
          rfl
        rw [e]; simp
      have htotk : (rs.take i).flatten.length + cs.length ≤ 1000000 := by
        have h1 : (rs.take (i + 1)).flatten.length ≤ rs.flatten.length := by
          conv => rhs; rw [← List.take_append_drop (i + 1) rs]
          rw [List.flatten_append, List.length_append]; omega
        rw [htk, List.length_append] at h1
        omega
      have Htk := hide htk
      clear htk
      obtain ⟨seen0, hseen0⟩ : ∃ s, s = (rs.take i).flatten := ⟨_, rfl⟩
      rw [← hseen0] at hgi htotk
      have Hseen := hide hseen0
      clear hseen0
      obtain ⟨wo, hwo⟩ : ∃ wo, wo = wr := ⟨_, rfl⟩
      go_wp2_with fail
      go_loopw [20] (fun v wq => ∃ (j : Nat) (L : List (Int × Value)) (gs : List (Int × List KC)), v = .int .i64 j ∧ j ≤ m1 ∧ Groups wq (· < w.heap.size) base mb L gs ∧ GInv gs (seen0 ++ cs.take j) ∧ Below w.heap.size w wq) (fun v _ => m1 - (intOf v).toNat)
      case atStart => exact ⟨0, L, gs, rfl, by omega, hG, by simpa using hgi, hbr⟩
      case round =>
        obtain ⟨j, L2, gs2, rfl, hj, hG2, hgi2, hbq⟩ := hrel
        by_cases hlt2 : j < m1
        · have hjv : j < vs.length := by omega
          have hvj : vs[j]? = some vs[j] := List.getElem?_eq_getElem hjv
          obtain ⟨v, hve⟩ : ∃ v, v = vs[j] := ⟨_, rfl⟩
          rw [← hve] at hvj
          clear hve
          obtain ⟨q, hq, hcv⟩ := hall.get hvj
          obtain ⟨b1, off1, rfl, hb1, hcell⟩ := hsl.2 (by omega)
          obtain ⟨g0, g1, g2⟩ := flat_get vs j v hvj
          have kk := fun o u hu => (hbq.cell (p := ⟨b1, off1 + o, none⟩) hb1).trans (hcell o u hu)
          have c0 := kk _ _ g0
          have c1' := kk _ _ g1
          have c2 := kk _ _ g2
          rw [← Nat.add_assoc] at c1' c2
          clear g0 g1 g2 kk hcell
          have hbqz := hbq.size
          have htk2 : cs.take (j + 1) = cs.take j ++ [q] := by
            have h1 : j < cs.length := by omega
            rw [List.take_succ_eq_append_getElem h1]
            have h2 := List.getElem?_eq_getElem h1
            rw [hq] at h2
            cases h2
            rfl
          go_wp2_with fail
          have hY : Blk (wr.alloc (.cells #[.int .i64 v.at_, .int .i64 v.ep, .slice v.A v.n v.c] 77)) wr.heap.size 77 #[.int .i64 v.at_, .int .i64 v.ep, .slice v.A v.n v.c] := Blk.new _ _ _
          have hwY : Below wr.heap.size wr (wr.alloc (.cells #[.int .i64 v.at_, .int .i64 v.ep, .slice v.A v.n v.c] 77)) := (Below.refl _ _).alloc (Nat.le_refl _) _
          have hsY : (wr.alloc (.cells #[.int .i64 v.at_, .int .i64 v.ep, .slice v.A v.n v.c] 77)).heap.size = wr.heap.size + 1 := by simp
          obtain ⟨wY, hwYe⟩ : ∃ wY, wY = wr.alloc (.cells #[.int .i64 v.at_, .int .i64 v.ep, .slice v.A v.n v.c] 77) := ⟨_, rfl⟩
          rw [← hwYe] at hY hwY hsY ⊢
          clear hwYe
          obtain ⟨Y, hYe⟩ : ∃ Y, Y = wr.heap.size := ⟨_, rfl⟩
          rw [← hYe] at hY ⊢
          have i6 : Y < wY.heap.size := by omega
          have i7 : wr.heap.size ≤ Y := by omega
          clear hYe
          have hGY : Groups wY (· < w.heap.size) base mb L2 gs2 := by
            refine ⟨hG2.1.of_eq (hwY.block _ hG2.1.lt), All2.imp hG2.2.1 (fun p g _ _ h => ⟨h.1, h.2.keep hwY.size (fun k hk hlt => hwY.block k hlt) (fun k _ _ hlt => hwY.block k hlt)⟩), hG2.2.2⟩
          obtain ⟨Ag, ng, cg, vg, hgv, hog, hcg, hneg⟩ := hGY.at_ v.at_
          have hkL := hGY.keys hgi2.keys
          have hlkA : (Instr.lookup 122 (.map (some mb)) (.int .i64 v.at_) false).run Tryz.prog wY.drew = .ok (.slice Ag ng cg) wY.drew := by
            have := run_lookV (w := wY.drew) (P := Tryz.prog) Tryz.underlying122 Tryz.underlying3 Tryz.zero71 hGY.1 hkL v.at_ false
            rw [hgv] at this; exact this
          have hlkB : (Instr.lookup 122 (.map (some mb)) (.int .i64 v.at_) false).run Tryz.prog (wY.alloc (.cells #[.int .i64 v.at_, .int .i64 v.ep, .slice v.A v.n v.c] 77)).drew = .ok (.slice Ag ng cg) (wY.alloc (.cells #[.int .i64 v.at_, .int .i64 v.ep, .slice v.A v.n v.c] 77)).drew := by
            have := run_lookV (w := (wY.alloc (.cells #[.int .i64 v.at_, .int .i64 v.ep, .slice v.A v.n v.c] 77)).drew) (P := Tryz.prog) Tryz.underlying122 Tryz.underlying3 Tryz.zero71 (MapV.alloc (w := wY) hGY.1 _) hkL v.at_ false
            rw [hgv] at this; exact this
          have hngl : ng ≤ 1000000 := by
            have h1 := hog.len
            rw [flat_len] at h1
            have h2 := hcg.len
            have h3 : ((look gs2 v.at_).getD []).length ≤ (seen0 ++ cs.take j).length := by
              cases hl : look gs2 v.at_ with
              | none => simp
              | some g => exact (hgi2.of _ _ hl).2.2
            rw [List.length_append, List.length_take] at h3
            omega
          obtain ⟨x0, x1, x2, y0, y1, y2⟩ := Blk.c3 hY
          obtain ⟨x0', x1', x2', y0', y1', y2'⟩ := Blk.c3 (hY.alloc (.cells #[.int .i64 v.at_, .int .i64 v.ep, .slice v.A v.n v.c] 77))
          have hYA : ablk Ag ≠ some Y := by
            intro e
            have h1 := hog.lt e
            obtain ⟨_, _, _, _, h2, h3, h4⟩ := hG2.at_ v.at_
            rw [hgv] at h2
            cases h2
            have := (h3.lt e).2
            omega
          go_region_law
            (refine step_app_cell rfl (.tmp 30) (.tmp 32) rfl base Ag ng cg vg (by simp [Act.eval]) (Own.alloc (w := wY.drew) hog _) v wY.drew rfl (by simp [Act.eval]) (by omega) (by simp; omega) ?_
             intro A8 c8 w8 ho8 hg8 hA8
             have hk8 : Kp (fun x => ablk Ag = some x) wY w8 := (((Kp.refl _ wY).drew).alloc _).grown hg8 (fun x e _ => e)
             have hm8 : MapV w8 mb L2 := hGY.1.of_eq (hk8.block _ hGY.1.lt (hGY.1.ne_own hog))
             obtain ⟨w9, hup, hm9, hk9⟩ := run_updV (P := Tryz.prog) Tryz.underlying122 Tryz.underlying3 hm8 hkL v.at_ (.slice A8 (ng + 1) c8)
             obtain ⟨z0, z1, z2, z3, z4, z5⟩ := Blk.c3 (hk8.blk hY hYA)
             clear hg8)
          all_goals
            go_wp2_with fail
            go_roundw
            case rel =>
              obtain ⟨u1, u2⟩ := merge_step hGY (hbq.trans (hwY.mono hbqz)) i1 i2 hcv hgv hog hcg hneg ho8 hA8 hk8 hm9 hk9
              exact ⟨j + 1, _, _, rfl, by omega, u1, by rw [htk2, ← List.append_assoc]; exact hgi2.add q, u2⟩
            case measure => simp [intOf]; omega
        · obtain rfl : j = m1 := by omega
          go_wp2_with fail
          go_roundw
          case rel =>
            refine ⟨i + 1, L2, gs2, rfl, by omega, hG2, ?_, hbq⟩
            rw [Htk.out, ← Hseen.out]
            rwa [List.take_of_length_le (by omega)] at hgi2
          case measure => simp [intOf]; omega
    · obtain rfl : i = n := by omega
      go_wp2_with (first | (at_range; apply hold))
      refine unhold (op_range rfl _ 122 rfl Tryz.underlying122 rfl hG.1 ?_)
      intro w1 hit1 hb1 hz1
      have hbz := hbr.size
      have hG1 : Groups w1 (· < w.heap.size) base mb L gs := ⟨hG.1.of_eq (hb1.block _ hG.1.lt), All2.imp hG.2.1 (fun p g _ _ h => ⟨h.1, h.2.keep hb1.size (fun k hk hlt => hb1.block k hlt) (fun k _ _ hlt => hb1.block k hlt)⟩), hG.2.2⟩
      have hb01 : Below w.heap.size w w1 := hbr.trans (hb1.mono hbz)
      rw [List.take_of_length_le (by rw [Hnl.out]; exact Nat.le_refl _)] at hgi
      obtain ⟨r, hre⟩ : ∃ r, r = wr.heap.size := ⟨_, rfl⟩
      rw [← hre] at hit1 hz1 ⊢
      have i8 : wr.heap.size ≤ r := by omega
      have i9 : r < w1.heap.size := by omega
      have i10 : w1.heap.size ≤ r + 1 := by omega
      have i11 : mb < r := by have := hG.1.lt; omega
      clear hre hz1
      have hLl : L.length ≤ 1000000 := by
        have h1 := All2.len hG1.2.1
        have := hgi.len
        omega
      have hkL := hG1.keys hgi.keys
      have hLr : ∀ p ∈ L, ∀ b, vblk p.2 = some b → b < r := fun p hp b e => by have := (hG.lt hp e).2.1; omega
      have hcks : ∀ q ∈ rs.flatten, ∃ a : Nat, q.1 = (a : Int) ∧ a < 4096 ∧ q.2.1 ≤ 1048576 ∧ q.2.2.length ≤ 2048 := fun q hq => by
        obtain ⟨cs, h1, h2⟩ := List.mem_flatten.1 hq
        exact hok cs h1 q h2
      have Hcks := hide hcks
      clear hcks
      go_wp2_with fail
      go_frame
      go_loopw [8] (fun v wq => ∃ A m c dn out vs, v = .slice A m c ∧ m = dn.length ∧ IterV wq r mb L dn ∧ Groups wq (· < w.heap.size) base mb L gs ∧ Own wq (r + 1) 77 3 A m c (flat vs) ∧ All2 (OwK wq (r + 1)) vs out ∧ All2 (fun (q : KC) (p : Int × Value) => ∃ g, look gs p.1 = some g ∧ q ∈ g ∧ ∀ q' ∈ g, q'.2.1 ≤ q.2.1) out dn ∧ Below w.heap.size w wq ∧ r < wq.heap.size) (fun v _ => L.length - sliceLen v)
      case atStart => exact ⟨none, 0, 0, [], [], [], rfl, rfl, hit1, hG1, Own.nil _ _ _ _, .nil, .nil, hb01, i9⟩
      case round =>
        obtain ⟨A5, m5, c5, dn, out, vs, rfl, rfl, hit, hGq, hown, hall, hbest, hbq, hrlt⟩ := hrel
        go_wp2_with (first | (at_next; apply hold))
        refine unhold (op_next rfl _ rfl rfl hit hGq.1 ?_ ?_)
        · intro hperm
          go_wp2_with (first | (go_at_call 59; apply hold))
          have hlen : vs.length = out.length := hall.len
          have hlen2 : out.length = dn.length := hbest.len
          have hbd : ∀ v ∈ vs, ∃ a : Nat, v.at_ = (a : Int) ∧ a < 4096 := by
            intro v hv
            obtain ⟨q, hq, a1, _⟩ := hall.mem hv
            obtain ⟨p, _, g, hg, hqg, _⟩ := hbest.mem hq
            obtain ⟨a, b1, b2, _⟩ := Hcks.out q ((hgi.of _ _ hg).2.1 q hqg).2
            exact ⟨a, a1.trans b1, b2⟩
          have hdl : dn.length ≤ 1000000 := by rw [hperm.length_eq]; exact hLl
          refine unhold ((sort_own 64 _ cmp64 (r + 1) A5 dn.length c5 vs wr hown hbd (by omega)).mono ?_)
          rintro x w7 ⟨rfl, ds', hpd, hsd, hcd, hk7⟩
          have hz7 := hk7.size
          have hzb := hbq.size
          have hb7 : Below w.heap.size w w7 := below_kp hbq hk7 (fun x h => by have := (hown.lt h).1; omega) hbq.size
          go_wp2_with fail
          go_ret
          obtain ⟨m2, hm2, hT2⟩ := All2.perm (l1 := ds'.map CS.cv) hpd hall
          have hlen3 : (ds'.map CS.cv).length = dn.length := by rw [hpd.length_eq, hlen, hlen2]
          have hko : Keys out := keys_of_best hgi hkL hperm hbest
          have hsrt : (m2.map (·.1)).Pairwise (· < ·) := sorted_of (hT2.imp (fun v q _ _ h => h.1)) hsd ((perm_keys hm2).2 hko)
          have hT7 : All2 (CvM w7 (w.heap.size ≤ ·)) (ds'.map CS.cv) m2 := hT2.imp (fun v q _ _ ⟨a1, a2, a3⟩ => by
            have o7 : OwnB w7 (r + 1) v.A v.n v.c q.2.2 := a3.kp hk7 (fun x e _ hS => hown.ne_own a3.own (by decide) e hS)
            exact ⟨a1, a2, o7.sl, o7.cap.1, o7.cap.2, fun g e => ⟨by have := (o7.lt e).1; omega, (o7.lt e).2⟩⟩)
          exact ⟨A5, dn.length, c5, m2, rfl, ⟨ds'.map CS.cv, hlen3.symm, hcd, fun g e => ⟨by have := (hown.lt e).1; omega, by have := (hown.lt e).2; omega⟩, hT7⟩, best_of hgi hG1.2.1.keys hperm hbest hm2 hsrt, hb7⟩
        · intro k v w5 hkv hdlt hit5 hk5 hen
          obtain ⟨g, hg, hg1, hgv⟩ := All2.mem hGq.2.1 hkv
          obtain ⟨Ag, ng, cg, vg, rfl, hog, hcg⟩ := hgv
          have hz5 := hk5.size
          go_wp2_with (first | (go_at_call 62; apply hold) | (go_at_call 61; apply hold) | (at_builtin; apply hold))
          have hg1' : k = g.1 := hg1
          subst hg1'
          clear hg1
          have hk5z := hk5.size
          have hb5 : Below w.heap.size w w5 := below_kp hbq hk5 (fun x h => by have := hbq.size; omega) hbq.size
          have hGq5 : Groups w5 (· < w.heap.size) base mb L gs := hGq.keepR hLr i11 (by omega) hk5z (fun k hk hlt => hk5.block k hlt (by omega))
          have hagr : ∀ b, ablk Ag = some b → b < r := fun b e => hLr _ hkv b e
          have hog5 : Own w5 base 77 3 Ag ng cg (flat vg) := hog.kp hk5 (fun x e _ hS => by have := hagr x e; omega)
          have hcg5 : All2 (CvM w5 (· < w.heap.size)) vg g.2 := hcg.imp (fun a b _ _ h => h.keep hk5z (fun k hk hlt => hk5.block k hlt (by have := hbq.size; omega)) (fun _ h => h))
          have hlk : look gs g.1 = some g.2 := look_of hgi.keys hg
          obtain ⟨hgne, hgm, hgl⟩ := hgi.of _ _ hlk
          have hvgl : vg.length = g.2.length := hcg.len
          have hngl : ng = vg.length := by have := hog.len; rw [flat_len] at this; omega
          have hg0 : 0 < g.2.length := by cases h : g.2 with | nil => exact absurd h hgne | cons a b => simp
          have hown5 : Own w5 (r + 1) 77 3 A5 dn.length c5 (flat vs) := hown.kp hk5 (fun x e _ hS => by have := (hown.lt e).1; omega)
          have hall5 : All2 (OwK w5 (r + 1)) vs out := hall.imp (fun a b _ _ ⟨h1, h2, h3⟩ => ⟨h1, h2, h3.kp hk5 (fun x e _ hS => by have := (h3.lt e).1; omega)⟩)
          refine unhold ((best_any Ag ng cg vg w5 hog5.sl3 (by omega) hog5.cap.1 (by omega)).mono ?_)
          rintro x w6 ⟨v', rfl, hvm, hvmax, hb6⟩
          have hz6 := hb6.size
          obtain ⟨q', hq', b1, b2, b3, b4, b5, b6⟩ := hcg5.mem hvm
          obtain ⟨a', e', A', n', c'⟩ := v'
          simp only [] at b1 b2 b3 b4 b5 b6
          have hq'l := Hcks.out q' (hgm q' hq').2
          have hn' : n' ≤ 2048 := by
            obtain ⟨_, _, _, _, h⟩ := hq'l
            have := b3.1
            rw [u8s_len] at this
            omega
          have hqk : q'.1 = g.1 := (hgm q' hq').1
          have hmaxg : ∀ q'' ∈ g.2, q''.2.1 ≤ q'.2.1 := fun q'' h => by
            obtain ⟨u, hu, hcu⟩ := hcg5.mem' h
            have h1 := hvmax u hu
            have h2 := hcu.2.1
            simp only [] at h1
            omega
          have hw6 : Below w.heap.size w w6 := hb5.trans (hb6.mono hb5.size)
          obtain rfl : a' = g.1 := b1.trans hqk
          subst b2
          have Hqk := hide hqk
          clear hqk b1
          go_wp2_with (first | (go_at_call 62; apply hold) | (go_at_call 61; apply hold) | (at_builtin; apply hold))
          refine unhold ((own_any g.1 (q'.2.1 : Int) A' n' c' q'.2.2 w6 (b3.below hb6) (by omega)).mono ?_)
          rintro x w7 ⟨A7, c7, rfl, o7, hb7⟩
          have hz7 := hb7.size
          have hb57 : Below w5.heap.size w5 w7 := hb6.trans (hb7.mono hz6)
          have hown7 := hown5.below hb57
          go_wp2_with (first | (go_at_call 62; apply hold) | (go_at_call 61; apply hold) | (at_builtin; apply hold))
          have hdl : dn.length ≤ 1000000 := by omega
          refine unhold (app_cell rfl (.tmp 42) (.tmp 46) rfl (r + 1) A5 _ c5 vs rfl (hown7.alloc _) ⟨g.1, q'.2.1, A7, n', c7⟩ w7 rfl rfl (by omega) (by simp; omega) ?_)
          intro A8 c8 w8 ho8 hg8 hA8
          have h78 : Kp (fun x => ablk A5 = some x) w7 w8 := ((Kp.refl _ w7).alloc _).grown hg8 (fun x e _ => e)
          have h58 : Kp (fun x => ablk A5 = some x) w5 w8 := (Kp.below hb57).trans h78 (fun _ _ h => h)
          have hz8 := h58.size
          clear hg8
          go_wp2_with fail
          go_roundw
          case rel =>
            refine ⟨A8, _, c8, dn ++ [(g.1, _)], out ++ [q'], vs ++ [⟨g.1, q'.2.1, A7, n', c7⟩], rfl, by simp, hit5.of_eq (h58.block r (by omega) (fun e => by have := (hown5.lt e).1; omega)), hGq5.keepR hLr i11 (by omega) hz8 (fun k hk hlt => h58.block k hlt (fun e => by have := (hown5.lt e).1; omega)), ho8, ?_, ?_, below_kp hb5 h58 (fun x e => by have := (hown5.lt e).1; omega) hb5.size, by omega⟩
            · refine All2.app (hall5.imp (fun a b _ _ ⟨h1, h2, h3⟩ => ⟨h1, h2, h3.kp h58 (fun x e _ hS => hown5.ne_own h3.own (by decide) e hS)⟩)) (.cons ⟨Hqk.out.symm, rfl, ?_⟩ .nil)
              have o7' : OwnB w7 (r + 1) A7 n' c7 q'.2.2 := o7.mono (by omega)
              exact o7'.kp h78 (fun x e _ hS => hown7.ne_own o7'.own (by decide) e hS)
            · exact All2.app hbest (.cons ⟨g.2, hlk, hq', hmaxg⟩ .nil)
          case measure => simp [sliceLen]; omega
end Go.Proofs.YtonkblhhknafbaaGreat
