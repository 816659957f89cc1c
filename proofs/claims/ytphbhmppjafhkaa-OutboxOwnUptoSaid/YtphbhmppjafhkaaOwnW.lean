/-
  PROVED: the walk of OutboxOwn, where there are not too many steps.
-/
import Derived.Test.YtphbhmppjafhkaaOwnS
namespace Go.Proofs.Ytphbhmppjafhkaa
open Go.RowKit

theorem push_last {t : St} {k : Nat} (h : t.last = min k 4096) (x : Int) : (t.push x).2.2.last = min (k + 1) 4096 := by
  unfold St.push
  by_cases h4 : t.last = 4096
  · rw [if_pos h4]
    show t.last = _
    omega
  · rw [if_neg h4]
    show t.a + (t.xs ++ [x]).length = _
    unfold St.last at *
    simp
    omega

set_option maxHeartbeats 4000000 in
set_option maxRecDepth 100000 in
theorem own_walk (A B : Option Addr) (c d : Nat) (w : World) (xs : List Int) (ops : List GOp) (hx : Reads w 1 A xs.length (ev cI xs)) (hy : OpsAt w B ops) (hxb : xs.length ≤ 1048576) (hob : ops.length ≤ 1048576) :
    Calls Try.prog 4 #[.slice A xs.length c, .slice B ops.length d] w fun e w' => e = .returned (.bool true) ∧ Chg [] w w' := by
  have eL : IntKind.i64.wrap ((xs.length : Int) + ops.length) = (xs.length : Int) + ops.length := IntWalk.i64_in _ (by omega)
  go_enter Try.func4, Try.ntmps4
  go_wp2_with fail
  refine (new_ok w 5 (by omega) (by omega)).mono ?_
  rintro e w1 ⟨pd, Sd, rfl, hd, hcd, hSd⟩
  go_wp2_with fail
  refine (new_ok w1 5 (by omega) (by omega)).mono ?_
  rintro e w2 ⟨pw, Sw, rfl, hw, hcw, hSw⟩
  have hS2 : OSt w (w2.alloc (.cells #[.slice none 0 0, .slice none 0 0] 44)) pd pw w2.heap.size St.new St.new 0 [] := by
    have q : Chg [] w2 (w2.alloc (.cells #[.slice none 0 0, .slice none 0 0] 44)) := (Chg.refl _ _).alloc _
    have hd2 := hd.keep hcw (by simp)
    have s1 := hcd.size
    have s2 := hcw.size
    refine ⟨Sd, Sw, [w2.heap.size], [], [], hd2.keep q (by simp), hw.keep q (by simp), KeptAt.none_ w2, by simp, ?_, ?_, ?_, ?_, by simp, (hcd.next hcw).next q⟩
    · intro k hk hm
      have := hd.lt k hk; have := hSw k hm; omega
    · intro k hk hm
      simp at hk; subst hk; have := hd2.lt _ hm; omega
    · intro k hk hm
      simp at hk; subst hk; have := hw.lt _ hm; omega
    · intro k hk
      simp only [List.mem_append, List.mem_singleton, List.not_mem_nil, or_false] at hk
      rcases hk with hk | hk | hk
      · exact hSd k hk
      · have := hSw k hk; omega
      · omega
  clear hd hw hcd hcw hSd hSw
  go_wp2_with (go_at_call 11; refine (num_calls _ _).mono ?_; rintro e w' ⟨rfl, rfl⟩)
  generalize w2.alloc (.cells #[.slice none 0 0, .slice none 0 0] 44) = w3 at *
  generalize w2.heap.size = q at *
  go_loopw [10] (fun i wr => ∃ (k : Nat) (t : St), k ≤ xs.length + ops.length ∧ i = .int .i64 k ∧ OSt w wr pd pw q t t (4 * k) [] ∧ (k ≤ xs.length → t.last = min k 4096)) (fun i _ => xs.length + ops.length - (intOf i).toNat)
  case atStart => exact ⟨0, St.new, Nat.zero_le _, rfl, hS2, fun _ => rfl⟩
  case round =>
    clear hS2
    obtain ⟨k, t, hk, rfl, hS, hlt0⟩ := hrel
    have HLT := Lib.hid hlt0
    clear hlt0
    by_cases hlt : k < xs.length + ops.length
    · have hlt' : (k : Int) < (xs.length : Int) + ops.length := by omega
      by_cases hf : k < xs.length
      · have hf' : (k : Int) < xs.length := by omega
        obtain ⟨ad, u, rfl, hu, hcell0⟩ := (hx.keep hS.chg (by simp)).at_ hf
        rw [ev_cI_get hf] at hu
        obtain rfl : Value.int .i64 xs[k] = u := by injection hu
        have hcell := ((Chg.refl [] wr).alloc (.cells #[.int .i64 1, .int .i64 0, .int .i64 0] 32)).cell hcell0 (by simp)
        clear hu hcell0
        have hbo : Blk (wr.alloc (.cells #[.int .i64 1, .int .i64 0, .int .i64 xs[k]] 32)) wr.heap.size 32 #[.int .i64 1, .int .i64 0, .int .i64 xs[k]] := Blk.new _ _ _
        have hS4 := hS.grow ((Chg.refl _ _).alloc (.cells #[.int .i64 1, .int .i64 0, .int .i64 xs[k]] 32)) (Nat.le_refl _)
        have HBO := Lib.hid hbo
        have HS4 := Lib.hid hS4
        clear hbo hS4 hS
        go_wp2_with fail
        generalize wr.alloc (.cells #[.int .i64 1, .int .i64 0, .int .i64 xs[k]] 32) = w4 at *
        generalize wr.heap.size = o1 at *
        have b0 := HBO.out.cell 0
        have b1 := HBO.out.cell 1
        have b2 := HBO.out.cell 2
        have hD : Calls Try.prog 19 #[.pointer (some ⟨pd, 0, none⟩), .agg #[.int .i64 1, .int .i64 0, .int .i64 xs[k]]] w4.drew fun e w' => e = .returned (.int .i64 (actF ⟨1, 0, xs[k]⟩ 5 t).1) ∧ OSt w w' pd pw q (actF ⟨1, 0, xs[k]⟩ 5 t).2 t (4 * k) [o1] ∧ Far [o1] w4.drew w' := (HS4.out.drewN 1).actD (fun i hi => by simp at hi; subst hi; exact HBO.out.lt) ⟨1, 0, xs[k]⟩
        have HD := Lib.hid hD
        clear hD
        go_wp2_with fail
        go_region_law (first
          | (go_simp; go_at_call 19; with_reducible refine Calls.mono HD.out ?_
             rintro e w5 ⟨rfl, hS5, hF5⟩
             have hro5 : Blk w5 o1 32 #[.int .i64 1, .int .i64 0, .int .i64 xs[k]] := hF5.blk (HBO.out.drewN 1) (by simp)
             have b50 := hro5.cell 0
             have b51 := hro5.cell 1
             have b52 := hro5.cell 2
             have hW := hS5.actW (fun i hi => by simp at hi; subst hi; exact hro5.lt) ⟨1, 0, xs[k]⟩)
          | (go_simp; go_at_call 19; refine hW.mono ?_
             rintro e w6 ⟨rfl, hS6, hF6⟩))
        all_goals
          obtain ⟨t6, ht6⟩ : ∃ t6, t6 = (actF ⟨1, 0, xs[k]⟩ 5 t).2 := ⟨_, rfl⟩
          have HL6 : Hid (k + 1 ≤ xs.length → t6.last = min (k + 1) 4096) := fun h => by
            rw [ht6]
            exact push_last (HLT.out (by omega)) xs[k]
          rw [← ht6] at hS6
          have HS6 := Lib.hid hS6
          clear ht6 hS6 hF6 hS5 hF5 hro5 hW b0 b1 b2 b50 b51 b52
          have hok6 := Lib.hid HS6.out.okD
          go_wp2_with fail
          refine HS6.out.lastD.mono ?_
          rintro e w' ⟨rfl, q1, rfl⟩
          go_wp2_with fail
          refine (HS6.out.drewN q1).lastW.mono ?_
          rintro e w' ⟨rfl, q2, rfl⟩
          have hS12 := Lib.hid (HS6.out.drewN (q1 + q2))
          go_wp2_with fail
          refine hS12.out.ackedD.mono ?_
          rintro e w' ⟨rfl, rfl⟩
          go_wp2_with fail
          refine hS12.out.ackedW.mono ?_
          rintro e w' ⟨rfl, rfl⟩
          go_wp2_with fail
          refine hS12.out.leftD.mono ?_
          rintro e w13 ⟨z13, rfl, hr13, hS13, hF13, hz13⟩
          go_wp2_with fail
          refine hS13.leftW.mono ?_
          rintro e w14 ⟨z14, rfl, hr14, hS14, hF14, hz14⟩
          have hr134 := hF14.row hr13 (by simp)
          go_wp2_with fail
          refine (sameList_yes (by have := hok6.out.2.2; omega) hr134 hr14).mono ?_
          rintro e w' ⟨rfl, q14, rfl⟩
          have HSF := Lib.hid (hS14.drewN q14)
          clear hr13 hr14 hr134 hS13 hS14 hF13 hF14 hz13 hz14 hS12
          obtain ⟨Q9, C9, ks, hK9, hks⟩ := HSF.out.kept
          obtain ⟨LA, LC, WA, WC, lv, wv, rfl, hb9, hl9, hw9, ha9, cl, cw, hd9, hlt9⟩ := hK9
          have c0 := hb9.cell 0
          have c1 := hb9.cell 1
          have CL := Lib.hid cl
          have CW := Lib.hid cw
          have HL := Lib.hid hl9
          have HW := Lib.hid hw9
          have hksb : ks.length ≤ 67108864 := by omega
          clear cl cw hl9 hw9 ha9 hd9 hlt9 hb9
          go_wp2_with fail
          generalize w14.drewN q14 = wz at *
          go_loopw [16] (fun j wj => ∃ j0 n : Nat, j0 ≤ ks.length ∧ j = .int .i64 j0 ∧ Hid (wj = wz.drewN n)) (fun j _ => ks.length - (intOf j).toNat)
          case atStart => exact ⟨0, 0, Nat.zero_le _, rfl, rfl⟩
          case round =>
            obtain ⟨j, nj, hj, rfl, hwr⟩ := hrel
            have c0' : wr.cell? ⟨q, 0, none⟩ = some (.slice LA ks.length LC) := by rw [hwr.out]; exact c0
            have c1' : wr.cell? ⟨q, 1, none⟩ = some (.slice WA ks.length WC) := by rw [hwr.out]; exact c1
            by_cases hjl : j < ks.length
            · obtain ⟨A, an, ac, hA, rA, nA, _⟩ := CL.out.2 j ks[j] (List.getElem?_eq_getElem hjl)
              obtain ⟨B2, bn, bc, hB, rB, nB, _⟩ := CW.out.2 j ks[j] (List.getElem?_eq_getElem hjl)
              obtain ⟨ad1, u, rfl, hu, hcu⟩ := HL.out.reads.at_ hjl
              obtain ⟨bd1, v, rfl, hv, hcv⟩ := HW.out.reads.at_ hjl
              rw [hA] at hu
              rw [hB] at hv
              injection hu with hu
              injection hv with hv
              subst hu hv
              have e1 := rA.1
              have e2 := rB.1
              rw [itv_length cI_len] at e1 e2
              obtain rfl : an = bn := by omega
              clear e1 e2
              generalize ks[j] = kk at *
              have hcu' : wr.cell? (ad1.add j) = some (.slice A an ac) := by rw [hwr.out]; exact hcu
              have hcv' : wr.cell? (bd1.add j) = some (.slice B2 an bc) := by rw [hwr.out]; exact hcv
              have rA' : Row wr 38 2 A an ac (itv cI kk) := by rw [hwr.out]; exact rA.drewN nj
              have rB' : Row wr 38 2 B2 an bc (itv cI kk) := by rw [hwr.out]; exact rB.drewN nj
              have hki : (j : Int) < (ks.length : Int) := by omega
              have RA := Lib.hid rA'
              have RB := Lib.hid rB'
              clear hA hB rA rB rA' rB' hcu hcv
              go_wp2
              go_quiet ((go_at_call 20; exact Calls.quiet_of ((sameList_yes (by omega) (RA.out.drewN _) (RB.out.drewN _)).mono fun _ _ ⟨he, hw⟩ => ⟨he, hw⟩)))
              go_wp2
              go_roundw
              case rel => exact ⟨j + 1, _, by omega, by go_num, by rw [Hid, hwr.out, World.drewN_drewN]⟩
              case measure => simp [intOf]; omega
            · have hki : ¬ (j : Int) < (ks.length : Int) := by omega
              have HSE := Lib.hid (HSF.out.drewN nj)
              rw [← hwr.out] at HSE
              clear CL CW HL HW c0 c1
              go_wp2
              go_roundw
              case rel => exact ⟨k + 1, t6, by omega, by go_num, (HSE.out.more (by omega)).keep (Chg.refl _ _) (by simp), HL6.out⟩
              case measure => simp [intOf]; omega


      · have hf' : ¬ (k : Int) < xs.length := by omega
        obtain ⟨j, hj⟩ : ∃ j, k = xs.length + j := ⟨k - xs.length, by omega⟩
        have hjl : j < ops.length := by omega
        have ej : IntKind.i64.wrap ((k : Int) - xs.length) = (j : Int) := by rw [IntWalk.i64_in _ (by omega)]; omega
        have HJ := Lib.hid hj
        clear hj
        obtain ⟨ad, o, rfl, ho, hcells⟩ := ((hy.keep hS.chg).keep ((Chg.refl [] wr).alloc (.cells #[.int .i64 1, .int .i64 0, .int .i64 0] 32))).at_ hjl
        obtain ⟨kd, st, n⟩ := o
        have hcells' : ∀ j' u, ([.int .i64 kd, .int .i64 st, .int .i64 n] : List Value)[j']? = some u → (wr.alloc (.cells #[.int .i64 1, .int .i64 0, .int .i64 0] 32)).cell? ((ad.add (j * 3)).add j') = some u := hcells
        have HC := Lib.hid hcells'
        clear hcells hcells' ho
        by_cases k2 : kd = 2
        · subst k2
          have hbo : Blk (wr.alloc (.cells #[.int .i64 2, .int .i64 st, .int .i64 n] 32)) wr.heap.size 32 #[.int .i64 2, .int .i64 st, .int .i64 n] := Blk.new _ _ _
          have hS4 := hS.grow ((Chg.refl _ _).alloc (.cells #[.int .i64 2, .int .i64 st, .int .i64 n] 32)) (Nat.le_refl _)
          have HBO := Lib.hid hbo
          have HS4 := Lib.hid hS4
          clear hbo hS4 hS
          go_wp2_with (with_reducible refine wpList_load_cells _ rfl 32 (.tmp 67) rfl (ad.add (j * 3)) rfl _ HC.out (.struct _) Try.underlying32 rfl (by kernel_rfl) ?_)
          generalize wr.alloc (.cells #[.int .i64 2, .int .i64 st, .int .i64 n] 32) = w4 at *
          generalize wr.heap.size = o1 at *
          have hok := Lib.hid HS4.out.okD
          have hm4 : min 5 t.xs.length ≤ 4096 := by have := hok.out.2.2; omega
          have h5 := HS4.out.dueD
          generalize hmm : min 5 t.xs.length = mm at h5 hm4
          have HMM := Lib.hid hmm
          clear hmm
          refine h5.mono ?_
          clear h5
          rintro e w5 ⟨z5, rfl, hr5, hS5, hF5, hz5⟩
          have hl5 := hr5.lt z5 (by simp [ob])
          have h6 := hS5.dueD
          rw [show (t.due 5).xs = t.xs from rfl, show (t.due 5).a = t.a from rfl] at h6
          rw [HMM.out] at h6
          go_wp2_with fail
          refine h6.mono ?_
          clear h6
          rintro e w6 ⟨z6, rfl, hr6, hS6, hF6, hz6⟩
          have hl6 := hr6.lt z6 (by simp [ob])
          have hr56 := hF6.row hr5 (by simp)
          have h7 := hS6.dueW
          rw [HMM.out] at h7
          go_wp2_with fail
          refine h7.mono ?_
          clear h7
          rintro e w7 ⟨z7, rfl, hr7, hS7, hF7, hz7⟩
          have hl7 := hr7.lt z7 (by simp [ob])
          have hr57 := hF7.row hr56 (by simp)
          have hr67 := hF7.row hr6 (by simp)
          have hro7 := hF7.blk (hF6.blk (hF5.blk HBO.out (by simp)) (by simp)) (by simp)
          have ho1 := HBO.out.lt
          have hsw := HS4.out.chg.size
          have hBl7 : Hid (∀ i ∈ [z7, z6, z5, o1], i < w7.heap.size) := fun i hi => by simp at hi; omega
          have hne : Hid (z7 ≠ z5 ∧ z6 ≠ z5 ∧ o1 ≠ z5 ∧ z7 ≠ z6 ∧ o1 ≠ z6 ∧ w.heap.size ≤ z5 ∧ w.heap.size ≤ z6) := ⟨by omega, by omega, by omega, by omega, by omega, by omega, by omega⟩
          clear hr5 hr56 hr6 hF5 hF6 hF7 hz5 hz6 hz7 hl5 hl6 hl7 hS5 hS6 ho1 hsw
          go_wp2_with fail
          refine (sameList_yes (by omega) hr57 hr7).mono ?_
          rintro e w' ⟨rfl, q1, rfl⟩
          go_wp2_with fail
          refine (sameList_yes (by omega) (hr67.drewN q1) (hr57.drewN q1)).mono ?_
          rintro e w' ⟨rfl, q2, rfl⟩
          go_wp2_with fail
          refine ((hS7.drewN (q1 + q2)).marked hBl7.out (by omega) (hr57.drewN _) (by omega) (by simp) hne.out.2.2.2.2.2.1 (B' := [z7, z6, o1]) (fun i hi => by
            simp only [List.mem_cons, List.not_mem_nil, or_false] at hi
            rcases hi with rfl | rfl | rfl
            · exact ⟨by simp, hne.out.1⟩
            · exact ⟨by simp, hne.out.2.1⟩
            · exact ⟨by simp, hne.out.2.2.1⟩)).mono ?_
          rintro e w9 ⟨rfl, hS9, hF9⟩
          have hr69 := hF9.row (hr67.drewN (q1 + q2)) (by simp)
          have hro9 := hF9.blk (hro7.drewN (q1 + q2)) (by simp)
          have hsz9 := hF9.size
          have hBl9 : Hid (∀ i ∈ [z7, z6, o1], i < w9.heap.size) := fun i hi => Nat.lt_of_lt_of_le (hBl7.out i (by simp at hi ⊢; omega)) hF9.size
          clear hr57 hr67 hr7 hro7 hF9 hS7 hBl7
          have h10 := hS9.dueW
          rw [show (t.due 5).xs = t.xs from rfl, show (t.due 5).a = t.a from rfl] at h10
          rw [HMM.out] at h10
          go_wp2_with fail
          refine h10.mono ?_
          clear h10
          rintro e w10 ⟨z10, rfl, hr10, hS10, hF10, hz10⟩
          have hr610 := hF10.row hr69 (by simp)
          have hro10 := hF10.blk hro9 (by simp)
          have hl10 := hr10.lt z10 (by simp [ob])
          have hBl10 : Hid (∀ i ∈ [z10, z7, z6, o1], i < w10.heap.size) := fun i hi => by
            rcases List.mem_cons.1 hi with rfl | hi
            · exact hl10
            · exact Nat.lt_of_lt_of_le (hBl9.out i hi) hF10.size
          go_wp2_with fail
          refine (sameList_yes (by omega) hr610 hr10).mono ?_
          rintro e w' ⟨rfl, q3, rfl⟩
          go_wp2_with fail
          refine ((hS10.drewN q3).marked hBl10.out (by omega) (hr610.drewN _) (by omega) (by simp) hne.out.2.2.2.2.2.2 (B' := [o1]) (fun i hi => by
            simp only [List.mem_singleton] at hi
            subst hi
            exact ⟨by simp, hne.out.2.2.2.2.1⟩)).mono ?_
          rintro e w11 ⟨rfl, hS11, hF11⟩
          obtain ⟨t6, ht6⟩ : ∃ t6, t6 = ((t.due 5).due 5) := ⟨_, rfl⟩
          rw [← ht6] at hS11
          have HS6 := Lib.hid hS11
          have HL6 : Hid (k + 1 ≤ xs.length → t6.last = min (k + 1) 4096) := fun h => absurd h (by omega)
          clear hr69 hro9 hBl9 hS9 hF10 hro10 hr10 hr610 hS10 hF11 hS11 ht6 hl10 hz10 hsz9
          have hok6 := Lib.hid HS6.out.okD
          go_wp2_with fail
          refine HS6.out.lastD.mono ?_
          rintro e w' ⟨rfl, q1, rfl⟩
          go_wp2_with fail
          refine (HS6.out.drewN q1).lastW.mono ?_
          rintro e w' ⟨rfl, q2, rfl⟩
          have hS12 := Lib.hid (HS6.out.drewN (q1 + q2))
          go_wp2_with fail
          refine hS12.out.ackedD.mono ?_
          rintro e w' ⟨rfl, rfl⟩
          go_wp2_with fail
          refine hS12.out.ackedW.mono ?_
          rintro e w' ⟨rfl, rfl⟩
          go_wp2_with fail
          refine hS12.out.leftD.mono ?_
          rintro e w13 ⟨z13, rfl, hr13, hS13, hF13, hz13⟩
          go_wp2_with fail
          refine hS13.leftW.mono ?_
          rintro e w14 ⟨z14, rfl, hr14, hS14, hF14, hz14⟩
          have hr134 := hF14.row hr13 (by simp)
          go_wp2_with fail
          refine (sameList_yes (by have := hok6.out.2.2; omega) hr134 hr14).mono ?_
          rintro e w' ⟨rfl, q14, rfl⟩
          have HSF := Lib.hid (hS14.drewN q14)
          clear hr13 hr14 hr134 hS13 hS14 hF13 hF14 hz13 hz14 hS12
          obtain ⟨Q9, C9, ks, hK9, hks⟩ := HSF.out.kept
          obtain ⟨LA, LC, WA, WC, lv, wv, rfl, hb9, hl9, hw9, ha9, cl, cw, hd9, hlt9⟩ := hK9
          have c0 := hb9.cell 0
          have c1 := hb9.cell 1
          have CL := Lib.hid cl
          have CW := Lib.hid cw
          have HL := Lib.hid hl9
          have HW := Lib.hid hw9
          have hksb : ks.length ≤ 67108864 := by omega
          clear cl cw hl9 hw9 ha9 hd9 hlt9 hb9
          go_wp2_with fail
          generalize w14.drewN q14 = wz at *
          go_loopw [16] (fun j wj => ∃ j0 n : Nat, j0 ≤ ks.length ∧ j = .int .i64 j0 ∧ Hid (wj = wz.drewN n)) (fun j _ => ks.length - (intOf j).toNat)
          case atStart => exact ⟨0, 0, Nat.zero_le _, rfl, rfl⟩
          case round =>
            obtain ⟨j, nj, hj, rfl, hwr⟩ := hrel
            have c0' : wr.cell? ⟨q, 0, none⟩ = some (.slice LA ks.length LC) := by rw [hwr.out]; exact c0
            have c1' : wr.cell? ⟨q, 1, none⟩ = some (.slice WA ks.length WC) := by rw [hwr.out]; exact c1
            by_cases hjl : j < ks.length
            · obtain ⟨A, an, ac, hA, rA, nA, _⟩ := CL.out.2 j ks[j] (List.getElem?_eq_getElem hjl)
              obtain ⟨B2, bn, bc, hB, rB, nB, _⟩ := CW.out.2 j ks[j] (List.getElem?_eq_getElem hjl)
              obtain ⟨ad1, u, rfl, hu, hcu⟩ := HL.out.reads.at_ hjl
              obtain ⟨bd1, v, rfl, hv, hcv⟩ := HW.out.reads.at_ hjl
              rw [hA] at hu
              rw [hB] at hv
              injection hu with hu
              injection hv with hv
              subst hu hv
              have e1 := rA.1
              have e2 := rB.1
              rw [itv_length cI_len] at e1 e2
              obtain rfl : an = bn := by omega
              clear e1 e2
              generalize ks[j] = kk at *
              have hcu' : wr.cell? (ad1.add j) = some (.slice A an ac) := by rw [hwr.out]; exact hcu
              have hcv' : wr.cell? (bd1.add j) = some (.slice B2 an bc) := by rw [hwr.out]; exact hcv
              have rA' : Row wr 38 2 A an ac (itv cI kk) := by rw [hwr.out]; exact rA.drewN nj
              have rB' : Row wr 38 2 B2 an bc (itv cI kk) := by rw [hwr.out]; exact rB.drewN nj
              have hki : (j : Int) < (ks.length : Int) := by omega
              have RA := Lib.hid rA'
              have RB := Lib.hid rB'
              clear hA hB rA rB rA' rB' hcu hcv
              go_wp2
              go_quiet ((go_at_call 20; exact Calls.quiet_of ((sameList_yes (by omega) (RA.out.drewN _) (RB.out.drewN _)).mono fun _ _ ⟨he, hw⟩ => ⟨he, hw⟩)))
              go_wp2
              go_roundw
              case rel => exact ⟨j + 1, _, by omega, by go_num, by rw [Hid, hwr.out, World.drewN_drewN]⟩
              case measure => simp [intOf]; omega
            · have hki : ¬ (j : Int) < (ks.length : Int) := by omega
              have HSE := Lib.hid (HSF.out.drewN nj)
              rw [← hwr.out] at HSE
              clear CL CW HL HW c0 c1
              go_wp2
              go_roundw
              case rel => exact ⟨k + 1, t6, by omega, by go_num, (HSE.out.more (by omega)).keep (Chg.refl _ _) (by simp), HL6.out⟩
              case measure => simp [intOf]; omega

        by_cases k4 : kd = 4
        · subst k4
          clear k2
          have hbo : Blk (wr.alloc (.cells #[.int .i64 4, .int .i64 st, .int .i64 n] 32)) wr.heap.size 32 #[.int .i64 4, .int .i64 st, .int .i64 n] := Blk.new _ _ _
          have hS4 := hS.grow ((Chg.refl _ _).alloc (.cells #[.int .i64 4, .int .i64 st, .int .i64 n] 32)) (Nat.le_refl _)
          have HBO := Lib.hid hbo
          have HS4 := Lib.hid hS4
          clear hbo hS4 hS
          go_wp2_with (with_reducible refine wpList_load_cells _ rfl 32 (.tmp 67) rfl (ad.add (j * 3)) rfl _ HC.out (.struct _) Try.underlying32 rfl (by kernel_rfl) ?_)
          generalize wr.alloc (.cells #[.int .i64 4, .int .i64 st, .int .i64 n] 32) = w4 at *
          generalize wr.heap.size = o1 at *
          have hok := Lib.hid HS4.out.okD
          have hm4 : t.xs.length ≤ 4096 := by have := hok.out.2.2; omega
          have h5 := HS4.out.leftD
          generalize hmm : t.xs.length = mm at h5 hm4
          have HMM := Lib.hid hmm
          clear hmm
          refine h5.mono ?_
          clear h5
          rintro e w5 ⟨z5, rfl, hr5, hS5, hF5, hz5⟩
          have hl5 := hr5.lt z5 (by simp [ob])
          have h6 := hS5.leftD
          rw [HMM.out] at h6
          go_wp2_with fail
          refine h6.mono ?_
          clear h6
          rintro e w6 ⟨z6, rfl, hr6, hS6, hF6, hz6⟩
          have hl6 := hr6.lt z6 (by simp [ob])
          have hr56 := hF6.row hr5 (by simp)
          have h7 := hS6.leftW
          rw [HMM.out] at h7
          go_wp2_with fail
          refine h7.mono ?_
          clear h7
          rintro e w7 ⟨z7, rfl, hr7, hS7, hF7, hz7⟩
          have hl7 := hr7.lt z7 (by simp [ob])
          have hr57 := hF7.row hr56 (by simp)
          have hr67 := hF7.row hr6 (by simp)
          have hro7 := hF7.blk (hF6.blk (hF5.blk HBO.out (by simp)) (by simp)) (by simp)
          have ho1 := HBO.out.lt
          have hsw := HS4.out.chg.size
          have hBl7 : Hid (∀ i ∈ [z7, z6, z5, o1], i < w7.heap.size) := fun i hi => by simp at hi; omega
          have hne : Hid (z7 ≠ z5 ∧ z6 ≠ z5 ∧ o1 ≠ z5 ∧ z7 ≠ z6 ∧ o1 ≠ z6 ∧ w.heap.size ≤ z5 ∧ w.heap.size ≤ z6) := ⟨by omega, by omega, by omega, by omega, by omega, by omega, by omega⟩
          clear hr5 hr56 hr6 hF5 hF6 hF7 hz5 hz6 hz7 hl5 hl6 hl7 hS5 hS6 ho1 hsw
          go_wp2_with fail
          refine (sameList_yes (by omega) hr57 hr7).mono ?_
          rintro e w' ⟨rfl, q1, rfl⟩
          go_wp2_with fail
          refine (sameList_yes (by omega) (hr67.drewN q1) (hr57.drewN q1)).mono ?_
          rintro e w' ⟨rfl, q2, rfl⟩
          go_wp2_with fail
          refine ((hS7.drewN (q1 + q2)).marked hBl7.out (by omega) (hr57.drewN _) (by omega) (by simp) hne.out.2.2.2.2.2.1 (B' := [z7, z6, o1]) (fun i hi => by
            simp only [List.mem_cons, List.not_mem_nil, or_false] at hi
            rcases hi with rfl | rfl | rfl
            · exact ⟨by simp, hne.out.1⟩
            · exact ⟨by simp, hne.out.2.1⟩
            · exact ⟨by simp, hne.out.2.2.1⟩)).mono ?_
          rintro e w9 ⟨rfl, hS9, hF9⟩
          have hr69 := hF9.row (hr67.drewN (q1 + q2)) (by simp)
          have hro9 := hF9.blk (hro7.drewN (q1 + q2)) (by simp)
          have hsz9 := hF9.size
          have hBl9 : Hid (∀ i ∈ [z7, z6, o1], i < w9.heap.size) := fun i hi => Nat.lt_of_lt_of_le (hBl7.out i (by simp at hi ⊢; omega)) hF9.size
          clear hr57 hr67 hr7 hro7 hF9 hS7 hBl7
          have h10 := hS9.leftW
          rw [HMM.out] at h10
          go_wp2_with fail
          refine h10.mono ?_
          clear h10
          rintro e w10 ⟨z10, rfl, hr10, hS10, hF10, hz10⟩
          have hr610 := hF10.row hr69 (by simp)
          have hro10 := hF10.blk hro9 (by simp)
          have hl10 := hr10.lt z10 (by simp [ob])
          have hBl10 : Hid (∀ i ∈ [z10, z7, z6, o1], i < w10.heap.size) := fun i hi => by
            rcases List.mem_cons.1 hi with rfl | hi
            · exact hl10
            · exact Nat.lt_of_lt_of_le (hBl9.out i hi) hF10.size
          go_wp2_with fail
          refine (sameList_yes (by omega) hr610 hr10).mono ?_
          rintro e w' ⟨rfl, q3, rfl⟩
          go_wp2_with fail
          refine ((hS10.drewN q3).marked hBl10.out (by omega) (hr610.drewN _) (by omega) (by simp) hne.out.2.2.2.2.2.2 (B' := [o1]) (fun i hi => by
            simp only [List.mem_singleton] at hi
            subst hi
            exact ⟨by simp, hne.out.2.2.2.2.1⟩)).mono ?_
          rintro e w11 ⟨rfl, hS11, hF11⟩
          obtain ⟨t6, ht6⟩ : ∃ t6, t6 = t := ⟨_, rfl⟩
          rw [← ht6] at hS11
          have HS6 := Lib.hid hS11
          have HL6 : Hid (k + 1 ≤ xs.length → t6.last = min (k + 1) 4096) := fun h => absurd h (by omega)
          clear hr69 hro9 hBl9 hS9 hF10 hro10 hr10 hr610 hS10 hF11 hS11 ht6 hl10 hz10 hsz9
          have hok6 := Lib.hid HS6.out.okD
          go_wp2_with fail
          refine HS6.out.lastD.mono ?_
          rintro e w' ⟨rfl, q1, rfl⟩
          go_wp2_with fail
          refine (HS6.out.drewN q1).lastW.mono ?_
          rintro e w' ⟨rfl, q2, rfl⟩
          have hS12 := Lib.hid (HS6.out.drewN (q1 + q2))
          go_wp2_with fail
          refine hS12.out.ackedD.mono ?_
          rintro e w' ⟨rfl, rfl⟩
          go_wp2_with fail
          refine hS12.out.ackedW.mono ?_
          rintro e w' ⟨rfl, rfl⟩
          go_wp2_with fail
          refine hS12.out.leftD.mono ?_
          rintro e w13 ⟨z13, rfl, hr13, hS13, hF13, hz13⟩
          go_wp2_with fail
          refine hS13.leftW.mono ?_
          rintro e w14 ⟨z14, rfl, hr14, hS14, hF14, hz14⟩
          have hr134 := hF14.row hr13 (by simp)
          go_wp2_with fail
          refine (sameList_yes (by have := hok6.out.2.2; omega) hr134 hr14).mono ?_
          rintro e w' ⟨rfl, q14, rfl⟩
          have HSF := Lib.hid (hS14.drewN q14)
          clear hr13 hr14 hr134 hS13 hS14 hF13 hF14 hz13 hz14 hS12
          obtain ⟨Q9, C9, ks, hK9, hks⟩ := HSF.out.kept
          obtain ⟨LA, LC, WA, WC, lv, wv, rfl, hb9, hl9, hw9, ha9, cl, cw, hd9, hlt9⟩ := hK9
          have c0 := hb9.cell 0
          have c1 := hb9.cell 1
          have CL := Lib.hid cl
          have CW := Lib.hid cw
          have HL := Lib.hid hl9
          have HW := Lib.hid hw9
          have hksb : ks.length ≤ 67108864 := by omega
          clear cl cw hl9 hw9 ha9 hd9 hlt9 hb9
          go_wp2_with fail
          generalize w14.drewN q14 = wz at *
          go_loopw [16] (fun j wj => ∃ j0 n : Nat, j0 ≤ ks.length ∧ j = .int .i64 j0 ∧ Hid (wj = wz.drewN n)) (fun j _ => ks.length - (intOf j).toNat)
          case atStart => exact ⟨0, 0, Nat.zero_le _, rfl, rfl⟩
          case round =>
            obtain ⟨j, nj, hj, rfl, hwr⟩ := hrel
            have c0' : wr.cell? ⟨q, 0, none⟩ = some (.slice LA ks.length LC) := by rw [hwr.out]; exact c0
            have c1' : wr.cell? ⟨q, 1, none⟩ = some (.slice WA ks.length WC) := by rw [hwr.out]; exact c1
            by_cases hjl : j < ks.length
            · obtain ⟨A, an, ac, hA, rA, nA, _⟩ := CL.out.2 j ks[j] (List.getElem?_eq_getElem hjl)
              obtain ⟨B2, bn, bc, hB, rB, nB, _⟩ := CW.out.2 j ks[j] (List.getElem?_eq_getElem hjl)
              obtain ⟨ad1, u, rfl, hu, hcu⟩ := HL.out.reads.at_ hjl
              obtain ⟨bd1, v, rfl, hv, hcv⟩ := HW.out.reads.at_ hjl
              rw [hA] at hu
              rw [hB] at hv
              injection hu with hu
              injection hv with hv
              subst hu hv
              have e1 := rA.1
              have e2 := rB.1
              rw [itv_length cI_len] at e1 e2
              obtain rfl : an = bn := by omega
              clear e1 e2
              generalize ks[j] = kk at *
              have hcu' : wr.cell? (ad1.add j) = some (.slice A an ac) := by rw [hwr.out]; exact hcu
              have hcv' : wr.cell? (bd1.add j) = some (.slice B2 an bc) := by rw [hwr.out]; exact hcv
              have rA' : Row wr 38 2 A an ac (itv cI kk) := by rw [hwr.out]; exact rA.drewN nj
              have rB' : Row wr 38 2 B2 an bc (itv cI kk) := by rw [hwr.out]; exact rB.drewN nj
              have hki : (j : Int) < (ks.length : Int) := by omega
              have RA := Lib.hid rA'
              have RB := Lib.hid rB'
              clear hA hB rA rB rA' rB' hcu hcv
              go_wp2
              go_quiet ((go_at_call 20; exact Calls.quiet_of ((sameList_yes (by omega) (RA.out.drewN _) (RB.out.drewN _)).mono fun _ _ ⟨he, hw⟩ => ⟨he, hw⟩)))
              go_wp2
              go_roundw
              case rel => exact ⟨j + 1, _, by omega, by go_num, by rw [Hid, hwr.out, World.drewN_drewN]⟩
              case measure => simp [intOf]; omega
            · have hki : ¬ (j : Int) < (ks.length : Int) := by omega
              have HSE := Lib.hid (HSF.out.drewN nj)
              rw [← hwr.out] at HSE
              clear CL CW HL HW c0 c1
              go_wp2
              go_roundw
              case rel => exact ⟨k + 1, t6, by omega, by go_num, (HSE.out.more (by omega)).keep (Chg.refl _ _) (by simp), HL6.out⟩
              case measure => simp [intOf]; omega

        · have b2' : (kd == 2) = false := by simpa using k2
          have b4' : (kd == 4) = false := by simpa using k4
          clear k2 k4
          have hbo : Blk (wr.alloc (.cells #[.int .i64 kd, .int .i64 st, .int .i64 n] 32)) wr.heap.size 32 #[.int .i64 kd, .int .i64 st, .int .i64 n] := Blk.new _ _ _
          have hS4 := hS.grow ((Chg.refl _ _).alloc (.cells #[.int .i64 kd, .int .i64 st, .int .i64 n] 32)) (Nat.le_refl _)
          have HBO := Lib.hid hbo
          have HS4 := Lib.hid hS4
          clear hbo hS4 hS
          go_wp2_with (with_reducible refine wpList_load_cells _ rfl 32 (.tmp 67) rfl (ad.add (j * 3)) rfl _ HC.out (.struct _) Try.underlying32 rfl (by kernel_rfl) ?_)
          generalize wr.alloc (.cells #[.int .i64 kd, .int .i64 st, .int .i64 n] 32) = w4 at *
          generalize wr.heap.size = o1 at *
          have b0 := HBO.out.cell 0
          have b1 := HBO.out.cell 1
          have b2 := HBO.out.cell 2
          have hD : Calls Try.prog 19 #[.pointer (some ⟨pd, 0, none⟩), .agg #[.int .i64 kd, .int .i64 st, .int .i64 n]] w4.drew fun e w' => e = .returned (.int .i64 (actF ⟨kd, st, n⟩ 5 t).1) ∧ OSt w w' pd pw q (actF ⟨kd, st, n⟩ 5 t).2 t (4 * k) [o1] ∧ Far [o1] w4.drew w' := (HS4.out.drewN 1).actD (fun i hi => by simp at hi; subst hi; exact HBO.out.lt) ⟨kd, st, n⟩
          have HD := Lib.hid hD
          clear hD
          go_wp2_with fail
          go_region_law (first
            | (go_simp; go_at_call 19; with_reducible refine Calls.mono HD.out ?_
               rintro e w5 ⟨rfl, hS5, hF5⟩
               have hro5 : Blk w5 o1 32 #[.int .i64 kd, .int .i64 st, .int .i64 n] := hF5.blk (HBO.out.drewN 1) (by simp)
               have b50 := hro5.cell 0
               have b51 := hro5.cell 1
               have b52 := hro5.cell 2
               have hW := hS5.actW (fun i hi => by simp at hi; subst hi; exact hro5.lt) ⟨kd, st, n⟩)
            | (go_simp; go_at_call 19; refine hW.mono ?_
               rintro e w6 ⟨rfl, hS6, hF6⟩))
          all_goals
            obtain ⟨t6, ht6⟩ : ∃ t6, t6 = (actF ⟨kd, st, n⟩ 5 t).2 := ⟨_, rfl⟩
            have HL6 : Hid (k + 1 ≤ xs.length → t6.last = min (k + 1) 4096) := fun h => absurd h (by omega)
            rw [← ht6] at hS6
            have HS6 := Lib.hid hS6
            clear ht6 hS6 hF6 hS5 hF5 hro5 hW b0 b1 b2 b50 b51 b52
            have hok6 := Lib.hid HS6.out.okD
            go_wp2_with fail
            refine HS6.out.lastD.mono ?_
            rintro e w' ⟨rfl, q1, rfl⟩
            go_wp2_with fail
            refine (HS6.out.drewN q1).lastW.mono ?_
            rintro e w' ⟨rfl, q2, rfl⟩
            have hS12 := Lib.hid (HS6.out.drewN (q1 + q2))
            go_wp2_with fail
            refine hS12.out.ackedD.mono ?_
            rintro e w' ⟨rfl, rfl⟩
            go_wp2_with fail
            refine hS12.out.ackedW.mono ?_
            rintro e w' ⟨rfl, rfl⟩
            go_wp2_with fail
            refine hS12.out.leftD.mono ?_
            rintro e w13 ⟨z13, rfl, hr13, hS13, hF13, hz13⟩
            go_wp2_with fail
            refine hS13.leftW.mono ?_
            rintro e w14 ⟨z14, rfl, hr14, hS14, hF14, hz14⟩
            have hr134 := hF14.row hr13 (by simp)
            go_wp2_with fail
            refine (sameList_yes (by have := hok6.out.2.2; omega) hr134 hr14).mono ?_
            rintro e w' ⟨rfl, q14, rfl⟩
            have HSF := Lib.hid (hS14.drewN q14)
            clear hr13 hr14 hr134 hS13 hS14 hF13 hF14 hz13 hz14 hS12
            obtain ⟨Q9, C9, ks, hK9, hks⟩ := HSF.out.kept
            obtain ⟨LA, LC, WA, WC, lv, wv, rfl, hb9, hl9, hw9, ha9, cl, cw, hd9, hlt9⟩ := hK9
            have c0 := hb9.cell 0
            have c1 := hb9.cell 1
            have CL := Lib.hid cl
            have CW := Lib.hid cw
            have HL := Lib.hid hl9
            have HW := Lib.hid hw9
            have hksb : ks.length ≤ 67108864 := by omega
            clear cl cw hl9 hw9 ha9 hd9 hlt9 hb9
            go_wp2_with fail
            generalize w14.drewN q14 = wz at *
            go_loopw [16] (fun j wj => ∃ j0 n : Nat, j0 ≤ ks.length ∧ j = .int .i64 j0 ∧ Hid (wj = wz.drewN n)) (fun j _ => ks.length - (intOf j).toNat)
            case atStart => exact ⟨0, 0, Nat.zero_le _, rfl, rfl⟩
            case round =>
              obtain ⟨j, nj, hj, rfl, hwr⟩ := hrel
              have c0' : wr.cell? ⟨q, 0, none⟩ = some (.slice LA ks.length LC) := by rw [hwr.out]; exact c0
              have c1' : wr.cell? ⟨q, 1, none⟩ = some (.slice WA ks.length WC) := by rw [hwr.out]; exact c1
              by_cases hjl : j < ks.length
              · obtain ⟨A, an, ac, hA, rA, nA, _⟩ := CL.out.2 j ks[j] (List.getElem?_eq_getElem hjl)
                obtain ⟨B2, bn, bc, hB, rB, nB, _⟩ := CW.out.2 j ks[j] (List.getElem?_eq_getElem hjl)
                obtain ⟨ad1, u, rfl, hu, hcu⟩ := HL.out.reads.at_ hjl
                obtain ⟨bd1, v, rfl, hv, hcv⟩ := HW.out.reads.at_ hjl
                rw [hA] at hu
                rw [hB] at hv
                injection hu with hu
                injection hv with hv
                subst hu hv
                have e1 := rA.1
                have e2 := rB.1
                rw [itv_length cI_len] at e1 e2
                obtain rfl : an = bn := by omega
                clear e1 e2
                generalize ks[j] = kk at *
                have hcu' : wr.cell? (ad1.add j) = some (.slice A an ac) := by rw [hwr.out]; exact hcu
                have hcv' : wr.cell? (bd1.add j) = some (.slice B2 an bc) := by rw [hwr.out]; exact hcv
                have rA' : Row wr 38 2 A an ac (itv cI kk) := by rw [hwr.out]; exact rA.drewN nj
                have rB' : Row wr 38 2 B2 an bc (itv cI kk) := by rw [hwr.out]; exact rB.drewN nj
                have hki : (j : Int) < (ks.length : Int) := by omega
                have RA := Lib.hid rA'
                have RB := Lib.hid rB'
                clear hA hB rA rB rA' rB' hcu hcv
                go_wp2
                go_quiet ((go_at_call 20; exact Calls.quiet_of ((sameList_yes (by omega) (RA.out.drewN _) (RB.out.drewN _)).mono fun _ _ ⟨he, hw⟩ => ⟨he, hw⟩)))
                go_wp2
                go_roundw
                case rel => exact ⟨j + 1, _, by omega, by go_num, by rw [Hid, hwr.out, World.drewN_drewN]⟩
                case measure => simp [intOf]; omega
              · have hki : ¬ (j : Int) < (ks.length : Int) := by omega
                have HSE := Lib.hid (HSF.out.drewN nj)
                rw [← hwr.out] at HSE
                clear CL CW HL HW c0 c1
                go_wp2
                go_roundw
                case rel => exact ⟨k + 1, t6, by omega, by go_num, (HSE.out.more (by omega)).keep (Chg.refl _ _) (by simp), HL6.out⟩
                case measure => simp [intOf]; omega


    · have hlt' : ¬ (k : Int) < (xs.length : Int) + ops.length := by omega
      have hke : k = xs.length + ops.length := by omega
      have hc := hS.chg
      have hlast := hS.lastD
      by_cases hx0 : xs.length = 0
      · have hxb0 : ((xs.length : Int) == 0) = true := by simpa using hx0
        have HX0 := Lib.hid hx0
        clear hx0
        go_wp2_with (go_at_call 15; refine hlast.mono ?_; rintro e w' ⟨rfl, q1, rfl⟩)
        go_ret
        exact ⟨rfl, hc.drewN q1⟩
      · have hxb0 : ((xs.length : Int) == 0) = false := by simpa using hx0
        by_cases ho0 : 0 < ops.length
        · have hob0 : (0 : Int) < (ops.length : Int) := by omega
          have HX0 := Lib.hid hx0
          clear hx0
          go_wp2_with (go_at_call 15; refine hlast.mono ?_; rintro e w' ⟨rfl, q1, rfl⟩)
          go_ret
          exact ⟨rfl, hc.drewN q1⟩
        · have hob0 : ¬ (0 : Int) < (ops.length : Int) := by omega
          have hl2 : Hid (t.last = min xs.length 4096) := by
            have := HLT.out (by omega)
            unfold Hid
            rw [this, hke]
            congr 1
            omega
          by_cases h46 : xs.length ≤ 4096
          · have hl3 : t.last = xs.length := by rw [hl2.out]; exact Nat.min_eq_left h46
            rw [hl3] at hlast
            have hS' : OSt w wr pd pw q t t (4 * k) [] := hS
            have h46' : (xs.length : Int) ≤ 4096 := by omega
            have h47' : ¬ (4096 : Int) < (xs.length : Int) := by omega
            have hl4 := (hS'.drewN 0)
            have HX0 := Lib.hid hx0
            have HL3 := Lib.hid hl3
            have hlast2 : ∀ q', Calls Try.prog 15 #[.pointer (some ⟨pd, 0, none⟩)] (wr.drewN q') fun e w' => e = .returned (.int .i64 xs.length) ∧ ∃ q, w' = (wr.drewN q').drewN q := fun q' => by
              have := (hS.drewN q').lastD
              rw [HL3.out] at this
              exact this
            clear hx0 hl3 hl4 hS'
            go_wp2_with fail
            refine hlast.mono ?_
            rintro e w' ⟨rfl, q1, rfl⟩
            go_wp2_with fail
            refine (hlast2 q1).mono ?_
            rintro e w' ⟨rfl, q2, rfl⟩
            go_wp2_with fail
            all_goals
              go_ret
              exact ⟨by first | rfl | simp, hc.drewN (q1 + q2)⟩
          · have hl3 : t.last = 4096 := by rw [hl2.out]; exact Nat.min_eq_right (by omega)
            rw [hl3] at hlast
            have h46' : ¬ (xs.length : Int) ≤ 4096 := by omega
            have h47' : (4096 : Int) < (xs.length : Int) := by omega
            have HX0 := Lib.hid hx0
            have HL3 := Lib.hid hl3
            have hlast2 : ∀ q', Calls Try.prog 15 #[.pointer (some ⟨pd, 0, none⟩)] (wr.drewN q') fun e w' => e = .returned (.int .i64 (4096 : Nat)) ∧ ∃ q, w' = (wr.drewN q').drewN q := fun q' => by
              have := (hS.drewN q').lastD
              rw [HL3.out] at this
              exact this
            clear hx0 hl3
            go_wp2_with fail
            refine hlast.mono ?_
            rintro e w' ⟨rfl, q1, rfl⟩
            go_wp2_with fail
            refine (hlast2 q1).mono ?_
            rintro e w' ⟨rfl, q2, rfl⟩
            go_wp2_with fail
            all_goals
              go_ret
              exact ⟨by first | rfl | simp, hc.drewN (q1 + q2)⟩
end Go.Proofs.Ytphbhmppjafhkaa
