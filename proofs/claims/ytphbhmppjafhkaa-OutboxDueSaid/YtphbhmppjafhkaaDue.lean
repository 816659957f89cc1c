/-
  PROVED: the walk of OutboxDue.
-/
import Derived.Test.YtphbhmppjafhkaaPut
namespace Go.Proofs.Ytphbhmppjafhkaa
open Go.RowKit

set_option maxHeartbeats 2000000 in
set_option maxRecDepth 100000 in
theorem odue_no (win : Int) (A B : Option Addr) (n c m d : Nat) (w : World) (h : win < 1 ∨ 4096 < win) :
    Calls Try.prog 7 #[.int .i64 win, .slice A n c, .slice B m d] w fun e w' => e = .returned (.bool true) ∧ Chg [] w w' := by
  have hn := new_no w win h
  by_cases h0 : win < 1
  · go_enter Try.func7, Try.ntmps7
    go_wp2_with (first
      | (go_at_call 10; refine hn.mono ?_; rintro e w' ⟨rfl, rfl⟩)
      | (go_at_call 11; refine (num_calls _ _).mono ?_; rintro e w' ⟨rfl, rfl⟩))
    go_ret
    exact ⟨rfl, Chg.refl _ _⟩
  · have h1 : 4096 < win := by omega
    clear h
    go_enter Try.func7, Try.ntmps7
    go_wp2_with (first
      | (go_at_call 10; refine hn.mono ?_; rintro e w' ⟨rfl, rfl⟩)
      | (go_at_call 11; refine (num_calls _ _).mono ?_; rintro e w' ⟨rfl, rfl⟩))
    go_ret
    exact ⟨rfl, Chg.refl _ _⟩

set_option maxHeartbeats 4000000 in
set_option maxRecDepth 100000 in
theorem odue_in (win : Nat) (A B : Option Addr) (c d : Nat) (w : World) (xs : List Int) (ops : List GOp) (hx : Reads w 1 A xs.length (ev cI xs)) (hy : OpsAt w B ops) (hr : xs.length * 8 ≤ 140737488351232) (hm : ops.length * 24 ≤ 140737488351232) (hw1 : 1 ≤ win) (hw2 : win ≤ 4096) :
    Calls Try.prog 7 #[.int .i64 win, .slice A xs.length c, .slice B ops.length d] w fun e w' => e = .returned (.bool true) ∧ Chg [] w w' := by
  obtain ⟨i0, hi, hz0, hz1, hz2⟩ := info_parts Try.info3
  have h1 : ¬ (win : Int) < 1 := by omega
  have h2 : ¬ (4096 : Int) < win := by omega
  have eL : IntKind.i64.wrap ((xs.length : Int) + ops.length) = (xs.length : Int) + ops.length := IntWalk.i64_in _ (by omega)
  go_enter Try.func7, Try.ntmps7
  go_wp2_with (first
    | (go_at_call 10; refine (new_ok w win hw1 hw2).mono ?_; rintro e w1 ⟨p, S, rfl, hb1, hc1, hS1⟩)
    | (go_at_call 11; refine (num_calls _ _).mono ?_; rintro e w' ⟨rfl, rfl⟩))
  go_loopw [9, 10] (fun pv i wr => ∃ (k : Nat) (S : List Nat) (t : St) (put : List Int) (P : Option Addr) (cap : Nat), k ≤ xs.length + ops.length ∧ i = .int .i64 k ∧ pv = .slice P put.length cap ∧ Row wr 3 1 P put.length cap (ev cI put) ∧ Box wr p S win t ∧ Put t put ∧
      (∀ i ∈ ob P, i ∉ S) ∧ (∀ i ∈ S, w.heap.size ≤ i) ∧ (∀ i ∈ ob P, w.heap.size ≤ i) ∧ Chg [] w wr) (fun _ i _ => xs.length + ops.length - (intOf i).toNat)
  case atStart => exact ⟨0, S, St.new, [], none, 0, Nat.zero_le _, rfl, rfl, Row.nil _ _ _, hb1, ⟨rfl, fun i h => by simp [St.new] at h⟩, by simp [ob], hS1, by simp [ob], hc1⟩
  case round =>
    clear hb1 hS1 hc1
    obtain ⟨k, S, t, put, P, cap, hk, rfl, rfl, hrow, hb, hP, hPS, hS, hPw, hc⟩ := hrel
    by_cases hlt : k < xs.length + ops.length
    · have hlt' : (k : Int) < (xs.length : Int) + ops.length := by omega
      by_cases hf : k < xs.length
      · have hf' : (k : Int) < xs.length := by omega
        obtain ⟨ad, u, rfl, hu, hcell⟩ := (hx.keep hc (by simp)).at_ hf
        rw [ev_cI_get hf] at hu
        obtain rfl : Value.int .i64 xs[k] = u := by injection hu
        have HCELL := Lib.hid hcell
        clear hu hcell
        have hcell := ((Chg.refl [] wr).alloc (.cells #[.int .i64 1, .int .i64 0, .int .i64 0] 32)).cell HCELL.out (by simp)
        have hq4 : Chg [] wr (wr.alloc (.cells #[.int .i64 1, .int .i64 0, .int .i64 xs[k]] 32)) := (Chg.refl _ _).alloc _
        have hbo : Blk (wr.alloc (.cells #[.int .i64 1, .int .i64 0, .int .i64 xs[k]] 32)) wr.heap.size 32 #[.int .i64 1, .int .i64 0, .int .i64 xs[k]] := Blk.new _ _ _
        have hb4 := hb.keep hq4 (by simp)
        have hr4 := hrow.keep hq4 (by simp)
        have hoS : Hid (∀ i ∈ S, i ≠ wr.heap.size) := fun i hi e => by have := hb.lt i hi; omega
        have hoP : Hid (∀ i ∈ ob P, i ≠ wr.heap.size) := fun i hi e => by have := hrow.lt i hi; omega
        have HB4 := Lib.hid hb4
        have HR4 := Lib.hid hr4
        have HBO := Lib.hid hbo
        have HP4 := Lib.hid hP
        have hc4 := hc.next hq4
        have hpl : Hid (put.length = t.a + t.xs.length) := hP.1
        clear hb4 hr4 hbo hb hrow hP
        go_wp2_with fail
        generalize wr.alloc (.cells #[.int .i64 1, .int .i64 0, .int .i64 xs[k]] 32) = w4 at *
        generalize wr.heap.size = o1 at *
        by_cases hfu : put.length = 4096
        · have hfb : ((put.length : Int) == 4096) = true := by simpa using (show (put.length : Int) = 4096 by omega)
          have E : Hid (t.push xs[k] = (0, 81, t)) := by unfold Hid St.push St.last; rw [if_pos (by have := hpl.out; omega)]
          have hpush := push_calls HB4.out xs[k]
          rw [E.out] at hpush
          dsimp only at hpush
          clear hfu
          go_wp2_with fail
          refine hpush.mono ?_
          clear hpush
          rintro e w5 ⟨rfl, S5, hb5, hc5, hS5⟩
          go_wp2_with (go_at_call 11; refine (num_calls _ _).mono ?_; rintro e w' ⟨rfl, rfl⟩)
          have hS5' : ∀ i ∈ S5, w.heap.size ≤ i := fun i hi => by
            rcases hS5 i hi with h | h
            · exact hS i h
            · have := hc4.size; omega
          have hPS5 : ∀ i ∈ ob P, i ∉ S5 := fun i hi hm => by
            rcases hS5 i hm with h | h
            · exact hPS i hi h
            · have := HR4.out.lt i hi; omega
          have hr5 := HR4.out.keep hc5 hPS
          have hc45 := hc4.trans hc5 (fun i hi => .inr (hS i hi))
          have HB6 := Lib.hid hb5
          have HR6 := Lib.hid hr5
          have HP6 := HP4
          clear hb5 hr5
          have hl6 : Hid (St.last t = put.length) := by have := HP6.out.1; unfold Hid St.last; omega
          have hlast := last_calls HB6.out
          rw [hl6.out] at hlast
          have h46 : Hid ((put.length : Nat) ≤ 4096 ∧ (St.a t) + (St.xs t).length = put.length) := by have := HB6.out.ok.2.2; have := hl6.out; unfold St.last at this; unfold Hid; omega
          have e0 : IntKind.i64.wrap (((put.length : Nat) : Int) - (St.a t : Nat)) = ((St.xs t).length : Int) := by have := h46.out; rw [IntWalk.i64_in _ (by omega)]; omega
          have e1 : IntKind.i64.wrap (((St.a t : Nat) : Int) + 1) = ((St.a t : Nat) : Int) + 1 := by have := h46.out; rw [IntWalk.i64_in _ (by omega)]
          go_wp2_with fail
          refine (acked_calls HB6.out).mono ?_
          rintro e w' ⟨rfl, rfl⟩
          go_wp2_with fail
          refine hlast.mono ?_
          rintro e w' ⟨rfl, q6, rfl⟩
          go_wp2_with fail
          refine (left_calls (HB6.out.drewN q6)).mono ?_
          rintro e w7 ⟨z7, rfl, hr7, hc7, hz7⟩
          have hp7 := (HR6.out.drewN q6).keep hc7 (by simp)
          have hrow7 := row_yes (lc := (St.xs t).length) (pc := cap) hr7.reads hp7.reads rfl (by have := h46.out; omega) h46.out.1 HP6.out.2
          go_wp2_with fail
          refine hrow7.mono ?_
          rintro e w' ⟨rfl, q7, rfl⟩
          go_wp2_with fail
          go_roundw
          case rel =>
            have hq : Chg [] w5 (w7.drewN q7) := (((Chg.refl _ _).drewN q6).next hc7).drewN q7
            exact ⟨k + 1, S5, t, put, P, cap, by omega, by go_num, rfl, hp7.drewN q7, HB6.out.keep hq (by simp), HP6.out, hPS5, hS5', hPw, hc45.next hq⟩
          case measure => simp [intOf]; omega

        · have hfb : ((put.length : Int) == 4096) = false := by simpa using (show ¬ (put.length : Int) = 4096 by omega)
          have E : Hid (t.push xs[k] = ((put.length : Int) + 1, 0, ⟨t.a, t.s, t.xs ++ [xs[k]]⟩)) := by
            have e : t.last = put.length := by have := hpl.out; unfold St.last; omega
            unfold Hid St.push
            rw [e, if_neg hfu]
          have hpush := push_calls HB4.out xs[k]
          rw [E.out] at hpush
          dsimp only at hpush
          have hlt4 : put.length < 4096 := by have := HB4.out.ok.2.2; have := hpl.out; omega
          go_wp2_with fail
          refine hpush.mono ?_
          clear hpush
          rintro e w5 ⟨rfl, S5, hb5, hc5, hS5⟩
          have hbo5 := hc5.blk' HBO.out (fun hm => hoS.out _ hm rfl)
          have c52 := hbo5.cell 2
          have hS5' : ∀ i ∈ S5, w.heap.size ≤ i := fun i hi => by
            rcases hS5 i hi with h | h
            · exact hS i h
            · have := hc4.size; omega
          have hPS5 : ∀ i ∈ ob P, i ∉ S5 := fun i hi hm => by
            rcases hS5 i hm with h | h
            · exact hPS i hi h
            · have := HR4.out.lt i hi; omega
          have hr5 := HR4.out.keep hc5 hPS
          have hc45 := hc4.trans hc5 (fun i hi => .inr (hS i hi))
          have hrX := hr5.alloc (.cells #[.int .i64 xs[k]] 3)
          have hone := built_reads w5 3 [.int .i64 xs[k]]
          have HB5 := Lib.hid hb5
          clear hr5 hb5 hbo5
          go_wp2_with (at_builtin; refine wpList_append_row _ rfl (.tmp 90) (.tmp 93) 22 rfl 3 i0 (.int .i64 0) 1 8 Try.underlying22 hi hz0 hz1 hz2 rfl P put.length cap (ev cI put) rfl hrX _ 1 1 [.int .i64 xs[k]] rfl hone (by simp [Value.oneCell']) (by unfold maxLen; omega) (grow_ok (by omega)) ?_)
          intro P6 cap6 w6 hr6 hc6 hcase6
          have HB6 : Hid (Box w6 p S5 win ⟨t.a, t.s, t.xs ++ [xs[k]]⟩) := (HB5.out.keep ((Chg.refl [] w5).alloc _) (by simp)).keep hc6 (fun i hi hm => hPS5 i hm hi)
          have HR6 : Hid (Row w6 3 1 P6 (put.length + 1) cap6 (ev cI (put ++ [xs[k]]))) := by
            rw [Hid, ev_append]; exact hr6
          have HP6 : Hid (Put ⟨t.a, t.s, t.xs ++ [xs[k]]⟩ (put ++ [xs[k]])) := HP4.out.push xs[k]
          have hn6 : Hid ((put ++ [xs[k]]).length = put.length + 1) := by simp [Hid]
          have hsz5 := ((Chg.refl [] w5).alloc (.cells #[.int .i64 xs[k]] 3)).size
          have hPS6 : ∀ i ∈ ob P6, i ∉ S5 := fun i hi hm => by
            rcases hcase6.ob_ i hi with h | h
            · exact hPS5 i h hm
            · have := HB5.out.lt i hm; omega
          have hPw6 : ∀ i ∈ ob P6, w.heap.size ≤ i := fun i hi => by
            rcases hcase6.ob_ i hi with h | h
            · exact hPw i h
            · have := hc45.size; omega
          have hc46 : Chg [] w w6 := (hc45.alloc _).trans hc6 (fun i hi => .inr (hPw i hi))
          clear hr6 hcase6 hrX hone hc6 hsz5 c52
          go_wp2_with (go_at_call 11; refine (num_calls _ _).mono ?_; rintro e w' ⟨rfl, rfl⟩)
          clear E
          generalize (⟨t.a, t.s, t.xs ++ [xs[k]]⟩ : St) = t6 at HB6 HP6
          generalize put ++ [xs[k]] = put6 at HR6 HP6 hn6
          generalize put.length + 1 = n6 at *
          have hl6 : Hid (St.last t6 = n6) := by have := HP6.out.1; have := hn6.out; unfold Hid St.last; omega
          have hlast := last_calls HB6.out
          rw [hl6.out] at hlast
          have h46 : Hid ((n6 : Nat) ≤ 4096 ∧ (St.a t6) + (St.xs t6).length = n6) := by have := HB6.out.ok.2.2; have := hl6.out; unfold St.last at this; unfold Hid; omega
          have e0 : IntKind.i64.wrap (((n6 : Nat) : Int) - (St.a t6 : Nat)) = ((St.xs t6).length : Int) := by have := h46.out; rw [IntWalk.i64_in _ (by omega)]; omega
          have e1 : IntKind.i64.wrap (((St.a t6 : Nat) : Int) + 1) = ((St.a t6 : Nat) : Int) + 1 := by have := h46.out; rw [IntWalk.i64_in _ (by omega)]
          go_wp2_with fail
          refine (acked_calls HB6.out).mono ?_
          rintro e w' ⟨rfl, rfl⟩
          go_wp2_with fail
          refine hlast.mono ?_
          rintro e w' ⟨rfl, q6, rfl⟩
          go_wp2_with fail
          refine (left_calls (HB6.out.drewN q6)).mono ?_
          rintro e w7 ⟨z7, rfl, hr7, hc7, hz7⟩
          have hp7 := (HR6.out.drewN q6).keep hc7 (by simp)
          have hrow7 := row_yes (lc := (St.xs t6).length) (pc := cap6) hr7.reads hp7.reads hn6.out (by have := h46.out; omega) h46.out.1 HP6.out.2
          go_wp2_with fail
          refine hrow7.mono ?_
          rintro e w' ⟨rfl, q7, rfl⟩
          go_wp2_with fail
          go_roundw
          case rel =>
            have hq : Chg [] w6 (w7.drewN q7) := (((Chg.refl _ _).drewN q6).next hc7).drewN q7
            exact ⟨k + 1, S5, t6, put6, P6, cap6, by omega, by go_num, by rw [hn6.out], by rw [hn6.out]; exact hp7.drewN q7, HB6.out.keep hq (by simp), HP6.out, hPS6, hS5', hPw6, hc46.next hq⟩
          case measure => simp [intOf]; omega

      · have hf' : ¬ (k : Int) < xs.length := by omega
        obtain ⟨j, hj⟩ : ∃ j, k = xs.length + j := ⟨k - xs.length, by omega⟩
        have hjl : j < ops.length := by omega
        have ej : IntKind.i64.wrap ((k : Int) - xs.length) = (j : Int) := by rw [IntWalk.i64_in _ (by omega)]; omega
        have HJ := Lib.hid hj
        clear hj
        obtain ⟨ad, o, rfl, ho, hcells⟩ := ((hy.keep hc).keep ((Chg.refl [] wr).alloc (.cells #[.int .i64 1, .int .i64 0, .int .i64 0] 32))).at_ hjl
        obtain ⟨kd, st, n⟩ := o
        have hcells' : ∀ j' u, ([.int .i64 kd, .int .i64 st, .int .i64 n] : List Value)[j']? = some u → (wr.alloc (.cells #[.int .i64 1, .int .i64 0, .int .i64 0] 32)).cell? ((ad.add (j * 3)).add j') = some u := hcells
        have HC := Lib.hid hcells'
        clear hcells hcells' ho
        by_cases k1 : kd = 1
        · subst k1
          have hq4 : Chg [] wr (wr.alloc (.cells #[.int .i64 1, .int .i64 st, .int .i64 n] 32)) := (Chg.refl _ _).alloc _
          have hbo : Blk (wr.alloc (.cells #[.int .i64 1, .int .i64 st, .int .i64 n] 32)) wr.heap.size 32 #[.int .i64 1, .int .i64 st, .int .i64 n] := Blk.new _ _ _
          have hb4 := hb.keep hq4 (by simp)
          have hr4 := hrow.keep hq4 (by simp)
          have hoS : Hid (∀ i ∈ S, i ≠ wr.heap.size) := fun i hi e => by have := hb.lt i hi; omega
          have hoP : Hid (∀ i ∈ ob P, i ≠ wr.heap.size) := fun i hi e => by have := hrow.lt i hi; omega
          have HB4 := Lib.hid hb4
          have HR4 := Lib.hid hr4
          have HBO := Lib.hid hbo
          have HP4 := Lib.hid hP
          have hc4 := hc.next hq4
          have hpl : Hid (put.length = t.a + t.xs.length) := hP.1
          clear hb4 hr4 hbo hb hrow hP
          go_wp2_with (with_reducible refine wpList_load_cells _ rfl 32 (.tmp 64) rfl (ad.add (j * 3)) rfl _ HC.out (.struct _) Try.underlying32 rfl (by kernel_rfl) ?_)
          generalize wr.alloc (.cells #[.int .i64 1, .int .i64 st, .int .i64 n] 32) = w4 at *
          generalize wr.heap.size = o1 at *

          by_cases hfu : put.length = 4096
          · have hfb : ((put.length : Int) == 4096) = true := by simpa using (show (put.length : Int) = 4096 by omega)
            have E : Hid (t.push n = (0, 81, t)) := by unfold Hid St.push St.last; rw [if_pos (by have := hpl.out; omega)]
            have hpush := push_calls HB4.out n
            rw [E.out] at hpush
            dsimp only at hpush
            clear hfu
            go_wp2_with fail
            refine hpush.mono ?_
            clear hpush
            rintro e w5 ⟨rfl, S5, hb5, hc5, hS5⟩
            go_wp2_with (go_at_call 11; refine (num_calls _ _).mono ?_; rintro e w' ⟨rfl, rfl⟩)
            have hS5' : ∀ i ∈ S5, w.heap.size ≤ i := fun i hi => by
              rcases hS5 i hi with h | h
              · exact hS i h
              · have := hc4.size; omega
            have hPS5 : ∀ i ∈ ob P, i ∉ S5 := fun i hi hm => by
              rcases hS5 i hm with h | h
              · exact hPS i hi h
              · have := HR4.out.lt i hi; omega
            have hr5 := HR4.out.keep hc5 hPS
            have hc45 := hc4.trans hc5 (fun i hi => .inr (hS i hi))
            have HB6 := Lib.hid hb5
            have HR6 := Lib.hid hr5
            have HP6 := HP4
            clear hb5 hr5
            have hl6 : Hid (St.last t = put.length) := by have := HP6.out.1; unfold Hid St.last; omega
            have hlast := last_calls HB6.out
            rw [hl6.out] at hlast
            have h46 : Hid ((put.length : Nat) ≤ 4096 ∧ (St.a t) + (St.xs t).length = put.length) := by have := HB6.out.ok.2.2; have := hl6.out; unfold St.last at this; unfold Hid; omega
            have e0 : IntKind.i64.wrap (((put.length : Nat) : Int) - (St.a t : Nat)) = ((St.xs t).length : Int) := by have := h46.out; rw [IntWalk.i64_in _ (by omega)]; omega
            have e1 : IntKind.i64.wrap (((St.a t : Nat) : Int) + 1) = ((St.a t : Nat) : Int) + 1 := by have := h46.out; rw [IntWalk.i64_in _ (by omega)]
            go_wp2_with fail
            refine (acked_calls HB6.out).mono ?_
            rintro e w' ⟨rfl, rfl⟩
            go_wp2_with fail
            refine hlast.mono ?_
            rintro e w' ⟨rfl, q6, rfl⟩
            go_wp2_with fail
            refine (left_calls (HB6.out.drewN q6)).mono ?_
            rintro e w7 ⟨z7, rfl, hr7, hc7, hz7⟩
            have hp7 := (HR6.out.drewN q6).keep hc7 (by simp)
            have hrow7 := row_yes (lc := (St.xs t).length) (pc := cap) hr7.reads hp7.reads rfl (by have := h46.out; omega) h46.out.1 HP6.out.2
            go_wp2_with fail
            refine hrow7.mono ?_
            rintro e w' ⟨rfl, q7, rfl⟩
            go_wp2_with fail
            go_roundw
            case rel =>
              have hq : Chg [] w5 (w7.drewN q7) := (((Chg.refl _ _).drewN q6).next hc7).drewN q7
              exact ⟨k + 1, S5, t, put, P, cap, by omega, by go_num, rfl, hp7.drewN q7, HB6.out.keep hq (by simp), HP6.out, hPS5, hS5', hPw, hc45.next hq⟩
            case measure => simp [intOf]; omega

          · have hfb : ((put.length : Int) == 4096) = false := by simpa using (show ¬ (put.length : Int) = 4096 by omega)
            have E : Hid (t.push n = ((put.length : Int) + 1, 0, ⟨t.a, t.s, t.xs ++ [n]⟩)) := by
              have e : t.last = put.length := by have := hpl.out; unfold St.last; omega
              unfold Hid St.push
              rw [e, if_neg hfu]
            have hpush := push_calls HB4.out n
            rw [E.out] at hpush
            dsimp only at hpush
            have hlt4 : put.length < 4096 := by have := HB4.out.ok.2.2; have := hpl.out; omega
            go_wp2_with fail
            refine hpush.mono ?_
            clear hpush
            rintro e w5 ⟨rfl, S5, hb5, hc5, hS5⟩
            have hbo5 := hc5.blk' HBO.out (fun hm => hoS.out _ hm rfl)
            have c52 := hbo5.cell 2
            have hS5' : ∀ i ∈ S5, w.heap.size ≤ i := fun i hi => by
              rcases hS5 i hi with h | h
              · exact hS i h
              · have := hc4.size; omega
            have hPS5 : ∀ i ∈ ob P, i ∉ S5 := fun i hi hm => by
              rcases hS5 i hm with h | h
              · exact hPS i hi h
              · have := HR4.out.lt i hi; omega
            have hr5 := HR4.out.keep hc5 hPS
            have hc45 := hc4.trans hc5 (fun i hi => .inr (hS i hi))
            have hrX := hr5.alloc (.cells #[.int .i64 n] 3)
            have hone := built_reads w5 3 [.int .i64 n]
            have HB5 := Lib.hid hb5
            clear hr5 hb5 hbo5
            go_wp2_with (at_builtin; refine wpList_append_row _ rfl (.tmp 90) (.tmp 93) 22 rfl 3 i0 (.int .i64 0) 1 8 Try.underlying22 hi hz0 hz1 hz2 rfl P put.length cap (ev cI put) rfl hrX _ 1 1 [.int .i64 n] rfl hone (by simp [Value.oneCell']) (by unfold maxLen; omega) (grow_ok (by omega)) ?_)
            intro P6 cap6 w6 hr6 hc6 hcase6
            have HB6 : Hid (Box w6 p S5 win ⟨t.a, t.s, t.xs ++ [n]⟩) := (HB5.out.keep ((Chg.refl [] w5).alloc _) (by simp)).keep hc6 (fun i hi hm => hPS5 i hm hi)
            have HR6 : Hid (Row w6 3 1 P6 (put.length + 1) cap6 (ev cI (put ++ [n]))) := by
              rw [Hid, ev_append]; exact hr6
            have HP6 : Hid (Put ⟨t.a, t.s, t.xs ++ [n]⟩ (put ++ [n])) := HP4.out.push n
            have hn6 : Hid ((put ++ [n]).length = put.length + 1) := by simp [Hid]
            have hsz5 := ((Chg.refl [] w5).alloc (.cells #[.int .i64 n] 3)).size
            have hPS6 : ∀ i ∈ ob P6, i ∉ S5 := fun i hi hm => by
              rcases hcase6.ob_ i hi with h | h
              · exact hPS5 i h hm
              · have := HB5.out.lt i hm; omega
            have hPw6 : ∀ i ∈ ob P6, w.heap.size ≤ i := fun i hi => by
              rcases hcase6.ob_ i hi with h | h
              · exact hPw i h
              · have := hc45.size; omega
            have hc46 : Chg [] w w6 := (hc45.alloc _).trans hc6 (fun i hi => .inr (hPw i hi))
            clear hr6 hcase6 hrX hone hc6 hsz5 c52
            go_wp2_with (go_at_call 11; refine (num_calls _ _).mono ?_; rintro e w' ⟨rfl, rfl⟩)
            clear E
            generalize (⟨t.a, t.s, t.xs ++ [n]⟩ : St) = t6 at HB6 HP6
            generalize put ++ [n] = put6 at HR6 HP6 hn6
            generalize put.length + 1 = n6 at *
            have hl6 : Hid (St.last t6 = n6) := by have := HP6.out.1; have := hn6.out; unfold Hid St.last; omega
            have hlast := last_calls HB6.out
            rw [hl6.out] at hlast
            have h46 : Hid ((n6 : Nat) ≤ 4096 ∧ (St.a t6) + (St.xs t6).length = n6) := by have := HB6.out.ok.2.2; have := hl6.out; unfold St.last at this; unfold Hid; omega
            have e0 : IntKind.i64.wrap (((n6 : Nat) : Int) - (St.a t6 : Nat)) = ((St.xs t6).length : Int) := by have := h46.out; rw [IntWalk.i64_in _ (by omega)]; omega
            have e1 : IntKind.i64.wrap (((St.a t6 : Nat) : Int) + 1) = ((St.a t6 : Nat) : Int) + 1 := by have := h46.out; rw [IntWalk.i64_in _ (by omega)]
            go_wp2_with fail
            refine (acked_calls HB6.out).mono ?_
            rintro e w' ⟨rfl, rfl⟩
            go_wp2_with fail
            refine hlast.mono ?_
            rintro e w' ⟨rfl, q6, rfl⟩
            go_wp2_with fail
            refine (left_calls (HB6.out.drewN q6)).mono ?_
            rintro e w7 ⟨z7, rfl, hr7, hc7, hz7⟩
            have hp7 := (HR6.out.drewN q6).keep hc7 (by simp)
            have hrow7 := row_yes (lc := (St.xs t6).length) (pc := cap6) hr7.reads hp7.reads hn6.out (by have := h46.out; omega) h46.out.1 HP6.out.2
            go_wp2_with fail
            refine hrow7.mono ?_
            rintro e w' ⟨rfl, q7, rfl⟩
            go_wp2_with fail
            go_roundw
            case rel =>
              have hq : Chg [] w6 (w7.drewN q7) := (((Chg.refl _ _).drewN q6).next hc7).drewN q7
              exact ⟨k + 1, S5, t6, put6, P6, cap6, by omega, by go_num, by rw [hn6.out], by rw [hn6.out]; exact hp7.drewN q7, HB6.out.keep hq (by simp), HP6.out, hPS6, hS5', hPw6, hc46.next hq⟩
            case measure => simp [intOf]; omega


        by_cases k8 : kd = 8
        · subst k8
          clear k1
          have hq4 : Chg [] wr (wr.alloc (.cells #[.int .i64 8, .int .i64 st, .int .i64 n] 32)) := (Chg.refl _ _).alloc _
          have hbo : Blk (wr.alloc (.cells #[.int .i64 8, .int .i64 st, .int .i64 n] 32)) wr.heap.size 32 #[.int .i64 8, .int .i64 st, .int .i64 n] := Blk.new _ _ _
          have hb4 := hb.keep hq4 (by simp)
          have hr4 := hrow.keep hq4 (by simp)
          have hoS : Hid (∀ i ∈ S, i ≠ wr.heap.size) := fun i hi e => by have := hb.lt i hi; omega
          have hoP : Hid (∀ i ∈ ob P, i ≠ wr.heap.size) := fun i hi e => by have := hrow.lt i hi; omega
          have HB4 := Lib.hid hb4
          have HR4 := Lib.hid hr4
          have HBO := Lib.hid hbo
          have HP4 := Lib.hid hP
          have hc4 := hc.next hq4
          have hpl : Hid (put.length = t.a + t.xs.length) := hP.1
          clear hb4 hr4 hbo hb hrow hP
          go_wp2_with (with_reducible refine wpList_load_cells _ rfl 32 (.tmp 64) rfl (ad.add (j * 3)) rfl _ HC.out (.struct _) Try.underlying32 rfl (by kernel_rfl) ?_)
          generalize wr.alloc (.cells #[.int .i64 8, .int .i64 st, .int .i64 n] 32) = w4 at *
          generalize wr.heap.size = o1 at *

          go_wp2_with fail
          refine (reset_calls HB4.out).mono ?_
          rintro e w5 ⟨rfl, S5, hb5, hc5, hS5⟩
          go_wp2_with (first
            | (go_at_call 13; refine (acked_calls hb5).mono ?_; rintro e w' ⟨rfl, rfl⟩)
            | (go_at_call 14; refine (sent_calls hb5).mono ?_; rintro e w' ⟨rfl, rfl⟩))
          have hS5' : ∀ i ∈ S5, w.heap.size ≤ i := fun i hi => by
            rcases hS5 i hi with h | h
            · exact hS i h
            · have := hc4.size; omega
          have hPS5 : ∀ i ∈ ob P, i ∉ S5 := fun i hi hm => by
            rcases hS5 i hm with h | h
            · exact hPS i hi h
            · have := HR4.out.lt i hi; omega
          have hr5 := HR4.out.keep hc5 hPS
          have hc45 := hc4.trans hc5 (fun i hi => .inr (hS i hi))
          have HB6 := Lib.hid hb5
          have HR6 : Hid (Row w5 3 1 none 0 0 (ev cI [])) := Row.nil _ _ _
          have HP6 : Hid (Put St.new []) := ⟨rfl, fun i h => by simp [St.new] at h⟩
          have hn6 : Hid (([] : List Int).length = 0) := Lib.hid rfl
          clear hb5 hr5
          have hL : Calls Try.prog 15 #[.pointer (some ⟨p, 0, none⟩)] w5 fun e w' => e = .returned (.int .i64 0) ∧ ∃ q, w' = w5.drewN q := last_calls HB6.out
          refine hL.mono ?_
          rintro e w' ⟨rfl, q6, rfl⟩
          have hLe : Calls Try.prog 22 #[.pointer (some ⟨p, 0, none⟩)] (w5.drewN q6) fun e w' => ∃ z, e = .returned (.slice (some ⟨z, 0, none⟩) 0 0) ∧ Row w' 38 2 (some ⟨z, 0, none⟩) 0 0 (itv cI (items (0 + 1) [])) ∧ Chg [] (w5.drewN q6) w' ∧ (w5.drewN q6).heap.size ≤ z := left_calls (HB6.out.drewN q6)
          clear hL
          go_wp2_with fail
          refine hLe.mono ?_
          clear hLe
          rintro e w7 ⟨z7, rfl, hr7, hc7, hz7⟩
          have hrow7 : Calls Try.prog 46 #[.slice (some ⟨z7, 0, none⟩) 0 0, .int .i64 1, .int .i64 0, .slice none 0 0] w7 fun e w' => e = .returned (.bool true) ∧ ∃ q, w' = w7.drewN q := row_yes (a := 0) (xs := []) (put := []) hr7.reads (Reads.nil _ _ _) rfl (Nat.le_refl _) (Nat.zero_le _) (fun i h => by simp at h)
          go_wp2_with fail
          refine hrow7.mono ?_
          rintro e w' ⟨rfl, q7, rfl⟩
          go_wp2_with fail
          go_roundw
          case rel =>
            have hq : Chg [] w5 (w7.drewN q7) := (((Chg.refl _ _).drewN q6).next hc7).drewN q7
            exact ⟨k + 1, S5, St.new, [], none, 0, by omega, by go_num, rfl, Row.nil _ _ _, HB6.out.keep hq (by simp), HP6.out, by simp [ob], hS5', by simp [ob], hc45.next hq⟩
          case measure => simp [intOf]; omega

        · have b1 : (kd == 1) = false := by simpa using k1
          have b8 : (kd == 8) = false := by simpa using k8
          have K8 := Lib.hid k8
          have K1 := Lib.hid k1
          clear k1 k8
          have hq4 : Chg [] wr (wr.alloc (.cells #[.int .i64 kd, .int .i64 st, .int .i64 n] 32)) := (Chg.refl _ _).alloc _
          have hbo : Blk (wr.alloc (.cells #[.int .i64 kd, .int .i64 st, .int .i64 n] 32)) wr.heap.size 32 #[.int .i64 kd, .int .i64 st, .int .i64 n] := Blk.new _ _ _
          have hb4 := hb.keep hq4 (by simp)
          have hr4 := hrow.keep hq4 (by simp)
          have hoS : Hid (∀ i ∈ S, i ≠ wr.heap.size) := fun i hi e => by have := hb.lt i hi; omega
          have hoP : Hid (∀ i ∈ ob P, i ≠ wr.heap.size) := fun i hi e => by have := hrow.lt i hi; omega
          have HB4 := Lib.hid hb4
          have HR4 := Lib.hid hr4
          have HBO := Lib.hid hbo
          have HP4 := Lib.hid hP
          have hc4 := hc.next hq4
          have hpl : Hid (put.length = t.a + t.xs.length) := hP.1
          clear hb4 hr4 hbo hb hrow hP
          go_wp2_with (with_reducible refine wpList_load_cells _ rfl 32 (.tmp 64) rfl (ad.add (j * 3)) rfl _ HC.out (.struct _) Try.underlying32 rfl (by kernel_rfl) ?_)
          generalize wr.alloc (.cells #[.int .i64 kd, .int .i64 st, .int .i64 n] 32) = w4 at *
          generalize wr.heap.size = o1 at *

          have HPA : Hid (Put (actF ⟨kd, st, n⟩ win t).2 put) := HP4.out.act HB4.out.ok kd st n win K1.out K8.out
          go_wp2_with fail
          refine (act_calls HB4.out ⟨kd, st, n⟩).mono ?_
          rintro e w5 ⟨rfl, S5, hb5, hc5, hS5⟩
          have hS5' : ∀ i ∈ S5, w.heap.size ≤ i := fun i hi => by
            rcases hS5 i hi with h | h
            · exact hS i h
            · have := hc4.size; omega
          have hPS5 : ∀ i ∈ ob P, i ∉ S5 := fun i hi hm => by
            rcases hS5 i hm with h | h
            · exact hPS i hi h
            · have := HR4.out.lt i hi; omega
          have hr5 := HR4.out.keep hc5 hPS
          have hc45 := hc4.trans hc5 (fun i hi => .inr (hS i hi))
          have HB6 := Lib.hid hb5
          have HR6 := Lib.hid hr5
          have HP6 := HPA
          clear hb5 hr5
          generalize (actF ⟨kd, st, n⟩ win t).2 = t5 at *
          have hl6 : Hid (St.last t5 = put.length) := by have := HP6.out.1; unfold Hid St.last; omega
          have hlast := last_calls HB6.out
          rw [hl6.out] at hlast
          have h46 : Hid ((put.length : Nat) ≤ 4096 ∧ (St.a t5) + (St.xs t5).length = put.length) := by have := HB6.out.ok.2.2; have := hl6.out; unfold St.last at this; unfold Hid; omega
          have e0 : IntKind.i64.wrap (((put.length : Nat) : Int) - (St.a t5 : Nat)) = ((St.xs t5).length : Int) := by have := h46.out; rw [IntWalk.i64_in _ (by omega)]; omega
          have e1 : IntKind.i64.wrap (((St.a t5 : Nat) : Int) + 1) = ((St.a t5 : Nat) : Int) + 1 := by have := h46.out; rw [IntWalk.i64_in _ (by omega)]
          go_wp2_with fail
          refine (acked_calls HB6.out).mono ?_
          rintro e w' ⟨rfl, rfl⟩
          go_wp2_with fail
          refine hlast.mono ?_
          rintro e w' ⟨rfl, q6, rfl⟩
          go_wp2_with fail
          refine (left_calls (HB6.out.drewN q6)).mono ?_
          rintro e w7 ⟨z7, rfl, hr7, hc7, hz7⟩
          have hp7 := (HR6.out.drewN q6).keep hc7 (by simp)
          have hrow7 := row_yes (lc := (St.xs t5).length) (pc := cap) hr7.reads hp7.reads rfl (by have := h46.out; omega) h46.out.1 HP6.out.2
          go_wp2_with fail
          refine hrow7.mono ?_
          rintro e w' ⟨rfl, q7, rfl⟩
          go_wp2_with fail
          go_roundw
          case rel =>
            have hq : Chg [] w5 (w7.drewN q7) := (((Chg.refl _ _).drewN q6).next hc7).drewN q7
            exact ⟨k + 1, S5, t5, put, P, cap, by omega, by go_num, rfl, hp7.drewN q7, HB6.out.keep hq (by simp), HP6.out, hPS5, hS5', hPw, hc45.next hq⟩
          case measure => simp [intOf]; omega

    · have hlt' : ¬ (k : Int) < (xs.length : Int) + ops.length := by omega
      have hrl := hrow.lt
      go_wp2_with (go_at_call 47; refine (drained_calls hb hrow.reads hPS hrl rfl hP).mono ?_; rintro e w5 ⟨rfl, hc5⟩)
      go_ret
      exact ⟨rfl, hc.trans hc5 (fun i hi => .inr (hS i hi))⟩
end Go.Proofs.Ytphbhmppjafhkaa
