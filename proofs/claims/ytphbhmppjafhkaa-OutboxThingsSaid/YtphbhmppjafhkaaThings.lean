/-
  PROVED: the walk of OutboxThings.
-/
import Derived.Test.YtphbhmppjafhkaaTD
import Derived.Test.YtphbhmppjafhkaaStep
namespace Go.Proofs.Ytphbhmppjafhkaa
open Go.RowKit

/-- The outbox of things and the document's, both of the state t, in blocks of their own. -/
def TSt (w wr : World) (p r win : Nat) (t : St) : Prop := ∃ S T, BoxT wr p S win t ∧ RBox wr r T win t ∧ Apart S T ∧ (∀ k ∈ S ++ T, w.heap.size ≤ k) ∧ Chg [] w wr

theorem tst_both {w w0 w1 w2 w3 w4 w5 : World} {p r win : Nat} {S T : List Nat} {t t' : St} (_hx : BoxT w0 p S win t) (hr : RBox w0 r T win t) (hap : Apart S T) (hST : ∀ k ∈ S ++ T, w.heap.size ≤ k) (hc : Chg [] w w0)
    (c1 : Chg [] w0 w1) (hl : LeftT w1 p S win t' w2) (c2 : Chg [] w2 w3) (hrl : RLeft w3 r T win t' w4) (c4 : Chg [] w4 w5) : TSt w w5 p r win t' := by
  obtain ⟨S', hd2, hc2, hS⟩ := hl
  obtain ⟨T', hr4, hc4, hT⟩ := hrl
  have s0 := hc.size
  have s01 := c1.size
  have s12 := hc2.size
  have s23 := c2.size
  have hSw : ∀ k ∈ S, w.heap.size ≤ k := fun k hk => hST k (by simp [hk])
  have hTw : ∀ k ∈ T, w.heap.size ≤ k := fun k hk => hST k (by simp [hk])
  have hS'T : Apart S' T := Apart.next hap hS (fun k hk => by have := hr.lt k hk; omega)
  have hd4 := (hd2.keep c2 (by simp)).keep hc4 hS'T
  have hTS : Apart S' T' := by
    intro k hk hm
    rcases hT k hm with hh | hh
    · exact hS'T k hk hh
    · have := hd2.lt k hk; omega
  refine ⟨S', T', hd4.keep c4 (by simp), hr4.keep c4 (by simp), hTS, ?_, ((((hc.next c1).trans hc2 (fun k hk => .inr (hSw k hk))).next c2).trans hc4 (fun k hk => .inr (hTw k hk))).next c4⟩
  intro k hk
  rcases List.mem_append.1 hk with hk | hk
  · rcases hS k hk with hh | hh
    · exact hSw k hh
    · omega
  · rcases hT k hk with hh | hh
    · exact hTw k hh
    · omega

set_option maxHeartbeats 2000000 in
set_option maxRecDepth 100000 in
theorem things_no (win : Int) (B : Option Addr) (m d : Nat) (w : World) (h : win < 1 ∨ 4096 < win) :
    Calls Try.prog 6 #[.int .i64 win, .slice B m d] w fun e w' => e = .returned (.bool true) ∧ Chg [] w w' := by
  have h1 := new_noT w win h
  have h2 := rnew_no w win h
  clear h
  go_enter Try.func6, Try.ntmps6
  go_wp2_with (first
    | (go_at_call 26; refine h1.mono ?_; rintro e w' ⟨rfl, rfl⟩)
    | (go_at_call 27; refine h2.mono ?_; rintro e w' ⟨rfl, rfl⟩)
    | (go_at_call 11; refine (num_calls _ _).mono ?_; rintro e w' ⟨rfl, rfl⟩))
  go_ret
  exact ⟨rfl, Chg.refl _ _⟩

set_option maxHeartbeats 4000000 in
set_option maxRecDepth 100000 in
theorem things_in (win : Nat) (B : Option Addr) (d : Nat) (w : World) (ops : List GOp) (hy : OpsAt w B ops) (hm : ops.length * 24 ≤ 140737488351232) (hw1 : 1 ≤ win) (hw2 : win ≤ 4096) :
    Calls Try.prog 6 #[.int .i64 win, .slice B ops.length d] w fun e w' => e = .returned (.bool true) ∧ Chg [] w w' := by
  go_enter Try.func6, Try.ntmps6
  go_wp2_with fail
  refine (new_okT w win hw1 hw2).mono ?_
  rintro e w1 ⟨p, S, rfl, hx1, hc1, hS1⟩
  go_wp2_with fail
  refine (rnew_ok w1 win hw1 hw2).mono ?_
  rintro e w2 ⟨r, T, rfl, hr2, hc2, hT2⟩
  have hT : TSt w w2 p r win St.new := by
    have s1 := hc1.size
    refine ⟨S, T, hx1.keep hc2 (by simp), hr2, fun k hk hm => ?_, fun k hk => ?_, hc1.next hc2⟩
    · have := hx1.lt k hk; have := hT2 k hm; omega
    · rcases List.mem_append.1 hk with hk | hk
      · exact hS1 k hk
      · have := hT2 k hk; omega
  clear hx1 hc1 hS1 hr2 hc2 hT2
  go_wp2_with (go_at_call 11; refine (num_calls _ _).mono ?_; rintro e w' ⟨rfl, rfl⟩)
  go_loopw [9] (fun i wr => ∃ (k : Nat) (t : St), k ≤ ops.length ∧ i = .int .i64 k ∧ TSt w wr p r win t) (fun i _ => ops.length - (intOf i).toNat)
  case atStart => exact ⟨0, St.new, Nat.zero_le _, rfl, hT⟩
  case round =>
    clear hT
    obtain ⟨k, t, hk, rfl, S, T, hx, hr, hap, hST, hc⟩ := hrel
    by_cases hlt : k < ops.length
    · obtain ⟨ad, o, rfl, ho, hcells⟩ := (hy.keep hc).at_ hlt
      obtain ⟨kd, st, n⟩ := o
      have hcells' : ∀ j u, ([.int .i64 kd, .int .i64 st, .int .i64 n] : List Value)[j]? = some u → wr.cell? ((ad.add (k * 3)).add j) = some u := hcells
      have HC := Lib.hid hcells'
      clear hcells hcells' ho
      have q0 : Chg [] wr (wr.alloc (.cells #[.int .i64 kd, .int .i64 st, .int .i64 n] 32)) := (Chg.refl _ _).alloc _
      have hbo : Blk (wr.alloc (.cells #[.int .i64 kd, .int .i64 st, .int .i64 n] 32)) wr.heap.size 32 #[.int .i64 kd, .int .i64 st, .int .i64 n] := Blk.new _ _ _
      have HX := Lib.hid hx
      have HR := Lib.hid hr
      have HX0 := Lib.hid (hx.keep q0 (by simp))
      have HR0 := Lib.hid (q0.rbox hr (by simp))
      have hgS : Hid (wr.heap.size ∉ S) := fun hm => by have := hx.lt _ hm; omega
      have hTS : Hid (∀ k ∈ T, k ∉ S) := fun k hk hm => hap k hm hk
      clear hx hr
      by_cases k1 : kd = 1
      · subst k1
        go_wp2_with (with_reducible refine wpList_load_cells _ rfl 32 (.tmp 48) rfl (ad.add (k * 3)) rfl _ HC.out (.struct _) Try.underlying32 rfl (by kernel_rfl) ?_)
        generalize wr.alloc (.cells #[.int .i64 1, .int .i64 st, .int .i64 n] 32) = w0 at *
        generalize hgb : wr.heap.size = gb at *
        have HGB := Lib.hid hgb
        clear hgb
        have b0 := hbo.cell 0
        have b2 := hbo.cell 2
        go_wp2_with (go_at_call 29; refine (thing_calls _ n).mono ?_
                     rintro e w1 ⟨rfl, hc1⟩
                     have b12 := hc1.cell (p := ⟨gb, 2, none⟩) (v := .int .i64 n) (by exact b2) (by simp))
        refine (push_callsT (HX0.out.keep hc1 (by simp)) n).mono ?_
        rintro e w2 ⟨rfl, hl2⟩
        have hl2' := hl2
        obtain ⟨S2, hd2, hc2, hS2⟩ := hl2'
        have b22 := hc2.cell (p := ⟨gb, 2, none⟩) (v := .int .i64 n) (by exact b12) hgS.out
        have rd2 := Lib.hid (hc2.rbox (hc1.rbox HR0.out (by simp)) hTS.out)
        go_wp2_with (first
          | (go_at_call 30; refine (rpush_calls rd2.out n).mono ?_; rintro e w3 ⟨rfl, hl3⟩))
        go_wp2_with (go_at_call 11; refine (num_calls _ _).mono ?_; rintro e w' ⟨rfl, rfl⟩)
        have HT6 : Hid (TSt w w3 p r win (t.push n).2.2) := tst_both HX.out HR.out hap hST hc (by exact q0.next hc1) hl2 (by exact Chg.refl _ _) hl3 (by exact Chg.refl _ _)
        generalize (t.push n).2.2 = t6 at HT6
        obtain ⟨S6, T6, hx6, hr6, hap6, hST6, hc6⟩ := HT6.out
        have hok6 := Lib.hid hx6.ok
        go_wp2_with fail
        refine (left_callsT hx6).mono ?_
        rintro e w7 ⟨z7, rfl, hrow7, hc7, hz7⟩
        go_wp2_with fail
        refine (rleft_calls (hc7.rbox hr6 (by simp))).mono ?_
        rintro e w8 ⟨Z8, cz8, rfl, hrow8, hc8, hz8⟩
        have hrow78 := hrow7.reads.keep hc8 (by simp)
        go_wp2_with fail
        refine (sameThings_yes (by have := hok6.out.2.2; omega) hrow78 hrow8).mono ?_
        rintro e w9 ⟨rfl, hc9⟩
        have hc69 := (hc7.next hc8).next hc9
        have HX9 := Lib.hid (hx6.keep hc69 (by simp))
        have HR9 := Lib.hid (hc69.rbox hr6 (by simp))
        have HC69 := Lib.hid hc69
        clear hrow7 hrow8 hrow78 hc7 hc8 hc9 hz7 hz8 hc69 hx6 hr6
        go_wp2_with fail
        refine (acked_callsT HX9.out).mono ?_
        rintro e w' ⟨rfl, rfl⟩
        go_wp2_with fail
        refine (racked_calls HR9.out).mono ?_
        rintro e w' ⟨rfl, rfl⟩
        go_wp2_with fail
        refine (sent_callsT HX9.out).mono ?_
        rintro e w' ⟨rfl, rfl⟩
        go_wp2_with fail
        refine (rsent_calls HR9.out).mono ?_
        rintro e w' ⟨rfl, rfl⟩
        go_wp2_with fail
        refine (last_callsT HX9.out).mono ?_
        rintro e w' ⟨rfl, q9, rfl⟩
        go_wp2_with fail
        refine (rlast_calls (HR9.out.drewN q9)).mono ?_
        rintro e w' ⟨rfl, hw9⟩
        cases hw9
        go_wp2_with fail
        go_roundw
        case rel => exact ⟨k + 1, t6, by omega, by go_num, S6, T6, HX9.out.drewN q9, HR9.out.drewN q9, hap6, hST6, (hc6.next HC69.out).drewN q9⟩
        case measure => simp [intOf]; omega


      by_cases k3 : kd = 3
      · subst k3
        go_wp2_with (with_reducible refine wpList_load_cells _ rfl 32 (.tmp 48) rfl (ad.add (k * 3)) rfl _ HC.out (.struct _) Try.underlying32 rfl (by kernel_rfl) ?_)
        generalize wr.alloc (.cells #[.int .i64 3, .int .i64 st, .int .i64 n] 32) = w0 at *
        generalize hgb : wr.heap.size = gb at *
        have HGB := Lib.hid hgb
        clear hgb
        have b0 := hbo.cell 0
        have b2 := hbo.cell 2
        go_wp2_with fail
        refine (ack_callsT HX0.out n).mono ?_
        rintro e w2 ⟨rfl, hl2⟩
        have hl2' := hl2
        obtain ⟨S2, hd2, hc2, hS2⟩ := hl2'
        have b22 := hc2.cell (p := ⟨gb, 2, none⟩) (v := .int .i64 n) (by exact b2) hgS.out
        have rd2 := Lib.hid (hc2.rbox HR0.out hTS.out)
        go_wp2_with fail
        go_region_law (first
          | (go_simp; go_at_call 11; refine (num_calls _ _).mono ?_; rintro e w' ⟨rfl, rfl⟩)
          | (go_simp; go_at_call 32; refine Calls.mono (rack_calls (p := r) (win := win) (S := T) (t := t) ?_ n) ?_; · exact rd2.out
             rintro e w3 ⟨rfl, hl3⟩))
        all_goals
          have HT6 : Hid (TSt w w3 p r win (t.ack n).2) := tst_both HX.out HR.out hap hST hc (by exact q0) hl2 (by first | exact Chg.refl _ _ | exact (Chg.refl _ _).drew | exact (Chg.refl _ _).drewN _) hl3 (by first | exact Chg.refl _ _ | exact (Chg.refl _ _).drew | exact (Chg.refl _ _).drewN _)

          generalize (t.ack n).2 = t6 at HT6
          obtain ⟨S6, T6, hx6, hr6, hap6, hST6, hc6⟩ := HT6.out
          have hok6 := Lib.hid hx6.ok
          go_wp2_with fail
          refine (left_callsT hx6).mono ?_
          rintro e w7 ⟨z7, rfl, hrow7, hc7, hz7⟩
          go_wp2_with fail
          refine (rleft_calls (hc7.rbox hr6 (by simp))).mono ?_
          rintro e w8 ⟨Z8, cz8, rfl, hrow8, hc8, hz8⟩
          have hrow78 := hrow7.reads.keep hc8 (by simp)
          go_wp2_with fail
          refine (sameThings_yes (by have := hok6.out.2.2; omega) hrow78 hrow8).mono ?_
          rintro e w9 ⟨rfl, hc9⟩
          have hc69 := (hc7.next hc8).next hc9
          have HX9 := Lib.hid (hx6.keep hc69 (by simp))
          have HR9 := Lib.hid (hc69.rbox hr6 (by simp))
          have HC69 := Lib.hid hc69
          clear hrow7 hrow8 hrow78 hc7 hc8 hc9 hz7 hz8 hc69 hx6 hr6
          go_wp2_with fail
          refine (acked_callsT HX9.out).mono ?_
          rintro e w' ⟨rfl, rfl⟩
          go_wp2_with fail
          refine (racked_calls HR9.out).mono ?_
          rintro e w' ⟨rfl, rfl⟩
          go_wp2_with fail
          refine (sent_callsT HX9.out).mono ?_
          rintro e w' ⟨rfl, rfl⟩
          go_wp2_with fail
          refine (rsent_calls HR9.out).mono ?_
          rintro e w' ⟨rfl, rfl⟩
          go_wp2_with fail
          refine (last_callsT HX9.out).mono ?_
          rintro e w' ⟨rfl, q9, rfl⟩
          go_wp2_with fail
          refine (rlast_calls (HR9.out.drewN q9)).mono ?_
          rintro e w' ⟨rfl, hw9⟩
          cases hw9
          go_wp2_with fail
          go_roundw
          case rel => exact ⟨k + 1, t6, by omega, by go_num, S6, T6, HX9.out.drewN q9, HR9.out.drewN q9, hap6, hST6, (hc6.next HC69.out).drewN q9⟩
          case measure => simp [intOf]; omega



      by_cases k2 : kd = 2
      · subst k2
        go_wp2_with (with_reducible refine wpList_load_cells _ rfl 32 (.tmp 48) rfl (ad.add (k * 3)) rfl _ HC.out (.struct _) Try.underlying32 rfl (by kernel_rfl) ?_)
        generalize wr.alloc (.cells #[.int .i64 2, .int .i64 st, .int .i64 n] 32) = w0 at *
        generalize hgb : wr.heap.size = gb at *
        have HGB := Lib.hid hgb
        clear hgb
        have b0 := hbo.cell 0
        have b2 := hbo.cell 2
        have hwin := Lib.hid HX.out.win
        go_wp2_with fail
        refine (due_callsT HX0.out).mono ?_
        rintro e w2 ⟨z, rfl, hr2, hl2, hz2⟩
        have hl2' := hl2
        obtain ⟨S2, hd2, hc2, hS2⟩ := hl2'
        have b22 := hc2.cell (p := ⟨gb, 2, none⟩) (v := .int .i64 n) (by exact b2) hgS.out
        have rd2 := Lib.hid (hc2.rbox HR0.out hTS.out)
        have hzT : Hid (∀ k ∈ ob (some (⟨z, 0, none⟩ : Addr)), k ∉ T) := fun k hk hm => by
          have h1 := HR0.out.lt k hm
          simp [ob] at hk
          omega
        go_wp2_with fail
        refine (rdue_calls rd2.out).mono ?_
        rintro e w3 ⟨Z, cz, rfl, hr3, hl3, hz3⟩
        have hl3' := hl3
        obtain ⟨T3, hd3, hc3, hT3⟩ := hl3'
        have hx3 := hr2.reads.keep hc3 hzT.out
        have hm4 : min win t.xs.length ≤ 4096 := by have := hwin.out; omega
        go_wp2_with fail
        refine (sameThings_yes hm4 hx3 hr3).mono ?_
        rintro e w4 ⟨rfl, hc4⟩
        have HT6 : Hid (TSt w w4 p r win (t.due win)) := tst_both HX.out HR.out hap hST hc (by exact q0) hl2 (by exact Chg.refl _ _) hl3 (by exact hc4)
        generalize t.due win = t6 at HT6
        clear hr2 hr3 hx3
        obtain ⟨S6, T6, hx6, hr6, hap6, hST6, hc6⟩ := HT6.out
        have hok6 := Lib.hid hx6.ok
        go_wp2_with fail
        refine (left_callsT hx6).mono ?_
        rintro e w7 ⟨z7, rfl, hrow7, hc7, hz7⟩
        go_wp2_with fail
        refine (rleft_calls (hc7.rbox hr6 (by simp))).mono ?_
        rintro e w8 ⟨Z8, cz8, rfl, hrow8, hc8, hz8⟩
        have hrow78 := hrow7.reads.keep hc8 (by simp)
        go_wp2_with fail
        refine (sameThings_yes (by have := hok6.out.2.2; omega) hrow78 hrow8).mono ?_
        rintro e w9 ⟨rfl, hc9⟩
        have hc69 := (hc7.next hc8).next hc9
        have HX9 := Lib.hid (hx6.keep hc69 (by simp))
        have HR9 := Lib.hid (hc69.rbox hr6 (by simp))
        have HC69 := Lib.hid hc69
        clear hrow7 hrow8 hrow78 hc7 hc8 hc9 hz7 hz8 hc69 hx6 hr6
        go_wp2_with fail
        refine (acked_callsT HX9.out).mono ?_
        rintro e w' ⟨rfl, rfl⟩
        go_wp2_with fail
        refine (racked_calls HR9.out).mono ?_
        rintro e w' ⟨rfl, rfl⟩
        go_wp2_with fail
        refine (sent_callsT HX9.out).mono ?_
        rintro e w' ⟨rfl, rfl⟩
        go_wp2_with fail
        refine (rsent_calls HR9.out).mono ?_
        rintro e w' ⟨rfl, rfl⟩
        go_wp2_with fail
        refine (last_callsT HX9.out).mono ?_
        rintro e w' ⟨rfl, q9, rfl⟩
        go_wp2_with fail
        refine (rlast_calls (HR9.out.drewN q9)).mono ?_
        rintro e w' ⟨rfl, hw9⟩
        cases hw9
        go_wp2_with fail
        go_roundw
        case rel => exact ⟨k + 1, t6, by omega, by go_num, S6, T6, HX9.out.drewN q9, HR9.out.drewN q9, hap6, hST6, (hc6.next HC69.out).drewN q9⟩
        case measure => simp [intOf]; omega


      by_cases k8 : kd = 8
      · subst k8
        go_wp2_with (with_reducible refine wpList_load_cells _ rfl 32 (.tmp 48) rfl (ad.add (k * 3)) rfl _ HC.out (.struct _) Try.underlying32 rfl (by kernel_rfl) ?_)
        generalize wr.alloc (.cells #[.int .i64 8, .int .i64 st, .int .i64 n] 32) = w0 at *
        generalize hgb : wr.heap.size = gb at *
        have HGB := Lib.hid hgb
        clear hgb
        have b0 := hbo.cell 0
        have b2 := hbo.cell 2
        go_wp2_with fail
        refine (reset_callsT HX0.out).mono ?_
        rintro e w2 ⟨rfl, hl2⟩
        have hl2' := hl2
        obtain ⟨S2, hd2, hc2, hS2⟩ := hl2'
        have b22 := hc2.cell (p := ⟨gb, 2, none⟩) (v := .int .i64 n) (by exact b2) hgS.out
        have rd2 := Lib.hid (hc2.rbox HR0.out hTS.out)
        go_wp2_with fail
        refine (rreset_calls rd2.out).mono ?_
        rintro e w3 ⟨rfl, hl3⟩
        have HT6 : Hid (TSt w w3 p r win St.new) := tst_both HX.out HR.out hap hST hc (by exact q0) hl2 (by exact Chg.refl _ _) hl3 (by exact Chg.refl _ _)
        generalize St.new = t6 at HT6
        obtain ⟨S6, T6, hx6, hr6, hap6, hST6, hc6⟩ := HT6.out
        have hok6 := Lib.hid hx6.ok
        go_wp2_with fail
        refine (left_callsT hx6).mono ?_
        rintro e w7 ⟨z7, rfl, hrow7, hc7, hz7⟩
        go_wp2_with fail
        refine (rleft_calls (hc7.rbox hr6 (by simp))).mono ?_
        rintro e w8 ⟨Z8, cz8, rfl, hrow8, hc8, hz8⟩
        have hrow78 := hrow7.reads.keep hc8 (by simp)
        go_wp2_with fail
        refine (sameThings_yes (by have := hok6.out.2.2; omega) hrow78 hrow8).mono ?_
        rintro e w9 ⟨rfl, hc9⟩
        have hc69 := (hc7.next hc8).next hc9
        have HX9 := Lib.hid (hx6.keep hc69 (by simp))
        have HR9 := Lib.hid (hc69.rbox hr6 (by simp))
        have HC69 := Lib.hid hc69
        clear hrow7 hrow8 hrow78 hc7 hc8 hc9 hz7 hz8 hc69 hx6 hr6
        go_wp2_with fail
        refine (acked_callsT HX9.out).mono ?_
        rintro e w' ⟨rfl, rfl⟩
        go_wp2_with fail
        refine (racked_calls HR9.out).mono ?_
        rintro e w' ⟨rfl, rfl⟩
        go_wp2_with fail
        refine (sent_callsT HX9.out).mono ?_
        rintro e w' ⟨rfl, rfl⟩
        go_wp2_with fail
        refine (rsent_calls HR9.out).mono ?_
        rintro e w' ⟨rfl, rfl⟩
        go_wp2_with fail
        refine (last_callsT HX9.out).mono ?_
        rintro e w' ⟨rfl, q9, rfl⟩
        go_wp2_with fail
        refine (rlast_calls (HR9.out.drewN q9)).mono ?_
        rintro e w' ⟨rfl, hw9⟩
        cases hw9
        go_wp2_with fail
        go_roundw
        case rel => exact ⟨k + 1, t6, by omega, by go_num, S6, T6, HX9.out.drewN q9, HR9.out.drewN q9, hap6, hST6, (hc6.next HC69.out).drewN q9⟩
        case measure => simp [intOf]; omega


      · have b1 : (kd == 1) = false := by simpa using k1
        have b3 : (kd == 3) = false := by simpa using k3
        have b2' : (kd == 2) = false := by simpa using k2
        have b8 : (kd == 8) = false := by simpa using k8
        clear k1 k2 k3 k8
        go_wp2_with (with_reducible refine wpList_load_cells _ rfl 32 (.tmp 48) rfl (ad.add (k * 3)) rfl _ HC.out (.struct _) Try.underlying32 rfl (by kernel_rfl) ?_)
        generalize wr.alloc (.cells #[.int .i64 kd, .int .i64 st, .int .i64 n] 32) = w0 at *
        generalize hgb : wr.heap.size = gb at *
        have HGB := Lib.hid hgb
        clear hgb
        have b0 := hbo.cell 0
        have b2 := hbo.cell 2
        have HT6 : Hid (TSt w w0 p r win t) := ⟨S, T, HX0.out, HR0.out, hap, hST, hc.next q0⟩
        generalize t = t6 at HT6
        obtain ⟨S6, T6, hx6, hr6, hap6, hST6, hc6⟩ := HT6.out
        have hok6 := Lib.hid hx6.ok
        go_wp2_with fail
        refine (left_callsT hx6).mono ?_
        rintro e w7 ⟨z7, rfl, hrow7, hc7, hz7⟩
        go_wp2_with fail
        refine (rleft_calls (hc7.rbox hr6 (by simp))).mono ?_
        rintro e w8 ⟨Z8, cz8, rfl, hrow8, hc8, hz8⟩
        have hrow78 := hrow7.reads.keep hc8 (by simp)
        go_wp2_with fail
        refine (sameThings_yes (by have := hok6.out.2.2; omega) hrow78 hrow8).mono ?_
        rintro e w9 ⟨rfl, hc9⟩
        have hc69 := (hc7.next hc8).next hc9
        have HX9 := Lib.hid (hx6.keep hc69 (by simp))
        have HR9 := Lib.hid (hc69.rbox hr6 (by simp))
        have HC69 := Lib.hid hc69
        clear hrow7 hrow8 hrow78 hc7 hc8 hc9 hz7 hz8 hc69 hx6 hr6
        go_wp2_with fail
        refine (acked_callsT HX9.out).mono ?_
        rintro e w' ⟨rfl, rfl⟩
        go_wp2_with fail
        refine (racked_calls HR9.out).mono ?_
        rintro e w' ⟨rfl, rfl⟩
        go_wp2_with fail
        refine (sent_callsT HX9.out).mono ?_
        rintro e w' ⟨rfl, rfl⟩
        go_wp2_with fail
        refine (rsent_calls HR9.out).mono ?_
        rintro e w' ⟨rfl, rfl⟩
        go_wp2_with fail
        refine (last_callsT HX9.out).mono ?_
        rintro e w' ⟨rfl, q9, rfl⟩
        go_wp2_with fail
        refine (rlast_calls (HR9.out.drewN q9)).mono ?_
        rintro e w' ⟨rfl, hw9⟩
        cases hw9
        go_wp2_with fail
        go_roundw
        case rel => exact ⟨k + 1, t6, by omega, by go_num, S6, T6, HX9.out.drewN q9, HR9.out.drewN q9, hap6, hST6, (hc6.next HC69.out).drewN q9⟩
        case measure => simp [intOf]; omega

    · go_wp2_with fail
      have hwin := Lib.hid hx.win
      refine (due_callsT hx).mono ?_
      rintro e w2 ⟨z, rfl, hr2, hl2, hz2⟩
      obtain ⟨S2, hd2, hc2, hS2⟩ := hl2
      have rd2 := Lib.hid (hc2.rbox hr (fun k hk hm => hap k hm hk))
      have hzT : Hid (∀ k ∈ ob (some (⟨z, 0, none⟩ : Addr)), k ∉ T) := fun k hk hm => by
        have h1 := hr.lt k hm
        simp [ob] at hk
        omega
      go_wp2_with fail
      refine (rdue_calls rd2.out).mono ?_
      rintro e w3 ⟨Z, cz, rfl, hr3, ⟨T3, hd3, hc3, hT3⟩, hz3⟩
      have hx3 := hr2.reads.keep hc3 hzT.out
      have hm4 : min win t.xs.length ≤ 4096 := by have := hwin.out; omega
      go_wp2_with fail
      refine (sameThings_yes hm4 hx3 hr3).mono ?_
      rintro e w4 ⟨rfl, hc4⟩
      go_wp2_with fail
      go_ret
      exact ⟨rfl, ((hc.trans hc2 (fun k hk => .inr (hST k (by simp [hk])))).trans hc3 (fun k hk => .inr (hST k (by simp [hk])))).next hc4⟩
end Go.Proofs.Ytphbhmppjafhkaa
