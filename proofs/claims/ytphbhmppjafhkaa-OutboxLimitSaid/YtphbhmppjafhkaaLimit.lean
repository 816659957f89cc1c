/-
  PROVED: the walk of OutboxLimit.
-/
import Derived.Test.YtphbhmppjafhkaaRow
namespace Go.Proofs.Ytphbhmppjafhkaa
open Go.RowKit

set_option maxHeartbeats 2000000 in
set_option maxRecDepth 100000 in
theorem limit_no (win ev : Int) (w : World) (h : win < 1 ∨ 4096 < win) :
    Calls Try.prog 8 #[.int .i64 win, .int .i64 ev] w fun e w' => e = .returned (.bool true) ∧ Chg [] w w' := by
  have hn := new_no w win h
  by_cases h0 : win < 1
  · go_enter Try.func8, Try.ntmps8
    go_wp2_with (first
      | (go_at_call 10; refine hn.mono ?_; rintro e w' ⟨rfl, rfl⟩)
      | (go_at_call 11; refine (num_calls _ _).mono ?_; rintro e w' ⟨rfl, rfl⟩))
    go_ret
    exact ⟨rfl, Chg.refl _ _⟩
  · have h1 : 4096 < win := by omega
    clear h
    go_enter Try.func8, Try.ntmps8
    go_wp2_with (first
      | (go_at_call 10; refine hn.mono ?_; rintro e w' ⟨rfl, rfl⟩)
      | (go_at_call 11; refine (num_calls _ _).mono ?_; rintro e w' ⟨rfl, rfl⟩))
    go_ret
    exact ⟨rfl, Chg.refl _ _⟩

theorem due_new (win : Nat) : St.new.due win = St.new := by simp [St.due, St.new]

set_option maxHeartbeats 4000000 in
set_option maxRecDepth 100000 in
theorem limit_in (win : Nat) (ev : Int) (w : World) (hw1 : 1 ≤ win) (hw2 : win ≤ 4096) :
    Calls Try.prog 8 #[.int .i64 win, .int .i64 ev] w fun e w' => e = .returned (.bool true) ∧ Chg [] w w' := by
  have h1 : ¬ (win : Int) < 1 := by omega
  have h2 : ¬ (4096 : Int) < win := by omega
  go_enter Try.func8, Try.ntmps8
  go_wp2_with (first
    | (go_at_call 10; refine (new_ok w win hw1 hw2).mono ?_; rintro e w1 ⟨p, S, rfl, hb1, hc1, hS1⟩)
    | (go_at_call 11; refine (num_calls _ _).mono ?_; rintro e w' ⟨rfl, rfl⟩))
  go_loopw [7] (fun i wr => ∃ (g : Nat) (S : List Nat), g ≤ 2 ∧ i = .int .i64 g ∧ Box wr p S win St.new ∧ (∀ i ∈ S, w.heap.size ≤ i) ∧ Chg [] w wr) (fun i _ => 2 - (intOf i).toNat)
  case atStart => exact ⟨0, S, Nat.zero_le _, rfl, hb1, hS1, hc1⟩
  case round =>
    clear hb1 hS1 hc1
    obtain ⟨g, S, hg, rfl, hb, hS, hc⟩ := hrel
    by_cases hlt : g < 2
    · have hlt' : (g : Int) < 2 := by omega
      go_wp2_with fail
      go_loopw [8] (fun i wr => ∃ (k : Nat) (S : List Nat) (t : St), k ≤ 4096 ∧ i = .int .i64 ((k : Int) + 1) ∧ Box wr p S win t ∧ t.last = k ∧ (∀ i ∈ S, w.heap.size ≤ i) ∧ Chg [] w wr) (fun i _ => 4097 - (intOf i).toNat)
      case atStart => exact ⟨0, S, St.new, Nat.zero_le _, rfl, hb, rfl, hS, hc⟩
      case round =>
        clear hb hS hc
        obtain ⟨k, S, t, hk, rfl, hb, hl, hS, hc⟩ := hrel
        by_cases hlt4 : k < 4096
        · have hle : (k : Int) + 1 ≤ 4096 := by omega
          have hpush := push_calls hb ((k : Int) + 1)
          have E : Hid (t.push ((k : Int) + 1) = ((k : Int) + 1, 0, ⟨t.a, t.s, t.xs ++ [(k : Int) + 1]⟩)) := by
            unfold Hid St.push
            rw [hl, if_neg (by omega)]
          rw [E.out] at hpush
          dsimp only at hpush
          obtain ⟨t5, ht5⟩ : ∃ t5 : St, t5 = ⟨t.a, t.s, t.xs ++ [(k : Int) + 1]⟩ := ⟨_, rfl⟩
          rw [← ht5] at hpush
          have hl5 : Hid (t5.last = k + 1) := by unfold St.last at hl; subst ht5; simp [Hid, St.last]; omega
          have hx5 : Hid (0 < t5.xs.length) := by subst ht5; simp [Hid]
          have HL := Lib.hid hl
          clear E ht5 hl hb
          by_cases hev : 0 < ev
          · by_cases hdv : (((k : Int) + 1) % ev == 0) = true
            · go_wp2_with fail
              refine hpush.mono ?_
              clear hpush
              rintro e w5 ⟨rfl, S5, hb5, hc5', hS5⟩
              have hS5' : ∀ i ∈ S5, w.heap.size ≤ i := fun i hi => by
                rcases hS5 i hi with h | h
                · exact hS i h
                · have := hc.size; omega
              have hc5 : Chg [] w w5 := hc.trans hc5' (fun i hi => .inr (hS i hi))
              have HB5 := Lib.hid hb5
              go_wp2_with (go_at_call 11; refine (num_calls _ _).mono ?_; rintro e w' ⟨rfl, rfl⟩)

              refine (due_calls HB5.out).mono ?_
              rintro e w6 ⟨z, rfl, hr6, ⟨S6, hb6, hc6, hS6⟩, hz6⟩
              obtain ⟨m, hm⟩ : ∃ m, m = min win t5.xs.length := ⟨_, rfl⟩
              rw [← hm] at hr6
              rw [← hm]
              have HM := Lib.hid hm
              clear hm
              have hxl := hx5.out
              have hmp : 0 < m := by have := HM.out; omega
              have hm4 : m ≤ 4096 := by have := HM.out; omega
              have hml : m ≤ t5.xs.length := by have := HM.out; omega
              have hok5 := HB5.out.ok
              have hi6 : m - 1 < (items (t5.a + 1) (t5.xs.take m)).length := by rw [items_length]; simp; omega
              have hcell := (item_cells hr6.reads hi6).1
              rw [items_at (by simp; omega), show ((((t5.a + 1 + (m - 1) : Nat) : Int)) = (t5.a : Int) + m) by omega] at hcell
              have HCE := Lib.hid hcell
              clear hr6 hi6 hcell
              have hcell := HCE.out
              simp only at hcell
              have e1 : IntKind.i64.wrap ((m : Int) - 1) = (m : Int) - 1 := IntWalk.i64_in _ (by omega)
              have e2 : ((m : Int) - 1).toNat = m - 1 := by omega
              have e3 : (0 : Int) ≤ (m : Int) - 1 := by omega
              have e4 : m - 1 < m := by omega
              have E : Hid ((t5.due win).ack ((t5.a : Int) + m) = (0, ⟨t5.a + m, (t5.due win).s, t5.xs.drop m⟩)) := by
                have hs : (t5.due win).s = max t5.s (t5.a + min win t5.xs.length) := rfl
                have e : ((t5.a : Int) + m).toNat = t5.a + m := by omega
                have := HM.out
                unfold Hid St.ack
                rw [if_neg (by omega), if_neg (by show ¬ ((t5.a : Int) + m ≤ t5.a); omega), e]
                show ((0 : Int), (⟨t5.a + m, (t5.due win).s, t5.xs.drop (t5.a + m - t5.a)⟩ : St)) = _
                rw [Nat.add_sub_cancel_left]
              have hack := ack_calls hb6 ((t5.a : Int) + m)
              rw [E.out] at hack
              dsimp only at hack
              have hl7 : Hid (St.last ⟨t5.a + m, (t5.due win).s, t5.xs.drop m⟩ = k + 1) := by
                have := hl5.out
                simp only [Hid, St.last, List.length_drop] at this ⊢
                omega
              clear hxl hok5 E
              go_wp2_with fail
              refine hack.mono ?_
              clear hack
              rintro e w7 ⟨rfl, S7, hb7, hc7, hS7⟩
              go_wp2_with (go_at_call 11; refine (num_calls _ _).mono ?_; rintro e w' ⟨rfl, rfl⟩)
              have hS6' : ∀ i ∈ S6, w.heap.size ≤ i := fun i hi => by
                rcases hS6 i hi with h | h
                · exact hS5' i h
                · have := hc5.size; omega
              have hc6' : Chg [] w w6 := hc5.trans hc6 (fun i hi => .inr (hS5' i hi))
              go_roundw
              case rel =>
                refine ⟨k + 1, S7, _, by omega, by go_num, hb7, hl7.out, ?_, hc6'.trans hc7 (fun i hi => .inr (hS6' i hi))⟩
                intro i hi
                rcases hS7 i hi with h | h
                · exact hS6' i h
                · have := (hc6').size; omega
              case measure => simp [intOf]; omega

            · have hdv' : (((k : Int) + 1) % ev == 0) = false := by simpa using hdv
              clear hdv
              go_wp2_with fail
              refine hpush.mono ?_
              clear hpush
              rintro e w5 ⟨rfl, S5, hb5, hc5', hS5⟩
              have hS5' : ∀ i ∈ S5, w.heap.size ≤ i := fun i hi => by
                rcases hS5 i hi with h | h
                · exact hS i h
                · have := hc.size; omega
              have hc5 : Chg [] w w5 := hc.trans hc5' (fun i hi => .inr (hS i hi))
              have HB5 := Lib.hid hb5
              go_wp2_with (go_at_call 11; refine (num_calls _ _).mono ?_; rintro e w' ⟨rfl, rfl⟩)

              go_roundw
              case rel => exact ⟨k + 1, S5, t5, by omega, by go_num, hb5, hl5.out, hS5', hc5⟩
              case measure => simp [intOf]; omega

          · go_wp2_with fail
            refine hpush.mono ?_
            clear hpush
            rintro e w5 ⟨rfl, S5, hb5, hc5', hS5⟩
            have hS5' : ∀ i ∈ S5, w.heap.size ≤ i := fun i hi => by
              rcases hS5 i hi with h | h
              · exact hS i h
              · have := hc.size; omega
            have hc5 : Chg [] w w5 := hc.trans hc5' (fun i hi => .inr (hS i hi))
            have HB5 := Lib.hid hb5
            go_wp2_with (go_at_call 11; refine (num_calls _ _).mono ?_; rintro e w' ⟨rfl, rfl⟩)

            go_roundw
            case rel => exact ⟨k + 1, S5, t5, by omega, by go_num, hb5, hl5.out, hS5', hc5⟩
            case measure => simp [intOf]; omega

        · have hle : ¬ (k : Int) + 1 ≤ 4096 := by omega
          have hk4 : k = 4096 := by omega
          have hlE : Hid (t.last = 4096) := by unfold Hid; omega
          have E : Hid (t.push 7 = (0, 81, t)) := by unfold Hid St.push; rw [if_pos hlE.out]
          have hpush := push_calls hb 7
          rw [E.out] at hpush
          dsimp only at hpush
          clear hl E hb hk hk4
          go_wp2_with fail
          refine hpush.mono ?_
          clear hpush
          rintro e w5 ⟨rfl, S5, hb5, hc5', hS5⟩
          have hS5' : ∀ i ∈ S5, w.heap.size ≤ i := fun i hi => by
            rcases hS5 i hi with h | h
            · exact hS i h
            · have := hc.size; omega
          have hc5 : Chg [] w w5 := hc.trans hc5' (fun i hi => .inr (hS i hi))
          have hlast := last_calls hb5
          rw [hlE.out] at hlast
          clear hc5' hS5
          go_wp2_with (first
            | (go_at_call 11; refine (num_calls _ _).mono ?_; rintro e w' ⟨rfl, rfl⟩))
          refine hlast.mono ?_
          clear hlast
          rintro e w' ⟨rfl, q5, rfl⟩
          go_wp2_with fail
          refine (reset_calls (hb5.drewN q5)).mono ?_
          rintro e w6 ⟨rfl, S6, hb6, hc6, hS6⟩
          have hS6' : ∀ i ∈ S6, w.heap.size ≤ i := fun i hi => by
            rcases hS6 i hi with h | h
            · exact hS5' i h
            · have := (hc5.drewN q5).size; omega
          have hc6' : Chg [] w w6 := (hc5.drewN q5).trans hc6 (fun i hi => .inr (hS5' i hi))
          have hL : Calls Try.prog 15 #[.pointer (some ⟨p, 0, none⟩)] w6 fun e w' => e = .returned (.int .i64 0) ∧ ∃ q, w' = w6.drewN q := last_calls hb6
          go_wp2_with fail
          refine hL.mono ?_
          clear hL
          rintro e w' ⟨rfl, q6, rfl⟩
          have hA : Calls Try.prog 13 #[.pointer (some ⟨p, 0, none⟩)] (w6.drewN q6) fun e w' => e = .returned (.int .i64 0) ∧ (w6.drewN q6) = w' := acked_calls (hb6.drewN q6)
          have hSn : Calls Try.prog 14 #[.pointer (some ⟨p, 0, none⟩)] (w6.drewN q6) fun e w' => e = .returned (.int .i64 0) ∧ (w6.drewN q6) = w' := sent_calls (hb6.drewN q6)
          have hLe : Calls Try.prog 22 #[.pointer (some ⟨p, 0, none⟩)] (w6.drewN q6) fun e w' => ∃ z, e = .returned (.slice (some ⟨z, 0, none⟩) 0 0) ∧ Row w' 38 2 (some ⟨z, 0, none⟩) 0 0 (itv cI (items (0 + 1) [])) ∧ Chg [] (w6.drewN q6) w' ∧ (w6.drewN q6).heap.size ≤ z := left_calls (hb6.drewN q6)
          go_wp2_with fail
          refine hA.mono ?_
          clear hA
          rintro e w' ⟨rfl, hw'⟩
          cases hw'
          go_wp2_with fail
          refine hSn.mono ?_
          clear hSn
          rintro e w' ⟨rfl, hw'⟩
          cases hw'
          go_wp2_with fail
          refine hLe.mono ?_
          clear hLe
          rintro e w7 ⟨z7, rfl, hr7, hc7, hz7⟩
          have hb7 := (hb6.drewN q6).keep hc7 (by simp)
          have e0 : min win 0 = 0 := Nat.min_eq_right (Nat.zero_le _)
          have hD := due_calls hb7
          rw [due_new] at hD
          rw [show min win St.new.xs.length = 0 from e0] at hD
          clear e0
          go_wp2_with fail
          refine hD.mono ?_
          clear hD
          rintro e w8 ⟨z8, rfl, hr8, ⟨S8, hb8, hc8, hS8⟩, hz8⟩
          go_wp2_with fail
          go_roundw
          case rel =>
            have hc7' : Chg [] w w7 := (hc6'.drewN q6).next hc7
            refine ⟨g + 1, S8, by omega, by go_num, hb8, ?_, hc7'.trans hc8 (fun i hi => .inr (hS6' i hi))⟩
            intro i hi
            rcases hS8 i hi with h | h
            · exact hS6' i h
            · have := hc7'.size; omega
          case measure => simp [intOf]; omega
    · have hlt' : ¬ (g : Int) < 2 := by omega
      go_wp2_with fail
      go_ret
      exact ⟨rfl, hc⟩
end Go.Proofs.Ytphbhmppjafhkaa
