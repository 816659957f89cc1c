/-
  PROVED: the walk of OutboxAcks.
-/
import Derived.Test.YtphbhmppjafhkaaD
namespace Go.Proofs.Ytphbhmppjafhkaa
open Go.RowKit

theorem blk_cells {w : World} {g : Nat} {t : TypeId} {cs : List Value} (h : Blk w g t cs.toArray) : ∀ j u, cs[j]? = some u → w.cell? ((⟨g, 0, none⟩ : Addr).add j) = some u := by
  intro j u hu
  rw [add_head, h.cell]
  simpa using hu

/-- A push among the first 4096. -/
theorem push_first {t : St} (h : t.last < 4096) (x : Int) : t.push x = ((t.last : Int) + 1, 0, ⟨t.a, t.s, t.xs ++ [x]⟩) := by
  unfold St.push
  rw [if_neg (by omega)]

set_option maxHeartbeats 4000000 in
set_option maxRecDepth 100000 in
theorem acks_walk (A B : Option Addr) (c d : Nat) (w : World) (xs : List Int) (ops : List GOp) (hx : Reads w 1 A xs.length (ev cI xs)) (hy : OpsAt w B ops) (hm : ops.length * 24 ≤ 140737488351232) :
    Calls Try.prog 3 #[.slice A xs.length c, .slice B ops.length d] w fun e w' => e = .returned (.bool true) ∧ Chg [] w w' := by
  go_enter Try.func3, Try.ntmps3
  go_wp2_with (first
    | (go_at_call 10; refine (new_ok w 4 (by omega) (by omega)).mono ?_; rintro e w1 ⟨p, S, rfl, hb1, hc1, hS1⟩)
    | (go_at_call 11; refine (num_calls _ _).mono ?_; rintro e w' ⟨rfl, rfl⟩))
  go_loopw [7] (fun i wr => ∃ (k : Nat) (S : List Nat), k ≤ xs.length ∧ k ≤ 4096 ∧ i = .int .i64 k ∧ Box wr p S 4 ⟨0, 0, xs.take k⟩ ∧ (∀ i ∈ S, w.heap.size ≤ i) ∧ Chg [] w wr) (fun i _ => 4096 - (intOf i).toNat)
  case atStart => exact ⟨0, S, Nat.zero_le _, Nat.zero_le _, rfl, hb1, hS1, hc1⟩
  case round =>
    clear hb1 hS1 hc1
    obtain ⟨k, S, hk, hk4, rfl, hb, hS, hc⟩ := hrel
    by_cases hlt : k < xs.length ∧ k < 4096
    · obtain ⟨h1, h2⟩ := hlt
      have h1' : (k : Int) < xs.length := by omega
      have h2' : (k : Int) < 4096 := by omega
      obtain ⟨ad, u, rfl, hu, hcell⟩ := (hx.keep hc (by simp)).at_ h1
      rw [ev_cI_get h1] at hu
      obtain rfl : Value.int .i64 xs[k] = u := by injection hu
      have hl : (St.mk 0 0 (xs.take k)).last = k := by simp [St.last]; omega
      have e1 := push_first (t := ⟨0, 0, xs.take k⟩) (by omega) xs[k]
      rw [hl] at e1
      have hp := push_calls hb xs[k]
      rw [e1] at hp
      simp only at hp
      have eT : Hid (xs.take k ++ [xs[k]] = xs.take (k + 1)) := by unfold Hid; rw [List.take_succ_eq_append_getElem h1]
      rw [eT.out] at hp
      clear e1 eT hl hu
      go_wp2_with (first
        | (go_at_call 12; refine hp.mono ?_; rintro e w2 ⟨rfl, S2, hb2, hc2, hS2⟩)
        | (go_at_call 11; refine (num_calls _ _).mono ?_; rintro e w' ⟨rfl, rfl⟩))
      go_roundw
      case rel =>
        refine ⟨k + 1, S2, by omega, by omega, by go_num, hb2, ?_, hc.trans hc2 (fun i hi => .inr (hS i hi))⟩
        intro i hi
        rcases hS2 i hi with h | h
        · exact hS i h
        · have := hc.size; omega
      case measure => simp [intOf]; omega
    · have hend : ¬ (k : Int) < xs.length ∨ (k : Int) < xs.length ∧ ¬ (k : Int) < 4096 := by omega
      clear hlt
      rcases hend with h1 | ⟨h1, h2⟩
      all_goals
        go_wp2_with fail
        go_loopw [10, 11] (fun tp i wr => ∃ (k : Nat) (S : List Nat) (t : St), k ≤ ops.length ∧ i = .int .i64 k ∧ tp = .int .i64 t.s ∧ Box wr p S 4 t ∧ (∀ i ∈ S, w.heap.size ≤ i) ∧ Chg [] w wr) (fun _ i _ => ops.length - (intOf i).toNat)
        case atStart => exact ⟨0, S, _, Nat.zero_le _, rfl, rfl, hb, hS, hc⟩
        case round =>
          clear hb hS hc hx
          obtain ⟨k, S, t, hk, rfl, rfl, hb, hS, hc⟩ := hrel
          by_cases hlt : k < ops.length
          · have hyw := hy.keep hc
            obtain ⟨ad, o, rfl, ho, hcells⟩ := hyw.at_ hlt
            obtain ⟨kd, st, n⟩ := o
            have hcells' : ∀ j u, ([.int .i64 kd, .int .i64 st, .int .i64 n] : List Value)[j]? = some u → wr.cell? ((ad.add (k * 3)).add j) = some u := hcells
            have HC := Lib.hid hcells'
            clear hcells hcells' hyw ho
            have hq3 : Chg [] wr (wr.alloc (.cells #[.int .i64 kd, .int .i64 st, .int .i64 n] 32)) := (Chg.refl _ _).alloc _
            have hb3 := hb.keep hq3 (by simp)
            have hbo : Blk (wr.alloc (.cells #[.int .i64 kd, .int .i64 st, .int .i64 n] 32)) wr.heap.size 32 #[.int .i64 kd, .int .i64 st, .int .i64 n] := Blk.new _ _ _
            have HB3 := Lib.hid hb3
            have HBO := Lib.hid hbo
            have ho0 : ∀ i ∈ S, i ≠ wr.heap.size := fun i hi e => by have := hb.lt i hi; omega
            have HOS := Lib.hid ho0
            have hok := Lib.hid hb.ok
            clear hb hb3 hbo ho0

            by_cases k3 : kd = 3
            · subst k3
              go_wp2_with (with_reducible refine wpList_load_cells _ rfl 32 (.tmp 66) rfl (ad.add (k * 3)) rfl _ HC.out (.struct _) Try.underlying32 rfl (by kernel_rfl) ?_)
              generalize wr.alloc (.cells #[.int .i64 3, .int .i64 st, .int .i64 n] 32) = w3 at *
              generalize wr.heap.size = o1 at *
              refine (acked_calls HB3.out).mono ?_
              rintro e w' ⟨rfl, rfl⟩
              go_wp2_with fail
              refine (sent_calls HB3.out).mono ?_
              rintro e w' ⟨rfl, rfl⟩
              go_wp2_with fail
              refine (last_calls HB3.out).mono ?_
              rintro e w' ⟨rfl, q, rfl⟩
              have hbo := HBO.out.drewN q
              have c0 := hbo.cell 0
              have c1 := hbo.cell 1
              have c2 := hbo.cell 2
              have HBQ := Lib.hid (HB3.out.drewN q)
              clear hbo

              have hq3' : Chg [] wr (w3.drewN q) := hq3.drewN q
              by_cases hn : n < 0
              · have hs := 0
                have ha := 0
                have h0 : n < 0 := hn
                have E : Hid (t.ack n = (82, t)) := by
                  unfold Hid St.ack
                  rw [if_pos (.inl hn)]

                have hack := ack_calls HBQ.out n
                rw [E.out] at hack
                dsimp only at hack
                clear hn hs ha
                go_wp2_with fail
                refine hack.mono ?_
                clear hack
                rintro e w5 ⟨rfl, S5, hb5, hc5, hS5⟩
                have hl5 := last_calls hb5

                have hbo5 := hc5.blk' (HBO.out.drewN q) (fun hm => HOS.out _ hm rfl)
                clear c0 c1 c2
                have c2 := hbo5.cell 2
                clear hbo5
                go_wp2_with (first
                  | (go_at_call 11; refine (num_calls _ _).mono ?_; rintro e w' ⟨rfl, rfl⟩)
                  | (go_at_call 13; refine (acked_calls hb5).mono ?_; rintro e w' ⟨rfl, rfl⟩)
                  | (go_at_call 14; refine (sent_calls hb5).mono ?_; rintro e w' ⟨rfl, rfl⟩)
                  | (go_at_call 15; refine hl5.mono ?_; rintro e w' ⟨rfl, q2, rfl⟩))
                go_roundw
                case rel =>
                  refine ⟨k + 1, S5, t, by omega, by go_num, rfl, hb5.drewN q2, ?_, (hc.next hq3').trans (hc5.drewN q2) (fun i hi => .inr (hS i hi))⟩
                  intro i hi
                  rcases hS5 i hi with h | h
                  · exact hS i h
                  · have h1 := (hc.next hq3').size
                    omega
                case measure => simp [intOf]; omega

              by_cases hs : (t.s : Int) < n
              · have ha := 0
                have h0 : ¬ n < 0 := hn
                have h1 : (t.s : Int) < n := hs
                have E : Hid (t.ack n = (82, t)) := by
                  unfold Hid St.ack
                  rw [if_pos (.inr hs)]

                have hack := ack_calls HBQ.out n
                rw [E.out] at hack
                dsimp only at hack
                clear hn hs ha
                go_wp2_with fail
                refine hack.mono ?_
                clear hack
                rintro e w5 ⟨rfl, S5, hb5, hc5, hS5⟩
                have hl5 := last_calls hb5

                have hbo5 := hc5.blk' (HBO.out.drewN q) (fun hm => HOS.out _ hm rfl)
                clear c0 c1 c2
                have c2 := hbo5.cell 2
                clear hbo5
                go_wp2_with (first
                  | (go_at_call 11; refine (num_calls _ _).mono ?_; rintro e w' ⟨rfl, rfl⟩)
                  | (go_at_call 13; refine (acked_calls hb5).mono ?_; rintro e w' ⟨rfl, rfl⟩)
                  | (go_at_call 14; refine (sent_calls hb5).mono ?_; rintro e w' ⟨rfl, rfl⟩)
                  | (go_at_call 15; refine hl5.mono ?_; rintro e w' ⟨rfl, q2, rfl⟩))
                go_roundw
                case rel =>
                  refine ⟨k + 1, S5, t, by omega, by go_num, rfl, hb5.drewN q2, ?_, (hc.next hq3').trans (hc5.drewN q2) (fun i hi => .inr (hS i hi))⟩
                  intro i hi
                  rcases hS5 i hi with h | h
                  · exact hS i h
                  · have h1 := (hc.next hq3').size
                    omega
                case measure => simp [intOf]; omega

              by_cases ha : (t.a : Int) < n
              · obtain ⟨m, rfl⟩ := Int.eq_ofNat_of_zero_le (show 0 ≤ n by omega)
                have h0 : ¬ (m : Int) < 0 := by omega
                have h1 : ¬ (t.s : Int) < (m : Int) := by omega
                have h2 : (t.a : Int) < (m : Int) := by omega
                have E : Hid (t.ack (m : Int) = (0, ⟨m, t.s, t.xs.drop (m - t.a)⟩)) := by
                  unfold Hid St.ack
                  rw [if_neg (by omega), if_neg (by omega), Int.toNat_natCast]
                have EL : Hid (St.last ⟨m, t.s, t.xs.drop (m - t.a)⟩ = t.last) := by have := hok.out.2.1; simp only [Hid, St.last, List.length_drop]; omega
                have hack := ack_calls HBQ.out (m : Int)
                rw [E.out] at hack
                dsimp only at hack
                clear hn hs ha
                go_wp2_with fail
                refine hack.mono ?_
                clear hack
                rintro e w5 ⟨rfl, S5, hb5, hc5, hS5⟩
                have hl5 := last_calls hb5
                rw [EL.out] at hl5
                have hbo5 := hc5.blk' (HBO.out.drewN q) (fun hm => HOS.out _ hm rfl)
                clear c0 c1 c2
                have c2 := hbo5.cell 2
                clear hbo5
                go_wp2_with (first
                  | (go_at_call 11; refine (num_calls _ _).mono ?_; rintro e w' ⟨rfl, rfl⟩)
                  | (go_at_call 13; refine (acked_calls hb5).mono ?_; rintro e w' ⟨rfl, rfl⟩)
                  | (go_at_call 14; refine (sent_calls hb5).mono ?_; rintro e w' ⟨rfl, rfl⟩)
                  | (go_at_call 15; refine hl5.mono ?_; rintro e w' ⟨rfl, q2, rfl⟩))
                go_roundw
                case rel =>
                  refine ⟨k + 1, S5, ⟨m, t.s, t.xs.drop (m - t.a)⟩, by omega, by go_num, rfl, hb5.drewN q2, ?_, (hc.next hq3').trans (hc5.drewN q2) (fun i hi => .inr (hS i hi))⟩
                  intro i hi
                  rcases hS5 i hi with h | h
                  · exact hS i h
                  · have h1 := (hc.next hq3').size
                    omega
                case measure => simp [intOf]; omega

              · have h0 : ¬ n < 0 := hn
                have h1 : ¬ (t.s : Int) < n := hs
                have h2 : ¬ (t.a : Int) < n := ha
                have E : Hid (t.ack n = (0, t)) := by
                  unfold Hid St.ack
                  rw [if_neg (by omega), if_pos (by omega)]

                have hack := ack_calls HBQ.out n
                rw [E.out] at hack
                dsimp only at hack
                clear hn hs ha
                go_wp2_with fail
                refine hack.mono ?_
                clear hack
                rintro e w5 ⟨rfl, S5, hb5, hc5, hS5⟩
                have hl5 := last_calls hb5

                have hbo5 := hc5.blk' (HBO.out.drewN q) (fun hm => HOS.out _ hm rfl)
                clear c0 c1 c2
                have c2 := hbo5.cell 2
                clear hbo5
                go_wp2_with (first
                  | (go_at_call 11; refine (num_calls _ _).mono ?_; rintro e w' ⟨rfl, rfl⟩)
                  | (go_at_call 13; refine (acked_calls hb5).mono ?_; rintro e w' ⟨rfl, rfl⟩)
                  | (go_at_call 14; refine (sent_calls hb5).mono ?_; rintro e w' ⟨rfl, rfl⟩)
                  | (go_at_call 15; refine hl5.mono ?_; rintro e w' ⟨rfl, q2, rfl⟩))
                go_roundw
                case rel =>
                  refine ⟨k + 1, S5, t, by omega, by go_num, rfl, hb5.drewN q2, ?_, (hc.next hq3').trans (hc5.drewN q2) (fun i hi => .inr (hS i hi))⟩
                  intro i hi
                  rcases hS5 i hi with h | h
                  · exact hS i h
                  · have h1 := (hc.next hq3').size
                    omega
                case measure => simp [intOf]; omega

            by_cases k2 : kd = 2
            · subst k2
              go_wp2_with (with_reducible refine wpList_load_cells _ rfl 32 (.tmp 66) rfl (ad.add (k * 3)) rfl _ HC.out (.struct _) Try.underlying32 rfl (by kernel_rfl) ?_)
              generalize wr.alloc (.cells #[.int .i64 2, .int .i64 st, .int .i64 n] 32) = w3 at *
              generalize wr.heap.size = o1 at *
              refine (acked_calls HB3.out).mono ?_
              rintro e w' ⟨rfl, rfl⟩
              go_wp2_with fail
              refine (sent_calls HB3.out).mono ?_
              rintro e w' ⟨rfl, rfl⟩
              go_wp2_with fail
              refine (last_calls HB3.out).mono ?_
              rintro e w' ⟨rfl, q, rfl⟩
              have hbo := HBO.out.drewN q
              have c0 := hbo.cell 0
              have c1 := hbo.cell 1
              have c2 := hbo.cell 2
              have HBQ := Lib.hid (HB3.out.drewN q)
              clear hbo

              have hq3' : Chg [] wr (w3.drewN q) := hq3.drewN q
              go_wp2_with fail
              refine (due_calls HBQ.out).mono ?_
              rintro e w5 ⟨z, rfl, hr5, ⟨S5, hb5, hc5, hS5⟩, hz5⟩
              obtain ⟨m, hm⟩ : ∃ m, m = min 4 t.xs.length := ⟨_, rfl⟩
              have ED : Hid ((t.due 4).s = max t.s (t.a + m)) := by rw [hm]; rfl
              rw [← hm] at hr5
              rw [← hm]
              have HM := Lib.hid hm
              clear hm
              have ok := hok.out
              by_cases h0 : m = 0
              · subst h0
                have hl : t.last = t.a := by have := HM.out; unfold St.last; omega
                have hlI : Hid ((t.last : Int) = t.a) := by unfold Hid; omega
                have htop : Hid ((t.due 4).s = t.s) := by unfold Hid; rw [ED.out]; obtain ⟨o1, o2, o3⟩ := ok; omega
                clear hr5
                rw [hl]
                go_wp2_with fail
                go_roundw
                case rel =>
                  refine ⟨k + 1, S5, t.due 4, by omega, by go_num, by rw [htop.out], hb5, ?_, (hc.next hq3').trans hc5 (fun i hi => .inr (hS i hi))⟩
                  intro i hi
                  rcases hS5 i hi with h | h
                  · exact hS i h
                  · have h1 := (hc.next hq3').size
                    omega
                case measure => simp [intOf]; omega

              · have hmp : 0 < m := by omega
                have hm4 : m ≤ 4 := by have := HM.out; omega
                have hml : m ≤ t.xs.length := by have := HM.out; omega
                have hcell : w5.cell? ⟨z, (m - 1) * 2, none⟩ = some (.int .i64 ((t.a : Int) + m)) := by
                  obtain ⟨ad5, e5, hcl⟩ := hr5.reads.2 hmp
                  injection e5 with e5
                  subst e5
                  have h1 : (items (t.a + 1) (t.xs.take m))[m - 1]? = some (((t.a + 1 + (m - 1) : Nat) : Int), (t.xs.take m)[m - 1]'(by simp; omega)) := items_get _ _ _ (by simp; omega)
                  obtain ⟨h2, h3⟩ := List.getElem?_eq_some_iff.1 h1
                  have h4 := itv_get cI_len h2 (j := 0) (u := .int .i64 (((t.a + 1 + (m - 1) : Nat) : Int))) (by rw [h3]; rfl)
                  have h5 := hcl _ _ h4
                  rw [add_head] at h5
                  rw [show ((t.a : Int) + m) = ((t.a + 1 + (m - 1) : Nat) : Int) by omega]
                  exact h5
                have e1 : IntKind.i64.wrap ((m : Int) - 1) = (m : Int) - 1 := IntWalk.i64_in _ (by omega)
                have e2 : ((m : Int) - 1).toNat = m - 1 := by omega
                have e3 : (0 : Int) ≤ (m : Int) - 1 := by omega
                have e4 : m - 1 < m := by omega
                have HCE := Lib.hid hcell
                clear hr5 hcell
                have hcell := HCE.out
                by_cases hgt : t.s < t.a + m
                · have hgt' : (t.s : Int) < (t.a : Int) + m := by omega
                  have htop : Hid (((t.due 4).s : Int) = (t.a : Int) + m) := by unfold Hid; rw [ED.out]; omega
                  go_wp2_with fail
                  go_roundw
                  case rel =>
                    refine ⟨k + 1, S5, t.due 4, by omega, by go_num, by rw [htop.out], hb5, ?_, (hc.next hq3').trans hc5 (fun i hi => .inr (hS i hi))⟩
                    intro i hi
                    rcases hS5 i hi with h | h
                    · exact hS i h
                    · have h1 := (hc.next hq3').size
                      omega
                  case measure => simp [intOf]; omega

                · have hgt' : ¬ (t.s : Int) < (t.a : Int) + m := by omega
                  have htop : Hid ((t.due 4).s = t.s) := by unfold Hid; rw [ED.out]; omega
                  go_wp2_with fail
                  go_roundw
                  case rel =>
                    refine ⟨k + 1, S5, t.due 4, by omega, by go_num, by rw [htop.out], hb5, ?_, (hc.next hq3').trans hc5 (fun i hi => .inr (hS i hi))⟩
                    intro i hi
                    rcases hS5 i hi with h | h
                    · exact hS i h
                    · have h1 := (hc.next hq3').size
                      omega
                  case measure => simp [intOf]; omega

            by_cases k8 : kd = 8
            · subst k8
              go_wp2_with (with_reducible refine wpList_load_cells _ rfl 32 (.tmp 66) rfl (ad.add (k * 3)) rfl _ HC.out (.struct _) Try.underlying32 rfl (by kernel_rfl) ?_)
              generalize wr.alloc (.cells #[.int .i64 8, .int .i64 st, .int .i64 n] 32) = w3 at *
              generalize wr.heap.size = o1 at *
              refine (acked_calls HB3.out).mono ?_
              rintro e w' ⟨rfl, rfl⟩
              go_wp2_with fail
              refine (sent_calls HB3.out).mono ?_
              rintro e w' ⟨rfl, rfl⟩
              go_wp2_with fail
              refine (last_calls HB3.out).mono ?_
              rintro e w' ⟨rfl, q, rfl⟩
              have hbo := HBO.out.drewN q
              have c0 := hbo.cell 0
              have c1 := hbo.cell 1
              have c2 := hbo.cell 2
              have HBQ := Lib.hid (HB3.out.drewN q)
              clear hbo

              have hq3' : Chg [] wr (w3.drewN q) := hq3.drewN q
              go_wp2_with fail
              refine (reset_calls HBQ.out).mono ?_
              rintro e w5 ⟨rfl, S5, hb5, hc5, hS5⟩
              go_wp2_with fail
              go_roundw
              case rel =>
                refine ⟨k + 1, S5, St.new, by omega, by go_num, rfl, hb5, ?_, (hc.next hq3').trans hc5 (fun i hi => .inr (hS i hi))⟩
                intro i hi
                rcases hS5 i hi with h | h
                · exact hS i h
                · have h1 := (hc.next hq3').size
                  omega
              case measure => simp [intOf]; omega

            · have b3 : (kd == 3) = false := by simpa using k3
              have b2 : (kd == 2) = false := by simpa using k2
              have b8 : (kd == 8) = false := by simpa using k8
              go_wp2_with (with_reducible refine wpList_load_cells _ rfl 32 (.tmp 66) rfl (ad.add (k * 3)) rfl _ HC.out (.struct _) Try.underlying32 rfl (by kernel_rfl) ?_)
              generalize wr.alloc (.cells #[.int .i64 kd, .int .i64 st, .int .i64 n] 32) = w3 at *
              generalize wr.heap.size = o1 at *
              refine (acked_calls HB3.out).mono ?_
              rintro e w' ⟨rfl, rfl⟩
              go_wp2_with fail
              refine (sent_calls HB3.out).mono ?_
              rintro e w' ⟨rfl, rfl⟩
              go_wp2_with fail
              refine (last_calls HB3.out).mono ?_
              rintro e w' ⟨rfl, q, rfl⟩
              have hbo := HBO.out.drewN q
              have c0 := hbo.cell 0
              have c1 := hbo.cell 1
              have c2 := hbo.cell 2
              have HBQ := Lib.hid (HB3.out.drewN q)
              clear hbo

              have hq3' : Chg [] wr (w3.drewN q) := hq3.drewN q
              have htop : Hid ((actF ⟨kd, st, n⟩ 4 t).2.s = t.s) := by
                simp only [Hid, actF, if_neg k2, if_neg k3, if_neg k8]
                split
                · unfold St.push; split <;> rfl
                · rfl
              clear k2 k3 k8
              go_wp2_with fail
              refine (act_calls HBQ.out ⟨kd, st, n⟩).mono ?_
              rintro e w5 ⟨rfl, S5, hb5, hc5, hS5⟩
              go_wp2_with fail
              go_roundw
              case rel =>
                refine ⟨k + 1, S5, (actF ⟨kd, st, n⟩ 4 t).2, by omega, by go_num, by rw [htop.out], hb5, ?_, (hc.next hq3').trans hc5 (fun i hi => .inr (hS i hi))⟩
                intro i hi
                rcases hS5 i hi with h | h
                · exact hS i h
                · have h1 := (hc.next hq3').size
                  omega
              case measure => simp [intOf]; omega

          · go_wp2
            go_ret
            exact ⟨rfl, hc⟩

end Go.Proofs.Ytphbhmppjafhkaa
