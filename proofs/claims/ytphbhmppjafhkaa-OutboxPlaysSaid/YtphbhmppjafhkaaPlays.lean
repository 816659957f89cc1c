/-
  PROVED: the walk of OutboxPlays.
-/
import Derived.Test.YtphbhmppjafhkaaStep
namespace Go.Proofs.Ytphbhmppjafhkaa
open Go.RowKit

/-- The pair seen from a site, and back. -/
theorem site_pair {w : World} {q : Nat} {F G : Half} (h : PairAt w q 0 F G) (n : Int) :
    ∃ f g, PairAt w q (siteN n) f g ∧ (∀ k ∈ f.all ++ g.all, k ∈ F.all ++ G.all) ∧ ∀ w' f', PairAt w' q (siteN n) f' g → ∃ F' G', PairAt w' q 0 F' G' ∧ ∀ k ∈ F'.all ++ G'.all, k ∈ f'.all ∨ k ∈ g.all := by
  by_cases e : siteN n = 0
  · rw [e]
    exact ⟨F, G, h, fun k hk => hk, fun w' f' h' => ⟨f', G, h', fun k hk => List.mem_append.1 hk⟩⟩
  · have e1 : siteN n = 1 := by have := siteN_lt n; omega
    rw [e1]
    refine ⟨G, F, h.swap (by omega), fun k hk => ?_, fun w' f' h' => ⟨F, f', h'.swap (by omega), fun k hk => ?_⟩⟩
    · rcases List.mem_append.1 hk with hk | hk <;> simp [hk]
    · rcases List.mem_append.1 hk with hk | hk
      · exact .inr hk
      · exact .inl hk

/-- What the walk holds together: the pair, in blocks that are new. -/
def PSt (w wr : World) (q : Nat) : Prop := ∃ F G : Half, PairAt wr q 0 F G ∧ (∀ k ∈ F.all ++ G.all, w.heap.size ≤ k) ∧ w.heap.size ≤ q ∧ Chg [] w wr

theorem PSt.step {w wr : World} {q : Nat} (h : PSt w wr q) (o : GOp) :
    Calls Try.prog 24 #[.pointer (some ⟨q, 0, none⟩), o.val] wr fun e w' => e = .returned (.bool true) ∧ PSt w w' q := by
  obtain ⟨F, G, hp, hF, hq, hc⟩ := h
  obtain ⟨f, g, hfg, hall, hback⟩ := site_pair hp o.site
  refine (step_calls o hfg).mono ?_
  rintro e w4 ⟨rfl, f', hp', hc', hS'⟩
  obtain ⟨F', G', hpn, hFG⟩ := hback w4 f' hp'
  have hcs := hc.size
  refine ⟨rfl, F', G', hpn, ?_, hq, hc.trans hc' ?_⟩
  · intro j hj
    rcases hFG j hj with hh | hh
    · rcases hS' j hh with hh | hh
      · exact hF j (hall j (by simp [hh]))
      · omega
    · exact hF j (hall j (by simp [hh]))
  · intro j hj
    right
    rcases List.mem_cons.1 hj with rfl | hj
    · exact hq
    · exact hF j (hall j (by simp [hj]))
theorem PSt.lists {w wr : World} {q : Nat} (h : PSt w wr q) (o : GOp) :
    Calls Try.prog 25 #[.pointer (some ⟨q, 0, none⟩), o.val] wr fun e w' => e = .returned (.bool true) ∧ PSt w w' q := by
  obtain ⟨F, G, hp, hF, hq, hc⟩ := h
  obtain ⟨f, g, hfg, hall, hback⟩ := site_pair hp o.site
  refine (lists_calls o hfg).mono ?_
  rintro e w4 ⟨rfl, f', hp', hc', hS'⟩
  obtain ⟨F', G', hpn, hFG⟩ := hback w4 f' hp'
  have hcs := hc.size
  refine ⟨rfl, F', G', hpn, ?_, hq, hc.trans hc' ?_⟩
  · intro j hj
    rcases hFG j hj with hh | hh
    · rcases hS' j hh with hh | hh
      · exact hF j (hall j (by simp [hh]))
      · omega
    · exact hF j (hall j (by simp [hh]))
  · intro j hj
    right
    rcases List.mem_cons.1 hj with rfl | hj
    · exact hq
    · exact hF j (hall j (by simp [hj]))

set_option maxHeartbeats 4000000 in
set_option maxRecDepth 100000 in
theorem plays_walk (B : Option Addr) (d : Nat) (w : World) (ops : List GOp) (hy : OpsAt w B ops) (hm : ops.length * 24 ≤ 140737488351232) :
    Calls Try.prog 5 #[.slice B ops.length d] w fun e w' => e = .returned (.bool true) ∧ Chg [] w w' := by
  go_enter Try.func5, Try.ntmps5
  go_wp2_with fail
  refine (begun_calls w).mono ?_
  rintro e1 w1 ⟨q, F, G, rfl, hp, hc, hq, hF⟩
  have hP : PSt w w1 q := ⟨F, G, hp, hF.out, hq, hc⟩
  clear hp hF hq
  go_wp2_with fail
  go_loopw [5] (fun i wr => ∃ (k : Nat), k ≤ ops.length ∧ i = .int .i64 k ∧ PSt w wr q) (fun i _ => ops.length - (intOf i).toNat)
  case atStart => exact ⟨0, Nat.zero_le _, rfl, hP⟩
  case round =>
    clear hP hc
    obtain ⟨k, hk, rfl, hP⟩ := hrel
    have HP := Lib.hid hP
    obtain ⟨_, _, _, _, _, hc⟩ := hP
    by_cases hlt : k < ops.length
    · obtain ⟨ad, o, rfl, ho, hcells⟩ := (hy.keep hc).at_ hlt
      obtain ⟨kd, st, n⟩ := o
      have hcells' : ∀ j u, ([.int .i64 kd, .int .i64 st, .int .i64 n] : List Value)[j]? = some u → wr.cell? ((ad.add (k * 3)).add j) = some u := hcells
      have HC := Lib.hid hcells'
      clear hcells hcells' ho
      go_wp2_with (first
        | (with_reducible refine wpList_load_cells _ rfl 32 (.tmp 23) rfl (ad.add (k * 3)) rfl _ HC.out (.struct _) Try.underlying32 rfl (by kernel_rfl) ?_)
        | (go_at_call 24; refine Calls.mono (HP.out.step ⟨kd, st, n⟩) ?_; rintro e w4 ⟨rfl, hl⟩))
      go_roundw
      case rel => exact ⟨k + 1, by omega, by go_num, hl⟩
      case measure => simp [intOf]; omega
    · clear hc
      go_wp2_with fail
      go_loopw [6] (fun i wr => ∃ (k : Nat), k ≤ 2 ∧ i = .int .i64 k ∧ PSt w wr q) (fun i _ => 2 - (intOf i).toNat)
      case atStart => exact ⟨0, Nat.zero_le _, rfl, HP.out⟩
      case round =>
        clear HP
        obtain ⟨k, hk2, rfl, hP⟩ := hrel
        have HP := Lib.hid hP
        by_cases hlt2 : k < 2
        · have hlt2' : (k : Int) < 2 := by omega
          clear hP
          go_wp2_with fail
          go_loopw [7] (fun j wr => ∃ (m : Nat), 5 ≤ m ∧ m ≤ 8 ∧ j = .int .i64 m ∧ PSt w wr q) (fun j _ => 8 - (intOf j).toNat)
          case atStart => exact ⟨5, by omega, by omega, rfl, HP.out⟩
          case round =>
            clear HP
            obtain ⟨m, h5, h8, rfl, hP⟩ := hrel
            have HP := Lib.hid hP
            clear hP
            by_cases hle : m ≤ 7
            · have hle' : (m : Int) ≤ 7 := by omega
              go_wp2_with (go_at_call 24; refine Calls.mono (HP.out.step ⟨(m : Int), (k : Int), 0⟩) ?_; rintro e w4 ⟨rfl, hl⟩)
              go_roundw
              case rel => exact ⟨m + 1, by omega, by omega, by go_num, hl⟩
              case measure => simp [intOf]; omega
            · have hle' : ¬ (m : Int) ≤ 7 := by omega
              go_wp2_with fail
              refine Calls.mono (HP.out.lists ⟨4, (k : Int), 0⟩) ?_
              rintro e w4 ⟨rfl, hl⟩
              go_wp2_with fail
              refine Calls.mono (hl.lists ⟨2, (k : Int), 0⟩) ?_
              rintro e w5 ⟨rfl, hl5⟩
              go_wp2_with fail
              go_roundw
              case rel => exact ⟨k + 1, by omega, by go_num, hl5⟩
              case measure => simp [intOf]; omega
        · have hlt2' : ¬ (k : Int) < 2 := by omega
          go_wp2_with fail
          go_ret
          obtain ⟨_, _, _, _, _, hc⟩ := HP.out
          exact ⟨rfl, hc⟩

end Go.Proofs.Ytphbhmppjafhkaa
