/-
  PROVED: the walk of DiskPlays: whatever the script, it returns true and turns nothing that was there.
-/
import Derived.Test.YtoaaneejecdglaaPair5
import Derived.Test.YtoaaneejecdglaaBegun
namespace Go.Proofs.Ytoaaneejecdglaa
open Go.RowKit

/-- The pair seen from a site, and back. -/
theorem site_pair {w : World} {q : Nat} {F G : Half} (h : PairAt w q 0 F G) (n : Int) :
    ∃ f g, PairAt w q (siteN n) f g ∧ (∀ k ∈ f.all ++ g.all, k ∈ F.all ++ G.all) ∧ ∀ w' f', PairAt w' q (siteN n) f' g → ∃ F' G', PairAt w' q 0 F' G' ∧ ∀ k ∈ F'.all ++ G'.all, k ∈ f'.all ∨ k ∈ g.all := by
  by_cases e : siteN n = 0
  · rw [e]
    exact ⟨F, G, h, fun k hk => hk, fun w' f' h' => ⟨f', G, h', fun k hk => List.mem_append.1 hk⟩⟩
  · have e1 : siteN n = 1 := by have := siteN_lt n; omega
    rw [e1]
    refine ⟨G, F, h.swap (by omega), fun k hk => ?_, fun w' f' h' => ⟨F, f', h'.swap (by omega), fun k hk => ?_⟩⟩
    · rcases List.mem_append.1 hk with hk | hk <;> simp [hk]
    · rcases List.mem_append.1 hk with hk | hk
      · exact .inr hk
      · exact .inl hk

set_option maxHeartbeats 4000000 in
set_option maxRecDepth 100000 in
theorem plays_walk (B : Option Addr) (d : Nat) (w : World) (ops : List GOp) (hy : OpsAt w B ops) (hm : ops.length ≤ 140737488351232) :
    Calls Try.prog 11 #[.slice B ops.length d] w fun e w' => e = .returned (.bool true) ∧ Chg [] w w' := by
  go_enter Try.func11, Try.ntmps11
  go_wp2_with fail
  refine (begun_calls w).mono ?_
  rintro e1 w1 ⟨q, F, G, rfl, hp, hc, hq, hF⟩
  have HL : Hid (∀ o ∈ ops, 0 < o.n → ∀ k ∈ ob o.A, k < w.heap.size) := fun o ho h0 k hk => (hy.2 o ho).1.lt h0 k hk
  go_wp2_with fail
  go_loopw [5] (fun i wr => ∃ (k : Nat) (F G : Half), k ≤ ops.length ∧ i = .int .i64 k ∧ PairAt wr q 0 F G ∧ Hid (∀ k ∈ F.all ++ G.all, w.heap.size ≤ k) ∧ Chg [] w wr) (fun i _ => ops.length - (intOf i).toNat)
  case atStart => exact ⟨0, F, G, Nat.zero_le _, rfl, hp, hF, hc⟩
  case round =>
    clear hp hF hc
    obtain ⟨k, F, G, hk, rfl, hp, hF, hc⟩ := hrel
    by_cases hlt : k < ops.length
    · have hyw := hy.keep hc
      obtain ⟨ad, o, rfl, ho, hcells, hok⟩ := hyw.at_ hlt
      obtain ⟨f, g, hfg, hall, hback⟩ := site_pair hp o.site
      have hoA : 0 < o.n → ∀ k ∈ ob o.A, k ∉ f.all := fun h0 k hk hm => by
        have h1 := HL.out o (List.mem_of_getElem? ho) h0 k hk
        have h2 := hF.out k (hall k (by simp [hm]))
        omega
      have HOK := Lib.hid hok
      have HFG := Lib.hid hfg
      have HOA := Lib.hid hoA
      have HALL := Lib.hid hall
      have HBACK := Lib.hid hback
      clear hok hfg hoA hall hback ho
      obtain ⟨kd, st, oa, ob', oc, A', n', cap', ys⟩ := o
      have hcells' : ∀ j u, ([.int .i64 kd, .int .i64 st, .int .i64 oa, .int .i64 ob', .int .i64 oc, .slice A' n' cap'] : List Value)[j]? = some u → wr.cell? ((ad.add (k * 6)).add j) = some u := hcells
      have HC := Lib.hid hcells'
      clear hcells hcells'
      go_wp2_with (first
        | (with_reducible refine wpList_load_cells _ rfl 44 (.tmp 22) rfl (ad.add (k * 6)) rfl _ HC.out (.struct _) Try.underlying44 rfl (by kernel_rfl) ?_)
        | (go_at_call 32; refine Calls.mono (step_calls (f := f) (g := g) ⟨kd, st, oa, ob', oc, A', n', cap', ys⟩ HFG.out HOK.out HOA.out) ?_; rintro e w4 ⟨rfl, hl⟩))
      go_roundw
      case rel =>
        obtain ⟨f', hp', hc', hS'⟩ := hl
        obtain ⟨F', G', hpn, hFG⟩ := HBACK.out w4 f' hp'
        have hcs := hc.size
        refine ⟨k + 1, F', G', by omega, by go_num, hpn, ?_, hc.trans hc' ?_⟩
        · intro j hj
          have hall := HALL.out
          rcases hFG j hj with hh | hh
          · rcases hS' j hh with hh | hh
            · exact hF.out j (hall j (by simp [hh]))
            · omega
          · exact hF.out j (hall j (by simp [hh]))
        · intro j hj
          right
          rcases List.mem_cons.1 hj with rfl | hj
          · exact hq
          · exact hF.out j (HALL.out j (by simp [hj]))
      case measure => simp [intOf]; omega
    · go_wp2_with fail
      go_loopw [6] (fun i wr => ∃ (k : Nat), k ≤ 2 ∧ i = .int .i64 k ∧ PairAt wr q 0 F G ∧ Chg [] w wr) (fun i _ => 2 - (intOf i).toNat)
      case atStart => exact ⟨0, Nat.zero_le _, rfl, hp, hc⟩
      case round =>
        clear hp hc
        obtain ⟨k, hk2, rfl, hp, hc⟩ := hrel
        by_cases hlt2 : k < 2
        · obtain ⟨f, g, hfg, _, _⟩ := site_pair hp (k : Int)
          go_wp2_with fail
          refine Calls.mono (asked_calls (f := f) (g := g) ⟨7, k, 0, 0, 0, none, 0, 0, []⟩ hfg) ?_
          rintro e w4 ⟨rfl, hc4⟩
          go_wp2_with fail
          refine Calls.mono (asked_calls (f := f) (g := g) ⟨8, k, 0, 0, 0, none, 0, 0, []⟩ (hfg.keep hc4)) ?_
          rintro e w5 ⟨rfl, hc5⟩
          go_wp2_with fail
          refine Calls.mono (asked_calls (f := f) (g := g) ⟨9, k, 0, 0, 0, none, 0, 0, []⟩ ((hfg.keep hc4).keep hc5)) ?_
          rintro e w6 ⟨rfl, hc6⟩
          go_wp2_with fail
          go_roundw
          case rel => exact ⟨k + 1, by omega, by go_num, ((hp.keep hc4).keep hc5).keep hc6, ((hc.next hc4).next hc5).next hc6⟩
          case measure => simp [intOf]; omega
        · go_wp2_with fail
          go_ret
          exact ⟨rfl, hc⟩

end Go.Proofs.Ytoaaneejecdglaa
