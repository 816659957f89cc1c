/-
  PROVED: the walk of DiskRefuses: whatever was first and whatever the script, it returns true and turns nothing that was there.
-/
import Derived.Test.YtoaaneejecdglaaOps
import Derived.Test.YtoaaneejecdglaaWants
import Derived.Test.YtoaaneejecdglaaYes
namespace Go.Proofs.Ytoaaneejecdglaa
open Go.RowKit

set_option maxHeartbeats 2000000 in
set_option maxRecDepth 100000 in
theorem refuses_long (A B : Option Addr) (n c m d : Nat) (w : World) (h : 262144 < n) :
    Calls Try.prog 7 #[.slice A n c, .slice B m d] w fun e w' => e = .returned (.bool true) ∧ Chg [] w w' := by
  have h2 : (262144 : Int) < n := by omega
  go_enter Try.func7, Try.ntmps7
  go_wp2_with fail
  go_ret
  exact ⟨rfl, Chg.refl _ _⟩

set_option maxHeartbeats 2000000 in
set_option maxRecDepth 100000 in
theorem refuses_in (A B : Option Addr) (n c d : Nat) (w : World) (fs : List Int) (ops : List GOp) (hx : Reads w 1 A n (bv fs)) (hy : OpsAt w B ops) (hm : ops.length ≤ 140737488351232) (h : n ≤ 262144) :
    Calls Try.prog 7 #[.slice A n c, .slice B ops.length d] w fun e w' => e = .returned (.bool true) ∧ Chg [] w w' := by
  have h2 : ¬ (262144 : Int) < n := by omega
  go_enter Try.func7, Try.ntmps7
  go_wp2_with (first
    | (go_at_call 12; refine (born_calls hx h).mono ?_; rintro e w1 ⟨p, S, rfl, hd1, hc1, hS1⟩))
  go_loopw [7] (fun i wr => ∃ (k s : Nat) (S : List Nat) (bs : List Int), k ≤ ops.length ∧ i = .int .i64 k ∧ Disk wr p S bs s ∧ (∀ k ∈ S, w.heap.size ≤ k) ∧ Chg [] w wr) (fun i _ => ops.length - (intOf i).toNat)
  case atStart => exact ⟨0, n, S, fs, Nat.zero_le _, rfl, hd1, hS1, hc1⟩
  case round =>
    obtain ⟨k, s, S', bs, hk, rfl, hdw, hSw, hcw⟩ := hrel
    clear hd1
    by_cases hlt : k < ops.length
    · have hyw := hy.keep hcw
      obtain ⟨ad, o, rfl, ho, hcells, hok⟩ := hyw.at_ hlt
      obtain ⟨kd, st, oa, ob', oc, A', n', cap', ys⟩ := o
      have hcells' : ∀ j u, ([.int .i64 kd, .int .i64 st, .int .i64 oa, .int .i64 ob', .int .i64 oc, .slice A' n' cap'] : List Value)[j]? = some u → wr.cell? ((ad.add (k * 6)).add j) = some u := hcells
      clear hcells
      have HC := Lib.hid hcells'
      clear hcells'
      have hlw := hdw.le
      have hrf : (actF ⟨kd, st, oa, ob', oc, A', n', cap', ys⟩ bs s).1 ≠ 0 → (actF ⟨kd, st, oa, ob', oc, A', n', cap', ys⟩ bs s).2 = (bs, s) := actF_refused _ _ _
      have HR := Lib.hid hrf
      clear hrf
      go_wp2_with (with_reducible refine wpList_load_cells _ rfl 44 (.tmp 31) rfl (ad.add (k * 6)) rfl _ HC.out (.struct _) Try.underlying44 rfl (by kernel_rfl) ?_)
      have hbx : Blk (wr.alloc (.cells #[.int .i64 kd, .int .i64 st, .int .i64 oa, .int .i64 ob', .int .i64 oc, .slice A' n' cap'] 44)) wr.heap.size 44 #[.int .i64 kd, .int .i64 st, .int .i64 oa, .int .i64 ob', .int .i64 oc, .slice A' n' cap'] := Blk.new _ _ _
      have q3 : Chg [] wr (wr.alloc (.cells #[.int .i64 kd, .int .i64 st, .int .i64 oa, .int .i64 ob', .int .i64 oc, .slice A' n' cap'] 44)) := (Chg.refl _ _).alloc _
      have hd3 := hdw.keep q3 (by simp)
      have hok3 := hok.keep q3 (by simp)
      generalize wr.alloc (.cells #[.int .i64 kd, .int .i64 st, .int .i64 oa, .int .i64 ob', .int .i64 oc, .slice A' n' cap'] 44) = w3 at *
      refine (bytes_calls hd3).mono ?_
      rintro e w4 ⟨rfl, hr4, hc4⟩
      have hd4 := hd3.keep hc4 (by simp)
      have hb4 := hbx.keep hc4 (by simp)
      have hok4 := hok3.keep hc4 (by simp)
      have e0 := hb4.cell 0
      have e1 := hb4.cell 1
      have e2 := hb4.cell 2
      have e3 := hb4.cell 3
      have e4 := hb4.cell 4
      have e5 := hb4.cell 5
      go_wp2_with (first
        | (go_at_call 18; refine (synced_calls hd4).mono ?_; rintro e w' ⟨rfl, rfl⟩)
        | (go_at_call 16; refine (size_calls hd4).mono ?_; rintro e w' ⟨rfl, rfl⟩))
      have hwt := fun (w : World) (ho : GOp.Ok w ⟨kd, st, oa, ob', oc, A', n', cap', ys⟩) => wants_calls (w := w) (s := s) (bs := bs) ⟨kd, st, oa, ob', oc, A', n', cap', ys⟩ ho hlw.1 hlw.2
      have HW := Lib.hid hwt
      clear hwt
      refine (act_calls hd4 ⟨kd, st, oa, ob', oc, A', n', cap', ys⟩ hok4).mono ?_
      rintro e w5 ⟨rfl, S5, hd5, hc5, hS5⟩
      generalize actF ⟨kd, st, oa, ob', oc, A', n', cap', ys⟩ bs s = r at *
      obtain ⟨er, bs5, s5⟩ := r
      simp only at hd5 HR HW
      have hlt' := hdw.lt
      have hb5 := hb4.keep hc5 (fun hm => by have := hlt' _ hm; omega)
      have hr5 := hr4.keep hc5 (fun i hi hm => by simp [ob] at hi; subst hi; have := hd3.lt _ hm; omega)
      have hok5 := (hy.2 _ (List.mem_of_getElem? ho)).keep ((((hcw.next q3).next hc4).trans hc5 (fun i hi => .inr (hSw i hi)))) (by simp)
      have q5 : Chg [] w w5 := ((hcw.next q3).next hc4).trans hc5 (fun i hi => .inr (hSw i hi))
      have hS5w : ∀ k ∈ S5, w.heap.size ≤ k := fun k hk => by
        rcases hS5 k hk with hh | hh
        · exact hSw k hh
        · have := ((hcw.next q3).next hc4).size; omega
      have g0 := hb5.cell 0
      have g1 := hb5.cell 1
      have g2 := hb5.cell 2
      have g3 := hb5.cell 3
      have g4 := hb5.cell 4
      have g5 := hb5.cell 5
      clear e0 e1 e2 e3 e4 e5 hbx hb4 hb5 hd3 hd4 hok3 hok4 hok HC hc4 hc5 hy hyw ho hr4 q3 hS5
      by_cases he : er = 0
      · subst he
        clear HR
        go_wp2_with (first
          | (go_at_call 26; refine (HW.out _ hok5).mono ?_; rintro e w6 ⟨rfl, hc6⟩))
        go_roundw
        case rel => exact ⟨k + 1, s5, S5, bs5, by omega, by go_num, hd5.keep hc6 (by simp), hS5w, q5.next hc6⟩
        case measure => simp [intOf]; omega
      · have HR2 := HR.out he
        simp only [Prod.mk.injEq] at HR2
        obtain ⟨rfl, rfl⟩ := HR2
        have hbe : (er != 0) = true := by rw [bne_iff_ne]; exact he
        clear he HR
        go_wp2_with (first
          | (go_at_call 26; refine (HW.out _ hok5).mono ?_; rintro e w6 ⟨rfl, hc6⟩; have hd6 := hd5.keep hc6 (by simp); have hr6 := hr5.keep hc6 (by simp))
          | (go_at_call 16; refine (size_calls hd6).mono ?_; rintro e w' ⟨rfl, rfl⟩)
          | (go_at_call 18; refine (synced_calls hd6).mono ?_; rintro e w' ⟨rfl, rfl⟩)
          | (go_at_call 17; refine (bytes_calls hd6).mono ?_; rintro e w7 ⟨rfl, hr7, hc7⟩)
          | (go_at_call 22; refine (same_yes hr7.reads (hr6.keep hc7 (by simp)).reads (by omega) rfl).mono ?_; rintro e w8 ⟨rfl, q8, rfl⟩))
        go_roundw
        case rel => exact ⟨k + 1, s5, S5, bs5, by omega, by go_num, (hd6.keep hc7 (by simp)).drewN _, hS5w, ((q5.next hc6).next hc7).drewN _⟩
        case measure => simp [intOf]; omega
    · go_wp2
      go_ret
      exact ⟨rfl, hcw⟩
end Go.Proofs.Ytoaaneejecdglaa
