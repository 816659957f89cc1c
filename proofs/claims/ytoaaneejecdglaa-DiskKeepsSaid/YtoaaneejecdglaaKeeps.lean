/-
  PROVED: the walk of DiskKeeps: whatever was first and whatever the script, it returns true and turns nothing that was there.
-/
import Derived.Test.YtoaaneejecdglaaOps
import Derived.Test.YtoaaneejecdglaaYes
namespace Go.Proofs.Ytoaaneejecdglaa
open Go.RowKit

theorem actF_keeps (o : GOp) (bs : List Int) (s : Nat) (hs : s ≤ bs.length) (h5 : o.kind ≠ 5) :
    s ≤ (actF o bs s).2.2 ∧ (actF o bs s).2.2 ≤ (actF o bs s).2.1.length ∧ (actF o bs s).2.1.take s = bs.take s ∧ (o.kind = 4 → (actF o bs s).2.2 = (actF o bs s).2.1.length) := by
  have put : ∀ ys, s ≤ (putF ys bs s).2.2 ∧ (putF ys bs s).2.2 ≤ (putF ys bs s).2.1.length ∧ (putF ys bs s).2.1.take s = bs.take s := by
    intro ys
    unfold putF
    split
    · simp; exact ⟨by omega, by rw [List.take_append_of_le_length hs]⟩
    · simp [hs]
  have crash : ∀ a b c, s ≤ (crashF a b c bs s).2.2 ∧ (crashF a b c bs s).2.2 ≤ (crashF a b c bs s).2.1.length ∧ (crashF a b c bs s).2.1.take s = bs.take s := by
    intro a b c
    unfold crashF
    split
    · simp [hs]
    · split
      · simp [hs]
      · split
        · simp [List.take_take]; omega
        · simp only [List.length_set, List.length_take]
          refine ⟨by omega, by omega, ?_⟩
          rw [List.take_set_of_le (by omega), List.take_take, Nat.min_eq_left (by omega)]
  unfold actF
  split
  · exact ⟨(put _).1, (put _).2.1, (put _).2.2, by omega⟩
  · split
    · exact ⟨(put _).1, (put _).2.1, (put _).2.2, by omega⟩
    · split
      · simp [hs]
      · rename_i h4
        split
        · exact ⟨(crash _ _ _).1, (crash _ _ _).2.1, (crash _ _ _).2.2, by omega⟩
        · exact ⟨Nat.le_refl _, hs, rfl, fun h => absurd h h4⟩

set_option maxHeartbeats 2000000 in
set_option maxRecDepth 100000 in
theorem keeps_long (A B : Option Addr) (n c m d : Nat) (w : World) (bs : List Int) (hx : Reads w 1 A n (bv bs)) (hr : n ≤ 140737488351232) (h : 262144 < n) :
    Calls Try.prog 6 #[.slice A n c, .slice B m d] w fun e w' => e = .returned (.bool true) ∧ Chg [] w w' := by
  have h2 : (262144 : Int) < n := by omega
  go_enter Try.func6, Try.ntmps6
  go_wp2_with (first
    | (go_at_call 24; refine (new_calls _).mono ?_; rintro e w1 ⟨rfl, hd1, hc1⟩)
    | (go_at_call 19; refine (copied_calls (hx.keep hc1 (by simp)) hr).mono ?_; rintro e w2 ⟨rfl, hr2, hc2⟩)
    | (go_at_call 15; refine (append_full (hd1.keep hc2 (by simp)) (by simp; omega)).mono ?_; rintro e w' ⟨rfl, rfl⟩)
    | (go_at_call 14; refine (num_calls _ _).mono ?_; rintro e w' ⟨rfl, rfl⟩)
    | (go_at_call 16; refine (size_calls (hd1.keep hc2 (by simp))).mono ?_; rintro e w' ⟨rfl, rfl⟩))
  go_ret
  exact ⟨rfl, hc1.next hc2⟩

set_option maxHeartbeats 2000000 in
set_option maxRecDepth 100000 in
theorem keeps_in (A B : Option Addr) (n c d : Nat) (w : World) (fs : List Int) (ops : List GOp) (hx : Reads w 1 A n (bv fs)) (hy : OpsAt w B ops) (hm : ops.length ≤ 140737488351232) (h : n ≤ 262144) :
    Calls Try.prog 6 #[.slice A n c, .slice B ops.length d] w fun e w' => e = .returned (.bool true) ∧ Chg [] w w' := by
  have h2 : ¬ (262144 : Int) < n := by omega
  have HL := Lib.hid hx.len
  go_enter Try.func6, Try.ntmps6
  go_wp2_with (first
    | (go_at_call 12; refine (born_calls hx h).mono ?_; rintro e w1 ⟨p, S, rfl, hd1, hc1, hS1⟩)
    | (go_at_call 19; refine (copied_calls (hx.keep hc1 (by simp)) (by omega)).mono ?_; rintro e w2 ⟨rfl, hr2, hc2⟩))
  have hd2 := hd1.keep hc2 (by simp)
  have q2 := hc1.next hc2
  have hg2 : w1.heap.size < w2.heap.size := hr2.lt _ (by simp [ob])
  have hgS : ∀ k ∈ S, k ≠ w1.heap.size := fun k hk e => by have := hd1.lt k hk; omega
  have e0 : Hid (fs = fs.take n) := by unfold Hid; rw [← HL.out]; simp
  rw [e0.out] at hr2
  have hlen : Hid (n ≤ fs.length) := by unfold Hid; rw [HL.out]; omega
  go_loopw [8, 9] (fun sv i wr => ∃ (k g m s : Nat) (S : List Nat) (bs : List Int), k ≤ ops.length ∧ i = .int .i64 k ∧ sv = .slice (some ⟨g, 0, none⟩) m m ∧ Row wr 5 1 (some ⟨g, 0, none⟩) m m (bv (bs.take s)) ∧ Disk wr p S bs s ∧ g ∉ S ∧ (∀ k ∈ S, w.heap.size ≤ k) ∧ Chg [] w wr) (fun _ i _ => ops.length - (intOf i).toNat)
  case atStart => exact ⟨0, w1.heap.size, n, n, S, fs, Nat.zero_le _, rfl, rfl, hr2, hd2, fun hm => hgS _ hm rfl, hS1, q2⟩
  case round =>
    obtain ⟨k, g, m, s, S', bs, hk, rfl, rfl, hrw, hdw, hgw, hSw, hcw⟩ := hrel
    clear hr2 hd2 hd1 hgS
    by_cases hlt : k < ops.length
    · have hyw := hy.keep hcw
      obtain ⟨ad, o, rfl, ho, hcells, hok⟩ := hyw.at_ hlt
      obtain ⟨kd, st, oa, ob', oc, A', n', cap', ys⟩ := o
      have hcells' : ∀ j u, ([.int .i64 kd, .int .i64 st, .int .i64 oa, .int .i64 ob', .int .i64 oc, .slice A' n' cap'] : List Value)[j]? = some u → wr.cell? ((ad.add (k * 6)).add j) = some u := hcells
      clear hcells
      have HC := Lib.hid hcells'
      clear hcells'
      by_cases k5 : kd = 5
      · subst k5
        go_wp2_with (with_reducible refine wpList_load_cells _ rfl 44 (.tmp 49) rfl (ad.add (k * 6)) rfl _ HC.out (.struct _) Try.underlying44 rfl (by kernel_rfl) ?_)
        go_roundw
        case rel =>
          have q3 : Chg [] wr (wr.alloc (.cells #[.int .i64 5, .int .i64 st, .int .i64 oa, .int .i64 ob', .int .i64 oc, .slice A' n' cap'] 44)) := (Chg.refl _ _).alloc _
          exact ⟨k + 1, g, m, s, S', bs, by omega, by go_num, rfl, hrw.keep q3 (by simp), hdw.keep q3 (by simp), hgw, hSw, hcw.next q3⟩
        case measure => simp [intOf]; omega
      · have b5 : (kd == 5) = false := by simpa using k5
        have hlw := hdw.le
        obtain ⟨f1, f2, f3, f4⟩ := actF_keeps ⟨kd, st, oa, ob', oc, A', n', cap', ys⟩ bs s hlw.1 k5
        have hms : Hid (m = s ∧ (bs.take s).length = s) := by
          have := hrw.reads.len
          have e : (bs.take s).length = s := by simp; omega
          exact ⟨by omega, e⟩
        have f1' : ¬ ((actF ⟨kd, st, oa, ob', oc, A', n', cap', ys⟩ bs s).2.2 : Int) < m := by have := hms.out.1; omega
        clear k5
        go_wp2_with (with_reducible refine wpList_load_cells _ rfl 44 (.tmp 49) rfl (ad.add (k * 6)) rfl _ HC.out (.struct _) Try.underlying44 rfl (by kernel_rfl) ?_)
        have hbx : Blk (wr.alloc (.cells #[.int .i64 kd, .int .i64 st, .int .i64 oa, .int .i64 ob', .int .i64 oc, .slice A' n' cap'] 44)) wr.heap.size 44 #[.int .i64 kd, .int .i64 st, .int .i64 oa, .int .i64 ob', .int .i64 oc, .slice A' n' cap'] := Blk.new _ _ _
        have q3 : Chg [] wr (wr.alloc (.cells #[.int .i64 kd, .int .i64 st, .int .i64 oa, .int .i64 ob', .int .i64 oc, .slice A' n' cap'] 44)) := (Chg.refl _ _).alloc _
        have hd3 := hdw.keep q3 (by simp)
        have hr3 := hrw.keep q3 (by simp)
        have hok3 := hok.keep q3 (by simp)
        generalize wr.alloc (.cells #[.int .i64 kd, .int .i64 st, .int .i64 oa, .int .i64 ob', .int .i64 oc, .slice A' n' cap'] 44) = w3 at *
        refine (act_calls hd3 ⟨kd, st, oa, ob', oc, A', n', cap', ys⟩ hok3).mono ?_
        rintro e w4 ⟨rfl, S4, hd4, hc4, hS4⟩
        generalize actF ⟨kd, st, oa, ob', oc, A', n', cap', ys⟩ bs s = r at *
        obtain ⟨e4, bs4, s4⟩ := r
        simp only at hd4 f1 f2 f3 f4 f1'
        have hlt' := hdw.lt
        have hb4 := hbx.keep hc4 (fun hm => by have := hlt' _ hm; omega)
        have c0 := hb4.cell 0
        have hr4 := hr3.keep hc4 (by simpa [ob] using hgw)
        have q4 : Chg [] w w4 := (hcw.next q3).trans hc4 (fun i hi => .inr (hSw i hi))
        have hS4w : ∀ k ∈ S4, w.heap.size ≤ k := fun k hk => by
          rcases hS4 k hk with hh | hh
          · exact hSw k hh
          · have := (hcw.next q3).size; omega
        have hpf : Hid (bs4.take (bs.take s).length = bs.take s) := by unfold Hid; rw [hms.out.2]; exact f3
        have f2' : ¬ (bs4.length : Int) < s4 := by omega
        clear hbx hd3 hr3 hok3 hok HC hc4 f3 hy hyw ho
        have hm4 : m ≤ 262144 := by have := hms.out.1; omega
        have hs4 : s4 ≤ 262144 := by have := hd4.le; omega
        have f6 : (s4 : Int) ≤ bs4.length := by omega
        by_cases k4 : kd = 4
        · have f5 : ((s4 : Int) != bs4.length) = false := by have := f4 k4; simp; omega
          subst k4
          clear f4
          go_wp2_with (first
            | (go_at_call 17; refine (bytes_calls hd4).mono ?_; rintro e w5 ⟨rfl, hr5, hc5⟩; have hd5 := hd4.keep hc5 (by simp); have hr45 := hr4.keep hc5 (by simp); have hb5 := hb4.keep hc5 (by simp); have c05 := hb5.cell 0; have ht5 := (hr5.reads.take (k := s4) f2))
            | (go_at_call 18; refine (synced_calls hd5).mono ?_; rintro e w' ⟨rfl, rfl⟩)
            | (go_at_call 16; refine (size_calls hd5).mono ?_; rintro e w' ⟨rfl, rfl⟩)
            | (go_at_call 21; refine (begins_yes hr5.reads (Nat.le_refl _) hr45.reads (by omega) hpf.out).mono ?_; rintro e w6 ⟨rfl, q, rfl⟩)
            | (go_at_call 19; rw [bv_take] at ht5; refine (copied_calls (ht5.drewN q) (by omega)).mono ?_; rintro e w7 ⟨rfl, hr7, hc7⟩))
          go_roundw
          case rel =>
            have q7 : Chg [] w4 w7 := (hc5.drewN q).next hc7
            have hd7 := hd4.keep q7 (by simp)
            exact ⟨k + 1, w5.heap.size, s4, s4, S4, bs4, by omega, by go_num, rfl, hr7, hd7, fun hm => by have := hd5.lt _ hm; omega, hS4w, q4.next q7⟩
          case measure => simp [intOf]; omega
        · have b4 : (kd == 4) = false := by simpa using k4
          clear f4 k4
          go_wp2_with (first
            | (go_at_call 17; refine (bytes_calls hd4).mono ?_; rintro e w5 ⟨rfl, hr5, hc5⟩; have hd5 := hd4.keep hc5 (by simp); have hr45 := hr4.keep hc5 (by simp); have hb5 := hb4.keep hc5 (by simp); have c05 := hb5.cell 0; have ht5 := (hr5.reads.take (k := s4) f2))
            | (go_at_call 18; refine (synced_calls hd5).mono ?_; rintro e w' ⟨rfl, rfl⟩)
            | (go_at_call 16; refine (size_calls hd5).mono ?_; rintro e w' ⟨rfl, rfl⟩)
            | (go_at_call 21; refine (begins_yes hr5.reads (Nat.le_refl _) hr45.reads (by omega) hpf.out).mono ?_; rintro e w6 ⟨rfl, q, rfl⟩)
            | (go_at_call 19; rw [bv_take] at ht5; refine (copied_calls (ht5.drewN q) (by omega)).mono ?_; rintro e w7 ⟨rfl, hr7, hc7⟩))
          go_roundw
          case rel =>
            have q7 : Chg [] w4 w7 := (hc5.drewN q).next hc7
            have hd7 := hd4.keep q7 (by simp)
            exact ⟨k + 1, w5.heap.size, s4, s4, S4, bs4, by omega, by go_num, rfl, hr7, hd7, fun hm => by have := hd5.lt _ hm; omega, hS4w, q4.next q7⟩
          case measure => simp [intOf]; omega
    · go_wp2
      go_ret
      exact ⟨rfl, hcw⟩

end Go.Proofs.Ytoaaneejecdglaa
