/-
  PROVED: the walk of DiskApart: whatever the two beginnings and the script, it returns true and turns nothing that was there.
-/
import Derived.Test.YtoaaneejecdglaaOps
import Derived.Test.YtoaaneejecdglaaYes
namespace Go.Proofs.Ytoaaneejecdglaa
open Go.RowKit

/-- Is the step one on the first file? -/
def first0 (o : GOp) : Bool := !(bits .and .i64 o.site 1 == 1)

theorem site_one (n : Int) (w : World) (h : (bits .and .i64 n 1 == 1) = true) : Calls Try.prog 30 #[.int .i64 n] w fun e w' => e = .returned (.int .i64 1) ∧ w = w' := by
  go_enter Try.func30, Try.ntmps30
  go_wp2
  go_ret
  exact ⟨rfl, rfl⟩
theorem site_zero (n : Int) (w : World) (h : (bits .and .i64 n 1 == 1) = false) : Calls Try.prog 30 #[.int .i64 n] w fun e w' => e = .returned (.int .i64 0) ∧ w = w' := by
  go_enter Try.func30, Try.ntmps30
  go_wp2
  go_ret
  exact ⟨rfl, rfl⟩
theorem site_calls (n : Int) (w : World) : Calls Try.prog 30 #[.int .i64 n] w fun e w' => e = .returned (.int .i64 (if (bits .and .i64 n 1 == 1) = true then 1 else 0)) ∧ w = w' := by
  by_cases h : (bits .and .i64 n 1 == 1) = true
  · rw [if_pos h]; exact site_one n w h
  · rw [if_neg h]; exact site_zero n w (by simpa using h)

/-- The steps on the first file ('b' true), or on the other, played. -/
def play1 (b : Bool) (st : List Int × Nat) (o : GOp) : List Int × Nat := if first0 o = b then (actF o st.1 st.2).2 else st
def playF (b : Bool) (ops : List GOp) (st : List Int × Nat) : List Int × Nat := ops.foldl (play1 b) st
theorem playF_succ (b : Bool) {ops : List GOp} {k : Nat} {o : GOp} (h : ops[k]? = some o) (st : List Int × Nat) : playF b (ops.take (k + 1)) st = play1 b (playF b (ops.take k) st) o := by
  obtain ⟨hk, rfl⟩ := List.getElem?_eq_some_iff.1 h
  unfold playF
  rw [List.take_succ_eq_append_getElem hk, List.foldl_append]
  rfl

/-- Two files share no block. -/
def Apart (S T : List Nat) : Prop := ∀ k ∈ S, k ∉ T
theorem Apart.symm {S T : List Nat} (h : Apart S T) : Apart T S := fun k hk hm => h k hm hk
theorem Apart.next {S S' T : List Nat} {w : World} (h : Apart S T) (hS : ∀ k ∈ S', k ∈ S ∨ w.heap.size ≤ k) (hT : ∀ k ∈ T, k < w.heap.size) : Apart S' T := fun k hk hm => by
  rcases hS k hk with hh | hh
  · exact h k hh hm
  · have := hT k hm; omega

set_option maxHeartbeats 2000000 in
set_option maxRecDepth 100000 in
theorem apart_long (A B D : Option Addr) (n c m d l e : Nat) (w : World) (h : 262144 < n ∨ 262144 < m) :
    Calls Try.prog 10 #[.slice A n c, .slice B m d, .slice D l e] w fun e w' => e = .returned (.bool true) ∧ Chg [] w w' := by
  by_cases h1 : 262144 < n
  · have h2 : (262144 : Int) < n := by omega
    go_enter Try.func10, Try.ntmps10
    go_wp2_with fail
    go_ret
    exact ⟨rfl, Chg.refl _ _⟩
  · have h2 : ¬ (262144 : Int) < n := by omega
    have h3 : (262144 : Int) < m := by omega
    clear h
    go_enter Try.func10, Try.ntmps10
    go_wp2_with fail
    go_ret
    exact ⟨rfl, Chg.refl _ _⟩

set_option maxHeartbeats 4000000 in
set_option maxRecDepth 100000 in
theorem apart_in (A B D : Option Addr) (n c m d e : Nat) (w : World) (fs gs : List Int) (ops : List GOp) (hx : Reads w 1 A n (bv fs)) (hz : Reads w 1 B m (bv gs)) (hy : OpsAt w D ops) (hm : ops.length ≤ 140737488351232) (h : n ≤ 262144) (h' : m ≤ 262144) :
    Calls Try.prog 10 #[.slice A n c, .slice B m d, .slice D ops.length e] w fun e w' => e = .returned (.bool true) ∧ Chg [] w w' := by
  have h2 : ¬ (262144 : Int) < n := by omega
  have h3 : ¬ (262144 : Int) < m := by omega
  go_enter Try.func10, Try.ntmps10
  go_wp2_with fail
  refine (born_calls hx h).mono ?_
  rintro e1 w1 ⟨pa, Sa, rfl, hda, hca, hSa⟩
  go_wp2_with fail
  refine (born_calls (hz.keep hca (by simp)) h').mono ?_
  rintro e1 w2 ⟨pb, Sb, rfl, hdb, hcb, hSb⟩
  have hda2 := hda.keep hcb (by simp)
  have a1 : Apart Sb Sa := fun k hk hm => by have := hSb k hk; have := hda.lt k hm; omega
  have hSbw : ∀ k ∈ Sb, w.heap.size ≤ k := fun k hk => by have := hSb k hk; have := hca.size; omega
  go_wp2_with fail
  refine (born_calls ((hx.keep hca (by simp)).keep hcb (by simp)) h).mono ?_
  rintro e1 w3 ⟨px, Sx, rfl, hdx, hcx, hSx⟩
  have hda3 := hda2.keep hcx (by simp)
  have hdb3 := hdb.keep hcx (by simp)
  have a2 : Apart Sx Sa := fun k hk hm => by have := hSx k hk; have := hda2.lt k hm; omega
  have a3 : Apart Sx Sb := fun k hk hm => by have := hSx k hk; have := hdb.lt k hm; omega
  have hSxw : ∀ k ∈ Sx, w.heap.size ≤ k := fun k hk => by have := hSx k hk; have := (hca.next hcb).size; omega
  have q3 : Chg [] w w3 := (hca.next hcb).next hcx
  clear hda hda2 hdb hca hcb hcx hSb hSx
  go_wp2_with fail
  go_loopw [11] (fun i wr => ∃ (k : Nat) (Sa Sb Sx : List Nat), k ≤ ops.length ∧ i = .int .i64 k ∧ Disk wr pa Sa (playF true (ops.take k) (fs, n)).1 (playF true (ops.take k) (fs, n)).2 ∧ Disk wr pb Sb (playF false (ops.take k) (gs, m)).1 (playF false (ops.take k) (gs, m)).2 ∧ Disk wr px Sx fs n ∧
      Apart Sb Sa ∧ Apart Sx Sa ∧ Apart Sx Sb ∧ (∀ k ∈ Sa, w.heap.size ≤ k) ∧ (∀ k ∈ Sb, w.heap.size ≤ k) ∧ (∀ k ∈ Sx, w.heap.size ≤ k) ∧ Chg [] w wr) (fun i _ => ops.length - (intOf i).toNat)
  case atStart => exact ⟨0, Sa, Sb, Sx, Nat.zero_le _, rfl, hda3, hdb3, hdx, a1, a2, a3, hSa, hSbw, hSxw, q3⟩
  case round =>
    clear hda3 hdb3 hdx a1 a2 a3 hSa hSbw hSxw q3
    obtain ⟨k, Sa, Sb, Sx, hk, rfl, hda, hdb, hdx, a1, a2, a3, hSa, hSb, hSx, q⟩ := hrel
    by_cases hlt : k < ops.length
    · have hyw := hy.keep q
      obtain ⟨ad, o, rfl, ho, hcells, hok⟩ := hyw.at_ hlt
      obtain ⟨kd, st, oa, ob', oc, A', n', cap', ys⟩ := o
      have hcells' : ∀ j u, ([.int .i64 kd, .int .i64 st, .int .i64 oa, .int .i64 ob', .int .i64 oc, .slice A' n' cap'] : List Value)[j]? = some u → wr.cell? ((ad.add (k * 6)).add j) = some u := hcells
      clear hcells
      have c1 : wr.cell? ⟨(ad.add (k * 6)).block, (ad.add (k * 6)).off + 1, none⟩ = some (.int .i64 st) := hcells' 1 _ rfl
      have HC := Lib.hid hcells'
      clear hcells'
      have P1 := Lib.hid (playF_succ true ho (fs, n))
      have P2 := Lib.hid (playF_succ false ho (gs, m))
      by_cases hs : (bits .and .i64 st 1 == 1) = true
      · have hf : first0 ⟨kd, st, oa, ob', oc, A', n', cap', ys⟩ = false := by simp [first0, hs]
        have e1 : Hid (playF true (ops.take (k + 1)) (fs, n) = playF true (ops.take k) (fs, n)) := by rw [Hid, P1.out, play1, hf]; rfl
        have e2 : Hid (playF false (ops.take (k + 1)) (gs, m) = (actF ⟨kd, st, oa, ob', oc, A', n', cap', ys⟩ (playF false (ops.take k) (gs, m)).1 (playF false (ops.take k) (gs, m)).2).2) := by rw [Hid, P2.out, play1, hf]; rfl
        clear P1 P2 hf
        go_wp2_with (first
          | (go_at_call 30; refine (site_one _ _ hs).mono ?_; rintro e w' ⟨rfl, rfl⟩)
          | (with_reducible refine wpList_load_cells _ rfl 44 (.tmp 66) rfl (ad.add (k * 6)) rfl _ HC.out (.struct _) Try.underlying44 rfl (by kernel_rfl) ?_)
          | (go_at_call 25; refine (act_calls hdb ⟨kd, st, oa, ob', oc, A', n', cap', ys⟩ hok).mono ?_; rintro e w4 ⟨rfl, S4, hd4, hc4, hS4⟩))
        go_roundw
        case rel =>
          refine ⟨k + 1, Sa, S4, Sx, by omega, by go_num, ?_, ?_, hdx.keep hc4 a3, a1.next hS4 hda.lt, a2, (Apart.next a3.symm hS4 hdx.lt).symm, hSa, ?_, hSx, q.trans hc4 (fun i hi => .inr (hSb i hi))⟩
          · rw [e1.out]; exact hda.keep hc4 a1.symm
          · rw [e2.out]; exact hd4
          · intro i hi
            rcases hS4 i hi with hh | hh
            · exact hSb i hh
            · have := q.size; omega
        case measure => simp [intOf]; omega
      · have hs' : (bits .and .i64 st 1 == 1) = false := by simpa using hs
        have hf : first0 ⟨kd, st, oa, ob', oc, A', n', cap', ys⟩ = true := by simp [first0, hs']
        have e1 : Hid (playF false (ops.take (k + 1)) (gs, m) = playF false (ops.take k) (gs, m)) := by rw [Hid, P2.out, play1, hf]; rfl
        have e2 : Hid (playF true (ops.take (k + 1)) (fs, n) = (actF ⟨kd, st, oa, ob', oc, A', n', cap', ys⟩ (playF true (ops.take k) (fs, n)).1 (playF true (ops.take k) (fs, n)).2).2) := by rw [Hid, P1.out, play1, hf]; rfl
        clear P1 P2 hf hs
        go_wp2_with (first
          | (go_at_call 30; refine (site_zero _ _ hs').mono ?_; rintro e w' ⟨rfl, rfl⟩)
          | (with_reducible refine wpList_load_cells _ rfl 44 (.tmp 60) rfl (ad.add (k * 6)) rfl _ HC.out (.struct _) Try.underlying44 rfl (by kernel_rfl) ?_)
          | (go_at_call 25; refine (act_calls hda ⟨kd, st, oa, ob', oc, A', n', cap', ys⟩ hok).mono ?_; rintro e w4 ⟨rfl, S4, hd4, hc4, hS4⟩))
        go_roundw
        case rel =>
          refine ⟨k + 1, S4, Sb, Sx, by omega, by go_num, ?_, ?_, hdx.keep hc4 a2, (Apart.next a1.symm hS4 hdb.lt).symm, (Apart.next a2.symm hS4 hdx.lt).symm, a3, ?_, hSb, hSx, q.trans hc4 (fun i hi => .inr (hSa i hi))⟩
          · rw [e2.out]; exact hd4
          · rw [e1.out]; exact hdb.keep hc4 a1
          · intro i hi
            rcases hS4 i hi with hh | hh
            · exact hSa i hh
            · have := q.size; omega
        case measure => simp [intOf]; omega
    · have hk' : ops.take k = ops := List.take_of_length_le (by omega)
      rw [hk'] at hda hdb
      clear hk'
      generalize hFA : playF true ops (fs, n) = FA at *
      generalize hFB : playF false ops (gs, m) = FB at *
      obtain ⟨ba, sa⟩ := FA
      obtain ⟨bb, sb⟩ := FB
      simp only at hda hdb
      have HA := Lib.hid hFA
      have HB := Lib.hid hFB
      clear hFA hFB
      go_wp2_with fail
      go_loopw [12] (fun i wr => ∃ (k : Nat) (Sx : List Nat), k ≤ ops.length ∧ i = .int .i64 k ∧ Disk wr pa Sa ba sa ∧ Disk wr pb Sb bb sb ∧ Disk wr px Sx (playF true (ops.take k) (fs, n)).1 (playF true (ops.take k) (fs, n)).2 ∧
          Apart Sx Sa ∧ Apart Sx Sb ∧ (∀ k ∈ Sx, w.heap.size ≤ k) ∧ Chg [] w wr) (fun i _ => ops.length - (intOf i).toNat)
      case atStart => exact ⟨0, Sx, Nat.zero_le _, rfl, hda, hdb, hdx, a2, a3, hSx, q⟩
      case round =>
        clear hda hdb hdx a2 a3 hSx q
        obtain ⟨k, Sx, hk, rfl, hda, hdb, hdx, a2, a3, hSx, q⟩ := hrel
        by_cases hlt : k < ops.length
        · have hyw := hy.keep q
          obtain ⟨ad, o, rfl, ho, hcells, hok⟩ := hyw.at_ hlt
          obtain ⟨kd, st, oa, ob', oc, A', n', cap', ys⟩ := o
          have hcells' : ∀ j u, ([.int .i64 kd, .int .i64 st, .int .i64 oa, .int .i64 ob', .int .i64 oc, .slice A' n' cap'] : List Value)[j]? = some u → wr.cell? ((ad.add (k * 6)).add j) = some u := hcells
          clear hcells
          have c1 : wr.cell? ⟨(ad.add (k * 6)).block, (ad.add (k * 6)).off + 1, none⟩ = some (.int .i64 st) := hcells' 1 _ rfl
          have HC := Lib.hid hcells'
          clear hcells'
          have P1 := Lib.hid (playF_succ true ho (fs, n))
          by_cases hs : (bits .and .i64 st 1 == 1) = true
          · have hf : first0 ⟨kd, st, oa, ob', oc, A', n', cap', ys⟩ = false := by simp [first0, hs]
            have e1 : Hid (playF true (ops.take (k + 1)) (fs, n) = playF true (ops.take k) (fs, n)) := by rw [Hid, P1.out, play1, hf]; rfl
            clear P1 hf
            go_wp2_with (go_at_call 30; refine (site_one _ _ hs).mono ?_; rintro e w' ⟨rfl, rfl⟩)
            go_roundw
            case rel =>
              refine ⟨k + 1, Sx, by omega, by go_num, hda, hdb, ?_, a2, a3, hSx, q⟩
              rw [e1.out]; exact hdx
            case measure => simp [intOf]; omega
          · have hs' : (bits .and .i64 st 1 == 1) = false := by simpa using hs
            have hf : first0 ⟨kd, st, oa, ob', oc, A', n', cap', ys⟩ = true := by simp [first0, hs']
            clear hs
            have e1 : Hid (playF true (ops.take (k + 1)) (fs, n) = (actF ⟨kd, st, oa, ob', oc, A', n', cap', ys⟩ (playF true (ops.take k) (fs, n)).1 (playF true (ops.take k) (fs, n)).2).2) := by rw [Hid, P1.out, play1, hf]; rfl
            clear P1 hf
            go_wp2_with (first
              | (go_at_call 30; refine (site_zero _ _ hs').mono ?_; rintro e w' ⟨rfl, rfl⟩)
              | (with_reducible refine wpList_load_cells _ rfl 44 (.tmp 85) rfl (ad.add (k * 6)) rfl _ HC.out (.struct _) Try.underlying44 rfl (by kernel_rfl) ?_)
              | (go_at_call 25; refine (act_calls hdx ⟨kd, st, oa, ob', oc, A', n', cap', ys⟩ hok).mono ?_; rintro e w4 ⟨rfl, S4, hd4, hc4, hS4⟩))
            go_roundw
            case rel =>
              refine ⟨k + 1, S4, by omega, by go_num, hda.keep hc4 a2.symm, hdb.keep hc4 a3.symm, ?_, a2.next hS4 hda.lt, a3.next hS4 hdb.lt, ?_, q.trans hc4 (fun i hi => .inr (hSx i hi))⟩
              · rw [e1.out]; exact hd4
              · intro i hi
                rcases hS4 i hi with hh | hh
                · exact hSx i hh
                · have := q.size; omega
            case measure => simp [intOf]; omega
        · have hk' : ops.take k = ops := List.take_of_length_le (by omega)
          rw [hk', HA.out] at hdx
          simp only at hdx
          clear hk'
          have hz3 := hz.keep q (by simp)
          go_wp2_with fail
          refine (born_calls hz3 h').mono ?_
          rintro e1 w5 ⟨py, Sy, rfl, hdy, hcy, hSy⟩
          have hda5 := hda.keep hcy (by simp)
          have hdb5 := hdb.keep hcy (by simp)
          have hdx5 := hdx.keep hcy (by simp)
          have y1 : Apart Sy Sa := fun k hk hm => by have := hSy k hk; have := hda.lt k hm; omega
          have y2 : Apart Sy Sb := fun k hk hm => by have := hSy k hk; have := hdb.lt k hm; omega
          have y3 : Apart Sy Sx := fun k hk hm => by have := hSy k hk; have := hdx.lt k hm; omega
          have hSyw : ∀ k ∈ Sy, w.heap.size ≤ k := fun k hk => by have := hSy k hk; have := q.size; omega
          have q5 := q.next hcy
          clear hda hdb hdx hcy hSy a2 a3 hz3 q
          go_wp2_with fail
          go_loopw [14] (fun i wr => ∃ (k : Nat) (Sy : List Nat), k ≤ ops.length ∧ i = .int .i64 k ∧ Disk wr pa Sa ba sa ∧ Disk wr pb Sb bb sb ∧ Disk wr px Sx ba sa ∧ Disk wr py Sy (playF false (ops.take k) (gs, m)).1 (playF false (ops.take k) (gs, m)).2 ∧
              Apart Sy Sa ∧ Apart Sy Sb ∧ Apart Sy Sx ∧ (∀ k ∈ Sy, w.heap.size ≤ k) ∧ Chg [] w wr) (fun i _ => ops.length - (intOf i).toNat)
          case atStart => exact ⟨0, Sy, Nat.zero_le _, rfl, hda5, hdb5, hdx5, hdy, y1, y2, y3, hSyw, q5⟩
          case round =>
            clear hda5 hdb5 hdx5 hdy y1 y2 y3 hSyw q5
            obtain ⟨k, Sy, hk, rfl, hda, hdb, hdx, hdy, y1, y2, y3, hSy, q⟩ := hrel
            by_cases hlt : k < ops.length
            · have hyw := hy.keep q
              obtain ⟨ad, o, rfl, ho, hcells, hok⟩ := hyw.at_ hlt
              obtain ⟨kd, st, oa, ob', oc, A', n', cap', ys⟩ := o
              have hcells' : ∀ j u, ([.int .i64 kd, .int .i64 st, .int .i64 oa, .int .i64 ob', .int .i64 oc, .slice A' n' cap'] : List Value)[j]? = some u → wr.cell? ((ad.add (k * 6)).add j) = some u := hcells
              clear hcells
              have c1 : wr.cell? ⟨(ad.add (k * 6)).block, (ad.add (k * 6)).off + 1, none⟩ = some (.int .i64 st) := hcells' 1 _ rfl
              have HC := Lib.hid hcells'
              clear hcells'
              have P1 := Lib.hid (playF_succ false ho (gs, m))
              by_cases hs : (bits .and .i64 st 1 == 1) = true
              · have hf : first0 ⟨kd, st, oa, ob', oc, A', n', cap', ys⟩ = false := by simp [first0, hs]
                have e1 : Hid (playF false (ops.take (k + 1)) (gs, m) = (actF ⟨kd, st, oa, ob', oc, A', n', cap', ys⟩ (playF false (ops.take k) (gs, m)).1 (playF false (ops.take k) (gs, m)).2).2) := by rw [Hid, P1.out, play1, hf]; rfl
                clear P1 hf
                go_wp2_with (first
                  | (go_at_call 30; refine (site_one _ _ hs).mono ?_; rintro e w' ⟨rfl, rfl⟩)
                  | (with_reducible refine wpList_load_cells _ rfl 44 (.tmp 111) rfl (ad.add (k * 6)) rfl _ HC.out (.struct _) Try.underlying44 rfl (by kernel_rfl) ?_)
                  | (go_at_call 25; refine (act_calls hdy ⟨kd, st, oa, ob', oc, A', n', cap', ys⟩ hok).mono ?_; rintro e w4 ⟨rfl, S4, hd4, hc4, hS4⟩))
                go_roundw
                case rel =>
                  refine ⟨k + 1, S4, by omega, by go_num, hda.keep hc4 y1.symm, hdb.keep hc4 y2.symm, hdx.keep hc4 y3.symm, ?_, y1.next hS4 hda.lt, y2.next hS4 hdb.lt, y3.next hS4 hdx.lt, ?_, q.trans hc4 (fun i hi => .inr (hSy i hi))⟩
                  · rw [e1.out]; exact hd4
                  · intro i hi
                    rcases hS4 i hi with hh | hh
                    · exact hSy i hh
                    · have := q.size; omega
                case measure => simp [intOf]; omega
              · have hs' : (bits .and .i64 st 1 == 1) = false := by simpa using hs
                have hf : first0 ⟨kd, st, oa, ob', oc, A', n', cap', ys⟩ = true := by simp [first0, hs']
                clear hs
                have e1 : Hid (playF false (ops.take (k + 1)) (gs, m) = playF false (ops.take k) (gs, m)) := by rw [Hid, P1.out, play1, hf]; rfl
                clear P1 hf
                go_wp2_with (go_at_call 30; refine (site_zero _ _ hs').mono ?_; rintro e w' ⟨rfl, rfl⟩)
                go_roundw
                case rel =>
                  refine ⟨k + 1, Sy, by omega, by go_num, hda, hdb, hdx, ?_, y1, y2, y3, hSy, q⟩
                  rw [e1.out]; exact hdy
                case measure => simp [intOf]; omega
            · have hk' : ops.take k = ops := List.take_of_length_le (by omega)
              rw [hk', HB.out] at hdy
              simp only at hdy
              clear hk'
              have la := hda.le
              have lb := hdb.le
              go_wp2_with fail
              refine (bytes_calls hda).mono ?_
              rintro e1 w6 ⟨rfl, hr6, hc6⟩
              have hdx6 := hdx.keep hc6 (by simp)
              go_wp2_with fail
              refine (bytes_calls hdx6).mono ?_
              rintro e1 w7 ⟨rfl, hr7, hc7⟩
              have hr67 := hr6.keep hc7 (by simp)
              have q7 := (hc6.next hc7)
              have hda7 := hda.keep q7 (by simp)
              have hdb7 := hdb.keep q7 (by simp)
              have hdx7 := hdx.keep q7 (by simp)
              have hdy7 := hdy.keep q7 (by simp)
              go_wp2_with (first
                | (go_at_call 22; refine (same_yes hr67.reads hr7.reads (by omega) rfl).mono ?_; rintro e w' ⟨rfl, q1, rfl⟩))
              refine (synced_calls (hda7.drewN _)).mono ?_
              rintro e1 w8 ⟨rfl, rfl⟩
              go_wp2_with fail
              refine (synced_calls (hdx7.drewN _)).mono ?_
              rintro e1 w8 ⟨rfl, rfl⟩
              go_wp2_with fail
              refine (bytes_calls (hdb7.drewN _)).mono ?_
              rintro e1 w9 ⟨rfl, hr9, hc9⟩
              go_wp2_with fail
              refine (bytes_calls ((hdy7.drewN _).keep hc9 (by simp))).mono ?_
              rintro e1 w10 ⟨rfl, hr10, hc10⟩
              have hr910 := hr9.keep hc10 (by simp)
              have q10 := hc9.next hc10
              have hdb10 := (hdb7.drewN _).keep q10 (by simp)
              have hdy10 := (hdy7.drewN _).keep q10 (by simp)
              go_wp2_with (first
                | (go_at_call 22; refine (same_yes hr910.reads hr10.reads (by omega) rfl).mono ?_; rintro e w' ⟨rfl, q2, rfl⟩))
              refine (synced_calls (hdb10.drewN _)).mono ?_
              rintro e1 w11 ⟨rfl, rfl⟩
              go_wp2_with fail
              refine (synced_calls (hdy10.drewN _)).mono ?_
              rintro e1 w11 ⟨rfl, rfl⟩
              go_wp2_with fail
              go_ret
              exact ⟨rfl, (((q.next q7).drewN _).next q10).drewN _⟩

end Go.Proofs.Ytoaaneejecdglaa
