/-
  PROVED: the contract of Kept's marked (OutboxOwn).
-/
import Derived.Test.YtphbhmppjafhkaaOwnK
namespace Go.Proofs.Ytphbhmppjafhkaa
open Go.RowKit

/-- A mark of its own for each place. -/
def marks (m : Int) (k : Nat) : List (Int × Int) := (List.range k).map fun j : Nat => (m, (j : Int))
theorem marks_length (m : Int) (k : Nat) : (marks m k).length = k := by simp [marks]
theorem marks_succ (m : Int) (k : Nat) : marks m (k + 1) = marks m k ++ [(m, (k : Int))] := by simp [marks, List.range_succ]
theorem itv_set (l : List (Int × Int)) (k : Nat) (a b : Int) : ((itv cI l).set (k * 2) (.int .i64 a)).set (k * 2 + 1) (.int .i64 b) = itv cI (l.set k (a, b)) := by
  induction l generalizing k with
  | nil => simp [itv]
  | cons x xs ih =>
    have e : itv cI (x :: xs) = .int .i64 x.1 :: .int .i64 x.2 :: itv cI xs := rfl
    cases k with
    | zero => rw [e]; rfl
    | succ k =>
      rw [e, show (k + 1) * 2 = k * 2 + 1 + 1 by omega]
      simp only [List.set_cons_succ]
      rw [ih]
      rfl
theorem marks_set (m : Int) (k : Nat) (ls : List (Int × Int)) (h : k < ls.length) : (marks m k ++ ls.drop k).set k (m, (k : Int)) = marks m (k + 1) ++ ls.drop (k + 1) := by
  rw [List.set_append_right _ _ (by rw [marks_length]; exact Nat.le_refl _), marks_length, Nat.sub_self, List.drop_eq_getElem_cons h, List.set_cons_zero, marks_succ, List.append_assoc]
  rfl
theorem itv_cells (l : List (Int × Int)) : ∀ u ∈ itv cI l, u.oneCell' = true := by
  intro u hu
  unfold itv at hu
  obtain ⟨o, _, ho⟩ := List.mem_flatMap.1 hu
  simp only [cI, List.mem_cons, List.not_mem_nil, or_false] at ho
  rcases ho with rfl | rfl <;> rfl
theorem Row.item {w : World} {g n cap k : Nat} {l : List (Int × Int)} (h : Row w 38 2 (some ⟨g, 0, none⟩) n cap (itv cI l)) (hk : k < l.length) (a b : Int) :
    Row ((w.setCell ⟨g, k * 2, none⟩ (.int .i64 a)).setCell ⟨g, k * 2 + 1, none⟩ (.int .i64 b)) 38 2 (some ⟨g, 0, none⟩) n cap (itv cI (l.set k (a, b))) := by
  have hl := h.1
  rw [itv_length cI_len] at hl
  have h1 := (h.set_ (k := k * 2) (by omega) (.int .i64 a)).set_ (k := k * 2 + 1) (by omega) (.int .i64 b)
  rw [itv_set] at h1
  exact h1
theorem Try.info35 : (Try.prog.info? 35).map (fun i => (i.zero, i.size, i.bytes)) = some (some (.slice none 0 0), 1, 24) := by kernel_rfl

set_option maxHeartbeats 4000000 in
set_option maxRecDepth 100000 in
theorem marked_calls {w : World} {q g n : Nat} {Q C : List Nat} {ks : List (List (Int × Int))} {ls : List (Int × Int)} {m : Int} (h : KeptAt w q Q C ks) (hk : ks.length + 2 ≤ 67108864)
    (hb : Row w 38 2 (some ⟨g, 0, none⟩) n n (itv cI ls)) (hn : n ≤ 4096) (hgC : g ∉ C) (hgQ : g ∉ Q) :
    Calls Try.prog 21 #[.pointer (some ⟨q, 0, none⟩), .slice (some ⟨g, 0, none⟩) n n, .int .i64 m] w fun e w' => e = .returned (.tuple #[]) ∧ ∃ Q' C' ks', KeptAt w' q Q' C' ks' ∧ ks'.length = ks.length + 2 ∧ Chg (g :: Q) w w' ∧
      (∀ k ∈ Q', k ∈ Q ∨ w.heap.size ≤ k) ∧ ∀ k ∈ C', k ∈ C ∨ k = g ∨ w.heap.size ≤ k := by
  obtain ⟨LA, LC, WA, WC, lv, wv, rfl, hK⟩ := h
  obtain ⟨i0, hi, hz0, hz1, hz2⟩ := info_parts Try.info38
  obtain ⟨j0, hj, hy0, hy1, hy2⟩ := info_parts Try.info35
  have HK := Lib.hid hK
  have HGC := Lib.hid hgC
  have HGQ := Lib.hid hgQ
  have hglt := hb.lt g (by simp [ob])
  have hll : Hid (ls.length = n) := by have := hb.1; rw [itv_length cI_len] at this; unfold Hid; omega
  clear hK hgC hgQ
  go_enter Try.func21, Try.ntmps21
  go_wp2
  go_loopw [6, 7] (fun u i wr => ∃ (k : Nat) (U : Option Addr) (cu : Nat), k ≤ n ∧ i = .int .i64 k ∧ u = .slice U k cu ∧ Row wr 38 2 (some ⟨g, 0, none⟩) n n (itv cI (marks m k ++ ls.drop k)) ∧ Row wr 38 2 U k cu (itv cI (marks m k)) ∧
    (∀ i ∈ ob U, w.heap.size ≤ i) ∧ Chg [g] w wr) (fun _ i _ => n - (intOf i).toNat)
  case atStart => exact ⟨0, none, 0, Nat.zero_le _, rfl, rfl, by simpa [marks] using hb, by simpa [marks, itv] using Row.nil _ _ _, by simp [ob], Chg.refl _ _⟩
  case round =>
    clear hb
    obtain ⟨k, U, cu, hkn, rfl, rfl, hrow, hu, hU, hcw⟩ := hrel
    have hUg : Hid (∀ i ∈ ob U, i ≠ g) := fun i hi e => by have := hU i hi; omega
    by_cases hlt : k < n
    · have hkl : k < (marks m k ++ ls.drop k).length := by rw [List.length_append, marks_length, List.length_drop, hll.out]; omega
      obtain ⟨a0, c0⟩ : ∃ a0, wr.cell? ⟨g, k * 2, none⟩ = some (.int .i64 a0) := ⟨_, (item_cells hrow.reads hkl).1⟩
      obtain ⟨a1, c1⟩ : ∃ a1, wr.cell? ⟨g, k * 2 + 1, none⟩ = some (.int .i64 a1) := ⟨_, (item_cells hrow.reads hkl).2⟩
      obtain ⟨gg, cur, hA, hbk, h1, h2, h3⟩ := hrow.blk (by omega)
      obtain rfl : g = gg := by injection hA with hA; injection hA
      have f0 := hbk.frozen (k * 2)
      have f1 := (hbk.set_ (k * 2) (.int .i64 m)).frozen (k * 2 + 1)
      have f1' := hbk.frozen (k * 2 + 1)
      have hR3 := hrow.item hkl m k
      rw [marks_set m k ls (by rw [hll.out]; exact hlt)] at hR3
      have hst : Chg [g] wr ((wr.setCell ⟨g, k * 2, none⟩ (.int .i64 m)).setCell ⟨g, k * 2 + 1, none⟩ (.int .i64 k)) := ((Chg.refl _ _).setCell (.inl (by simp)) _).setCell (.inl (by simp)) _
      have hU3 := hu.keep hst (fun i hi hm => by simp at hm; exact hUg.out i hi hm)
      have hk3 : k < (marks m (k + 1) ++ ls.drop (k + 1)).length := by rw [List.length_append, marks_length, List.length_drop, hll.out]; omega
      have hc3 := item_cells hR3.reads hk3
      have hgk : (marks m (k + 1) ++ ls.drop (k + 1))[k] = (m, (k : Int)) := by
        rw [List.getElem_append_left (by rw [marks_length]; omega)]
        simp [marks]
      rw [hgk] at hc3
      obtain ⟨d0, d1⟩ := hc3
      have hUX := hU3.alloc (.cells #[.int .i64 m, .int .i64 k] 38)
      have hone := built_reads' ((wr.setCell ⟨g, k * 2, none⟩ (.int .i64 m)).setCell ⟨g, k * 2 + 1, none⟩ (.int .i64 k)) 38 [.int .i64 m, .int .i64 k] 1 2 rfl
      rw [show ((wr.setCell ⟨g, k * 2, none⟩ (.int .i64 m)).setCell ⟨g, k * 2 + 1, none⟩ (.int .i64 k)).heap.size = wr.heap.size by simp [World.setCell]] at hone
      have HR3 := Lib.hid hR3
      have HST := Lib.hid hst
      clear hbk h2 h3 hA hrow hkl hk3 hgk hR3 hst hU3 hu
      go_wp2_with (at_builtin; refine wpList_append_row _ rfl (.tmp 22) (.tmp 27) 35 rfl 38 i0 (.agg #[.int .i64 0, .int .i64 0]) 2 16 Try.underlying35 hi hz0 hz1 hz2 rfl U k cu _ rfl hUX _ 1 1 [.int .i64 m, .int .i64 k] rfl hone (by simp [Value.oneCell']) (by unfold maxLen; omega) (grow_ok (by omega)) ?_)
      intro U' cu' w4 hu4 hc4 hcase
      have hsz3 : w.heap.size ≤ ((wr.setCell ⟨g, k * 2, none⟩ (.int .i64 m)).setCell ⟨g, k * 2 + 1, none⟩ (.int .i64 k)).heap.size := Nat.le_trans hcw.size HST.out.size
      have hUX' := ((Chg.refl [] ((wr.setCell ⟨g, k * 2, none⟩ (.int .i64 m)).setCell ⟨g, k * 2 + 1, none⟩ (.int .i64 k))).alloc (.cells #[.int .i64 m, .int .i64 k] 38)).size
      have hU4 : ∀ i ∈ ob U', w.heap.size ≤ i := fun i hi => by
        rcases hcase.ob_ i hi with h | h
        · exact hU i h
        · omega
      have hR4 : Row w4 38 2 (some ⟨g, 0, none⟩) n n (itv cI (marks m (k + 1) ++ ls.drop (k + 1))) := (HR3.out.alloc _).keep hc4 (fun i hi hm => by simp [ob] at hi; subst hi; exact hUg.out _ hm rfl)
      have hu4' : Row w4 38 2 U' (k + 1) cu' (itv cI (marks m (k + 1))) := by rw [marks_succ, itv_append]; exact hu4
      have hcw4 : Chg [g] w w4 := ((hcw.trans HST.out (fun i hi => .inl hi)).alloc _).trans hc4 (fun i hi => .inr (hU i hi))
      clear hUX hone hu4 hc4 hcase hsz3 hUX' d0 d1 c0 c1
      go_wp2_with fail
      go_roundw
      case rel => exact ⟨k + 1, U', cu', by omega, by go_num, rfl, hR4, hu4', hU4, hcw4⟩
      case measure => simp [intOf]; omega
    · obtain rfl : k = n := by omega
      rw [show ls.drop k = [] from List.drop_eq_nil_of_le (by rw [hll.out]; exact Nat.le_refl _), List.append_nil] at hrow
      have hrX := hrow.alloc (.cells #[.int .i64 (wrap64 (-m)), .int .i64 1] 38)
      have hone := built_reads' wr 38 [.int .i64 (wrap64 (-m)), .int .i64 1] 1 2 rfl
      have hcX := (Chg.refl [] wr).alloc (.cells #[.int .i64 (wrap64 (-m)), .int .i64 1] 38)
      go_wp2_with (at_builtin; refine wpList_append_row2 _ rfl (.tmp 29) (.tmp 33) 35 rfl 38 i0 (.agg #[.int .i64 0, .int .i64 0]) 2 16 Try.underlying35 hi hz0 hz1 hz2 rfl _ k k _ rfl hrX _ 1 1 [.int .i64 (wrap64 (-m)), .int .i64 1] rfl hone (by simp [Value.oneCell']) (by unfold maxLen; omega) (grow_ok (by omega)) ?_)
      intro A8 c8_ w8 hr8 hc8 hcase8 hnew8
      have hmk : (marks m k).length = k := marks_length m k
      have hszX := hcX.size
      have hUw := Lib.hid hU
      have hszr := hcw.size
      have hgX : ∀ i ∈ ob (some (⟨g, 0, none⟩ : Addr)), i = g := fun i hi => by simpa [ob] using hi
      have hA8 : ∀ i ∈ ob A8, w.heap.size ≤ i := fun i hi => by
        have h := hcase8.new (by omega)
        rw [h] at hi
        simp [ob] at hi
        omega
      have c08 : Chg [g] w w8 := (hcw.next hcX).trans hnew8 (by simp)
      have hl8 : Row w8 38 2 (some ⟨g, 0, none⟩) k k (itv cI (marks m k)) := hrX.keep hnew8 (by simp)
      have hu8 : Row w8 38 2 U k cu (itv cI (marks m k)) := (hu.alloc _).keep hnew8 (by simp)
      have hg8 : Row w8 38 2 A8 (k + 1) c8_ (itv cI (marks m k ++ [(wrap64 (-m), 1)])) := by rw [itv_append]; exact hr8
      obtain ⟨G, hG⟩ : ∃ G, G = marks m k ++ [(wrap64 (-m), 1)] := ⟨_, rfl⟩
      rw [← hG] at hg8
      have HG := Lib.hid hG
      have K8 := HK.out.keep c08 (fun i hi hm => by simp only [List.mem_singleton] at hm; subst hm; exact HGQ.out hi) (fun i hi hm => by simp only [List.mem_singleton] at hm; subst hm; exact HGC.out hi)
      have hQlt : Hid (∀ i ∈ q :: (ob LA ++ ob WA), i < w.heap.size) := fun i hi => by
        rcases List.mem_cons.1 hi with rfl | hi
        · exact HK.out.1.lt
        · rcases List.mem_append.1 hi with hi | hi
          · exact HK.out.2.1.lt i hi
          · exact HK.out.2.2.1.lt i hi
      have K8w := K8.wide (D := g :: (ob A8 ++ C)) (fun b hb => by simp [hb]) (fun b hb hm => by
        rcases List.mem_cons.1 hb with rfl | hb
        · exact HGQ.out hm
        · rcases List.mem_append.1 hb with hb | hb
          · have := hA8 b hb; have := hQlt.out b hm; omega
          · exact HK.out.2.2.2.2.2.2.1 b hb hm) (fun b hb => by
        rcases List.mem_cons.1 hb with rfl | hb
        · exact hl8.lt b (by simp [ob])
        · rcases List.mem_append.1 hb with hb | hb
          · exact hg8.lt b hb
          · have := HK.out.2.2.2.2.2.2.2 b hb; have := c08.size; omega)
      have hcont : Contents w8 (g :: (ob A8 ++ C)) [.slice (some ⟨g, 0, none⟩) k k, .slice A8 (k + 1) c8_] [marks m k, G] :=
        (Contents.one hl8 (by omega) (fun b hb => by rw [hgX b hb]; simp)).app (Contents.one hg8 (by omega) (fun b hb => by simp [hb]))
      have KW := Lib.hid K8w
      have HCN := Lib.hid hcont
      have HU8 := Lib.hid hu8
      have HA8 := Lib.hid hA8
      have C08 := Lib.hid c08
      have hb8 := K8.1
      have hL8 := K8.2.1
      have hqL : Hid (q ∉ ob LA) := fun hm => hL8.ne_blk hb8 (by decide) q hm rfl
      have hLX := hL8.alloc (.cells #[.slice (some ⟨g, 0, none⟩) k k, .slice A8 (k + 1) c8_] 35)
      have hbX := hb8.alloc (.cells #[.slice (some ⟨g, 0, none⟩) k k, .slice A8 (k + 1) c8_] 35)
      have c8_0 := hb8.cell 0
      have cX := hbX.cell 0
      have honeX := built_reads w8 35 [.slice (some ⟨g, 0, none⟩) k k, .slice A8 (k + 1) c8_]
      have HCX := Lib.hid ((Chg.refl [] w8).alloc (.cells #[.slice (some ⟨g, 0, none⟩) k k, .slice A8 (k + 1) c8_] 35))
      clear hrX hone hcX hr8 hc8 hcase8 hnew8 hl8 hu8 hg8 K8 K8w hcont hA8 c08 hb8 hL8 hrow hu hU hcw hszX hszr hgX hG hUg
      have HXk := Lib.hid hmk
      clear hmk
      go_wp2_with (at_builtin; refine wpList_append_row2 _ rfl (.tmp 39) (.tmp 42) 42 rfl 35 j0 (.slice none 0 0) 1 24 Try.underlying42 hj hy0 hy1 hy2 rfl LA ks.length LC lv rfl hLX _ 2 2 [.slice (some ⟨g, 0, none⟩) k k, .slice A8 (k + 1) c8_] rfl honeX (by simp [Value.oneCell']) (by unfold maxLen; omega) (grow_quarter (by omega)) ?_)
      intro LA9 LC9 w9 hr9 hc9 hcase9 _
      have K9 := KW.out.pushL HCX.out (kk := [marks m k, G]) hr9 hc9 hcase9.ob_ HCN.out
      have hb9 := hc9.blk' hbX hqL.out
      have c90 := hb9.cell 0
      have f90 := hb9.frozen 0
      have hLA9 : Hid (∀ i ∈ ob LA9, i ∈ ob LA ∨ w.heap.size ≤ i) := fun i hi => by
        have h1 := C08.out.size
        have h2 := HCX.out.size
        rcases hcase9.ob_ i hi with h | h
        · exact .inl h
        · exact .inr (by omega)
      have hLl := Lib.hid hLX.lt
      have hcQ : Hid (Chg (g :: (q :: (ob LA ++ ob WA))) w (w9.setCell ⟨q, 0, none⟩ (.slice LA9 (ks.length + 2) LC9))) := by
        have e1 : Chg (g :: (q :: (ob LA ++ ob WA))) w w8 := C08.out.mono (fun i hi => .inl (by simp at hi; simp [hi]))
        have e2 := ((e1.next HCX.out).trans hc9 (fun i hi => .inl (by simp [hi])))
        exact e2.setCell (.inl (by simp)) _
      have hu9 : Hid (Row (w9.setCell ⟨q, 0, none⟩ (.slice LA9 (ks.length + 2) LC9)) 38 2 U k cu (itv cI (marks m k))) := by
        have hUq : ∀ i ∈ ob U, w.heap.size ≤ i := hUw.out
        have e1 := HU8.out.keep HCX.out (by simp)
        have e2 := e1.keep hc9 (fun i hi hm => by have h1 := hUq i hi; have h2 := hQlt.out i (by simp [hm]); omega)
        exact e2.keep (S := [q]) ((Chg.refl _ _).setCell (.inl (by simp)) _) (fun i hi hm => by simp at hm; subst hm; have h1 := hUq i hi; have h2 := hQlt.out i (by simp); omega)
      have HK9 := Lib.hid K9
      have hUlt8 := HU8.out.lt
      have hUq9 : Hid (∀ i ∈ ob U, i ∉ q :: (ob LA9 ++ ob WA)) := fun i hi hm => by
        have h1 := hUw.out i hi
        have h2 := hUlt8 i hi
        have h3 := HCX.out.size
        rcases List.mem_cons.1 hm with rfl | hm
        · have := hQlt.out i (by simp); omega
        · rcases List.mem_append.1 hm with hm | hm
          · rcases hcase9.ob_ i hm with h | h
            · have := hQlt.out i (by simp [h]); omega
            · omega
          · have := hQlt.out i (by simp [hm]); omega
      clear hUlt8
      clear hLX hbX honeX hr9 hc9 hcase9 K9 hb9 c8_0 cX
      have hU2 := hu9.out.lt
      go_wp2_with (at_make; refine wpList_make_row _ rfl (.const (.int .i64 0)) (.tmp 48) 35 rfl 38 i0 (.agg #[.int .i64 0, .int .i64 0]) 2 16 Try.underlying35 hi hz0 hz1 hz2 .i64 .i64 _ _ 0 (k + 1) rfl rfl rfl (by omega) (Nat.zero_le _) (by omega) (by unfold maxLen; omega) ?_)
      intro w11 hr11 hc11 hsz11
      have ez : (w9.setCell ⟨q, 0, none⟩ (.slice LA9 (ks.length + 2) LC9)).heap.size = w9.heap.size := by simp [World.setCell]
      try rw [ez] at hr11
      try rw [ez] at hsz11
      have EZ := Lib.hid ez
      clear ez
      generalize w9.setCell ⟨q, 0, none⟩ (.slice LA9 (ks.length + 2) LC9) = w10 at *
      have hu11 := hc11.row' hu9.out (by simp)
      have hone11 := itv_cells (marks m k)
      go_wp2_with (at_builtin; refine wpList_append_row _ rfl (.tmp 50) (.tmp 51) 35 rfl 38 i0 (.agg #[.int .i64 0, .int .i64 0]) 2 16 Try.underlying35 hi hz0 hz1 hz2 rfl _ 0 (k + 1) _ rfl hr11 U k cu (itv cI (marks m k)) rfl hu11.reads hone11 (by unfold maxLen; omega) (grow_ok (by omega)) ?_)
      intro A12 c12 w12 hr12 hc12 hcase12
      obtain ⟨rfl, rfl⟩ := hcase12.room (by omega)
      have ez := EZ.out
      have c1012 : Chg [] w10 w12 := hc11.trans hc12 (fun i hi => .inr (by simp [ob] at hi; omega))
      have hUlt := Lib.hid hU2
      have hr12' : Row w12 38 2 (some ⟨w9.heap.size, 0, none⟩) k (k + 1) (itv cI (marks m k)) := by
        have := hr12
        simpa using this
      have hu12 := hc12.row' hu11 (fun i hi hm => by have h1 := hUlt.out i hi; simp [ob] at hm; omega)
      have K12 := HK9.out.keep c1012 (by simp) (by simp)
      have hb12 := K12.1
      have hW12 := K12.2.2.1
      have hqW : Hid (q ∉ ob WA) := fun hm => hW12.ne_blk hb12 (by decide) q hm rfl
      have c121 := hb12.cell 1
      have hvX := hr12'.alloc (.cells #[.int .i64 (wrap64 (-m)), .int .i64 1] 38)
      have hone12 := built_reads' w12 38 [.int .i64 (wrap64 (-m)), .int .i64 1] 1 2 rfl
      have hbX := hb12.alloc (.cells #[.int .i64 (wrap64 (-m)), .int .i64 1] 38)
      have cX1 := hbX.cell 1
      have HB12 := Lib.hid hb12
      have HW12 := Lib.hid hW12
      have HK12 := Lib.hid K12
      have HU12 := Lib.hid hu12
      have HC1012 := Lib.hid c1012
      have hcX12 := Lib.hid ((Chg.refl [] w12).alloc (.cells #[.int .i64 (wrap64 (-m)), .int .i64 1] 38))
      have hz11lt : Hid (w9.heap.size < w12.heap.size) := Nat.lt_of_lt_of_le hsz11 hc12.size
      have hz1110 : Hid (w9.heap.size = w10.heap.size) := ez.symm
      have hw10 : Hid (w.heap.size ≤ w10.heap.size) := hcQ.out.size
      generalize w9.heap.size = z11 at *
      clear hr11 hc11 hu11 hone11 hr12 hc12 hcase12 c1012 hr12' hu12 K12 hb12 hW12 hU2 hsz11 ez
      have ewm : IntKind.i64.wrap (-m) = wrap64 (-m) := by unfold wrap64; rw [IntKind.wrap_i64]
      go_wp2_with fail
      go_region_law (first
        | (refine step_append_row _ rfl (.tmp 59) (.tmp 63) 35 rfl 38 i0 (.agg #[.int .i64 0, .int .i64 0]) 2 16 Try.underlying35 hi hz0 hz1 hz2 rfl (some ⟨z11, 0, none⟩) k (k + 1) (itv cI (marks m k)) rfl hvX _ 1 1 [.int .i64 (wrap64 (-m)), .int .i64 1] rfl hone12 (by simp [Value.oneCell']) (by unfold maxLen; omega) (grow_ok (by omega)) ?_
           intro A13 c13 w13 hr13 hc13 hcase13
           obtain ⟨rfl, rfl⟩ := hcase13.room (by omega)
           have hzq : Hid (z11 ≠ q) := fun e => by have h1 := hQlt.out q (by simp); have h2 := hw10.out; have h3 := hz1110.out; omega
           have hb13 := hc13.blk' hbX (fun hm => by simp [ob] at hm; exact hzq.out hm.symm)
           have c131 := hb13.cell 1
           have HR13 := Lib.hid hr13
           have hzW : Hid (∀ i ∈ ob WA, i ∉ ob (some (⟨z11, 0, none⟩ : Addr))) := fun i hi hm => by
             have h1 := hQlt.out i (by simp [hi])
             have h2 := hw10.out
             have h3 := hz1110.out
             simp [ob] at hm
             omega
           have hW13 := hc13.row' (HW12.out.alloc (.cells #[.int .i64 (wrap64 (-m)), .int .i64 1] 38)) hzW.out
           have hWY := hW13.alloc (.cells #[.slice U k cu, .slice (some ⟨z11, 0, none⟩) (k + 1) (k + 1)] 35)
           have hbY := hb13.alloc (.cells #[.slice U k cu, .slice (some ⟨z11, 0, none⟩) (k + 1) (k + 1)] 35)
           have cY1 := hbY.cell 1
           have honeY := built_reads w13 35 [.slice U k cu, .slice (some ⟨z11, 0, none⟩) (k + 1) (k + 1)])
        | (refine step_append_row _ rfl (.tmp 57) (.tmp 65) 42 rfl 35 j0 (.slice none 0 0) 1 24 Try.underlying42 hj hy0 hy1 hy2 rfl WA ks.length WC wv rfl hWY _ 2 2 [.slice U k cu, .slice (some ⟨z11, 0, none⟩) (k + 1) (k + 1)] rfl honeY (by simp [Value.oneCell']) (by unfold maxLen; omega) (grow_quarter (by omega)) ?_
           intro WA14 WC14 w14 hr14 hc14 hcase14
           have hb14 := hc14.blk' hbY hqW.out
           have c141 := hb14.cell 1
           have f141 := hb14.frozen 1))
      all_goals
        have e1213 : Chg [] w12 (w12.alloc (.cells #[.int .i64 (wrap64 (-m)), .int .i64 1] 38)) := hcX12.out
        have hz10 : Hid (w10.heap.size ≤ z11) := Nat.le_of_eq hz1110.out.symm
        have c1013 : Hid (Chg [] w10 w13) := by
          have h1 : ∀ i ∈ ob (some (⟨z11, 0, none⟩ : Addr)), i ∈ ([] : List Nat) ∨ w10.heap.size ≤ i := fun i hi => by simp [ob] at hi; subst hi; exact .inr hz10.out
          first
            | exact (HC1012.out.alloc _).trans hc13 h1
            | exact (HC1012.out.drew.alloc _).trans hc13 h1
            | exact ((HC1012.out.drewN _).alloc _).trans hc13 h1
            | exact (HC1012.out.alloc _).drew.trans hc13 h1
        have hu13 : Row w13 38 2 U k cu (itv cI (marks m k)) := by
          have h1 : ∀ i ∈ ob U, i ∉ ob (some (⟨z11, 0, none⟩ : Addr)) := fun i hi hm => by
            have h2 := hUlt.out i hi
            have h3 := hz1110.out
            simp [ob] at hm
            omega
          refine Row.keep ?_ hc13 h1
          first
            | exact HU12.out.alloc _
            | exact Row.alloc (HU12.out.drewN 1) _
        have hv13 : Row w13 38 2 (some ⟨z11, 0, none⟩) (k + 1) (k + 1) (itv cI G) := by
          rw [HG.out, itv_append]
          exact HR13.out
        have K13 := HK9.out.keep c1013.out (by simp) (by simp)
        have hwsz : w.heap.size ≤ w10.heap.size := hw10.out
        have hQ9 : ∀ i ∈ q :: (ob LA9 ++ ob WA), i < w10.heap.size := fun i hi => by
          rcases List.mem_cons.1 hi with rfl | hi
          · exact HK9.out.1.lt
          · rcases List.mem_append.1 hi with hi | hi
            · exact HK9.out.2.1.lt i hi
            · exact HK9.out.2.2.1.lt i hi
        have hUQ : ∀ i ∈ ob U, i ∉ q :: (ob LA9 ++ ob WA) := hUq9.out
        have K13w := K13.wide (D := z11 :: (ob U ++ (g :: (ob A8 ++ C)))) (fun b hb => by
          simp only [List.mem_cons, List.mem_append] at hb ⊢
          exact .inr (.inr hb)) (fun b hb hm => by
          rcases List.mem_cons.1 hb with rfl | hb
          · have := hQ9 _ hm; have := hz1110.out; omega
          · rcases List.mem_append.1 hb with hb | hb
            · exact hUQ b hb hm
            · exact HK9.out.2.2.2.2.2.2.1 b hb hm) (fun b hb => by
          have h1 := c1013.out.size
          rcases List.mem_cons.1 hb with rfl | hb
          · exact hv13.lt _ (by simp [ob])
          · rcases List.mem_append.1 hb with hb | hb
            · exact hu13.lt b hb
            · have := HK9.out.2.2.2.2.2.2.2 b hb; omega)
        have hcont : Contents w13 (z11 :: (ob U ++ (g :: (ob A8 ++ C)))) [.slice U k cu, .slice (some ⟨z11, 0, none⟩) (k + 1) (k + 1)] [marks m k, G] :=
          (Contents.one hu13 (by omega) (fun b hb => by simp [hb])).app (Contents.one hv13 (by omega) (fun b hb => by simp [ob] at hb; subst hb; simp))
        have K14 := K13w.pushW ((Chg.refl [] w13).alloc (.cells #[.slice U k cu, .slice (some ⟨z11, 0, none⟩) (k + 1) (k + 1)] 35)) (kk := [marks m k, G]) hr14 hc14 hcase14.ob_ hcont
        have hsz13 := ((Chg.refl [] w13).alloc (.cells #[.slice U k cu, .slice (some ⟨z11, 0, none⟩) (k + 1) (k + 1)] 35)).size
        have hend : ∃ Q' C' ks', KeptAt (w14.setCell ⟨q, 1, none⟩ (.slice WA14 (ks.length + 2) WC14)) q Q' C' ks' ∧ ks'.length = ks.length + 2 ∧ Chg (g :: (q :: (ob LA ++ ob WA))) w (w14.setCell ⟨q, 1, none⟩ (.slice WA14 (ks.length + 2) WC14)) ∧
            (∀ k ∈ Q', k ∈ q :: (ob LA ++ ob WA) ∨ w.heap.size ≤ k) ∧ ∀ k ∈ C', k ∈ C ∨ k = g ∨ w.heap.size ≤ k := by
          refine ⟨_, _, ks ++ [marks m k, G], ⟨LA9, LC9, WA14, WC14, _, _, rfl, by simpa using K14⟩, by simp, ?_, ?_, ?_⟩
          · refine Chg.setCell ?_ (.inl (by simp)) _
            refine Chg.trans ((hcQ.out.next c1013.out).alloc _) hc14 (fun i hi => .inl (by simp [hi]))
          · intro i hi
            have h1 := c1013.out.size
            rcases List.mem_cons.1 hi with rfl | hi
            · exact .inl (by simp)
            · rcases List.mem_append.1 hi with hi | hi
              · rcases hLA9.out i hi with h | h
                · exact .inl (by simp [h])
                · exact .inr h
              · rcases hcase14.ob_ i hi with h | h
                · exact .inl (by simp [h])
                · exact .inr (by omega)
          · intro i hi
            rcases List.mem_cons.1 hi with rfl | hi
            · exact .inr (.inr (by have := hz1110.out; omega))
            · rcases List.mem_append.1 hi with hi | hi
              · exact .inr (.inr (hUw.out i hi))
              · rcases List.mem_cons.1 hi with rfl | hi
                · exact .inr (.inl rfl)
                · rcases List.mem_append.1 hi with hi | hi
                  · exact .inr (.inr (HA8.out i hi))
                  · exact .inl hi
        have HEND := Lib.hid hend
        clear hend K14 hcont K13w K13 hu13 hv13 hr14 hc14 hcase14
        go_wp2_with fail
        go_end0
        exact ⟨rfl, HEND.out⟩
end Go.Proofs.Ytphbhmppjafhkaa
