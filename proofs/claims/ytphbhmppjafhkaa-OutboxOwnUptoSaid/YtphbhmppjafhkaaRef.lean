/-
  PROVED: the contracts of the document's outbox (package jotterref08), and of sameItems.
-/
import Derived.Test.YtphbhmppjafhkaaPut
namespace Go.Proofs.Ytphbhmppjafhkaa
open Go.RowKit

theorem Try.info99 : (Try.prog.info? 99).map (fun i => (i.zero, i.size, i.bytes)) = some (some (.agg #[.int .i64 0, .int .i64 0]), 2, 16) := by kernel_rfl

/-- The document's outbox: its block p, and the row of all that was pushed. -/
def RBox (w : World) (p : Nat) (S : List Nat) (win : Nat) (t : St) : Prop :=
  ∃ A cap put, S = p :: ob A ∧ Blk w p 94 #[.int .i64 win, .slice A put.length cap, .int .i64 t.a, .int .i64 t.s] ∧ Row w 3 1 A put.length cap (ev cI put) ∧ Put t put ∧ t.Ok ∧ 1 ≤ win ∧ win ≤ 4096

theorem RBox.keep {w w' : World} {p win : Nat} {S T : List Nat} {t : St} (h : RBox w p S win t) (hc : Chg T w w') (hS : ∀ k ∈ S, k ∉ T) : RBox w' p S win t := by
  obtain ⟨A, cap, put, rfl, hb, hr, r⟩ := h
  exact ⟨A, cap, put, rfl, hb.keep hc (hS p (by simp)), hr.keep hc (fun i hi => hS i (by simp [hi])), r⟩
theorem RBox.drewN {w : World} {p win : Nat} {S : List Nat} {t : St} (h : RBox w p S win t) (n : Nat) : RBox (w.drewN n) p S win t := h.keep (T := []) ((Chg.refl _ _).drewN n) (by simp)
theorem RBox.lt {w : World} {p win : Nat} {S : List Nat} {t : St} (h : RBox w p S win t) : ∀ k ∈ S, k < w.heap.size := by
  obtain ⟨A, cap, put, rfl, hb, hr, _⟩ := h
  intro k hk
  rcases List.mem_cons.1 hk with rfl | hk
  · exact hb.lt
  · exact hr.lt k hk
theorem RBox.ok {w : World} {p win : Nat} {S : List Nat} {t : St} (h : RBox w p S win t) : t.Ok := by
  obtain ⟨A, cap, put, rfl, hb, hr, _, h, _⟩ := h
  exact h

def RLeft (w : World) (p : Nat) (S : List Nat) (win : Nat) (t : St) (w' : World) : Prop :=
  ∃ S', RBox w' p S' win t ∧ Chg S w w' ∧ ∀ k ∈ S', k ∈ S ∨ w.heap.size ≤ k
theorem RLeft.same {w w' : World} {p win : Nat} {S : List Nat} {t : St} (h : RBox w p S win t) (hc : Chg [] w w') : RLeft w p S win t w' :=
  ⟨S, h.keep hc (by simp), hc.mono (by simp), fun k hk => .inl hk⟩

theorem rnew_no (w : World) (n : Int) (h : n < 1 ∨ 4096 < n) : Calls Try.prog 27 #[.int .i64 n] w fun e w' => e = .returned (.tuple #[.pointer none, .int .i64 80]) ∧ w = w' := by
  by_cases h0 : n < 1
  · go_enter Try.func27, Try.ntmps27
    go_wp2
    go_ret2
    exact ⟨rfl, rfl⟩
  · have h1 : 4096 < n := by omega
    clear h
    go_enter Try.func27, Try.ntmps27
    go_wp2
    go_ret2
    exact ⟨rfl, rfl⟩
theorem rnew_ok (w : World) (n : Nat) (h1 : 1 ≤ n) (h2 : n ≤ 4096) :
    Calls Try.prog 27 #[.int .i64 n] w fun e w' => ∃ p S, e = .returned (.tuple #[.pointer (some ⟨p, 0, none⟩), .int .i64 0]) ∧ RBox w' p S n St.new ∧ Chg [] w w' ∧ ∀ k ∈ S, w.heap.size ≤ k := by
  have h3 : ¬ (n : Int) < 1 := by omega
  have h4 : ¬ (4096 : Int) < n := by omega
  go_enter Try.func27, Try.ntmps27
  go_wp2
  go_ret2
  refine ⟨w.heap.size, rfl, [w.heap.size], ⟨none, 0, [], rfl, Blk.new _ _ _, Row.nil _ _ _, ⟨rfl, fun i h => by simp [St.new] at h⟩, St.new_ok, h1, h2⟩, (Chg.refl _ _).alloc _, by simp⟩

theorem racked_calls {w : World} {p win : Nat} {S : List Nat} {t : St} (h : RBox w p S win t) : Calls Try.prog 41 #[.pointer (some ⟨p, 0, none⟩)] w fun e w' => e = .returned (.int .i64 t.a) ∧ w = w' := by
  obtain ⟨A, cap, put, rfl, hb, hr, hp, hok, hw⟩ := h
  have c1 := hb.cell 2
  go_enter Try.func41, Try.ntmps41
  go_wp2
  go_ret
  exact ⟨rfl, rfl⟩
theorem rsent_calls {w : World} {p win : Nat} {S : List Nat} {t : St} (h : RBox w p S win t) : Calls Try.prog 43 #[.pointer (some ⟨p, 0, none⟩)] w fun e w' => e = .returned (.int .i64 t.s) ∧ w = w' := by
  obtain ⟨A, cap, put, rfl, hb, hr, hp, hok, hw⟩ := h
  have c1 := hb.cell 3
  go_enter Try.func43, Try.ntmps43
  go_wp2
  go_ret
  exact ⟨rfl, rfl⟩
theorem rlast_calls {w : World} {p win : Nat} {S : List Nat} {t : St} (h : RBox w p S win t) : Calls Try.prog 45 #[.pointer (some ⟨p, 0, none⟩)] w fun e w' => e = .returned (.int .i64 t.last) ∧ w = w' := by
  obtain ⟨A, cap, put, rfl, hb, hr, hp, hok, hw⟩ := h
  have c1 := hb.cell 1
  have hl : Hid (t.last = put.length) := by unfold Hid St.last; exact hp.1.symm
  clear hp
  go_enter Try.func45, Try.ntmps45
  go_wp2
  go_ret
  rw [hl.out]
  exact ⟨rfl, rfl⟩
theorem rreset_calls {w : World} {p win : Nat} {S : List Nat} {t : St} (h : RBox w p S win t) : Calls Try.prog 37 #[.pointer (some ⟨p, 0, none⟩)] w fun e w' => e = .returned (.tuple #[]) ∧ RLeft w p S win St.new w' := by
  obtain ⟨A, cap, put, rfl, hb, hr, hp, hok, hw⟩ := h
  have f1 := hb.frozen 1
  have f2 := hb.frozen 2
  have f3 := hb.frozen 3
  have c1 := hb.cell 1
  have c2 := hb.cell 2
  have c3 := hb.cell 3
  go_enter Try.func37, Try.ntmps37
  go_wp2
  go_end0
  refine ⟨rfl, [p], ⟨none, 0, [], rfl, ?_, Row.nil _ _ _, ⟨rfl, fun i h => by simp [St.new] at h⟩, St.new_ok, hw⟩, (((Chg.refl _ w).setCell (.inl (by simp)) _).setCell (.inl (by simp)) _).setCell (.inl (by simp)) _, by simp⟩
  have := ((hb.set_ 1 (.slice none 0 0)).set_ 2 (.int .i64 0)).set_ 3 (.int .i64 0)
  simpa [St.new] using this

set_option maxRecDepth 100000 in
set_option maxHeartbeats 1000000 in
theorem rpush_calls {w : World} {p win : Nat} {S : List Nat} {t : St} (h : RBox w p S win t) (x : Int) :
    Calls Try.prog 30 #[.pointer (some ⟨p, 0, none⟩), .int .i64 x] w fun e w' => e = .returned (.tuple #[.int .i64 (t.push x).1, .int .i64 (t.push x).2.1]) ∧ RLeft w p S win (t.push x).2.2 w' := by
  have H := Lib.hid h
  have hok := Lib.hid h.ok
  obtain ⟨A, cap, put, rfl, hb, hr, hp, _, hw⟩ := h
  have hl : Hid (t.last = put.length) := by unfold Hid St.last; exact hp.1.symm
  have HP := Lib.hid hp
  have c1 := hb.cell 1
  clear hp
  by_cases hf : put.length = 4096
  · have E : Hid (t.push x = (0, 81, t)) := by unfold Hid St.push; rw [if_pos (by rw [hl.out]; exact hf)]
    have hf' : (4096 : Int) ≤ put.length := by omega
    clear hf
    go_enter Try.func30, Try.ntmps30
    go_wp2_with fail
    go_ret2
    rw [E.out]
    exact ⟨rfl, RLeft.same H.out (Chg.refl _ _)⟩
  · have E : Hid (t.push x = ((put.length : Int) + 1, 0, ⟨t.a, t.s, t.xs ++ [x]⟩)) := by unfold Hid St.push; rw [hl.out, if_neg hf]
    have hn : put.length < 4096 := by have := hok.out.2.2; have h1 := hl.out; unfold St.last at h1; omega
    have hf' : ¬ (4096 : Int) ≤ put.length := by omega
    clear hf
    obtain ⟨i0, hi, hz0, hz1, hz2⟩ := info_parts Try.info3
    have hrX := hr.alloc (.cells #[.int .i64 x] 3)
    have honeX := built_reads w 3 [.int .i64 x]
    have hbX := hb.alloc (.cells #[.int .i64 x] 3)
    go_enter Try.func30, Try.ntmps30
    go_wp2_with (at_builtin; refine wpList_append_row _ rfl (.tmp 16) (.tmp 18) 22 rfl 3 i0 (.int .i64 0) 1 8 Try.underlying22 hi hz0 hz1 hz2 rfl A put.length cap (ev cI put) rfl hrX _ 1 1 [.int .i64 x] rfl honeX (by simp [Value.oneCell']) (by unfold maxLen; omega) (grow_ok (by omega)) ?_)
    intro A' cap' w2 hr2 hc2 hcase
    have hb2 := hc2.blk' hbX (fun hm => hr.ne_blk hb (by decide) _ hm rfl)
    have c21 := hb2.cell 1
    have f21 := hb2.frozen 1
    have hp : p ∉ ob A' := fun hm => hr2.ne_blk hb2 (by decide) _ hm rfl
    have HB2 := Lib.hid hb2
    have HR2 := Lib.hid hr2
    have HC2 := Lib.hid hc2
    have HCA := Lib.hid hcase
    clear hr2 hc2 hcase hb2 hrX honeX hbX
    have c31 : (w2.setCell ⟨p, 1, none⟩ (.slice A' (put.length + 1) cap')).cell? ⟨p, 1, none⟩ = some (.slice A' (put.length + 1) cap') := by
      have := (HB2.out.set_ 1 (.slice A' (put.length + 1) cap')).cell 1
      simpa using this
    go_wp2_with fail
    go_ret2
    rw [E.out]
    refine ⟨by simp, p :: ob A', ⟨A', cap', put ++ [x], rfl, ?_, ?_, HP.out.push x, ?_, hw⟩, ?_, ?_⟩
    · have := HB2.out.set_ 1 (.slice A' (put.length + 1) cap')
      simpa using this
    · have := HR2.out.keep (S := [p]) ((Chg.refl _ _).setCell (p := ⟨p, 1, none⟩) (.inl (by simp)) (.slice A' (put.length + 1) cap')) (fun i hi hm => by simp at hm; subst hm; exact hp hi)
      rw [show ev cI put ++ [.int .i64 x] = ev cI (put ++ [x]) by rw [ev_append]; rfl] at this
      simpa using this
    · obtain ⟨h1, h2, h3⟩ := hok.out
      have h4 := hl.out
      unfold St.last at h4
      exact ⟨h1, by simp; omega, by simp; omega⟩
    · exact ((((Chg.refl (p :: ob A) w).alloc _).trans (HC2.out.mono (T := p :: ob A) (fun i hi => .inl (by simp [hi]))) (fun i hi => .inl hi)).setCell (.inl (by simp)) _)
    · intro k hk
      rcases List.mem_cons.1 hk with rfl | hk
      · exact .inl (by simp)
      · rcases HCA.out.ob_ k hk with h | h
        · exact .inl (by simp [h])
        · exact .inr (by have := ((Chg.refl [] w).alloc (.cells #[.int .i64 x] 3)).size; omega)

set_option maxRecDepth 100000 in
theorem rack_calls {w : World} {p win : Nat} {S : List Nat} {t : St} (h : RBox w p S win t) (n : Int) :
    Calls Try.prog 32 #[.pointer (some ⟨p, 0, none⟩), .int .i64 n] w fun e w' => e = .returned (.int .i64 (t.ack n).1) ∧ RLeft w p S win (t.ack n).2 w' := by
  have H := Lib.hid h
  have hok := Lib.hid h.ok
  obtain ⟨A, cap, put, rfl, hb, hr, hp, _, hw⟩ := h
  have c2 := hb.cell 2
  have c3 := hb.cell 3
  have f2 := hb.frozen 2
  have HP := Lib.hid hp
  have HB := Lib.hid hb
  have HR := Lib.hid hr
  clear hp hb hr
  by_cases h0 : n < 0
  · have E : Hid (t.ack n = (82, t)) := by unfold Hid St.ack; rw [if_pos (.inl h0)]
    go_enter Try.func32, Try.ntmps32
    go_wp2
    go_ret
    rw [E.out]
    exact ⟨rfl, RLeft.same H.out (Chg.refl _ _)⟩
  by_cases h1 : (t.s : Int) < n
  · have E : Hid (t.ack n = (82, t)) := by unfold Hid St.ack; rw [if_pos (.inr h1)]
    go_enter Try.func32, Try.ntmps32
    go_wp2
    go_ret
    rw [E.out]
    exact ⟨rfl, RLeft.same H.out (Chg.refl _ _)⟩
  by_cases h2 : (t.a : Int) < n
  · obtain ⟨m, rfl⟩ := Int.eq_ofNat_of_zero_le (show 0 ≤ n by omega)
    have E : Hid (t.ack m = (0, ⟨m, t.s, t.xs.drop (m - t.a)⟩)) := by unfold Hid St.ack; rw [if_neg (by omega), if_neg (by omega), Int.toNat_natCast]
    go_enter Try.func32, Try.ntmps32
    go_wp2
    go_ret
    rw [E.out]
    have hmt : m = t.a + (m - t.a) := by omega
    have hd := HP.out.drop (m := m - t.a) (s := t.s) (by have := hok.out.2.1; omega)
    rw [← hmt] at hd
    refine ⟨rfl, p :: ob A, ⟨A, cap, put, rfl, ?_, HR.out.keep (S := [p]) ((Chg.refl _ _).setCell (.inl (by simp)) _) (fun i hi hm => ?_), hd, ?_, hw⟩, (Chg.refl _ _).setCell (.inl (by simp)) _, fun k hk => .inl hk⟩
    · have := HB.out.set_ 2 (.int .i64 m)
      simpa using this
    · simp at hm; subst hm; exact HR.out.ne_blk HB.out (by decide) _ hi rfl
    · obtain ⟨o1, o2, o3⟩ := hok.out
      exact ⟨show m ≤ t.s by omega, show t.s ≤ m + (t.xs.drop (m - t.a)).length by simp; omega, show m + (t.xs.drop (m - t.a)).length ≤ 4096 by simp; omega⟩
  · have E : Hid (t.ack n = (0, t)) := by unfold Hid St.ack; rw [if_neg (by omega), if_pos (by omega)]
    go_enter Try.func32, Try.ntmps32
    go_wp2
    go_ret
    rw [E.out]
    exact ⟨rfl, RLeft.same H.out (Chg.refl _ _)⟩

set_option maxRecDepth 100000 in
set_option maxHeartbeats 1000000 in
theorem rspan_calls {w : World} {p win m : Nat} {S : List Nat} {t : St} (h : RBox w p S win t) (hm : m ≤ t.xs.length) (hi' : Int) (hhi : hi' = (t.a : Int) + m) :
    Calls Try.prog 55 #[.pointer (some ⟨p, 0, none⟩), .int .i64 ((t.a : Int) + 1), .int .i64 hi'] w fun e w' => ∃ Z cz, e = .returned (.slice Z m cz) ∧ Row w' 99 2 Z m cz (itv cI (items (t.a + 1) (t.xs.take m))) ∧ Chg [] w w' ∧ ∀ i ∈ ob Z, w.heap.size ≤ i := by
  subst hhi
  obtain ⟨i0, hi, hz0, hz1, hz2⟩ := info_parts Try.info99
  obtain ⟨A, cap, put, rfl, hb, hr, hp, hok, hw⟩ := h
  have HB := Lib.hid hb
  have HR := Lib.hid hr
  have HP := Lib.hid hp
  have h4 : t.a + t.xs.length ≤ 4096 := hok.2.2
  have hpl : Hid (put.length = t.a + t.xs.length) := hp.1
  clear hb hr hp hok
  go_enter Try.func55, Try.ntmps55
  go_wp2_with fail
  go_loopw [7, 8] (fun l i wr => ∃ (k : Nat) (Z : Option Addr) (cz : Nat), k ≤ m ∧ i = .int .i64 ((t.a : Int) + 1 + k) ∧ l = .slice Z k cz ∧ Row wr 99 2 Z k cz (itv cI (items (t.a + 1) (t.xs.take k))) ∧ (∀ i ∈ ob Z, w.heap.size ≤ i) ∧ Chg [] w wr) (fun _ i _ => t.a + 1 + m - (intOf i).toNat)
  case atStart => exact ⟨0, none, 0, Nat.zero_le _, by simp, rfl, Row.nil _ _ _, by simp [ob], Chg.refl _ _⟩
  case round =>
    obtain ⟨k, Z, cz, hk, rfl, rfl, hrw, hZ, hcw⟩ := hrel
    by_cases hlt : k < m
    · have hkx : k < t.xs.length := by omega
      have hle : (t.a : Int) + 1 + k ≤ (t.a : Int) + m := by omega
      have hx := HP.out.2 k hkx
      obtain ⟨hp1, hp2⟩ := List.getElem?_eq_some_iff.1 hx
      obtain ⟨ad, u, rfl, hu, hcell⟩ := (HR.out.keep hcw (by simp)).reads.at_ (k := t.a + k) hp1
      rw [ev_cI_get hp1, hp2] at hu
      obtain rfl : Value.int .i64 t.xs[k] = u := by injection hu
      have hbw := hcw.blk' HB.out (by simp)
      have c1 := hbw.cell 1
      have e1 : IntKind.i64.wrap ((t.a : Int) + 1 + k - 1) = (t.a : Int) + k := by rw [IntWalk.i64_in _ (by omega)]; omega
      have e2 : ((t.a : Int) + k).toNat = t.a + k := by omega
      have e3 : (0 : Int) ≤ (t.a : Int) + k := by omega
      have e4 : t.a + k < put.length := hp1
      have e5 : IntKind.i64.wrap ((t.a : Int) + 1 + k + 1) = (t.a : Int) + 1 + k + 1 := IntWalk.i64_in _ (by omega)
      have hrX := hrw.alloc (.cells #[.int .i64 ((t.a : Int) + 1 + k), .int .i64 t.xs[k]] 99)
      have hone := built_reads' wr 99 [.int .i64 ((t.a : Int) + 1 + k), .int .i64 t.xs[k]] 1 2 rfl
      clear hbw hu hx hp1 hp2
      go_wp2_with (at_builtin; refine wpList_append_row _ rfl (.tmp 15) (.tmp 26) 70 rfl 99 i0 (.agg #[.int .i64 0, .int .i64 0]) 2 16 Try.underlying70 hi hz0 hz1 hz2 rfl _ k cz _ rfl hrX _ 1 1 [.int .i64 ((t.a : Int) + 1 + k), .int .i64 t.xs[k]] rfl hone (by simp [Value.oneCell']) (by unfold maxLen; omega) (grow_ok (by omega)) ?_)
      intro A' cap' w2 hr2 hc2 hcase
      have HCA := Lib.hid hcase
      clear hcase hrX hone
      go_wp2_with fail
      go_roundw
      case rel =>
        refine ⟨k + 1, A', cap', by omega, ?_, rfl, ?_, ?_, ?_⟩
        · congr 1
        · rw [items_snoc (t.a + 1) k t.xs hkx, itv_append, itv_one]
          have e : (((t.a + 1 + k : Nat) : Int)) = (t.a : Int) + 1 + k := by omega
          rw [e]
          exact hr2
        · intro i hi
          rcases HCA.out.ob_ i hi with h | h
          · exact hZ i h
          · have h1 := (hcw.alloc (.cells #[.int .i64 ((t.a : Int) + 1 + k), .int .i64 t.xs[k]] 99)).size
            omega
        · exact ((hcw.alloc _).trans hc2 (fun i hi => .inr (hZ i hi)))
      case measure => simp [intOf]; omega
    · obtain rfl : k = m := by omega
      have hle : ¬ (t.a : Int) + 1 + k ≤ (t.a : Int) + k := by omega
      go_wp2
      go_ret
      exact ⟨Z, cz, rfl, hrw, hcw, hZ⟩

theorem rleft_calls {w : World} {p win : Nat} {S : List Nat} {t : St} (h : RBox w p S win t) :
    Calls Try.prog 39 #[.pointer (some ⟨p, 0, none⟩)] w fun e w' => ∃ Z cz, e = .returned (.slice Z t.xs.length cz) ∧ Row w' 99 2 Z t.xs.length cz (itv cI (items (t.a + 1) t.xs)) ∧ Chg [] w w' ∧ ∀ i ∈ ob Z, w.heap.size ≤ i := by
  have H := Lib.hid h
  obtain ⟨A, cap, put, rfl, hb, hr, hp, hok, hw⟩ := h
  have c1 := hb.cell 1
  have c2 := hb.cell 2
  have hpl : Hid (put.length = t.a + t.xs.length) := hp.1
  have e1 : IntKind.i64.wrap ((t.a : Int) + 1) = (t.a : Int) + 1 := by have := hok.2.2; rw [IntWalk.i64_in _ (by omega)]
  clear hp hok
  go_enter Try.func39, Try.ntmps39
  go_wp2_with fail
  go_region_law (go_simp; go_at_call 55; refine Calls.mono (rspan_calls (t := t) (p := p) (S := p :: ob A) (win := win) ?_ (Nat.le_refl _) (put.length : Int) (by have := hpl.out; omega)) ?_; · exact H.out
                 rintro e w1 ⟨Z, cz, rfl, hr1, hc1, hz1⟩)
  all_goals
    go_wp2_with fail
    go_ret
    rw [List.take_length] at hr1
    refine ⟨Z, cz, rfl, hr1, ?_, hz1⟩
    first
      | exact (Chg.refl [] w).drew.next hc1
      | exact ((Chg.refl [] w).drewN _).next hc1

set_option maxRecDepth 100000 in
set_option maxHeartbeats 1000000 in
theorem rdue_calls {w : World} {p win : Nat} {S : List Nat} {t : St} (h : RBox w p S win t) :
    Calls Try.prog 35 #[.pointer (some ⟨p, 0, none⟩)] w fun e w' => ∃ Z cz, e = .returned (.slice Z (min win t.xs.length) cz) ∧ Row w' 99 2 Z (min win t.xs.length) cz (itv cI (items (t.a + 1) (t.xs.take (min win t.xs.length)))) ∧ RLeft w p S win (t.due win) w' ∧ ∀ i ∈ ob Z, w.heap.size ≤ i := by
  obtain ⟨A, cap, put, rfl, hb, hr, hP, ⟨o1, o2, o3⟩, hw⟩ := h
  obtain ⟨a, s, xs⟩ := t
  simp only at *
  have HB := Lib.hid hb
  have HR := Lib.hid hr
  have c0 := hb.cell 0
  have c1 := hb.cell 1
  have c2 := hb.cell 2
  have c3 := hb.cell 3
  have f3 := hb.frozen 3
  have hpl : put.length = a + xs.length := hP.1
  have ew : IntKind.i64.wrap ((a : Int) + win) = (a : Int) + win := IntWalk.i64_in _ (by omega)
  have ea : IntKind.i64.wrap ((a : Int) + 1) = (a : Int) + 1 := IntWalk.i64_in _ (by omega)
  clear hb hr
  have HPL := Lib.hid hpl
  clear hpl
  by_cases hm : xs.length < win
  · have hg : (put.length : Int) < (a : Int) + win := by have := HPL.out; omega
    by_cases hM : s < put.length
    · have hM' : (s : Int) < (put.length : Int) := by omega
      have hML : s < a + xs.length := by have := HPL.out; omega
      have em : Hid (min win xs.length = xs.length) := by unfold Hid; omega
      have eD : Hid (St.due ⟨a, s, xs⟩ win = ⟨a, a + xs.length, xs⟩) := by
        rw [Hid, St.due, em.out]
        simp only [St.mk.injEq, true_and, and_true]
        omega
      have hbox : ∀ W : World, Blk W p 94 #[.int .i64 win, .slice A put.length cap, .int .i64 a, .int .i64 ((a + xs.length : Nat) : Int)] → Row W 3 1 A put.length cap (ev cI put) → RBox W p (p :: ob A) win ⟨a, a + xs.length, xs⟩ := by
        intro W hbW hrW
        exact ⟨A, cap, put, rfl, hbW, hrW, hP, ⟨show a ≤ a + xs.length by omega, show a + xs.length ≤ a + xs.length by omega, o3⟩, hw⟩
      have HX := Lib.hid hbox
      clear hbox
      go_enter Try.func35, Try.ntmps35
      go_wp2_with fail
      go_quiet (fail)
      go_wp2_with fail
      have hb2 : Blk ((w.drewN nq).setCell ⟨p, 3, none⟩ (.int .i64 ((put.length : Int)))) p 94 #[.int .i64 win, .slice A put.length cap, .int .i64 a, .int .i64 ((a + xs.length : Nat) : Int)] := by
        have := (HB.out.drewN nq).set_ 3 (.int .i64 ((put.length : Int)))
        have h5 := HPL.out; simp only [h5] at this ⊢; simpa using this
      have hr2 : Row ((w.drewN nq).setCell ⟨p, 3, none⟩ (.int .i64 ((put.length : Int)))) 3 1 A put.length cap (ev cI put) := (HR.out.drewN nq).keep (S := [p]) ((Chg.refl _ _).setCell (.inl (by simp)) _) (fun i hi hm => by simp at hm; subst hm; exact (HR.out.ne_blk HB.out (by decide) _ hi rfl))
      have hB2 := HX.out _ hb2 hr2
      refine (rspan_calls (m := xs.length) hB2 (show xs.length ≤ xs.length by omega) ((put.length : Int)) (show (put.length : Int) = (a : Int) + (xs.length : Nat) by have := HPL.out; omega)).mono ?_
      rintro e w4 ⟨Z, cz, rfl, hr4, hc4, hz4⟩
      go_wp2_with fail
      go_ret
      rw [em.out, eD.out]
      refine ⟨Z, cz, rfl, hr4, ⟨p :: ob A, hB2.keep hc4 (by simp), Chg.next (((Chg.refl (p :: ob A) w).drewN nq).setCell (.inl (by simp)) _) hc4, fun k hk => .inl hk⟩, fun i hi => by have h1 := hz4 i hi; simpa [World.setCell] using h1⟩

    · have hM' : ¬ (s : Int) < (put.length : Int) := by omega
      have hML : ¬ s < a + xs.length := by have := HPL.out; omega
      have em : Hid (min win xs.length = xs.length) := by unfold Hid; omega
      have eD : Hid (St.due ⟨a, s, xs⟩ win = ⟨a, s, xs⟩) := by
        rw [Hid, St.due, em.out]
        simp only [St.mk.injEq, true_and, and_true]
        omega
      have hbox : ∀ W : World, Blk W p 94 #[.int .i64 win, .slice A put.length cap, .int .i64 a, .int .i64 ((s : Nat) : Int)] → Row W 3 1 A put.length cap (ev cI put) → RBox W p (p :: ob A) win ⟨a, s, xs⟩ := by
        intro W hbW hrW
        exact ⟨A, cap, put, rfl, hbW, hrW, hP, ⟨show a ≤ s by omega, show s ≤ a + xs.length by omega, o3⟩, hw⟩
      have HX := Lib.hid hbox
      clear hbox
      go_enter Try.func35, Try.ntmps35
      go_wp2_with fail
      go_quiet (fail)
      go_wp2_with fail
      have hB2 := HX.out _ (HB.out.drewN nq) (HR.out.drewN nq)
      refine (rspan_calls (m := xs.length) hB2 (show xs.length ≤ xs.length by omega) ((put.length : Int)) (show (put.length : Int) = (a : Int) + (xs.length : Nat) by have := HPL.out; omega)).mono ?_
      rintro e w4 ⟨Z, cz, rfl, hr4, hc4, hz4⟩
      go_wp2_with fail
      go_ret
      rw [em.out, eD.out]
      exact ⟨Z, cz, rfl, hr4, ⟨p :: ob A, hB2.keep hc4 (by simp), Chg.next ((Chg.refl (p :: ob A) w).drewN nq) hc4, fun k hk => .inl hk⟩, fun i hi => by have h1 := hz4 i hi; simpa using h1⟩

  · have hg : ¬ (put.length : Int) < (a : Int) + win := by have := HPL.out; omega
    by_cases hM : s < a + win
    · have hM' : (s : Int) < (a : Int) + win := by omega
      have em : Hid (min win xs.length = win) := by unfold Hid; omega
      have eD : Hid (St.due ⟨a, s, xs⟩ win = ⟨a, a + win, xs⟩) := by
        rw [Hid, St.due, em.out]
        simp only [St.mk.injEq, true_and, and_true]
        omega
      have hbox : ∀ W : World, Blk W p 94 #[.int .i64 win, .slice A put.length cap, .int .i64 a, .int .i64 ((a + win : Nat) : Int)] → Row W 3 1 A put.length cap (ev cI put) → RBox W p (p :: ob A) win ⟨a, a + win, xs⟩ := by
        intro W hbW hrW
        exact ⟨A, cap, put, rfl, hbW, hrW, hP, ⟨show a ≤ a + win by omega, show a + win ≤ a + xs.length by omega, o3⟩, hw⟩
      have HX := Lib.hid hbox
      clear hbox
      go_enter Try.func35, Try.ntmps35
      go_wp2_with fail
      go_quiet (fail)
      go_wp2_with fail
      have hb2 : Blk ((w.drewN nq).setCell ⟨p, 3, none⟩ (.int .i64 ((a : Int) + win))) p 94 #[.int .i64 win, .slice A put.length cap, .int .i64 a, .int .i64 ((a + win : Nat) : Int)] := by
        have := (HB.out.drewN nq).set_ 3 (.int .i64 ((a : Int) + win))
        simpa using this
      have hr2 : Row ((w.drewN nq).setCell ⟨p, 3, none⟩ (.int .i64 ((a : Int) + win))) 3 1 A put.length cap (ev cI put) := (HR.out.drewN nq).keep (S := [p]) ((Chg.refl _ _).setCell (.inl (by simp)) _) (fun i hi hm => by simp at hm; subst hm; exact (HR.out.ne_blk HB.out (by decide) _ hi rfl))
      have hB2 := HX.out _ hb2 hr2
      refine (rspan_calls (m := win) hB2 (show win ≤ xs.length by omega) ((a : Int) + win) (show (a : Int) + win = (a : Int) + (win : Nat) by omega)).mono ?_
      rintro e w4 ⟨Z, cz, rfl, hr4, hc4, hz4⟩
      go_wp2_with fail
      go_ret
      rw [em.out, eD.out]
      refine ⟨Z, cz, rfl, hr4, ⟨p :: ob A, hB2.keep hc4 (by simp), Chg.next (((Chg.refl (p :: ob A) w).drewN nq).setCell (.inl (by simp)) _) hc4, fun k hk => .inl hk⟩, fun i hi => by have h1 := hz4 i hi; simpa [World.setCell] using h1⟩

    · have hM' : ¬ (s : Int) < (a : Int) + win := by omega
      have em : Hid (min win xs.length = win) := by unfold Hid; omega
      have eD : Hid (St.due ⟨a, s, xs⟩ win = ⟨a, s, xs⟩) := by
        rw [Hid, St.due, em.out]
        simp only [St.mk.injEq, true_and, and_true]
        omega
      have hbox : ∀ W : World, Blk W p 94 #[.int .i64 win, .slice A put.length cap, .int .i64 a, .int .i64 ((s : Nat) : Int)] → Row W 3 1 A put.length cap (ev cI put) → RBox W p (p :: ob A) win ⟨a, s, xs⟩ := by
        intro W hbW hrW
        exact ⟨A, cap, put, rfl, hbW, hrW, hP, ⟨show a ≤ s by omega, show s ≤ a + xs.length by omega, o3⟩, hw⟩
      have HX := Lib.hid hbox
      clear hbox
      go_enter Try.func35, Try.ntmps35
      go_wp2_with fail
      go_quiet (fail)
      go_wp2_with fail
      have hB2 := HX.out _ (HB.out.drewN nq) (HR.out.drewN nq)
      refine (rspan_calls (m := win) hB2 (show win ≤ xs.length by omega) ((a : Int) + win) (show (a : Int) + win = (a : Int) + (win : Nat) by omega)).mono ?_
      rintro e w4 ⟨Z, cz, rfl, hr4, hc4, hz4⟩
      go_wp2_with fail
      go_ret
      rw [em.out, eD.out]
      exact ⟨Z, cz, rfl, hr4, ⟨p :: ob A, hB2.keep hc4 (by simp), Chg.next ((Chg.refl (p :: ob A) w).drewN nq) hc4, fun k hk => .inl hk⟩, fun i hi => by have h1 := hz4 i hi; simpa using h1⟩


end Go.Proofs.Ytphbhmppjafhkaa
