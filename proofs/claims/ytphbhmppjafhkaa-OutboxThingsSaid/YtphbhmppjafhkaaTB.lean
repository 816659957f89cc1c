/-
  PROVED: the contracts of an outbox of things.
-/
import Derived.Test.YtphbhmppjafhkaaTA
import Derived.Laws.BytesArg
namespace Go.Proofs.Ytphbhmppjafhkaa
open Go.RowKit

set_option maxRecDepth 100000 in
set_option maxHeartbeats 2000000 in
theorem push_callsT {w : World} {p win : Nat} {S : List Nat} {t : St} (h : BoxT w p S win t) (x : Int) :
    Calls Try.prog 28 #[.pointer (some ⟨p, 0, none⟩), .agg (cT x).toArray] w fun e w' => e = .returned (.tuple #[.int .i64 (t.push x).1, .int .i64 (t.push x).2.1]) ∧ LeftT w p S win (t.push x).2.2 w' := by
  obtain ⟨y, hy⟩ : ∃ y, y = cT x := ⟨_, rfl⟩
  have hcy : Hid (y = cT x) := hy
  unfold cT at hy
  generalize strT x = sx at *
  generalize wrap64 (-x) = nx at *
  have q0 : Chg [] w (w.alloc (.cells #[.string sx, .int .i64 0, .int .i64 x, .int .u8 0, .int .i64 0, .int .i64 nx] 58)) := (Chg.refl _ _).alloc _
  have hbv := Blk.new w 58 #[.string sx, .int .i64 0, .int .i64 x, .int .u8 0, .int .i64 0, .int .i64 nx]
  have h0 := h.keep q0 (by simp)
  have HW := Lib.hid h
  rw [← hcy.out]
  subst hy
  have H := Lib.hid h0
  have hok := Lib.hid h0.ok
  have hlt0 := Lib.hid h.lt
  clear h
  have hq0 := Lib.hid q0
  by_cases hf : t.last = 4096
  · have E : Hid (t.push x = (0, 81, t)) := by simp [Hid, St.push, hf]
    have hf' : (t.last : Int) = 4096 := by omega
    clear h0 hf
    go_enter Try.func28, Try.ntmps28
    go_wp2_with fail
    generalize w.alloc (.cells #[.string sx, .int .i64 0, .int .i64 x, .int .u8 0, .int .i64 0, .int .i64 nx] 58) = w0 at *
    refine (last_callsT H.out).mono ?_
    rintro e w1 ⟨rfl, q, rfl⟩
    go_wp2_with fail
    go_ret2
    rw [E.out]
    exact ⟨rfl, LeftT.same HW.out (hq0.out.drewN q)⟩
  · have E : Hid (t.push x = ((t.last : Int) + 1, 0, ⟨t.a, t.s, t.xs ++ [x]⟩)) := by simp [Hid, St.push, hf]
    have hf' : ¬ (t.last : Int) = 4096 := by omega
    have hn : t.xs.length < 4096 := by obtain ⟨h1, h2, h3⟩ := hok.out; unfold St.last at hf; omega
    clear hf
    obtain ⟨i0, hi, hz0, hz1, hz2⟩ := info_parts Try.info58
    obtain ⟨A, cap, rfl, hb, hr, _, hw⟩ := h0
    go_enter Try.func28, Try.ntmps28
    go_wp2_with fail
    generalize w.alloc (.cells #[.string sx, .int .i64 0, .int .i64 x, .int .u8 0, .int .i64 0, .int .i64 nx] 58) = w0 at *
    generalize hgb : w.heap.size = gv at *
    have HGV := Lib.hid hgb
    clear hgb
    refine (last_callsT H.out).mono ?_
    rintro e w1 ⟨rfl, q, rfl⟩
    have hbvq := hbv.drewN q
    have hbq := hb.drewN q
    have v0 := hbvq.cell 0
    have v1 := hbvq.cell 1
    have v2 := hbvq.cell 2
    have v3 := hbvq.cell 3
    have v4 := hbvq.cell 4
    have v5 := hbvq.cell 5
    have c3 := hbq.cell 3
    have HBQ := Lib.hid hbq
    have HRQ := Lib.hid (hr.drewN q)
    have HPN := Lib.hid (fun (W : World) (hbW : Blk W p 92 #[.int .i64 win, .int .i64 t.a, .int .i64 t.s, .slice A t.xs.length cap]) (hrW : Row W 58 6 A t.xs.length cap (ev cT t.xs)) => (fun hm => hrW.ne_blk hbW (by decide) _ hm rfl : p ∉ ob A))
    have hpA := HPN.out _ hbq (hr.drewN q)
    clear hbvq hbq hr hb HPN
    go_wp2_with fail
    generalize hwq : w0.drewN q = wq at *
    have HWQ := Lib.hid hwq
    clear hwq
    have hrX := HRQ.out.alloc (.cells #[.string sx, .int .i64 0, .int .i64 x, .int .u8 0, .int .i64 0, .int .i64 nx] 58)
    have honeX := built_reads' wq 58 [.string sx, .int .i64 0, .int .i64 x, .int .u8 0, .int .i64 0, .int .i64 nx] 1 6 rfl
    have hbX := HBQ.out.alloc (.cells #[.string sx, .int .i64 0, .int .i64 x, .int .u8 0, .int .i64 0, .int .i64 nx] 58)
    have cX3 := hbX.cell 3
    have hcX := (Chg.refl [] wq).alloc (.cells #[.string sx, .int .i64 0, .int .i64 x, .int .u8 0, .int .i64 0, .int .i64 nx] 58)
    go_region_law (first
      | (refine step_append_row _ rfl (.tmp 13) (.tmp 15) 90 rfl 58 i0 zT 6 56 Try.underlying90 hi hz0 hz1 hz2 rfl A t.xs.length cap (ev cT t.xs) rfl hrX _ 1 1 [.string sx, .int .i64 0, .int .i64 x, .int .u8 0, .int .i64 0, .int .i64 nx] rfl honeX (by simp [Value.oneCell']) (by unfold maxLen; omega) (grow_ok (by omega)) ?_
         intro A' cap' w2 hr2 hc2 hcase
         have hb2 := hc2.blk' hbX hpA
         have c23 := hb2.cell 3
         have f23 := hb2.frozen 3))
    all_goals
      have hp : p ∉ ob A' := fun hm => hr2.ne_blk hb2 (by decide) _ hm rfl
      have hbox : BoxT (w2.setCell ⟨p, 3, none⟩ (.slice A' (t.xs.length + 1) cap')) p (p :: ob A') win ⟨t.a, t.s, t.xs ++ [x]⟩ := by
        refine ⟨A', cap', rfl, ?_, ?_, ?_, hw⟩
        · have := hb2.set_ 3 (.slice A' (t.xs.length + 1) cap')
          simpa using this
        · have := hr2.keep (S := [p]) ((Chg.refl _ _).setCell (p := ⟨p, 3, none⟩) (.inl (by simp)) (.slice A' (t.xs.length + 1) cap')) (fun i hi hm => by simp at hm; subst hm; exact hp hi)
          rw [show ev cT t.xs ++ [.string sx, .int .i64 0, .int .i64 x, .int .u8 0, .int .i64 0, .int .i64 nx] = ev cT (t.xs ++ [x]) by rw [ev_append, hcy.out]; simp [ev]] at this
          simpa using this
        · obtain ⟨h1, h2, h3⟩ := hok.out
          unfold St.last at hf'
          refine ⟨h1, ?_, ?_⟩ <;> simp <;> omega
      have HB := Lib.hid hbox
      have hcq : Chg [] w0 w2 ∨ Chg (p :: ob A) w0 w2 := .inr (by
        have e0 : Chg (p :: ob A) w0 wq := by rw [← HWQ.out]; exact (Chg.refl _ _).drewN q
        refine Chg.trans ?_ (hc2.mono (T := p :: ob A) (fun i hi => .inl (by simp [hi]))) (fun i hi => .inl hi)
        first
          | exact e0.alloc _
          | exact e0.drew.alloc _
          | exact (e0.drewN _).alloc _
          | exact (e0.alloc _).drew
          | exact (e0.alloc _).drewN _)
      have hch : Hid (Chg (p :: ob A) w (w2.setCell ⟨p, 3, none⟩ (.slice A' (t.xs.length + 1) cap'))) := by
        rcases hcq with h | h
        · exact ((hq0.out.mono (by simp)).trans h (by simp)).setCell (.inl (by simp)) _
        · exact ((hq0.out.mono (by simp)).trans h (fun i hi => .inl hi)).setCell (.inl (by simp)) _
      have hS : Hid (∀ k ∈ p :: ob A', k ∈ p :: ob A ∨ w.heap.size ≤ k) := by
        intro k hk
        rcases List.mem_cons.1 hk with rfl | hk
        · exact .inl (by simp)
        · rcases hcase.ob_ k hk with h | h
          · exact .inl (by simp [h])
          · have h1 := hq0.out.size
            have h2 : w0.heap.size ≤ wq.heap.size := by rw [← HWQ.out]; exact ((Chg.refl [] w0).drewN q).size
            have h3 := hcX.size
            simp at h h3
            exact .inr (by omega)
      clear hbox hr2 hc2 hcase hb2 hcq
      go_wp2_with fail
      generalize w2.setCell ⟨p, 3, none⟩ (.slice A' (t.xs.length + 1) cap') = w3 at *
      refine (last_callsT HB.out).mono ?_
      rintro e w4 ⟨rfl, q2, rfl⟩
      go_wp2_with fail
      go_ret2
      rw [E.out]
      refine ⟨?_, LeftT.next (w1 := w3) ⟨p :: ob A', HB.out, hch.out, hS.out⟩ ((Chg.refl _ _).drewN q2)⟩
      simp [St.last]
      omega

theorem reset_callsT {w : World} {p win : Nat} {S : List Nat} {t : St} (h : BoxT w p S win t) : Calls Try.prog 36 #[.pointer (some ⟨p, 0, none⟩)] w fun e w' => e = .returned (.tuple #[]) ∧ LeftT w p S win St.new w' := by
  obtain ⟨A, cap, rfl, hb, hr, hok, hw⟩ := h
  have f1 := hb.frozen 1
  have f2 := hb.frozen 2
  have f3 := hb.frozen 3
  have c1 := hb.cell 1
  have c2 := hb.cell 2
  have c3 := hb.cell 3
  go_enter Try.func36, Try.ntmps36
  go_wp2
  go_end0
  refine ⟨rfl, [p], ⟨none, 0, rfl, ?_, Row.nil _ _ _, St.new_ok, hw⟩, (((Chg.refl _ w).setCell (.inl (by simp)) _).setCell (.inl (by simp)) _).setCell (.inl (by simp)) _, by simp⟩
  have := ((hb.set_ 3 (.slice none 0 0)).set_ 1 (.int .i64 0)).set_ 2 (.int .i64 0)
  simpa [St.new] using this

set_option maxRecDepth 100000 in
theorem ack_noT {w : World} {p win : Nat} {S : List Nat} {t : St} (h : BoxT w p S win t) (n : Int) (hn : n < 0 ∨ (t.s : Int) < n) :
    Calls Try.prog 31 #[.pointer (some ⟨p, 0, none⟩), .int .i64 n] w fun e w' => e = .returned (.int .i64 82) ∧ w = w' := by
  obtain ⟨A, cap, rfl, hb, hr, hok, hw⟩ := h
  have c2 := hb.cell 2
  by_cases h0 : n < 0
  · go_enter Try.func31, Try.ntmps31
    go_wp2
    go_ret
    exact ⟨rfl, rfl⟩
  · have h1 : (t.s : Int) < n := by omega
    clear hn
    go_enter Try.func31, Try.ntmps31
    go_wp2
    go_ret
    exact ⟨rfl, rfl⟩
set_option maxRecDepth 100000 in
theorem ack_oldT {w : World} {p win : Nat} {S : List Nat} {t : St} (h : BoxT w p S win t) (n : Int) (h0 : ¬ n < 0) (h1 : ¬ (t.s : Int) < n) (h2 : n ≤ t.a) :
    Calls Try.prog 31 #[.pointer (some ⟨p, 0, none⟩), .int .i64 n] w fun e w' => e = .returned (.int .i64 0) ∧ w = w' := by
  obtain ⟨A, cap, rfl, hb, hr, hok, hw⟩ := h
  have c1 := hb.cell 1
  have c2 := hb.cell 2
  have h3 : ¬ (t.a : Int) < n := by omega
  go_enter Try.func31, Try.ntmps31
  go_wp2
  go_ret
  exact ⟨rfl, rfl⟩

set_option maxRecDepth 100000 in
set_option maxHeartbeats 1000000 in
theorem ack_okT {w : World} {p win k : Nat} {S : List Nat} {t : St} (h : BoxT w p S win t) (hk : 0 < k) (h1 : t.a + k ≤ t.s) :
    Calls Try.prog 31 #[.pointer (some ⟨p, 0, none⟩), .int .i64 ((t.a : Int) + k)] w fun e w' => e = .returned (.int .i64 0) ∧ LeftT w p S win ⟨t.a + k, t.s, t.xs.drop k⟩ w' := by
  obtain ⟨i0, hi, hz0, hz1, hz2⟩ := info_parts Try.info58
  obtain ⟨A, cap, rfl, hb, hr, ⟨o1, o2, o3⟩, hw⟩ := h
  obtain ⟨a, s, xs⟩ := t
  simp only at *
  have c1 := hb.cell 1
  have c2 := hb.cell 2
  have c3 := hb.cell 3
  have f3 := hb.frozen 3
  have g0 : ¬ (a : Int) + k < 0 := by omega
  have g1 : ¬ (s : Int) < (a : Int) + k := by omega
  have g2 : (a : Int) < (a : Int) + k := by omega
  have hkx : k ≤ xs.length := by omega
  have hcap := hr.le
  have e1 : IntKind.i64.wrap ((a : Int) + k - a) = (k : Int) := by rw [IntWalk.i64_in _ (by omega)]; omega
  have hcut := (hr.drewN 1).reads.cut (cap := cap) hkx hcap
  rw [ev_drop cT_len] at hcut
  have hone := cT_one (xs.drop k)
  have HB := Lib.hid hb
  go_enter Try.func31, Try.ntmps31
  go_wp2_with fail
  go_region_law (refine step_append_row _ rfl (.const (.slice none 0 0)) (.tmp 32) 90 rfl 58 i0 zT 6 56 Try.underlying90 hi hz0 hz1 hz2 rfl none 0 0 [] rfl (Row.nil _ _ _) _ (xs.length - k) (cap - k) (ev cT (xs.drop k)) rfl hcut hone (by unfold maxLen; omega) (grow_ok (by omega)) ?_
                 intro A' cap' w2 hr2 hc2 hcase
                 have hb2 := hc2.blk' HB.out (by simp [ob])
                 have c21 := hb2.cell 1
                 have c23 := hb2.cell 3
                 have f21 := hb2.frozen 1
                 have f23 := hb2.frozen 3)
  all_goals (go_wp2_with fail)
  all_goals
    go_ret
    have hp : p ∉ ob A' := fun hm => hr2.ne_blk hb2 (by decide) _ hm rfl
    have hc2' : Chg [] w w2 := by
      first
        | exact (Chg.refl [] w).drew.next hc2
        | exact ((Chg.refl [] w).drewN _).next hc2
    rw [Nat.zero_add, List.nil_append] at hr2
    have hlen : xs.length - k = (xs.drop k).length := by simp
    refine ⟨rfl, p :: ob A', ⟨A', cap', rfl, ?_, ?_, ⟨by simp; omega, by simp; omega, by simp; omega⟩, hw⟩, (((hc2'.mono (T := p :: ob A) (by simp)).setCell (.inl (by simp)) _).setCell (.inl (by simp)) _), ?_⟩
    · have := (hb2.set_ 3 (.slice A' (xs.length - k) cap')).set_ 1 (.int .i64 ((a : Int) + k))
      simpa using this
    · have := hr2.keep (S := [p]) (((Chg.refl _ w2).setCell (p := ⟨p, 3, none⟩) (.inl (by simp)) (.slice A' (xs.length - k) cap')).setCell (p := ⟨p, 1, none⟩) (.inl (by simp)) (.int .i64 ((a : Int) + k))) (fun i hi hm => by simp at hm; subst hm; exact hp hi)
      simpa using this
    · intro i hi
      rcases List.mem_cons.1 hi with rfl | hi
      · exact .inl (by simp)
      · rcases hcase.ob_ i hi with h | h
        · simp [ob] at h
        · exact .inr h

theorem ack_callsT {w : World} {p win : Nat} {S : List Nat} {t : St} (h : BoxT w p S win t) (n : Int) :
    Calls Try.prog 31 #[.pointer (some ⟨p, 0, none⟩), .int .i64 n] w fun e w' => e = .returned (.int .i64 (t.ack n).1) ∧ LeftT w p S win (t.ack n).2 w' := by
  unfold St.ack
  by_cases h1 : n < 0 ∨ (t.s : Int) < n
  · rw [if_pos h1]
    exact (ack_noT h n h1).mono fun e w' ⟨he, hw⟩ => ⟨he, by subst hw; exact LeftT.same h (Chg.refl _ _)⟩
  · rw [if_neg h1]
    by_cases h2 : n ≤ t.a
    · rw [if_pos h2]
      exact (ack_oldT h n (by omega) (by omega) h2).mono fun e w' ⟨he, hw⟩ => ⟨he, by subst hw; exact LeftT.same h (Chg.refl _ _)⟩
    · rw [if_neg h2]
      obtain ⟨m, rfl⟩ := Int.eq_ofNat_of_zero_le (show 0 ≤ n by omega)
      have e : (m : Int) = (t.a : Int) + ((m - t.a : Nat) : Int) := by omega
      have e2 : m = t.a + (m - t.a) := by omega
      have key := ack_okT h (k := m - t.a) (by omega) (by omega)
      rw [← e, ← e2] at key
      rw [Int.toNat_natCast]
      exact key
end Go.Proofs.Ytphbhmppjafhkaa
