/-
  PROVED: the contracts of an outbox of ints.
-/
import Derived.Test.YtgockfjhokocbaaGreatDoorP
import Derived.Test.YtgockfjhokocbaaGreatDoorProg
import Derived.Deep.QuietTactic
import Derived.BigQuiet
import Derived.WalkLawsBesides
import Derived.WalkSpells
import Derived.StillTailTactics
namespace Go.Proofs.YtgockfjhokocbaaGreatDoor
open Go.RowKit

def cI (n : Int) : List Value := [.int .i64 n]
theorem cI_len (n : Int) : (cI n).length = 1 := rfl
theorem cI_one (xs : List Int) : ∀ u ∈ ev cI xs, u.oneCell' = true := by
  intro u hu
  simp only [ev, cI, List.mem_flatMap, List.mem_singleton] at hu
  obtain ⟨a, _, rfl⟩ := hu
  rfl

theorem Tryz.info3 : (Tryz.prog.info? 3).map (fun i => (i.zero, i.size, i.bytes)) = some (some (.int .i64 0), 1, 8) := by kernel_rfl
theorem Tryz.info54 : (Tryz.prog.info? 54).map (fun i => (i.zero, i.size, i.bytes)) = some (some (.agg #[.int .i64 0, .int .i64 0]), 2, 16) := by kernel_rfl
theorem info_parts {P : Program} {t : TypeId} {z : Value} {s b : Nat} (h : (P.info? t).map (fun i => (i.zero, i.size, i.bytes)) = some (some z, s, b)) : ∃ i, P.info? t = some i ∧ i.zero = some z ∧ i.size = s ∧ i.bytes = b := by
  cases hq : P.info? t with
  | none => simp [hq] at h
  | some i =>
    simp [hq] at h
    exact ⟨i, rfl, h.1, h.2.1, h.2.2⟩

/-- An outbox of ints: its block p, and the row of what is left. -/
def Box (w : World) (p : Nat) (S : List Nat) (win : Nat) (t : St) : Prop :=
  ∃ A cap, S = p :: ob A ∧ Blk w p 67 #[.int .i64 win, .int .i64 t.a, .int .i64 t.s, .slice A t.xs.length cap] ∧ Row w 3 1 A t.xs.length cap (ev cI t.xs) ∧ t.Ok ∧ 1 ≤ win ∧ win ≤ 4096

theorem Box.keep {w w' : World} {p win : Nat} {S T : List Nat} {t : St} (h : Box w p S win t) (hc : Chg T w w') (hS : ∀ k ∈ S, k ∉ T) : Box w' p S win t := by
  obtain ⟨A, cap, rfl, hb, hr, r⟩ := h
  exact ⟨A, cap, rfl, hb.keep hc (hS p (by simp)), hr.keep hc (fun i hi => hS i (by simp [hi])), r⟩
theorem Box.drewN {w : World} {p win : Nat} {S : List Nat} {t : St} (h : Box w p S win t) (n : Nat) : Box (w.drewN n) p S win t := h.keep (T := []) ((Chg.refl _ _).drewN n) (by simp)
theorem Box.lt {w : World} {p win : Nat} {S : List Nat} {t : St} (h : Box w p S win t) : ∀ k ∈ S, k < w.heap.size := by
  obtain ⟨A, cap, rfl, hb, hr, _⟩ := h
  intro k hk
  rcases List.mem_cons.1 hk with rfl | hk
  · exact hb.lt
  · exact hr.lt k hk
theorem Box.ok {w : World} {p win : Nat} {S : List Nat} {t : St} (h : Box w p S win t) : t.Ok := by
  obtain ⟨A, cap, rfl, hb, hr, h, _⟩ := h
  exact h
theorem Box.win {w : World} {p win : Nat} {S : List Nat} {t : St} (h : Box w p S win t) : 1 ≤ win ∧ win ≤ 4096 := by
  obtain ⟨A, cap, rfl, hb, hr, _, h⟩ := h
  exact h

/-- What each call leaves: the outbox in blocks of its own or new ones. -/
def Left (w : World) (p : Nat) (S : List Nat) (win : Nat) (t : St) (w' : World) : Prop :=
  ∃ S', Box w' p S' win t ∧ Chg S w w' ∧ ∀ k ∈ S', k ∈ S ∨ w.heap.size ≤ k
theorem Left.same {w w' : World} {p win : Nat} {S : List Nat} {t : St} (h : Box w p S win t) (hc : Chg [] w w') : Left w p S win t w' :=
  ⟨S, h.keep hc (by simp), hc.mono (by simp), fun k hk => .inl hk⟩
theorem Left.after {w w1 w' : World} {p win : Nat} {S : List Nat} {t : St} (hc : Chg [] w w1) (h : Left w1 p S win t w') : Left w p S win t w' := by
  obtain ⟨S', hd, hc', hS⟩ := h
  refine ⟨S', hd, (hc.mono (T := S) (by simp)).trans hc' (fun i hi => .inl hi), fun k hk => ?_⟩
  rcases hS k hk with h | h
  · exact .inl h
  · exact .inr (Nat.le_trans hc.size h)
theorem Left.next {w w1 w' : World} {p win : Nat} {S : List Nat} {t : St} (h : Left w p S win t w1) (hc : Chg [] w1 w') : Left w p S win t w' := by
  obtain ⟨S', hd, hc', hS⟩ := h
  exact ⟨S', hd.keep hc (by simp), hc'.next hc, hS⟩

theorem new_no (w : World) (n : Int) (h : n < 1 ∨ 4096 < n) : Calls Tryz.prog 15 #[.int .i64 n] w fun e w' => e = .returned (.tuple #[.pointer none, .int .i64 80]) ∧ w = w' := by
  by_cases h0 : n < 1
  · go_enter Tryz.func15, Tryz.ntmps15
    go_wp2
    go_ret2
    exact ⟨rfl, rfl⟩
  · have h1 : 4096 < n := by omega
    clear h
    go_enter Tryz.func15, Tryz.ntmps15
    go_wp2
    go_ret2
    exact ⟨rfl, rfl⟩
theorem new_ok (w : World) (n : Nat) (h1 : 1 ≤ n) (h2 : n ≤ 4096) :
    Calls Tryz.prog 15 #[.int .i64 n] w fun e w' => ∃ p S, e = .returned (.tuple #[.pointer (some ⟨p, 0, none⟩), .int .i64 0]) ∧ Box w' p S n St.new ∧ Chg [] w w' ∧ ∀ k ∈ S, w.heap.size ≤ k := by
  have h3 : ¬ (n : Int) < 1 := by omega
  have h4 : ¬ (4096 : Int) < n := by omega
  go_enter Tryz.func15, Tryz.ntmps15
  go_wp2
  go_ret2
  refine ⟨w.heap.size, rfl, [w.heap.size], ⟨none, 0, rfl, Blk.new _ _ _, Row.nil _ _ _, St.new_ok, h1, h2⟩, (Chg.refl _ _).alloc _, by simp⟩

theorem acked_calls {w : World} {p win : Nat} {S : List Nat} {t : St} (h : Box w p S win t) : Calls Tryz.prog 13 #[.pointer (some ⟨p, 0, none⟩)] w fun e w' => e = .returned (.int .i64 t.a) ∧ w = w' := by
  obtain ⟨A, cap, rfl, hb, hr, hok, hw⟩ := h
  have c1 := hb.cell 1
  go_enter Tryz.func13, Tryz.ntmps13
  go_wp2
  go_ret
  exact ⟨rfl, rfl⟩
theorem last_calls {w : World} {p win : Nat} {S : List Nat} {t : St} (h : Box w p S win t) : Calls Tryz.prog 30 #[.pointer (some ⟨p, 0, none⟩)] w fun e w' => e = .returned (.int .i64 t.last) ∧ ∃ q, w' = w.drewN q := by
  obtain ⟨A, cap, rfl, hb, hr, ⟨h1, h2, h3⟩, hw⟩ := h
  obtain ⟨a, s, xs⟩ := t
  simp only at h1 h2 h3 hb
  have c1 := hb.cell 1
  have c3 := hb.cell 3
  have e1 : IntKind.i64.wrap ((a : Int) + xs.length) = a + xs.length := IntWalk.i64_in _ (by omega)
  go_enter Tryz.func30, Tryz.ntmps30
  go_wp2
  go_quiet (fail)
  go_wp2
  go_ret
  refine ⟨?_, _, rfl⟩
  simp [St.last]

set_option maxRecDepth 100000 in
set_option maxHeartbeats 1000000 in
theorem push_calls {w : World} {p win : Nat} {S : List Nat} {t : St} (h : Box w p S win t) (x : Int) :
    Calls Tryz.prog 18 #[.pointer (some ⟨p, 0, none⟩), .int .i64 x] w fun e w' => e = .returned (.tuple #[.int .i64 (t.push x).1, .int .i64 (t.push x).2.1]) ∧ Left w p S win (t.push x).2.2 w' := by
  have H := Lib.hid h
  have hok := Lib.hid h.ok
  by_cases hf : t.last = 4096
  · have E : Hid (t.push x = (0, 81, t)) := by simp [Hid, St.push, hf]
    have hf' : (t.last : Int) = 4096 := by omega
    clear h hf
    go_enter Tryz.func18, Tryz.ntmps18
    go_wp2_with (go_at_call 30; refine (last_calls H.out).mono ?_; rintro e w1 ⟨rfl, q, rfl⟩)
    go_ret2
    rw [E.out]
    exact ⟨rfl, Left.same H.out ((Chg.refl _ _).drewN q)⟩
  · have E : Hid (t.push x = ((t.last : Int) + 1, 0, ⟨t.a, t.s, t.xs ++ [x]⟩)) := by simp [Hid, St.push, hf]
    have hf' : ¬ (t.last : Int) = 4096 := by omega
    have hn : t.xs.length < 4096 := by obtain ⟨h1, h2, h3⟩ := hok.out; unfold St.last at hf; omega
    clear hf
    obtain ⟨i0, hi, hz0, hz1, hz2⟩ := info_parts Tryz.info3
    obtain ⟨A, cap, rfl, hb, hr, _, hw⟩ := h
    go_enter Tryz.func18, Tryz.ntmps18
    go_wp2_with (first
      | (go_at_call 30; refine (last_calls H.out).mono ?_; rintro e w1 ⟨rfl, q, rfl⟩; have hbq := hb.drewN q; have hrX := (hr.drewN q).alloc (.cells #[.int .i64 x] 3); have honeX := built_reads (w.drewN q) 3 [.int .i64 x]; have c3 := hbq.cell 3; have hbX := hbq.alloc (.cells #[.int .i64 x] 3))
      | (at_builtin; refine wpList_append_row _ rfl (.tmp 13) (.tmp 15) 33 rfl 3 i0 (.int .i64 0) 1 8 Tryz.underlying33 hi hz0 hz1 hz2 rfl A t.xs.length cap (ev cI t.xs) rfl hrX _ 1 1 [.int .i64 x] rfl honeX (by simp [Value.oneCell']) (by unfold maxLen; omega) (grow_ok (by omega)) ?_))
    intro A' cap' w2 hr2 hc2 hcase
    have hb2 := hc2.blk' hbX (fun hm => hr.ne_blk hb (by decide) _ hm rfl)
    have c23 := hb2.cell 3
    have f23 := hb2.frozen 3
    have hp : p ∉ ob A' := fun hm => hr2.ne_blk hb2 (by decide) _ hm rfl
    have hbox : Box (w2.setCell ⟨p, 3, none⟩ (.slice A' (t.xs.length + 1) cap')) p (p :: ob A') win ⟨t.a, t.s, t.xs ++ [x]⟩ := by
      refine ⟨A', cap', rfl, ?_, ?_, ?_, hw⟩
      · have := hb2.set_ 3 (.slice A' (t.xs.length + 1) cap')
        simpa using this
      · have := hr2.keep (S := [p]) ((Chg.refl _ _).setCell (p := ⟨p, 3, none⟩) (.inl (by simp)) (.slice A' (t.xs.length + 1) cap')) (fun i hi hm => by simp at hm; subst hm; exact hp hi)
        rw [show ev cI t.xs ++ [.int .i64 x] = ev cI (t.xs ++ [x]) by rw [ev_append]; rfl] at this
        simpa using this
      · obtain ⟨h1, h2, h3⟩ := hok.out
        unfold St.last at hf'
        refine ⟨h1, ?_, ?_⟩ <;> simp <;> omega
    have HB := Lib.hid hbox
    have hch : Hid (Chg (p :: ob A) w (w2.setCell ⟨p, 3, none⟩ (.slice A' (t.xs.length + 1) cap'))) :=
      (((((Chg.refl (p :: ob A) w).drewN q).alloc _).trans (hc2.mono (T := p :: ob A) (fun i hi => .inl (by simp [hi]))) (fun i hi => .inl hi)).setCell (.inl (by simp)) _)
    have hS : Hid (∀ k ∈ p :: ob A', k ∈ p :: ob A ∨ w.heap.size ≤ k) := by
      intro k hk
      rcases List.mem_cons.1 hk with rfl | hk
      · exact .inl (by simp)
      · rcases hcase.ob_ k hk with h | h
        · exact .inl (by simp [h])
        · exact .inr (by have := (((Chg.refl [] w).drewN q).alloc (.cells #[.int .i64 x] 3)).size; omega)
    clear hbox hr2 hc2 hcase hb2 hrX honeX hbX hb hr
    go_wp2_with fail
    generalize w2.setCell ⟨p, 3, none⟩ (.slice A' (t.xs.length + 1) cap') = w3 at *
    refine (last_calls HB.out).mono ?_
    rintro e w4 ⟨rfl, q2, rfl⟩
    go_wp2_with fail
    go_ret2
    rw [E.out]
    refine ⟨?_, Left.next (w1 := w3) ⟨p :: ob A', HB.out, hch.out, hS.out⟩ ((Chg.refl _ _).drewN q2)⟩
    simp [St.last]
    omega

end Go.Proofs.YtgockfjhokocbaaGreatDoor
