/-
  PROVED: the contracts of sameList, and of an outbox of strings as far as OutboxApart asks.
-/
import Derived.Test.YtphbhmppjafhkaaRow
namespace Go.Proofs.Ytphbhmppjafhkaa
open Go.RowKit

set_option maxRecDepth 100000 in
set_option maxHeartbeats 1000000 in
theorem sameList_yes {w : World} {m c d : Nat} {A B : Option Addr} {l : List (Int × Int)} (hm : m ≤ 140737488355328) (hx : Row w 38 2 A m c (itv cI l)) (hy : Row w 38 2 B m d (itv cI l)) :
    Calls Try.prog 20 #[.slice A m c, .slice B m d] w fun e w' => e = .returned (.bool true) ∧ ∃ q, w' = w.drewN q := by
  have hl : Hid (l.length = m) := by have := hx.1; rw [itv_length cI_len] at this; unfold Hid; omega
  have HX := Lib.hid hx
  have HY := Lib.hid hy
  clear hx hy
  go_enter Try.func20, Try.ntmps20
  go_wp2_with fail
  go_loopw [5] (fun i wr => ∃ k q, k ≤ m ∧ i = .int .i64 k ∧ wr = w.drewN q) (fun i _ => m - (intOf i).toNat)
  case atStart => exact ⟨0, 0, Nat.zero_le _, rfl, rfl⟩
  case round =>
    obtain ⟨k, q, hk, rfl, rfl⟩ := hrel
    by_cases hlt : k < m
    · have hkl : k < l.length := by rw [hl.out]; exact hlt
      obtain ⟨z, cu, rfl, _⟩ := HX.out.blk (by omega)
      obtain ⟨g, cur, rfl, _⟩ := HY.out.blk (by omega)
      obtain ⟨c0, c1⟩ := item_cells HX.out.reads hkl
      obtain ⟨d0, d1⟩ := item_cells HY.out.reads hkl
      generalize (l[k]).1 = a at *
      generalize (l[k]).2 = b at *
      clear hkl
      go_wp2_with fail
      go_quiet (fail)
      go_wp2_with fail
      go_roundw
      case rel => exact ⟨k + 1, _, by omega, by go_num, rfl⟩
      case measure => simp [intOf]; omega
    · go_wp2
      go_ret
      exact ⟨rfl, q, rfl⟩

/-- An outbox of strings that nothing was acknowledged of. -/
def BoxS (w : World) (p : Nat) (S : List Nat) : Prop :=
  ∃ (A : Option Addr) (cap n win : Nat) (xs : List Value), S = p :: ob A ∧ Blk w p 103 #[.int .i64 win, .int .i64 0, .int .i64 0, .slice A n cap] ∧ Row w 9 1 A n cap xs ∧ n ≤ 4096
theorem BoxS.keep {w w' : World} {p : Nat} {S T : List Nat} (h : BoxS w p S) (hc : Chg T w w') (hS : ∀ k ∈ S, k ∉ T) : BoxS w' p S := by
  obtain ⟨A, cap, n, win, xs, rfl, hb, hr, r⟩ := h
  exact ⟨A, cap, n, win, xs, rfl, hb.keep hc (hS p (by simp)), hr.keep hc (fun i hi => hS i (by simp [hi])), r⟩
theorem BoxS.lt {w : World} {p : Nat} {S : List Nat} (h : BoxS w p S) : ∀ k ∈ S, k < w.heap.size := by
  obtain ⟨A, cap, n, win, xs, rfl, hb, hr, _⟩ := h
  intro k hk
  rcases List.mem_cons.1 hk with rfl | hk
  · exact hb.lt
  · exact hr.lt k hk

theorem newS_ok (w : World) (n : Nat) (h1 : 1 ≤ n) (h2 : n ≤ 4096) :
    Calls Try.prog 48 #[.int .i64 n] w fun e w' => ∃ p S, e = .returned (.tuple #[.pointer (some ⟨p, 0, none⟩), .int .i64 0]) ∧ BoxS w' p S ∧ Chg [] w w' ∧ ∀ k ∈ S, w.heap.size ≤ k := by
  have h3 : ¬ (n : Int) < 1 := by omega
  have h4 : ¬ (4096 : Int) < n := by omega
  go_enter Try.func48, Try.ntmps48
  go_wp2
  go_ret2
  refine ⟨w.heap.size, rfl, [w.heap.size], ⟨none, 0, 0, n, [], rfl, Blk.new _ _ _, Row.nil _ _ _, Nat.zero_le _⟩, (Chg.refl _ _).alloc _, by simp⟩

theorem lastS_at {w : World} {p n cap win : Nat} {A : Option Addr} (hb : Blk w p 103 #[.int .i64 win, .int .i64 0, .int .i64 0, .slice A n cap]) (hn : n ≤ 4096) :
    Calls Try.prog 56 #[.pointer (some ⟨p, 0, none⟩)] w fun e w' => e = .returned (.int .i64 n) ∧ ∃ q, w' = w.drewN q := by
  have c1 := hb.cell 1
  have c3 := hb.cell 3
  have e1 : IntKind.i64.wrap (n : Int) = n := IntWalk.i64_in _ (by omega)
  go_enter Try.func56, Try.ntmps56
  go_wp2
  go_quiet (fail)
  go_wp2
  go_ret
  exact ⟨rfl, _, rfl⟩

theorem Try.info9 : (Try.prog.info? 9).map (fun i => (i.zero, i.size, i.bytes)) = some (some (.string ByteArray.empty), 1, 16) := by kernel_rfl

set_option maxRecDepth 100000 in
set_option maxHeartbeats 1000000 in
theorem pushS_calls {w : World} {p : Nat} {S : List Nat} (h : BoxS w p S) (x : ByteArray) :
    Calls Try.prog 50 #[.pointer (some ⟨p, 0, none⟩), .string x] w fun e w' => ∃ a b, e = .returned (.tuple #[.int .i64 a, .int .i64 b]) ∧ ∃ S', BoxS w' p S' ∧ Chg S w w' ∧ ∀ k ∈ S', k ∈ S ∨ w.heap.size ≤ k := by
  have H := Lib.hid h
  obtain ⟨A, cap, n, win, xs, rfl, hb, hr, hn⟩ := h
  by_cases hf : n = 4096
  · have hf' : ((n : Int) == 4096) = true := by subst hf; rfl
    clear hf
    go_enter Try.func50, Try.ntmps50
    go_wp2_with (go_at_call 56; refine (lastS_at hb hn).mono ?_; rintro e w1 ⟨rfl, q, rfl⟩)
    go_ret2
    exact ⟨_, _, rfl, _, H.out.keep ((Chg.refl [] _).drewN q) (by simp), (Chg.refl _ _).drewN q, fun k hk => .inl hk⟩
  · have hf' : ((n : Int) == 4096) = false := by simpa using (show ¬ (n : Int) = 4096 by omega)
    have hn' : n < 4096 := by omega
    clear hf
    obtain ⟨i0, hi, hz0, hz1, hz2⟩ := info_parts Try.info9
    have HB := Lib.hid hb
    have HR := Lib.hid hr
    go_enter Try.func50, Try.ntmps50
    go_wp2_with (first
      | (go_at_call 56; refine (lastS_at hb hn).mono ?_; rintro e w1 ⟨rfl, q, rfl⟩; have hbq := hb.drewN q; have hrX := (hr.drewN q).alloc (.cells #[.string x] 9); have honeX := built_reads (w.drewN q) 9 [.string x]; have c3 := hbq.cell 3; have hbX := hbq.alloc (.cells #[.string x] 9))
      | (at_builtin; refine wpList_append_row _ rfl (.tmp 13) (.tmp 15) 101 rfl 9 i0 (.string ByteArray.empty) 1 16 Try.underlying101 hi hz0 hz1 hz2 rfl A n cap xs rfl hrX _ 1 1 [.string x] rfl honeX (by simp [Value.oneCell']) (by unfold maxLen; omega) (grow_ok (by omega)) ?_))
    intro A' cap' w2 hr2 hc2 hcase
    have hb2 := hc2.blk' hbX (fun hm => HR.out.ne_blk HB.out (by decide) _ hm rfl)
    have c23 := hb2.cell 3
    have f23 := hb2.frozen 3
    have hp : p ∉ ob A' := fun hm => hr2.ne_blk hb2 (by decide) _ hm rfl
    have hb3 : Blk (w2.setCell ⟨p, 3, none⟩ (.slice A' (n + 1) cap')) p 103 #[.int .i64 win, .int .i64 0, .int .i64 0, .slice A' (n + 1) cap'] := by
      have := hb2.set_ 3 (.slice A' (n + 1) cap')
      simpa using this
    have hr3 := hr2.keep (S := [p]) ((Chg.refl _ _).setCell (p := ⟨p, 3, none⟩) (.inl (by simp)) (.slice A' (n + 1) cap')) (fun i hi hm => by simp at hm; subst hm; exact hp hi)
    have HB3 := Lib.hid hb3
    have HR3 := Lib.hid hr3
    have hch : Hid (Chg (p :: ob A) w (w2.setCell ⟨p, 3, none⟩ (.slice A' (n + 1) cap'))) :=
      (((((Chg.refl (p :: ob A) w).drewN q).alloc _).trans (hc2.mono (T := p :: ob A) (fun i hi => .inl (by simp [hi]))) (fun i hi => .inl hi)).setCell (.inl (by simp)) _)
    have hS : Hid (∀ k ∈ p :: ob A', k ∈ p :: ob A ∨ w.heap.size ≤ k) := by
      intro k hk
      rcases List.mem_cons.1 hk with rfl | hk
      · exact .inl (by simp)
      · rcases hcase.ob_ k hk with h | h
        · exact .inl (by simp [h])
        · exact .inr (by have := (((Chg.refl [] w).drewN q).alloc (.cells #[.string x] 9)).size; omega)
    clear hb3 hr3 hr2 hc2 hcase hb2 hrX honeX hbX hb hr hbq
    go_wp2_with fail
    generalize w2.setCell ⟨p, 3, none⟩ (.slice A' (n + 1) cap') = w3 at *
    refine (lastS_at HB3.out (by omega)).mono ?_
    rintro e w4 ⟨rfl, q2, rfl⟩
    go_wp2_with fail
    go_ret2
    exact ⟨_, _, rfl, p :: ob A', ⟨A', cap', n + 1, win, _, rfl, HB3.out.drewN q2, HR3.out.drewN q2, by omega⟩, hch.out.drewN q2, hS.out⟩
end Go.Proofs.Ytphbhmppjafhkaa
