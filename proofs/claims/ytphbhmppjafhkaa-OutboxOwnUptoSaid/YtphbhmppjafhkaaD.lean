/-
  PROVED: the contract of act: the step on one outbox of ints; a slice of steps.
-/
import Derived.Test.YtphbhmppjafhkaaC
namespace Go.Proofs.Ytphbhmppjafhkaa
open Go.RowKit

/-- A step as it lies in memory. -/
structure GOp where
  kind : Int
  site : Int
  n : Int
def GOp.cells (o : GOp) : List Value := [.int .i64 o.kind, .int .i64 o.site, .int .i64 o.n]
def GOp.val (o : GOp) : Value := .agg #[.int .i64 o.kind, .int .i64 o.site, .int .i64 o.n]

/-- What a step answers, and what the outbox holds behind it. -/
def actF (o : GOp) (win : Nat) (t : St) : Int × St :=
  if o.kind = 1 then ((t.push o.n).2.1, (t.push o.n).2.2)
  else if o.kind = 2 then (0, t.due win)
  else if o.kind = 3 then t.ack o.n
  else if o.kind = 8 then (0, St.new)
  else (0, t)
theorem actF_ok {t : St} (h : t.Ok) (o : GOp) (win : Nat) : (actF o win t).2.Ok := by
  unfold actF
  split
  · exact St.push_ok h _
  · split
    · exact St.due_ok h _
    · split
      · exact St.ack_ok h _
      · split
        · exact St.new_ok
        · exact h

set_option maxRecDepth 100000 in
set_option maxHeartbeats 1000000 in
theorem act_calls {w : World} {p win : Nat} {S : List Nat} {t : St} (h : Box w p S win t) (o : GOp) :
    Calls Try.prog 19 #[.pointer (some ⟨p, 0, none⟩), o.val] w fun e w' => e = .returned (.int .i64 (actF o win t).1) ∧ Left w p S win (actF o win t).2 w' := by
  obtain ⟨k, st, n⟩ := o
  have q0 : Chg [] w (w.alloc (.cells #[.int .i64 k, .int .i64 st, .int .i64 n] 32)) := (Chg.refl _ _).alloc _
  have hd0 := h.keep q0 (by simp)
  have H0 := Lib.hid hd0
  clear hd0
  unfold GOp.val
  simp only
  by_cases k1 : k = 1
  · have E : Hid (actF ⟨k, st, n⟩ win t = ((t.push n).2.1, (t.push n).2.2)) := by simp [Hid, actF, k1]
    subst k1
    go_enter Try.func19, Try.ntmps19
    go_wp2_with fail
    generalize w.alloc (.cells #[.int .i64 1, .int .i64 st, .int .i64 n] 32) = w0 at *
    go_wp2_with (first
      | (go_at_call 12; refine (push_calls H0.out n).mono ?_; rintro e w1 ⟨rfl, hl1⟩)
      | (go_at_call 11; refine (num_calls _ _).mono ?_; rintro e w' ⟨rfl, rfl⟩))
    go_ret
    rw [E.out]
    exact ⟨rfl, Left.after q0 hl1⟩
  by_cases k2 : k = 2
  · have E : Hid (actF ⟨k, st, n⟩ win t = (0, t.due win)) := by simp [Hid, actF, k2]
    subst k2
    clear k1
    go_enter Try.func19, Try.ntmps19
    go_wp2_with fail
    generalize w.alloc (.cells #[.int .i64 2, .int .i64 st, .int .i64 n] 32) = w0 at *
    go_wp2_with (first
      | (go_at_call 17; refine (due_calls H0.out).mono ?_; rintro e w1 ⟨z, rfl, hr1, hl1, hz1⟩))
    go_ret
    rw [E.out]
    exact ⟨rfl, Left.after q0 hl1⟩
  by_cases k3 : k = 3
  · have E : Hid (actF ⟨k, st, n⟩ win t = t.ack n) := by simp [Hid, actF, k3]
    subst k3
    clear k1 k2
    go_enter Try.func19, Try.ntmps19
    go_wp2_with fail
    generalize w.alloc (.cells #[.int .i64 3, .int .i64 st, .int .i64 n] 32) = w0 at *
    go_wp2_with (first
      | (go_at_call 16; refine (ack_calls H0.out n).mono ?_; rintro e w1 ⟨rfl, hl1⟩)
      | (go_at_call 11; refine (num_calls _ _).mono ?_; rintro e w' ⟨rfl, rfl⟩))
    go_ret
    rw [E.out]
    exact ⟨rfl, Left.after q0 hl1⟩
  by_cases k8 : k = 8
  · have E : Hid (actF ⟨k, st, n⟩ win t = (0, St.new)) := by simp [Hid, actF, k8]
    subst k8
    clear k1 k2 k3
    go_enter Try.func19, Try.ntmps19
    go_wp2_with fail
    generalize w.alloc (.cells #[.int .i64 8, .int .i64 st, .int .i64 n] 32) = w0 at *
    go_wp2_with (first
      | (go_at_call 18; refine (reset_calls H0.out).mono ?_; rintro e w1 ⟨rfl, hl1⟩))
    go_ret
    rw [E.out]
    exact ⟨rfl, Left.after q0 hl1⟩
  · have E : Hid (actF ⟨k, st, n⟩ win t = (0, t)) := by simp [Hid, actF, k1, k2, k3, k8]
    have b1 : (k == 1) = false := by simpa using k1
    have b2 : (k == 2) = false := by simpa using k2
    have b3 : (k == 3) = false := by simpa using k3
    have b8 : (k == 8) = false := by simpa using k8
    clear k1 k2 k3 k8
    go_enter Try.func19, Try.ntmps19
    go_wp2_with fail
    go_ret
    rw [E.out]
    exact ⟨rfl, Left.same h q0⟩

/-- A slice of steps that came in. -/
def OpsAt (w : World) (A : Option Addr) (ops : List GOp) : Prop :=
  0 < ops.length → ∃ ad, A = some ad ∧ ∀ i o, ops[i]? = some o → ∀ j u, o.cells[j]? = some u → w.cell? ((ad.add (i * 3)).add j) = some u
theorem OpsAt.keep {w w' : World} {A : Option Addr} {ops : List GOp} (h : OpsAt w A ops) (hc : Chg [] w w') : OpsAt w' A ops := fun hn => by
  obtain ⟨ad, hA, hcell⟩ := h hn
  exact ⟨ad, hA, fun i o ho j u hu => hc.cell (hcell i o ho j u hu) (by simp)⟩
theorem OpsAt.at_ {w : World} {A : Option Addr} {ops : List GOp} (h : OpsAt w A ops) {k : Nat} (hk : k < ops.length) :
    ∃ ad o, A = some ad ∧ ops[k]? = some o ∧ (∀ j u, o.cells[j]? = some u → w.cell? ((ad.add (k * 3)).add j) = some u) := by
  obtain ⟨ad, hA, hcell⟩ := h (by omega)
  exact ⟨ad, ops[k], hA, List.getElem?_eq_getElem hk, hcell k _ (List.getElem?_eq_getElem hk)⟩

/-- A slice of ints that came in. -/
theorem ev_cI_map (xs : List Int) : ev cI xs = xs.map (Value.int .i64) := by
  induction xs with
  | nil => rfl
  | cons x xs ih => unfold ev at ih ⊢; rw [List.flatMap_cons, ih]; rfl

/-- Steps played. -/
def playF (win : Nat) (ops : List GOp) (t : St) : St := ops.foldl (fun t o => (actF o win t).2) t
theorem playF_succ (win : Nat) {ops : List GOp} {k : Nat} {o : GOp} (h : ops[k]? = some o) (t : St) : playF win (ops.take (k + 1)) t = (actF o win (playF win (ops.take k) t)).2 := by
  obtain ⟨hk, rfl⟩ := List.getElem?_eq_some_iff.1 h
  unfold playF
  rw [List.take_succ_eq_append_getElem hk, List.foldl_append]
  rfl
end Go.Proofs.Ytphbhmppjafhkaa
