/-
  PROVED: the contract of OutboxDue's helper drained, where it answers true.
-/
import Derived.Test.YtphbhmppjafhkaaRow
namespace Go.Proofs.Ytphbhmppjafhkaa
open Go.RowKit

/-- What was put in, against what is left: the left things are the last of them. -/
def Put (t : St) (put : List Int) : Prop := put.length = t.a + t.xs.length ∧ ∀ i (h : i < t.xs.length), put[t.a + i]? = some t.xs[i]

theorem Put.due {t : St} {put : List Int} (h : Put t put) (win : Nat) : Put (t.due win) put := h
theorem Put.drop {t : St} {put : List Int} {m s : Nat} (h : Put t put) (hm : m ≤ t.xs.length) : Put ⟨t.a + m, s, t.xs.drop m⟩ put := by
  refine ⟨by simp only [List.length_drop]; have := h.1; omega, fun i hi => ?_⟩
  simp only [List.length_drop] at hi
  have := h.2 (m + i) (by omega)
  simp only [List.getElem_drop]
  rw [show t.a + m + i = t.a + (m + i) by omega]
  exact this
theorem Put.take {t : St} {put : List Int} {m : Nat} (h : Put t put) : ∀ i (hi : i < (t.xs.take m).length), put[t.a + i]? = some (t.xs.take m)[i] := fun i hi => by
  simp only [List.length_take] at hi
  rw [List.getElem_take]
  exact h.2 i (by omega)

set_option maxRecDepth 100000 in
set_option maxHeartbeats 4000000 in
theorem drained_calls {w : World} {p win pn pc : Nat} {S : List Nat} {t : St} {A : Option Addr} {put : List Int} (hb : Box w p S win t) (hp : Reads w 1 A pn (ev cI put)) (hpS : ∀ i ∈ ob A, i ∉ S) (hpl : ∀ i ∈ ob A, i < w.heap.size) (hpn : put.length = pn) (hP : Put t put) :
    Calls Try.prog 47 #[.pointer (some ⟨p, 0, none⟩), .int .i64 win, .slice A pn pc] w fun e w' => e = .returned (.bool true) ∧ Chg S w w' := by
  have HPN := Lib.hid hpn
  have HW := Lib.hid hb.win
  have HPL := Lib.hid hpl
  have HRP := Lib.hid hp
  clear hpn hpl hp
  go_enter Try.func47, Try.ntmps47
  go_wp2_with fail
  go_loopg [] t.xs.length (fun k wr => ∃ (S' : List Nat) (t' : St), k = t'.xs.length ∧ Box wr p S' win t' ∧ Put t' put ∧ (∀ i ∈ S', i ∈ S ∨ w.heap.size ≤ i) ∧ Chg S w wr)
  case atStart => exact ⟨S, t, rfl, hb, hP, fun i hi => .inl hi, Chg.refl _ _⟩
  case round =>
    clear hb hP
    obtain ⟨S', t, rfl, hb, hP, hS', hc⟩ := hrel
    have HP := Lib.hid hP
    have hok := Lib.hid hb.ok
    have HB := Lib.hid hb
    have hpr := (HRP.out.keep hc hpS)
    have HPR := Lib.hid hpr
    have hpl : put.length = t.a + t.xs.length := hP.1
    have hpn2 : Hid (pn = t.a + t.xs.length) := by unfold Hid; rw [← HPN.out]; exact hpl
    have h4 : Hid (pn ≤ 4096) := by have := hok.out.2.2; unfold Hid; rw [hpn2.out]; exact this
    have hpS' : Hid (∀ i ∈ ob A, i ∉ S') := fun i hi hm => by
      rcases hS' i hm with h | h
      · exact hpS i hi h
      · have := HPL.out i hi; omega
    have HS := Lib.hid hS'
    clear hP hb hpr hpl hS'
    have e0 : IntKind.i64.wrap ((pn : Int) - t.a) = (t.xs.length : Int) := by have := h4.out; have := hpn2.out; rw [IntWalk.i64_in _ (by omega)]; omega
    have e1 : IntKind.i64.wrap ((t.a : Int) + 1) = (t.a : Int) + 1 := by have := h4.out; have := hpn2.out; rw [IntWalk.i64_in _ (by omega)]
    obtain ⟨m, hm⟩ : ∃ m, m = min win t.xs.length := ⟨_, rfl⟩
    have hxl : Hid ((t.xs.take m).length = m) := by unfold Hid; simp; omega
    have hdue := due_calls HB.out
    rw [← hm] at hdue
    have HM := Lib.hid hm
    clear hm
    have hrow : ∀ (W : World) (z lc : Nat), Reads W 2 (some ⟨z, 0, none⟩) m (itv cI (items (t.a + 1) (t.xs.take m))) → Reads W 1 A pn (ev cI put) → Calls Try.prog 46 #[.slice (some ⟨z, 0, none⟩) m lc, .int .i64 ((t.a : Int) + 1), .int .i64 m, .slice A pn pc] W fun e w' => e = .returned (.bool true) ∧ ∃ q, w' = W.drewN q := by
      intro W z lc h1 h2
      have h3 := row_yes (lc := lc) (pc := pc) (xs := t.xs.take m) (a := t.a) (by rw [hxl.out]; exact h1) h2 HPN.out (by rw [hxl.out]; have := hpn2.out; have := HM.out; omega) h4.out HP.out.take
      rw [hxl.out] at h3
      exact h3
    have HROW := Lib.hid hrow
    clear hrow
    by_cases hgt : win < t.xs.length
    · have hgt' : (win : Int) < (t.xs.length : Int) := by omega
      have hmw : m = win := by have := HM.out; omega
      subst hmw
      have hm0 : ¬ (m : Int) ≤ 0 := by have := HW.out; omega
      have ea : IntKind.i64.wrap ((t.a : Int) + (m : Nat)) = (t.a : Int) + (m : Nat) := IntWalk.i64_in _ (by have := hok.out.2.2; have := HM.out; omega)
      have hs5 : ¬ ((t.due m).s : Int) < (t.a : Int) + (m : Nat) := by
        have h1 : (t.due m).s = max t.s (t.a + min m t.xs.length) := rfl
        have := HM.out
        omega
      have E : Hid ((t.due m).ack ((t.a : Int) + (m : Nat)) = (0, ⟨t.a + m, (t.due m).s, t.xs.drop m⟩)) := by
        have e : ((t.a : Int) + (m : Nat)).toNat = t.a + m := by omega
        unfold Hid St.ack
        rw [if_neg (by omega), if_neg (by show ¬ ((t.a : Int) + (m : Nat) ≤ t.a); omega), e]
        show ((0 : Int), (⟨t.a + m, (t.due m).s, t.xs.drop (t.a + m - t.a)⟩ : St)) = _
        rw [Nat.add_sub_cancel_left]
      go_wp2_with (first
        | (go_at_call 13; refine (acked_calls HB.out).mono ?_; rintro e w' ⟨rfl, rfl⟩)
        | (go_at_call 17; refine hdue.mono ?_; rintro e w5 ⟨z, rfl, hr5, ⟨S5, hb5, hc5, hS5⟩, hz5⟩; have hp5 := HPR.out.keep hc5 hpS'.out)
        | (go_at_call 46; refine (HROW.out _ z m hr5.reads hp5).mono ?_; rintro e w' ⟨rfl, q, rfl⟩))
      refine (sent_calls (hb5.drewN q)).mono ?_
      rintro e w' ⟨rfl, rfl⟩
      have hack := ack_calls (hb5.drewN q) ((t.a : Int) + (m : Nat))
      rw [E.out] at hack
      dsimp only at hack
      go_wp2_with fail
      refine hack.mono ?_
      clear hack
      rintro e w6 ⟨rfl, S6, hb6, hc6, hS6⟩
      go_wp2_with (first
        | (go_at_call 11; refine (num_calls _ _).mono ?_; rintro e w' ⟨rfl, rfl⟩)
        | (go_at_call 13; refine (acked_calls hb6).mono ?_; rintro e w' ⟨rfl, rfl⟩))
      go_roundg (t.xs.length - m)
      case measure => have := HM.out; omega
      case rel =>
        have hS5' : ∀ i ∈ S5, i ∈ S ∨ w.heap.size ≤ i := fun i hi => by
          rcases hS5 i hi with h | h
          · exact HS.out i h
          · have := hc.size; exact .inr (by omega)
        have hS6' : ∀ i ∈ S6, i ∈ S ∨ w.heap.size ≤ i := fun i hi => by
          rcases hS6 i hi with h | h
          · exact hS5' i h
          · have h1 := hc.size; have h2 := (hc5.drewN q).size; exact .inr (by omega)
        exact ⟨S6, _, by simp, hb6, HP.out.drop (by have := HM.out; omega), hS6', ((hc.trans hc5 HS.out).drewN q).trans hc6 hS5'⟩
    · have hgt' : ¬ (win : Int) < (t.xs.length : Int) := by omega
      have hml : Hid (t.xs.length = m) := by have := HM.out; unfold Hid; omega
      rw [hml.out] at e0 hgt'
      by_cases h0 : m = 0
      · subst h0
        go_wp2_with (first
          | (go_at_call 13; refine (acked_calls HB.out).mono ?_; rintro e w' ⟨rfl, rfl⟩)
          | (go_at_call 17; refine hdue.mono ?_; rintro e w5 ⟨z, rfl, hr5, ⟨S5, hb5, hc5, hS5⟩, hz5⟩; have hp5 := HPR.out.keep hc5 hpS'.out)
          | (go_at_call 46; refine (HROW.out _ z 0 hr5.reads hp5).mono ?_; rintro e w' ⟨rfl, q, rfl⟩))
        refine (left_calls (hb5.drewN q)).mono ?_
        rintro e w6 ⟨z6, rfl, hr6, hc6, hz6⟩
        have hl6 : (t.due win).xs.length = 0 := hml.out
        go_wp2_with fail
        go_ret
        exact ⟨rfl, ((hc.trans hc5 HS.out).drewN q).next hc6⟩

      · have h0' : ¬ (m : Int) ≤ 0 := by omega
        have ea : IntKind.i64.wrap ((t.a : Int) + (m : Nat)) = (t.a : Int) + (m : Nat) := IntWalk.i64_in _ (by have := hok.out.2.2; have := HM.out; omega)
        have hs5 : ¬ ((t.due win).s : Int) < (t.a : Int) + (m : Nat) := by
          have h1 : (t.due win).s = max t.s (t.a + min win t.xs.length) := rfl
          have := HM.out
          omega
        have E : Hid ((t.due win).ack ((t.a : Int) + (m : Nat)) = (0, ⟨t.a + m, (t.due win).s, t.xs.drop m⟩)) := by
          have e : ((t.a : Int) + (m : Nat)).toNat = t.a + m := by omega
          unfold Hid St.ack
          rw [if_neg (by omega), if_neg (by show ¬ ((t.a : Int) + (m : Nat) ≤ t.a); omega), e]
          show ((0 : Int), (⟨t.a + m, (t.due win).s, t.xs.drop (t.a + m - t.a)⟩ : St)) = _
          rw [Nat.add_sub_cancel_left]
        go_wp2_with (first
          | (go_at_call 13; refine (acked_calls HB.out).mono ?_; rintro e w' ⟨rfl, rfl⟩)
          | (go_at_call 17; refine hdue.mono ?_; rintro e w5 ⟨z, rfl, hr5, ⟨S5, hb5, hc5, hS5⟩, hz5⟩; have hp5 := HPR.out.keep hc5 hpS'.out)
          | (go_at_call 46; refine (HROW.out _ z m hr5.reads hp5).mono ?_; rintro e w' ⟨rfl, q, rfl⟩))
        refine (sent_calls (hb5.drewN q)).mono ?_
        rintro e w' ⟨rfl, rfl⟩
        have hack := ack_calls (hb5.drewN q) ((t.a : Int) + (m : Nat))
        rw [E.out] at hack
        dsimp only at hack
        go_wp2_with fail
        refine hack.mono ?_
        clear hack
        rintro e w6 ⟨rfl, S6, hb6, hc6, hS6⟩
        go_wp2_with (first
          | (go_at_call 11; refine (num_calls _ _).mono ?_; rintro e w' ⟨rfl, rfl⟩)
          | (go_at_call 13; refine (acked_calls hb6).mono ?_; rintro e w' ⟨rfl, rfl⟩))
        go_roundg (t.xs.length - m)
        case measure => have := HM.out; omega
        case rel =>
          have hS5' : ∀ i ∈ S5, i ∈ S ∨ w.heap.size ≤ i := fun i hi => by
            rcases hS5 i hi with h | h
            · exact HS.out i h
            · have := hc.size; exact .inr (by omega)
          have hS6' : ∀ i ∈ S6, i ∈ S ∨ w.heap.size ≤ i := fun i hi => by
            rcases hS6 i hi with h | h
            · exact hS5' i h
            · have h1 := hc.size; have h2 := (hc5.drewN q).size; exact .inr (by omega)
          exact ⟨S6, _, by simp, hb6, HP.out.drop (by have := HM.out; omega), hS6', ((hc.trans hc5 HS.out).drewN q).trans hc6 hS5'⟩

end Go.Proofs.Ytphbhmppjafhkaa
