/-
  PROVED: what OutboxOwn's loop holds together: two outboxes and the kept lists, each in blocks of its own; the contracts of the calls in these words.
-/
import Derived.Test.YtphbhmppjafhkaaOwnM
namespace Go.Proofs.Ytphbhmppjafhkaa
open Go.RowKit

set_option maxRecDepth 100000 in
set_option maxHeartbeats 1000000 in
theorem due_exact {w : World} {p win : Nat} {S : List Nat} {t : St} (h : Box w p S win t) :
    Calls Try.prog 17 #[.pointer (some ⟨p, 0, none⟩)] w fun e w' => ∃ z, e = .returned (.slice (some ⟨z, 0, none⟩) (min win t.xs.length) (min win t.xs.length)) ∧ Row w' 38 2 (some ⟨z, 0, none⟩) (min win t.xs.length) (min win t.xs.length) (itv cI (items (t.a + 1) (t.xs.take (min win t.xs.length)))) ∧
      (Box w' p S win (t.due win) ∧ Chg S w w') ∧ w.heap.size ≤ z := by
  have hok := Lib.hid h.ok
  obtain ⟨A, cap, rfl, hb, hr, ⟨o1, o2, o3⟩, hw⟩ := h
  obtain ⟨a, s, xs⟩ := t
  simp only at *
  have HB := Lib.hid hb
  have HR := Lib.hid hr
  have c0 := hb.cell 0
  have c1 := hb.cell 1
  have c2 := hb.cell 2
  have c3 := hb.cell 3
  have f2 := hb.frozen 2
  clear hb hr
  by_cases hm : xs.length < win
  · by_cases hM : s < a + xs.length
    · have hM' : (s : Int) < (a : Int) + xs.length := by omega
      have e1 : IntKind.i64.wrap ((a : Int) + (xs.length : Nat)) = a + (xs.length : Nat) := IntWalk.i64_in _ (by omega)
      have em : Hid (min win xs.length = xs.length) := by unfold Hid; omega
      have eD : Hid (St.due ⟨a, s, xs⟩ win = ⟨a, a + xs.length, xs⟩) := by
        rw [Hid, St.due, em.out]
        simp only [St.mk.injEq, true_and, and_true]
        omega
      have hbox : ∀ W : World, Blk W p 83 #[.int .i64 win, .int .i64 a, .int .i64 s, .slice A xs.length cap] → Row W 3 1 A xs.length cap (ev cI xs) → Box (W.setCell ⟨p, 2, none⟩ (.int .i64 ((a : Int) + xs.length))) p (p :: ob A) win ⟨a, a + xs.length, xs⟩ := by
        intro W hbW hrW
        refine ⟨A, cap, rfl, ?_, hrW.keep (S := [p]) ((Chg.refl _ _).setCell (.inl (by simp)) _) (fun i hi hm => ?_), ⟨show a ≤ a + xs.length by omega, show a + xs.length ≤ a + xs.length by omega, o3⟩, hw⟩
        · have := hbW.set_ 2 (.int .i64 ((a : Int) + xs.length))
          simpa using this
        · simp at hm; subst hm; exact hrW.ne_blk hbW (by decide) _ hi rfl
      have HX := Lib.hid hbox
      clear hbox
      go_enter Try.func17, Try.ntmps17
      go_wp2_with fail
      go_quiet (fail)
      go_wp2_with fail
      have hb2 := HB.out.drewN nq
      have hr2 := HR.out.drewN nq
      go_region_law (fail)
      all_goals
        go_wp2_with fail
        refine Calls.mono (first_calls (HX.out _ ?_ ?_) (n := xs.length) ?_) ?_
        · exact hb2
        · exact hr2
        · show xs.length ≤ xs.length
          omega
        rintro e w4 ⟨z, rfl, hr4, hc4, hz4⟩
        go_wp2_with fail
        go_ret
        rw [em.out, eD.out]
        refine ⟨z, rfl, hr4, ⟨(HX.out _ ?_ ?_).keep hc4 (by simp), ?_⟩, ?_⟩
        · exact hb2
        · exact hr2
        · refine Chg.next ?_ hc4
          first
            | exact (((Chg.refl (p :: ob A) w).drewN _).drew).setCell (.inl (by simp)) _
            | exact (((Chg.refl (p :: ob A) w).drewN _).drewN _).setCell (.inl (by simp)) _
            | exact ((Chg.refl (p :: ob A) w).drewN _).setCell (.inl (by simp)) _
        · simpa using hz4
    · have hM' : ¬ (s : Int) < (a : Int) + xs.length := by omega
      have e1 : IntKind.i64.wrap ((a : Int) + (xs.length : Nat)) = a + (xs.length : Nat) := IntWalk.i64_in _ (by omega)
      have em : Hid (min win xs.length = xs.length) := by unfold Hid; omega
      have eD : Hid (St.due ⟨a, s, xs⟩ win = ⟨a, s, xs⟩) := by
        rw [Hid, St.due, em.out]
        simp only [St.mk.injEq, true_and, and_true]
        omega
      have hbox : ∀ W : World, Blk W p 83 #[.int .i64 win, .int .i64 a, .int .i64 s, .slice A xs.length cap] → Row W 3 1 A xs.length cap (ev cI xs) → Box (W.setCell ⟨p, 2, none⟩ (.int .i64 ((s : Int)))) p (p :: ob A) win ⟨a, s, xs⟩ := by
        intro W hbW hrW
        refine ⟨A, cap, rfl, ?_, hrW.keep (S := [p]) ((Chg.refl _ _).setCell (.inl (by simp)) _) (fun i hi hm => ?_), ⟨show a ≤ s by omega, show s ≤ a + xs.length by omega, o3⟩, hw⟩
        · have := hbW.set_ 2 (.int .i64 ((s : Int)))
          simpa using this
        · simp at hm; subst hm; exact hrW.ne_blk hbW (by decide) _ hi rfl
      have HX := Lib.hid hbox
      clear hbox
      go_enter Try.func17, Try.ntmps17
      go_wp2_with fail
      go_quiet (fail)
      go_wp2_with fail
      have hb2 := HB.out.drewN nq
      have hr2 := HR.out.drewN nq
      go_region_law (fail)
      all_goals
        go_wp2_with fail
        refine Calls.mono (first_calls (HX.out _ ?_ ?_) (n := xs.length) ?_) ?_
        · exact hb2
        · exact hr2
        · show xs.length ≤ xs.length
          omega
        rintro e w4 ⟨z, rfl, hr4, hc4, hz4⟩
        go_wp2_with fail
        go_ret
        rw [em.out, eD.out]
        refine ⟨z, rfl, hr4, ⟨(HX.out _ ?_ ?_).keep hc4 (by simp), ?_⟩, ?_⟩
        · exact hb2
        · exact hr2
        · refine Chg.next ?_ hc4
          first
            | exact (((Chg.refl (p :: ob A) w).drewN _).drew).setCell (.inl (by simp)) _
            | exact (((Chg.refl (p :: ob A) w).drewN _).drewN _).setCell (.inl (by simp)) _
            | exact ((Chg.refl (p :: ob A) w).drewN _).setCell (.inl (by simp)) _
        · simpa using hz4
  · by_cases hM : s < a + win
    · have hM' : (s : Int) < (a : Int) + win := by omega
      have e1 : IntKind.i64.wrap ((a : Int) + (win : Nat)) = a + (win : Nat) := IntWalk.i64_in _ (by omega)
      have em : Hid (min win xs.length = win) := by unfold Hid; omega
      have eD : Hid (St.due ⟨a, s, xs⟩ win = ⟨a, a + win, xs⟩) := by
        rw [Hid, St.due, em.out]
        simp only [St.mk.injEq, true_and, and_true]
        omega
      have hbox : ∀ W : World, Blk W p 83 #[.int .i64 win, .int .i64 a, .int .i64 s, .slice A xs.length cap] → Row W 3 1 A xs.length cap (ev cI xs) → Box (W.setCell ⟨p, 2, none⟩ (.int .i64 ((a : Int) + win))) p (p :: ob A) win ⟨a, a + win, xs⟩ := by
        intro W hbW hrW
        refine ⟨A, cap, rfl, ?_, hrW.keep (S := [p]) ((Chg.refl _ _).setCell (.inl (by simp)) _) (fun i hi hm => ?_), ⟨show a ≤ a + win by omega, show a + win ≤ a + xs.length by omega, o3⟩, hw⟩
        · have := hbW.set_ 2 (.int .i64 ((a : Int) + win))
          simpa using this
        · simp at hm; subst hm; exact hrW.ne_blk hbW (by decide) _ hi rfl
      have HX := Lib.hid hbox
      clear hbox
      go_enter Try.func17, Try.ntmps17
      go_wp2_with fail
      go_quiet (fail)
      go_wp2_with fail
      have hb2 := HB.out.drewN nq
      have hr2 := HR.out.drewN nq
      go_region_law (fail)
      all_goals
        go_wp2_with fail
        refine Calls.mono (first_calls (HX.out _ ?_ ?_) (n := win) ?_) ?_
        · exact hb2
        · exact hr2
        · show win ≤ xs.length
          omega
        rintro e w4 ⟨z, rfl, hr4, hc4, hz4⟩
        go_wp2_with fail
        go_ret
        rw [em.out, eD.out]
        refine ⟨z, rfl, hr4, ⟨(HX.out _ ?_ ?_).keep hc4 (by simp), ?_⟩, ?_⟩
        · exact hb2
        · exact hr2
        · refine Chg.next ?_ hc4
          first
            | exact (((Chg.refl (p :: ob A) w).drewN _).drew).setCell (.inl (by simp)) _
            | exact (((Chg.refl (p :: ob A) w).drewN _).drewN _).setCell (.inl (by simp)) _
            | exact ((Chg.refl (p :: ob A) w).drewN _).setCell (.inl (by simp)) _
        · simpa using hz4
    · have hM' : ¬ (s : Int) < (a : Int) + win := by omega
      have e1 : IntKind.i64.wrap ((a : Int) + (win : Nat)) = a + (win : Nat) := IntWalk.i64_in _ (by omega)
      have em : Hid (min win xs.length = win) := by unfold Hid; omega
      have eD : Hid (St.due ⟨a, s, xs⟩ win = ⟨a, s, xs⟩) := by
        rw [Hid, St.due, em.out]
        simp only [St.mk.injEq, true_and, and_true]
        omega
      have hbox : ∀ W : World, Blk W p 83 #[.int .i64 win, .int .i64 a, .int .i64 s, .slice A xs.length cap] → Row W 3 1 A xs.length cap (ev cI xs) → Box (W.setCell ⟨p, 2, none⟩ (.int .i64 ((s : Int)))) p (p :: ob A) win ⟨a, s, xs⟩ := by
        intro W hbW hrW
        refine ⟨A, cap, rfl, ?_, hrW.keep (S := [p]) ((Chg.refl _ _).setCell (.inl (by simp)) _) (fun i hi hm => ?_), ⟨show a ≤ s by omega, show s ≤ a + xs.length by omega, o3⟩, hw⟩
        · have := hbW.set_ 2 (.int .i64 ((s : Int)))
          simpa using this
        · simp at hm; subst hm; exact hrW.ne_blk hbW (by decide) _ hi rfl
      have HX := Lib.hid hbox
      clear hbox
      go_enter Try.func17, Try.ntmps17
      go_wp2_with fail
      go_quiet (fail)
      go_wp2_with fail
      have hb2 := HB.out.drewN nq
      have hr2 := HR.out.drewN nq
      go_region_law (fail)
      all_goals
        go_wp2_with fail
        refine Calls.mono (first_calls (HX.out _ ?_ ?_) (n := win) ?_) ?_
        · exact hb2
        · exact hr2
        · show win ≤ xs.length
          omega
        rintro e w4 ⟨z, rfl, hr4, hc4, hz4⟩
        go_wp2_with fail
        go_ret
        rw [em.out, eD.out]
        refine ⟨z, rfl, hr4, ⟨(HX.out _ ?_ ?_).keep hc4 (by simp), ?_⟩, ?_⟩
        · exact hb2
        · exact hr2
        · refine Chg.next ?_ hc4
          first
            | exact (((Chg.refl (p :: ob A) w).drewN _).drew).setCell (.inl (by simp)) _
            | exact (((Chg.refl (p :: ob A) w).drewN _).drewN _).setCell (.inl (by simp)) _
            | exact ((Chg.refl (p :: ob A) w).drewN _).setCell (.inl (by simp)) _
        · simpa using hz4

/-- Blocks B stand as they stood. -/
def Far (B : List Nat) (w w' : World) : Prop := ∃ S, Chg S w w' ∧ ∀ i ∈ B, i ∉ S

theorem Far.of {B : List Nat} {w w' : World} (h : Chg [] w w') : Far B w w' := ⟨[], h, by simp⟩
theorem Far.blk {B : List Nat} {w w' : World} {g : Nat} {t : TypeId} {cs : Array Value} (h : Far B w w') (hb : Blk w g t cs) (hg : g ∈ B) : Blk w' g t cs := by
  obtain ⟨S, hc, hS⟩ := h
  exact hb.keep hc (hS g hg)
theorem Far.row {B : List Nat} {w w' : World} {e : TypeId} {sz n cap g : Nat} {xs : List Value} (h : Far B w w') (hb : Row w e sz (some ⟨g, 0, none⟩) n cap xs) (hg : g ∈ B) : Row w' e sz (some ⟨g, 0, none⟩) n cap xs := by
  obtain ⟨S, hc, hS⟩ := h
  exact hb.keep hc (fun i hi => by simp [ob] at hi; subst hi; exact hS _ hg)
theorem Far.size {B : List Nat} {w w' : World} (h : Far B w w') : w.heap.size ≤ w'.heap.size := by
  obtain ⟨S, hc, _⟩ := h
  exact hc.size

theorem KeptAt.lt {w : World} {q : Nat} {Q C : List Nat} {ks : List (List (Int × Int))} (h : KeptAt w q Q C ks) : ∀ k ∈ Q ++ C, k < w.heap.size := by
  obtain ⟨LA, LC, WA, WC, ls, ws, rfl, hK⟩ := h
  intro k hk
  rcases List.mem_append.1 hk with hk | hk
  · rcases List.mem_cons.1 hk with rfl | hk
    · exact hK.1.lt
    · rcases List.mem_append.1 hk with hk | hk
      · exact hK.2.1.lt k hk
      · exact hK.2.2.1.lt k hk
  · exact hK.2.2.2.2.2.2.2 k hk

theorem KeptAt.none_ (w : World) : KeptAt (w.alloc (.cells #[.slice none 0 0, .slice none 0 0] 44)) w.heap.size [w.heap.size] [] [] :=
  ⟨none, 0, none, 0, [], [], rfl, Blk.new _ _ _, Row.nil _ _ _, Row.nil _ _ _, by simp [Apart, ob], by simp [Contents], by simp [Contents], by simp, by simp⟩

/-- The two outboxes d and w and the kept lists, in blocks that are nobody's but theirs, none of them among B. -/
def OSt (w wr : World) (pd pw q : Nat) (rd rw : St) (N : Nat) (B : List Nat) : Prop :=
  ∃ Sd Sw Q C ks, Box wr pd Sd 5 rd ∧ Box wr pw Sw 5 rw ∧ KeptAt wr q Q C ks ∧ ks.length ≤ N ∧ Apart Sd Sw ∧ Apart (Q ++ C) Sd ∧ Apart (Q ++ C) Sw ∧
    (∀ k ∈ Sd ++ (Sw ++ (Q ++ C)), w.heap.size ≤ k) ∧ (∀ k ∈ Sd ++ (Sw ++ (Q ++ C)), k ∉ B) ∧ Chg [] w wr

namespace OSt
variable {w wr : World} {pd pw q N : Nat} {rd rw : St} {B : List Nat}

theorem chg (h : OSt w wr pd pw q rd rw N B) : Chg [] w wr := by
  obtain ⟨Sd, Sw, Q, C, ks, hd, hw, hK, hN, a1, a2, a3, hl, hB, hc⟩ := h
  exact hc

theorem keep {w' : World} {B' : List Nat} (h : OSt w wr pd pw q rd rw N B) (c : Chg [] wr w') (hB' : ∀ i ∈ B', i ∈ B ∨ wr.heap.size ≤ i) : OSt w w' pd pw q rd rw N B' := by
  obtain ⟨Sd, Sw, Q, C, ks, hd, hw, hK, hN, a1, a2, a3, hl, hB, hc⟩ := h
  refine ⟨Sd, Sw, Q, C, ks, hd.keep c (by simp), hw.keep c (by simp), hK.keep c (by simp) (by simp), hN, a1, a2, a3, hl, ?_, hc.next c⟩
  intro k hk hm
  rcases hB' k hm with h | h
  · exact hB k hk h
  · have : k < wr.heap.size := by
      rcases List.mem_append.1 hk with hk | hk
      · exact hd.lt k hk
      · rcases List.mem_append.1 hk with hk | hk
        · exact hw.lt k hk
        · exact hK.lt k hk
    omega

theorem more (h : OSt w wr pd pw q rd rw N B) {M : Nat} (hM : N ≤ M) : OSt w wr pd pw q rd rw M B := by
  obtain ⟨Sd, Sw, Q, C, ks, hd, hw, hK, hN, r⟩ := h
  exact ⟨Sd, Sw, Q, C, ks, hd, hw, hK, by omega, r⟩

theorem drewN (h : OSt w wr pd pw q rd rw N B) (n : Nat) : OSt w (wr.drewN n) pd pw q rd rw N B := h.keep ((Chg.refl _ _).drewN n) (fun _ hi => .inl hi)

/-- The first file stepped. -/
theorem stepD {w' : World} {r : St} {Sd Sw Q C : List Nat} {ks : List (List (Int × Int))}
    (_hd : Box wr pd Sd 5 rd) (hw : Box wr pw Sw 5 rw) (hK : KeptAt wr q Q C ks) (hN : ks.length ≤ N) (a1 : Apart Sd Sw) (a2 : Apart (Q ++ C) Sd) (a3 : Apart (Q ++ C) Sw)
    (hl : ∀ k ∈ Sd ++ (Sw ++ (Q ++ C)), w.heap.size ≤ k) (hB : ∀ k ∈ Sd ++ (Sw ++ (Q ++ C)), k ∉ B) (hc : Chg [] w wr) (hBl : ∀ i ∈ B, i < wr.heap.size) (h : Left wr pd Sd 5 r w') :
    OSt w w' pd pw q r rw N B ∧ Far B wr w' := by
  obtain ⟨S', hd', hc', hS⟩ := h
  have hsz := hc.size
  have e1 : ∀ i ∈ Sd, w.heap.size ≤ i := fun i hi => hl i (by simp [hi])
  have e2 : ∀ i ∈ S', w.heap.size ≤ i ∧ i ∉ B := fun i hi => by
    rcases hS i hi with h | h
    · exact ⟨hl i (by simp [h]), hB i (by simp [h])⟩
    · exact ⟨by omega, fun hm => by have := hBl i hm; omega⟩
  refine ⟨⟨S', Sw, Q, C, ks, hd', hw.keep hc' (fun i hi hm => a1 i hm hi), hK.keep hc' (fun i hi hm => a2 i (by simp [hi]) hm) (fun i hi hm => a2 i (by simp [hi]) hm), hN, a1.next hS hw.lt, (a2.symm.next hS hK.lt).symm, a3, ?_, ?_, hc.trans hc' (fun i hi => .inr (e1 i hi))⟩, Sd, hc', fun i hi hm => hB i (by simp [hm]) hi⟩
  · intro k hk
    rcases List.mem_append.1 hk with hk | hk
    · exact (e2 k hk).1
    · exact hl k (List.mem_append.2 (.inr hk))
  · intro k hk
    rcases List.mem_append.1 hk with hk | hk
    · exact (e2 k hk).2
    · exact hB k (List.mem_append.2 (.inr hk))

/-- The second file stepped. -/
theorem stepW {w' : World} {r : St} {Sd Sw Q C : List Nat} {ks : List (List (Int × Int))}
    (hd : Box wr pd Sd 5 rd) (_hw : Box wr pw Sw 5 rw) (hK : KeptAt wr q Q C ks) (hN : ks.length ≤ N) (a1 : Apart Sd Sw) (a2 : Apart (Q ++ C) Sd) (a3 : Apart (Q ++ C) Sw)
    (hl : ∀ k ∈ Sd ++ (Sw ++ (Q ++ C)), w.heap.size ≤ k) (hB : ∀ k ∈ Sd ++ (Sw ++ (Q ++ C)), k ∉ B) (hc : Chg [] w wr) (hBl : ∀ i ∈ B, i < wr.heap.size) (h : Left wr pw Sw 5 r w') :
    OSt w w' pd pw q rd r N B ∧ Far B wr w' := by
  obtain ⟨S', hd', hc', hS⟩ := h
  have hsz := hc.size
  have e1 : ∀ i ∈ Sw, w.heap.size ≤ i := fun i hi => hl i (by simp [hi])
  have e2 : ∀ i ∈ S', w.heap.size ≤ i ∧ i ∉ B := fun i hi => by
    rcases hS i hi with h | h
    · exact ⟨hl i (by simp [h]), hB i (by simp [h])⟩
    · exact ⟨by omega, fun hm => by have := hBl i hm; omega⟩
  refine ⟨⟨Sd, S', Q, C, ks, hd.keep hc' (fun i hi hm => a1 i hi hm), hd', hK.keep hc' (fun i hi hm => a3 i (by simp [hi]) hm) (fun i hi hm => a3 i (by simp [hi]) hm), hN, (a1.symm.next hS hd.lt).symm, a2, (a3.symm.next hS hK.lt).symm, ?_, ?_, hc.trans hc' (fun i hi => .inr (e1 i hi))⟩, Sw, hc', fun i hi hm => hB i (by simp [hm]) hi⟩
  · intro k hk
    rcases List.mem_append.1 hk with hk | hk
    · exact hl k (List.mem_append.2 (.inl hk))
    · rcases List.mem_append.1 hk with hk | hk
      · exact (e2 k hk).1
      · exact hl k (by simp only [List.mem_append] at hk ⊢; exact .inr (.inr hk))
  · intro k hk
    rcases List.mem_append.1 hk with hk | hk
    · exact hB k (List.mem_append.2 (.inl hk))
    · rcases List.mem_append.1 hk with hk | hk
      · exact (e2 k hk).2
      · exact hB k (by simp only [List.mem_append] at hk ⊢; exact .inr (.inr hk))

theorem actD (h : OSt w wr pd pw q rd rw N B) (hBl : ∀ i ∈ B, i < wr.heap.size) (o : GOp) :
    Calls Try.prog 19 #[.pointer (some ⟨pd, 0, none⟩), o.val] wr fun e w' => e = .returned (.int .i64 (actF o 5 rd).1) ∧ OSt w w' pd pw q (actF o 5 rd).2 rw N B ∧ Far B wr w' := by
  obtain ⟨Sd, Sw, Q, C, ks, hd, hw, hK, hN, a1, a2, a3, hl, hB, hc⟩ := h
  exact (act_calls hd o).mono fun e w' ⟨he, hL⟩ => ⟨he, stepD hd hw hK hN a1 a2 a3 hl hB hc hBl hL⟩
theorem actW (h : OSt w wr pd pw q rd rw N B) (hBl : ∀ i ∈ B, i < wr.heap.size) (o : GOp) :
    Calls Try.prog 19 #[.pointer (some ⟨pw, 0, none⟩), o.val] wr fun e w' => e = .returned (.int .i64 (actF o 5 rw).1) ∧ OSt w w' pd pw q rd (actF o 5 rw).2 N B ∧ Far B wr w' := by
  obtain ⟨Sd, Sw, Q, C, ks, hd, hw, hK, hN, a1, a2, a3, hl, hB, hc⟩ := h
  exact (act_calls hw o).mono fun e w' ⟨he, hL⟩ => ⟨he, stepW hd hw hK hN a1 a2 a3 hl hB hc hBl hL⟩

theorem grow {w' : World} {z : Nat} (h : OSt w wr pd pw q rd rw N B) (c : Chg [] wr w') (hz : wr.heap.size ≤ z) : OSt w w' pd pw q rd rw N (z :: B) :=
  h.keep c (fun i hi => by
    rcases List.mem_cons.1 hi with rfl | hi
    · exact .inr hz
    · exact .inl hi)
theorem leftD (h : OSt w wr pd pw q rd rw N B) : Calls Try.prog 22 #[.pointer (some ⟨pd, 0, none⟩)] wr fun e w' => ∃ z, e = .returned (.slice (some ⟨z, 0, none⟩) rd.xs.length rd.xs.length) ∧ Row w' 38 2 (some ⟨z, 0, none⟩) rd.xs.length rd.xs.length (itv cI (items (rd.a + 1) rd.xs)) ∧
    OSt w w' pd pw q rd rw N (z :: B) ∧ Far B wr w' ∧ wr.heap.size ≤ z := by
  have h' := h
  obtain ⟨Sd, Sw, Q, C, ks, hd, _⟩ := h'
  exact (left_calls hd).mono fun e w' ⟨z, he, hr, hc, hz⟩ => ⟨z, he, hr, h.grow hc hz, Far.of hc, hz⟩
theorem leftW (h : OSt w wr pd pw q rd rw N B) : Calls Try.prog 22 #[.pointer (some ⟨pw, 0, none⟩)] wr fun e w' => ∃ z, e = .returned (.slice (some ⟨z, 0, none⟩) rw.xs.length rw.xs.length) ∧ Row w' 38 2 (some ⟨z, 0, none⟩) rw.xs.length rw.xs.length (itv cI (items (rw.a + 1) rw.xs)) ∧
    OSt w w' pd pw q rd rw N (z :: B) ∧ Far B wr w' ∧ wr.heap.size ≤ z := by
  have h' := h
  obtain ⟨Sd, Sw, Q, C, ks, _, hd, _⟩ := h'
  exact (left_calls hd).mono fun e w' ⟨z, he, hr, hc, hz⟩ => ⟨z, he, hr, h.grow hc hz, Far.of hc, hz⟩
theorem dueD (h : OSt w wr pd pw q rd rw N B) : Calls Try.prog 17 #[.pointer (some ⟨pd, 0, none⟩)] wr fun e w' => ∃ z, e = .returned (.slice (some ⟨z, 0, none⟩) (min 5 rd.xs.length) (min 5 rd.xs.length)) ∧ Row w' 38 2 (some ⟨z, 0, none⟩) (min 5 rd.xs.length) (min 5 rd.xs.length) (itv cI (items (rd.a + 1) (rd.xs.take (min 5 rd.xs.length)))) ∧
    OSt w w' pd pw q (rd.due 5) rw N (z :: B) ∧ Far B wr w' ∧ wr.heap.size ≤ z := by
  obtain ⟨Sd, Sw, Q, C, ks, hd, hw, hK, hN, a1, a2, a3, hl, hB, hc⟩ := h
  refine (due_exact hd).mono fun e w' ⟨z, he, hr, ⟨hd', hc'⟩, hz⟩ => ⟨z, he, hr, ⟨Sd, Sw, Q, C, ks, hd', hw.keep hc' (fun i hi hm => a1 i hm hi), hK.keep hc' (fun i hi hm => a2 i (by simp [hi]) hm) (fun i hi hm => a2 i (by simp [hi]) hm), hN, a1, a2, a3, hl, ?_, hc.trans hc' (fun i hi => .inr (hl i (by simp [hi])))⟩, ⟨Sd, hc', fun i hi hm => hB i (by simp [hm]) hi⟩, hz⟩
  intro k hk hm
  rcases List.mem_cons.1 hm with rfl | hm
  · rcases List.mem_append.1 hk with hk | hk
    · have := hd.lt k hk; omega
    · rcases List.mem_append.1 hk with hk | hk
      · have := hw.lt k hk; omega
      · have := hK.lt k hk; omega
  · exact hB k hk hm
theorem dueW (h : OSt w wr pd pw q rd rw N B) : Calls Try.prog 17 #[.pointer (some ⟨pw, 0, none⟩)] wr fun e w' => ∃ z, e = .returned (.slice (some ⟨z, 0, none⟩) (min 5 rw.xs.length) (min 5 rw.xs.length)) ∧ Row w' 38 2 (some ⟨z, 0, none⟩) (min 5 rw.xs.length) (min 5 rw.xs.length) (itv cI (items (rw.a + 1) (rw.xs.take (min 5 rw.xs.length)))) ∧
    OSt w w' pd pw q rd (rw.due 5) N (z :: B) ∧ Far B wr w' ∧ wr.heap.size ≤ z := by
  obtain ⟨Sd, Sw, Q, C, ks, hd, hw, hK, hN, a1, a2, a3, hl, hB, hc⟩ := h
  refine (due_exact hw).mono fun e w' ⟨z, he, hr, ⟨hw', hc'⟩, hz⟩ => ⟨z, he, hr, ⟨Sd, Sw, Q, C, ks, hd.keep hc' (fun i hi hm => a1 i hi hm), hw', hK.keep hc' (fun i hi hm => a3 i (by simp [hi]) hm) (fun i hi hm => a3 i (by simp [hi]) hm), hN, a1, a2, a3, hl, ?_, hc.trans hc' (fun i hi => .inr (hl i (by simp [hi])))⟩, ⟨Sw, hc', fun i hi hm => hB i (by simp [hm]) hi⟩, hz⟩
  intro k hk hm
  rcases List.mem_cons.1 hm with rfl | hm
  · rcases List.mem_append.1 hk with hk | hk
    · have := hd.lt k hk; omega
    · rcases List.mem_append.1 hk with hk | hk
      · have := hw.lt k hk; omega
      · have := hK.lt k hk; omega
  · exact hB k hk hm
theorem lastD (h : OSt w wr pd pw q rd rw N B) : Calls Try.prog 15 #[.pointer (some ⟨pd, 0, none⟩)] wr fun e w' => e = .returned (.int .i64 rd.last) ∧ ∃ q, w' = wr.drewN q := by
  obtain ⟨Sd, Sw, Q, C, ks, hd, _⟩ := h
  exact last_calls hd
theorem lastW (h : OSt w wr pd pw q rd rw N B) : Calls Try.prog 15 #[.pointer (some ⟨pw, 0, none⟩)] wr fun e w' => e = .returned (.int .i64 rw.last) ∧ ∃ q, w' = wr.drewN q := by
  obtain ⟨Sd, Sw, Q, C, ks, _, hd, _⟩ := h
  exact last_calls hd
theorem ackedD (h : OSt w wr pd pw q rd rw N B) : Calls Try.prog 13 #[.pointer (some ⟨pd, 0, none⟩)] wr fun e w' => e = .returned (.int .i64 rd.a) ∧ wr = w' := by
  obtain ⟨Sd, Sw, Q, C, ks, hd, _⟩ := h
  exact acked_calls hd
theorem ackedW (h : OSt w wr pd pw q rd rw N B) : Calls Try.prog 13 #[.pointer (some ⟨pw, 0, none⟩)] wr fun e w' => e = .returned (.int .i64 rw.a) ∧ wr = w' := by
  obtain ⟨Sd, Sw, Q, C, ks, _, hd, _⟩ := h
  exact acked_calls hd
theorem okD (h : OSt w wr pd pw q rd rw N B) : rd.Ok := by
  obtain ⟨Sd, Sw, Q, C, ks, hd, _⟩ := h
  exact hd.ok
theorem kept (h : OSt w wr pd pw q rd rw N B) : ∃ Q C ks, KeptAt wr q Q C ks ∧ ks.length ≤ N := by
  obtain ⟨Sd, Sw, Q, C, ks, _, _, hK, hk, _⟩ := h
  exact ⟨Q, C, ks, hK, hk⟩

/-- A list marked: its block is the kept lists' from there. -/
theorem marked {g n : Nat} {bs : List (Int × Int)} {m : Int} {B' : List Nat} (h : OSt w wr pd pw q rd rw N B) (hBl : ∀ i ∈ B, i < wr.heap.size) (hN : N + 2 ≤ 67108864) (hb : Row wr 38 2 (some ⟨g, 0, none⟩) n n (itv cI bs)) (hn : n ≤ 4096)
    (hg : g ∈ B) (hgw : w.heap.size ≤ g) (hB' : ∀ i ∈ B', i ∈ B ∧ i ≠ g) :
    Calls Try.prog 21 #[.pointer (some ⟨q, 0, none⟩), .slice (some ⟨g, 0, none⟩) n n, .int .i64 m] wr fun e w' => e = .returned (.tuple #[]) ∧ OSt w w' pd pw q rd rw (N + 2) B' ∧ Far B' wr w' := by
  obtain ⟨Sd, Sw, Q, C, ks, hd, hw, hK, hk, a1, a2, a3, hl, hB, hc⟩ := h
  have hgd : g ∉ Sd := fun hm => hB g (by simp [hm]) hg
  have hgW : g ∉ Sw := fun hm => hB g (by simp [hm]) hg
  have hgQ : g ∉ Q := fun hm => hB g (by simp [hm]) hg
  have hgC : g ∉ C := fun hm => hB g (by simp [hm]) hg
  refine (marked_calls hK (by omega) hb hn hgC hgQ).mono ?_
  rintro e w' ⟨rfl, Q', C', ks', hK', hl', hc', hQ', hC'⟩
  have hsz := hc.size
  have eQ : ∀ i ∈ g :: Q, w.heap.size ≤ i := fun i hi => by
    rcases List.mem_cons.1 hi with rfl | hi
    · exact hgw
    · exact hl i (by simp [hi])
  have nd : ∀ i ∈ Sd, i ∉ g :: Q := fun i hi hm => by
    rcases List.mem_cons.1 hm with rfl | hm
    · exact hgd hi
    · exact a2 i (by simp [hm]) hi
  have nw : ∀ i ∈ Sw, i ∉ g :: Q := fun i hi hm => by
    rcases List.mem_cons.1 hm with rfl | hm
    · exact hgW hi
    · exact a3 i (by simp [hm]) hi
  have part : ∀ i ∈ Q' ++ C', i ∈ Q ++ C ∨ i = g ∨ wr.heap.size ≤ i := fun i hi => by
    rcases List.mem_append.1 hi with hi | hi
    · rcases hQ' i hi with h | h
      · exact .inl (by simp [h])
      · exact .inr (.inr h)
    · rcases hC' i hi with h | h | h
      · exact .inl (by simp [h])
      · exact .inr (.inl h)
      · exact .inr (.inr h)
  refine ⟨rfl, ⟨Sd, Sw, Q', C', ks', hd.keep hc' nd, hw.keep hc' nw, hK', by omega, a1, ?_, ?_, ?_, ?_, hc.trans hc' (fun i hi => .inr (eQ i hi))⟩, g :: Q, hc', ?_⟩
  · intro i hi hm
    rcases part i hi with h | rfl | h
    · exact a2 i h hm
    · exact hgd hm
    · have := hd.lt i hm; omega
  · intro i hi hm
    rcases part i hi with h | rfl | h
    · exact a3 i h hm
    · exact hgW hm
    · have := hw.lt i hm; omega
  · intro i hi
    rcases List.mem_append.1 hi with hi | hi
    · exact hl i (by simp [hi])
    · rcases List.mem_append.1 hi with hi | hi
      · exact hl i (by simp [hi])
      · rcases part i hi with h | rfl | h
        · exact hl i (by simp only [List.mem_append] at h ⊢; exact .inr (.inr h))
        · exact hgw
        · omega
  · intro i hi hm
    obtain ⟨hm1, hm2⟩ := hB' i hm
    rcases List.mem_append.1 hi with hi | hi
    · exact hB i (by simp [hi]) hm1
    · rcases List.mem_append.1 hi with hi | hi
      · exact hB i (by simp [hi]) hm1
      · rcases part i hi with h | rfl | h
        · exact hB i (by simp only [List.mem_append] at h ⊢; exact .inr (.inr h)) hm1
        · exact hm2 rfl
        · have := hBl i hm1; omega
  · intro i hi hm
    obtain ⟨hm1, hm2⟩ := hB' i hi
    rcases List.mem_cons.1 hm with rfl | hm
    · exact hm2 rfl
    · exact hB i (by simp [hm]) hm1
end OSt

end Go.Proofs.Ytphbhmppjafhkaa
