/-
  PROVED: the lists kept by OutboxOwn's Kept: its words.
-/
import Derived.Test.YtphbhmppjafhkaaS
import Derived.Test.YtphbhmppjafhkaaPair
namespace Go.Proofs.Ytphbhmppjafhkaa
open Go.RowKit

/-- The slice values xs are rows of their own that read as the lists ks, and lie in the blocks C. -/
def Contents (w : World) (C : List Nat) (xs : List Value) (ks : List (List (Int × Int))) : Prop :=
  xs.length = ks.length ∧ ∀ (i : Nat) (k : List (Int × Int)), ks[i]? = some k → ∃ A n c, xs[i]? = some (Value.slice A n c) ∧ Row w 38 2 A n c (itv cI k) ∧ n ≤ 8192 ∧ ∀ b ∈ ob A, b ∈ C
theorem Contents.nil (w : World) (C : List Nat) : Contents w C [] [] := ⟨rfl, fun i k h => by simp at h⟩
theorem Contents.one {w : World} {C : List Nat} {A : Option Addr} {n c : Nat} {k : List (Int × Int)} (hr : Row w 38 2 A n c (itv cI k)) (hn : n ≤ 8192) (hC : ∀ b ∈ ob A, b ∈ C) : Contents w C [.slice A n c] [k] :=
  ⟨rfl, fun i k' h => by
    cases i with
    | zero =>
      simp at h
      subst h
      exact ⟨A, n, c, rfl, hr, hn, hC⟩
    | succ i => simp at h⟩
theorem Contents.keep {w w' : World} {C T : List Nat} {xs : List Value} {ks : List (List (Int × Int))} (h : Contents w C xs ks) (hc : Chg T w w') (hT : ∀ b ∈ C, b ∉ T) : Contents w' C xs ks :=
  ⟨h.1, fun i k hk => by
    obtain ⟨A, n, c, h1, h2, h3, h4⟩ := h.2 i k hk
    exact ⟨A, n, c, h1, h2.keep hc (fun b hb => hT b (h4 b hb)), h3, h4⟩⟩
theorem Contents.mono {w : World} {C D : List Nat} {xs : List Value} {ks : List (List (Int × Int))} (h : Contents w C xs ks) (hD : ∀ b ∈ C, b ∈ D) : Contents w D xs ks :=
  ⟨h.1, fun i k hk => by
    obtain ⟨A, n, c, h1, h2, h3, h4⟩ := h.2 i k hk
    exact ⟨A, n, c, h1, h2, h3, fun b hb => hD b (h4 b hb)⟩⟩
theorem Contents.app {w : World} {C : List Nat} {xs ys : List Value} {ks ls : List (List (Int × Int))} (h : Contents w C xs ks) (g : Contents w C ys ls) : Contents w C (xs ++ ys) (ks ++ ls) :=
  ⟨by simp [h.1, g.1], fun i k hk => by
    by_cases hi : i < ks.length
    · rw [List.getElem?_append_left hi] at hk
      rw [List.getElem?_append_left (by rw [h.1]; exact hi)]
      exact h.2 i k hk
    · rw [List.getElem?_append_right (by omega)] at hk
      rw [List.getElem?_append_right (by rw [h.1]; omega), h.1]
      exact g.2 _ k hk⟩

/-- Kept behind block q: its lists of slices (rows of their own), of so many entries each, and what they read as. -/
def KSt (w : World) (q : Nat) (LA : Option Addr) (LC : Nat) (WA : Option Addr) (WC : Nat) (ls ws : List Value) (kl kw : List (List (Int × Int))) (C : List Nat) : Prop :=
  Blk w q 44 #[.slice LA kl.length LC, .slice WA kw.length WC] ∧ Row w 35 1 LA kl.length LC ls ∧ Row w 35 1 WA kw.length WC ws ∧ Apart (ob LA) (ob WA) ∧ Contents w C ls kl ∧ Contents w C ws kw ∧
    (∀ k ∈ C, k ∉ q :: (ob LA ++ ob WA)) ∧ ∀ k ∈ C, k < w.heap.size

theorem KSt.keep {w w' : World} {q : Nat} {LA WA : Option Addr} {LC WC : Nat} {ls ws : List Value} {kl kw : List (List (Int × Int))} {C T : List Nat} (h : KSt w q LA LC WA WC ls ws kl kw C) (hc : Chg T w w')
    (hQ : ∀ k ∈ q :: (ob LA ++ ob WA), k ∉ T) (hC : ∀ k ∈ C, k ∉ T) : KSt w' q LA LC WA WC ls ws kl kw C := by
  obtain ⟨hb, hl, hw, ha, cl, cw, hd, hlt⟩ := h
  exact ⟨hb.keep hc (hQ q (by simp)), hl.keep hc (fun i hi => hQ i (by simp [hi])), hw.keep hc (fun i hi => hQ i (by simp [hi])), ha, cl.keep hc hC, cw.keep hc hC, hd, fun k hk => Nat.lt_of_lt_of_le (hlt k hk) hc.size⟩
theorem KSt.wide {w : World} {q : Nat} {LA WA : Option Addr} {LC WC : Nat} {ls ws : List Value} {kl kw : List (List (Int × Int))} {C D : List Nat} (h : KSt w q LA LC WA WC ls ws kl kw C)
    (hD : ∀ b ∈ C, b ∈ D) (h1 : ∀ k ∈ D, k ∉ q :: (ob LA ++ ob WA)) (h2 : ∀ k ∈ D, k < w.heap.size) : KSt w q LA LC WA WC ls ws kl kw D := by
  obtain ⟨hb, hl, hw, ha, cl, cw, hd, hlt⟩ := h
  exact ⟨hb, hl, hw, ha, cl.mono hD, cw.mono hD, h1, h2⟩

theorem KSt.pushL {w w1 w2 : World} {q : Nat} {LA WA LA' : Option Addr} {LC WC LC' : Nat} {ls ws : List Value} {kl kw : List (List (Int × Int))} {kk : List (List (Int × Int))} {news : List Value} {C : List Nat} (h : KSt w q LA LC WA WC ls ws kl kw C) (c1 : Chg [] w w1)
    (hrow : Row w2 35 1 LA' (kl.length + kk.length) LC' (ls ++ news)) (hch : Chg (ob LA) w1 w2) (hg : ∀ i ∈ ob LA', i ∈ ob LA ∨ w1.heap.size ≤ i) (hr : Contents w C news kk) :
    KSt (w2.setCell ⟨q, 0, none⟩ (.slice LA' (kl.length + kk.length) LC')) q LA' LC' WA WC (ls ++ news) ws (kl ++ kk) kw C := by
  obtain ⟨hb, hl, hw, ha, cl, cw, hd, hlt⟩ := h
  have hqL : q ∉ ob LA := fun hm => hl.ne_blk hb (by decide) q hm rfl
  have hqW : q ∉ ob WA := fun hm => hw.ne_blk hb (by decide) q hm rfl
  have hb2 := (hb.keep c1 (by simp)).keep hch hqL
  have hst : Chg [q] w2 (w2.setCell ⟨q, 0, none⟩ (.slice LA' (kl.length + kk.length) LC')) := (Chg.refl _ _).setCell (.inl (by simp)) _
  have s1 := c1.size
  have s2 := hch.size
  have hqL' : ∀ i ∈ ob LA', i ≠ q := hrow.ne_blk hb2 (by decide)
  have hCL : ∀ b ∈ C, b ∉ ob LA := fun b hb hm => hd b hb (by simp [hm])
  have hCq : ∀ b ∈ C, b ∉ [q] := fun b hb hm => hd b hb (by simp at hm; simp [hm])
  refine ⟨?_, ?_, ?_, ?_, ?_, ?_, ?_, ?_⟩
  · have := hb2.set_ 0 (.slice LA' (kl.length + kk.length) LC')
    rw [List.length_append]
    simpa using this
  · rw [List.length_append]
    exact hrow.keep hst (fun i hi hm => by simp at hm; exact hqL' i hi hm)
  · exact ((hw.keep c1 (by simp)).keep hch (fun i hi hm => ha i hm hi)).keep hst (fun i hi hm => by simp at hm; subst hm; exact hqW hi)
  · intro i hi hm
    rcases hg i hi with hh | hh
    · exact ha i hh hm
    · have := hw.lt i hm; omega
  · exact (((cl.keep c1 (by simp)).keep hch hCL).app ((hr.keep c1 (by simp)).keep hch hCL)).keep hst hCq
  · exact ((cw.keep c1 (by simp)).keep hch hCL).keep hst hCq
  · intro b hb hm
    have := hlt b hb
    rcases List.mem_cons.1 hm with hbq | hm
    · exact hd b hb (by simp [hbq])
    · rcases List.mem_append.1 hm with hm | hm
      · rcases hg b hm with hh | hh
        · exact hCL b hb hh
        · omega
      · exact hd b hb (by simp [hm])
  · intro b hb
    have := hlt b hb
    have := hst.size
    omega

theorem KSt.pushW {w w1 w2 : World} {q : Nat} {LA WA WA' : Option Addr} {LC WC WC' : Nat} {ls ws : List Value} {kl kw : List (List (Int × Int))} {kk : List (List (Int × Int))} {news : List Value} {C : List Nat} (h : KSt w q LA LC WA WC ls ws kl kw C) (c1 : Chg [] w w1)
    (hrow : Row w2 35 1 WA' (kw.length + kk.length) WC' (ws ++ news)) (hch : Chg (ob WA) w1 w2) (hg : ∀ i ∈ ob WA', i ∈ ob WA ∨ w1.heap.size ≤ i) (hr : Contents w C news kk) :
    KSt (w2.setCell ⟨q, 1, none⟩ (.slice WA' (kw.length + kk.length) WC')) q LA LC WA' WC' ls (ws ++ news) kl (kw ++ kk) C := by
  obtain ⟨hb, hl, hw, ha, cl, cw, hd, hlt⟩ := h
  have hqL : q ∉ ob LA := fun hm => hl.ne_blk hb (by decide) q hm rfl
  have hqW : q ∉ ob WA := fun hm => hw.ne_blk hb (by decide) q hm rfl
  have hb2 := (hb.keep c1 (by simp)).keep hch hqW
  have hst : Chg [q] w2 (w2.setCell ⟨q, 1, none⟩ (.slice WA' (kw.length + kk.length) WC')) := (Chg.refl _ _).setCell (.inl (by simp)) _
  have s1 := c1.size
  have s2 := hch.size
  have hqW' : ∀ i ∈ ob WA', i ≠ q := hrow.ne_blk hb2 (by decide)
  have hCW : ∀ b ∈ C, b ∉ ob WA := fun b hb hm => hd b hb (by simp [hm])
  have hCq : ∀ b ∈ C, b ∉ [q] := fun b hb hm => hd b hb (by simp at hm; simp [hm])
  refine ⟨?_, ?_, ?_, ?_, ?_, ?_, ?_, ?_⟩
  · have := hb2.set_ 1 (.slice WA' (kw.length + kk.length) WC')
    rw [List.length_append]
    simpa using this
  · exact ((hl.keep c1 (by simp)).keep hch (fun i hi hm => ha i hi hm)).keep hst (fun i hi hm => by simp at hm; subst hm; exact hqL hi)
  · rw [List.length_append]
    exact hrow.keep hst (fun i hi hm => by simp at hm; exact hqW' i hi hm)
  · intro i hi hm
    rcases hg i hm with hh | hh
    · exact ha i hi hh
    · have := hl.lt i hi; omega
  · exact ((cl.keep c1 (by simp)).keep hch hCW).keep hst hCq
  · exact (((cw.keep c1 (by simp)).keep hch hCW).app ((hr.keep c1 (by simp)).keep hch hCW)).keep hst hCq
  · intro b hb hm
    have := hlt b hb
    rcases List.mem_cons.1 hm with hbq | hm
    · exact hd b hb (by simp [hbq])
    · rcases List.mem_append.1 hm with hm | hm
      · exact hd b hb (by simp [hm])
      · rcases hg b hm with hh | hh
        · exact hCW b hb hh
        · omega
  · intro b hb
    have := hlt b hb
    have := hst.size
    omega

/-- Kept at rest: as many lists here as there. -/
def KeptAt (w : World) (q : Nat) (Q C : List Nat) (ks : List (List (Int × Int))) : Prop :=
  ∃ LA LC WA WC ls ws, Q = q :: (ob LA ++ ob WA) ∧ KSt w q LA LC WA WC ls ws ks ks C
theorem KeptAt.keep {w w' : World} {q : Nat} {ks : List (List (Int × Int))} {Q C T : List Nat} (h : KeptAt w q Q C ks) (hc : Chg T w w') (hQ : ∀ k ∈ Q, k ∉ T) (hC : ∀ k ∈ C, k ∉ T) : KeptAt w' q Q C ks := by
  obtain ⟨LA, LC, WA, WC, ls, ws, rfl, hk⟩ := h
  exact ⟨LA, LC, WA, WC, ls, ws, rfl, hk.keep hc hQ hC⟩


end Go.Proofs.Ytphbhmppjafhkaa
