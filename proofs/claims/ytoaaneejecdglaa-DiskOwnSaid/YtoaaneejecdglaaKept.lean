/-
  PROVED: the lists kept by DiskOwn's Kept: its words; the contract of whole.
-/
import Derived.Test.YtoaaneejecdglaaMem2
import Derived.Test.YtoaaneejecdglaaApart
namespace Go.Proofs.Ytoaaneejecdglaa
open Go.RowKit

theorem same_big {w : World} {n c m d : Nat} {A B : Option Addr} {xs ys : List Int} (hx : Reads w 1 A n (bv xs)) (hy : Reads w 1 B m (bv ys)) (hn : n ≤ 140737488355328) :
    Calls Try.prog 22 #[.slice A n c, .slice B m d] w fun e w' => e = .returned (.bool (decide (xs = ys))) ∧ ∃ q, w' = w.drewN q := by
  have hxl : xs.length = n := by have := hx.1; rw [bv_length] at this; omega
  have hyl : ys.length = m := by have := hy.1; rw [bv_length] at this; omega
  subst hxl hyl
  have HX := Lib.hid hx
  have HY := Lib.hid hy
  clear hx hy
  by_cases hl : xs.length = ys.length
  · have hl' : (((xs.length : Nat) : Int) != ys.length) = false := by simp [hl]
    have HL := Lib.hid hl
    have hl1 : xs.length ≤ ys.length := by omega
    clear hl
    go_enter Try.func22, Try.ntmps22
    go_wp2
    go_loopw [5] (fun i wr => ∃ k q : Nat, k ≤ xs.length ∧ i = .int .i64 k ∧ wr = w.drewN q ∧ Hid (xs.take k = ys.take k)) (fun i _ => xs.length - (intOf i).toNat)
    case atStart => exact ⟨0, 0, Nat.zero_le _, rfl, rfl, by unfold Hid; simp⟩
    case round =>
      obtain ⟨k, q, hk, rfl, rfl, heq⟩ := hrel
      by_cases hlt : k < xs.length
      · have hlt2 : k < ys.length := by omega
        obtain ⟨ad, u, rfl, hu, hc⟩ := HX.out.at_ hlt
        obtain ⟨bd, v, rfl, hv, hd⟩ := HY.out.at_ hlt2
        have hu' : u = .int .u8 xs[k] := by simpa [bv, hlt] using hu.symm
        have hv' : v = .int .u8 ys[k] := by simpa [bv, hlt2] using hv.symm
        subst hu' hv'
        have i1 : (0 : Int) ≤ (k : Int) := by omega
        have i2 : (k : Int) < (xs.length : Int) := by omega
        have i3 : (k : Int) < (ys.length : Int) := by omega
        clear hu hv
        by_cases hne : xs[k] = ys[k]
        · have hs : Hid (xs.take (k + 1) = ys.take (k + 1)) := take_step heq.out hlt hlt2 hne
          have hb : (xs[k] != ys[k]) = false := by simp [hne]
          clear hne
          go_wp2
          go_quiet (fail)
          go_wp2
          go_roundw
          case rel => exact ⟨k + 1, _, by omega, by go_num, rfl, hs⟩
          case measure => simp [intOf]; omega
        · have hs : Hid (¬ xs = ys) := fun h => hne (by subst h; rfl)
          have hb : (xs[k] != ys[k]) = true := by simp [hne]
          clear hne
          go_wp2
          go_quiet (fail)
          go_wp2
          go_ret
          exact ⟨by rw [decide_eq_false hs.out]; rfl, _, World.drewN_drewN _ _ _⟩
      · have hs : Hid (xs = ys) := by
          have h := heq.out
          have h2 := HL.out
          rw [List.take_of_length_le (by omega), List.take_of_length_le (by omega)] at h
          exact h
        go_wp2
        go_ret
        exact ⟨by rw [decide_eq_true hs.out]; rfl, _, rfl⟩
  · have hl' : (((xs.length : Nat) : Int) != ys.length) = true := by rw [bne_iff_ne]; omega
    have hs : Hid (¬ xs = ys) := fun h => hl (by rw [h])
    go_enter Try.func22, Try.ntmps22
    go_wp2
    go_ret
    exact ⟨by rw [decide_eq_false hs.out]; rfl, 0, rfl⟩

/-- The slice values xs read as the lists ks, and lie in the blocks C. -/
def Contents (w : World) (C : List Nat) (xs : List Value) (ks : List (List Int)) : Prop :=
  xs.length = ks.length ∧ ∀ (i : Nat) (k : List Int), ks[i]? = some k → ∃ A n c, xs[i]? = some (Value.slice A n c) ∧ Reads w 1 A n (bv k) ∧ n ≤ 140737488355328 ∧ ∀ b ∈ ob A, b ∈ C
theorem Contents.nil (w : World) (C : List Nat) : Contents w C [] [] := ⟨rfl, fun i k h => by simp at h⟩
theorem Contents.keep {w w' : World} {C T : List Nat} {xs : List Value} {ks : List (List Int)} (h : Contents w C xs ks) (hc : Chg T w w') (hT : ∀ b ∈ C, b ∉ T) : Contents w' C xs ks :=
  ⟨h.1, fun i k hk => by
    obtain ⟨A, n, c, h1, h2, h3, h4⟩ := h.2 i k hk
    exact ⟨A, n, c, h1, h2.keep hc (fun b hb => hT b (h4 b hb)), h3, h4⟩⟩
theorem Contents.mono {w : World} {C D : List Nat} {xs : List Value} {ks : List (List Int)} (h : Contents w C xs ks) (hD : ∀ b ∈ C, b ∈ D) : Contents w D xs ks :=
  ⟨h.1, fun i k hk => by
    obtain ⟨A, n, c, h1, h2, h3, h4⟩ := h.2 i k hk
    exact ⟨A, n, c, h1, h2, h3, fun b hb => hD b (h4 b hb)⟩⟩
theorem Contents.push {w : World} {C : List Nat} {xs : List Value} {ks : List (List Int)} {A : Option Addr} {n c : Nat} {k : List Int} (h : Contents w C xs ks) (hr : Reads w 1 A n (bv k)) (hn : n ≤ 140737488355328) (hC : ∀ b ∈ ob A, b ∈ C) :
    Contents w C (xs ++ [.slice A n c]) (ks ++ [k]) :=
  ⟨by simp [h.1], fun i k' hk => by
    by_cases hi : i < ks.length
    · rw [List.getElem?_append_left hi] at hk
      obtain ⟨A', n', c', h1, h2⟩ := h.2 i k' hk
      exact ⟨A', n', c', by rw [List.getElem?_append_left (by rw [h.1]; exact hi)]; exact h1, h2⟩
    · rw [List.getElem?_append_right (by omega)] at hk
      have hi0 : i - ks.length = 0 := by
        rcases Nat.eq_zero_or_pos (i - ks.length) with h0 | h0
        · exact h0
        · rw [List.getElem?_eq_none (by simp; omega)] at hk; cases hk
      rw [hi0] at hk
      simp at hk
      subst hk
      refine ⟨A, n, c, ?_, hr, hn, hC⟩
      rw [List.getElem?_append_right (by rw [h.1]; omega), h.1, hi0]
      rfl⟩

/-- Kept behind block q: its lists of slices (rows of their own), of so many entries each, and what they read as. -/
def KSt (w : World) (q : Nat) (LA : Option Addr) (LC : Nat) (WA : Option Addr) (WC : Nat) (ls ws : List Value) (kl kw : List (List Int)) (C : List Nat) : Prop :=
  Blk w q 55 #[.slice LA kl.length LC, .slice WA kw.length WC] ∧ Row w 25 1 LA kl.length LC ls ∧ Row w 25 1 WA kw.length WC ws ∧ Apart (ob LA) (ob WA) ∧ Contents w C ls kl ∧ Contents w C ws kw ∧
    (∀ k ∈ C, k ∉ q :: (ob LA ++ ob WA)) ∧ ∀ k ∈ C, k < w.heap.size

theorem KSt.keep {w w' : World} {q : Nat} {LA WA : Option Addr} {LC WC : Nat} {ls ws : List Value} {kl kw : List (List Int)} {C T : List Nat} (h : KSt w q LA LC WA WC ls ws kl kw C) (hc : Chg T w w')
    (hQ : ∀ k ∈ q :: (ob LA ++ ob WA), k ∉ T) (hC : ∀ k ∈ C, k ∉ T) : KSt w' q LA LC WA WC ls ws kl kw C := by
  obtain ⟨hb, hl, hw, ha, cl, cw, hd, hlt⟩ := h
  exact ⟨hb.keep hc (hQ q (by simp)), hl.keep hc (fun i hi => hQ i (by simp [hi])), hw.keep hc (fun i hi => hQ i (by simp [hi])), ha, cl.keep hc hC, cw.keep hc hC, hd, fun k hk => Nat.lt_of_lt_of_le (hlt k hk) hc.size⟩
theorem KSt.wide {w : World} {q : Nat} {LA WA : Option Addr} {LC WC : Nat} {ls ws : List Value} {kl kw : List (List Int)} {C D : List Nat} (h : KSt w q LA LC WA WC ls ws kl kw C)
    (hD : ∀ b ∈ C, b ∈ D) (h1 : ∀ k ∈ D, k ∉ q :: (ob LA ++ ob WA)) (h2 : ∀ k ∈ D, k < w.heap.size) : KSt w q LA LC WA WC ls ws kl kw D := by
  obtain ⟨hb, hl, hw, ha, cl, cw, hd, hlt⟩ := h
  exact ⟨hb, hl, hw, ha, cl.mono hD, cw.mono hD, h1, h2⟩

theorem KSt.pushL {w w1 w2 : World} {q : Nat} {LA WA LA' A : Option Addr} {LC WC LC' n c : Nat} {ls ws : List Value} {kl kw : List (List Int)} {k : List Int} {C : List Nat} (h : KSt w q LA LC WA WC ls ws kl kw C) (c1 : Chg [] w w1)
    (hrow : Row w2 25 1 LA' (kl.length + 1) LC' (ls ++ [.slice A n c])) (hch : Chg (ob LA) w1 w2) (hg : ∀ i ∈ ob LA', i ∈ ob LA ∨ w1.heap.size ≤ i) (hr : Reads w 1 A n (bv k)) (hn : n ≤ 140737488355328) (hC : ∀ b ∈ ob A, b ∈ C) :
    KSt (w2.setCell ⟨q, 0, none⟩ (.slice LA' (kl.length + 1) LC')) q LA' LC' WA WC (ls ++ [.slice A n c]) ws (kl ++ [k]) kw C := by
  obtain ⟨hb, hl, hw, ha, cl, cw, hd, hlt⟩ := h
  have hqL : q ∉ ob LA := fun hm => hl.ne_blk hb (by decide) q hm rfl
  have hqW : q ∉ ob WA := fun hm => hw.ne_blk hb (by decide) q hm rfl
  have hb2 := (hb.keep c1 (by simp)).keep hch hqL
  have hst : Chg [q] w2 (w2.setCell ⟨q, 0, none⟩ (.slice LA' (kl.length + 1) LC')) := (Chg.refl _ _).setCell (.inl (by simp)) _
  have s1 := c1.size
  have s2 := hch.size
  have hqL' : ∀ i ∈ ob LA', i ≠ q := hrow.ne_blk hb2 (by decide)
  have hCL : ∀ b ∈ C, b ∉ ob LA := fun b hb hm => hd b hb (by simp [hm])
  have hCq : ∀ b ∈ C, b ∉ [q] := fun b hb hm => hd b hb (by simp at hm; simp [hm])
  refine ⟨?_, ?_, ?_, ?_, ?_, ?_, ?_, ?_⟩
  · have := hb2.set_ 0 (.slice LA' (kl.length + 1) LC')
    rw [List.length_append, List.length_singleton]
    simpa using this
  · rw [List.length_append, List.length_singleton]
    exact hrow.keep hst (fun i hi hm => by simp at hm; exact hqL' i hi hm)
  · exact ((hw.keep c1 (by simp)).keep hch (fun i hi hm => ha i hm hi)).keep hst (fun i hi hm => by simp at hm; subst hm; exact hqW hi)
  · intro i hi hm
    rcases hg i hi with hh | hh
    · exact ha i hh hm
    · have := hw.lt i hm; omega
  · exact (((cl.keep c1 (by simp)).keep hch hCL).push ((hr.keep c1 (by simp)).keep hch (fun b hb => hCL b (hC b hb))) hn hC).keep hst hCq
  · exact ((cw.keep c1 (by simp)).keep hch hCL).keep hst hCq
  · intro b hb hm
    have := hlt b hb
    rcases List.mem_cons.1 hm with hbq | hm
    · exact hd b hb (by simp [hbq])
    · rcases List.mem_append.1 hm with hm | hm
      · rcases hg b hm with hh | hh
        · exact hCL b hb hh
        · omega
      · exact hd b hb (by simp [hm])
  · intro b hb
    have := hlt b hb
    have := hst.size
    omega

theorem KSt.pushW {w w1 w2 : World} {q : Nat} {LA WA WA' A : Option Addr} {LC WC WC' n c : Nat} {ls ws : List Value} {kl kw : List (List Int)} {k : List Int} {C : List Nat} (h : KSt w q LA LC WA WC ls ws kl kw C) (c1 : Chg [] w w1)
    (hrow : Row w2 25 1 WA' (kw.length + 1) WC' (ws ++ [.slice A n c])) (hch : Chg (ob WA) w1 w2) (hg : ∀ i ∈ ob WA', i ∈ ob WA ∨ w1.heap.size ≤ i) (hr : Reads w 1 A n (bv k)) (hn : n ≤ 140737488355328) (hC : ∀ b ∈ ob A, b ∈ C) :
    KSt (w2.setCell ⟨q, 1, none⟩ (.slice WA' (kw.length + 1) WC')) q LA LC WA' WC' ls (ws ++ [.slice A n c]) kl (kw ++ [k]) C := by
  obtain ⟨hb, hl, hw, ha, cl, cw, hd, hlt⟩ := h
  have hqL : q ∉ ob LA := fun hm => hl.ne_blk hb (by decide) q hm rfl
  have hqW : q ∉ ob WA := fun hm => hw.ne_blk hb (by decide) q hm rfl
  have hb2 := (hb.keep c1 (by simp)).keep hch hqW
  have hst : Chg [q] w2 (w2.setCell ⟨q, 1, none⟩ (.slice WA' (kw.length + 1) WC')) := (Chg.refl _ _).setCell (.inl (by simp)) _
  have s1 := c1.size
  have s2 := hch.size
  have hqW' : ∀ i ∈ ob WA', i ≠ q := hrow.ne_blk hb2 (by decide)
  have hCW : ∀ b ∈ C, b ∉ ob WA := fun b hb hm => hd b hb (by simp [hm])
  have hCq : ∀ b ∈ C, b ∉ [q] := fun b hb hm => hd b hb (by simp at hm; simp [hm])
  refine ⟨?_, ?_, ?_, ?_, ?_, ?_, ?_, ?_⟩
  · have := hb2.set_ 1 (.slice WA' (kw.length + 1) WC')
    rw [List.length_append, List.length_singleton]
    simpa using this
  · exact ((hl.keep c1 (by simp)).keep hch (fun i hi hm => ha i hi hm)).keep hst (fun i hi hm => by simp at hm; subst hm; exact hqL hi)
  · rw [List.length_append, List.length_singleton]
    exact hrow.keep hst (fun i hi hm => by simp at hm; exact hqW' i hi hm)
  · intro i hi hm
    rcases hg i hm with hh | hh
    · exact ha i hi hh
    · have := hl.lt i hi; omega
  · exact ((cl.keep c1 (by simp)).keep hch hCW).keep hst hCq
  · exact (((cw.keep c1 (by simp)).keep hch hCW).push ((hr.keep c1 (by simp)).keep hch (fun b hb => hCW b (hC b hb))) hn hC).keep hst hCq
  · intro b hb hm
    have := hlt b hb
    rcases List.mem_cons.1 hm with hbq | hm
    · exact hd b hb (by simp [hbq])
    · rcases List.mem_append.1 hm with hm | hm
      · exact hd b hb (by simp [hm])
      · rcases hg b hm with hh | hh
        · exact hCW b hb hh
        · omega
  · intro b hb
    have := hlt b hb
    have := hst.size
    omega

/-- Kept at rest: as many lists here as there. -/
def KeptAt (w : World) (q : Nat) (Q C : List Nat) (ks : List (List Int)) : Prop :=
  ∃ LA LC WA WC ls ws, Q = q :: (ob LA ++ ob WA) ∧ KSt w q LA LC WA WC ls ws ks ks C
theorem KeptAt.keep {w w' : World} {q : Nat} {ks : List (List Int)} {Q C T : List Nat} (h : KeptAt w q Q C ks) (hc : Chg T w w') (hQ : ∀ k ∈ Q, k ∉ T) (hC : ∀ k ∈ C, k ∉ T) : KeptAt w' q Q C ks := by
  obtain ⟨LA, LC, WA, WC, ls, ws, rfl, hk⟩ := h
  exact ⟨LA, LC, WA, WC, ls, ws, rfl, hk.keep hc hQ hC⟩

set_option maxHeartbeats 1000000 in
theorem whole_calls {w : World} {q : Nat} {Q C : List Nat} {ks : List (List Int)} (h : KeptAt w q Q C ks) (hm : ks.length ≤ 140737488351232) :
    Calls Try.prog 29 #[.pointer (some ⟨q, 0, none⟩)] w fun e w' => e = .returned (.bool true) ∧ ∃ n, w' = w.drewN n := by
  obtain ⟨LA, LC, WA, WC, ls, ws, rfl, hb, hl, hw, ha, cl, cw, hd, hlt⟩ := h
  have c0 := hb.cell 0
  have c1 := hb.cell 1
  have CL := Lib.hid cl
  have CW := Lib.hid cw
  have HL := Lib.hid hl
  have HW := Lib.hid hw
  clear cl cw hl hw ha hd hlt
  go_enter Try.func29, Try.ntmps29
  go_wp2
  go_loopw [3] (fun i wr => ∃ k n : Nat, k ≤ ks.length ∧ i = .int .i64 k ∧ Hid (wr = w.drewN n)) (fun i _ => ks.length - (intOf i).toNat)
  case atStart => exact ⟨0, 0, Nat.zero_le _, rfl, rfl⟩
  case round =>
    obtain ⟨k, n, hk, rfl, hwr⟩ := hrel
    have c0' : wr.cell? ⟨q, 0, none⟩ = some (.slice LA ks.length LC) := by rw [hwr.out]; exact c0
    have c1' : wr.cell? ⟨q, 1, none⟩ = some (.slice WA ks.length WC) := by rw [hwr.out]; exact c1
    by_cases hlt : k < ks.length
    · obtain ⟨A, an, ac, hA, rA, nA, _⟩ := CL.out.2 k ks[k] (List.getElem?_eq_getElem hlt)
      obtain ⟨B, bn, bc, hB, rB, nB, _⟩ := CW.out.2 k ks[k] (List.getElem?_eq_getElem hlt)
      obtain ⟨ad, u, rfl, hu, hcu⟩ := HL.out.reads.at_ hlt
      obtain ⟨bd, v, rfl, hv, hcv⟩ := HW.out.reads.at_ hlt
      rw [hA] at hu
      rw [hB] at hv
      injection hu with hu
      injection hv with hv
      subst hu hv
      generalize ks[k] = kk at *
      have hcu' : wr.cell? (ad.add k) = some (.slice A an ac) := by rw [hwr.out]; exact hcu
      have hcv' : wr.cell? (bd.add k) = some (.slice B bn bc) := by rw [hwr.out]; exact hcv
      have rA' : Reads wr 1 A an (bv kk) := by rw [hwr.out]; exact rA
      have rB' : Reads wr 1 B bn (bv kk) := by rw [hwr.out]; exact rB
      have hki : (k : Int) < (ks.length : Int) := by omega
      have RA := Lib.hid rA'
      have RB := Lib.hid rB'
      clear hA hB rA rB rA' rB' hcu hcv
      go_wp2
      go_quiet ((go_at_call 22; exact Calls.quiet_of ((same_big (RA.out.drewN _) (RB.out.drewN _) nA).mono fun _ _ ⟨he, hw⟩ => ⟨by rw [he, decide_eq_true rfl], hw⟩)))
      go_wp2
      go_roundw
      case rel => exact ⟨k + 1, _, by omega, by go_num, by rw [Hid, hwr.out, World.drewN_drewN]⟩
      case measure => simp [intOf]; omega
    · go_wp2
      go_ret
      exact ⟨rfl, _, hwr.out⟩

end Go.Proofs.Ytoaaneejecdglaa
