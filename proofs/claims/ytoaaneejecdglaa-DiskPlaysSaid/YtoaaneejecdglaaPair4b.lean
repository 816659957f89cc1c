/-
  PROVED: the contract of step.
-/
import Derived.Test.YtoaaneejecdglaaPair4
import Derived.StillTailTactics
namespace Go.Proofs.Ytoaaneejecdglaa
open Go.RowKit

set_option maxHeartbeats 4000000 in
set_option maxRecDepth 1000000 in
theorem step_3 {w : World} {q : Nat} {f g : Half} (o : GOp) (h : PairAt w q (siteN o.site) f g) (ho : o.Ok w) (hA : 0 < o.n → ∀ k ∈ ob o.A, k ∉ f.all) (hk : o.kind = 3) :
    Calls Try.prog 32 #[.pointer (some ⟨q, 0, none⟩), o.val] w fun e w' => e = .returned (.bool true) ∧ PLeft w q (siteN o.site) f g w' := by
  obtain ⟨k, st, a, b, c, A, n, cap, ys⟩ := o
  obtain ⟨hy, hn'⟩ := ho
  simp only at hk hy hn' hA
  subst hk
  have q0 : Chg [] w (w.alloc (.cells #[.int .i64 3, .int .i64 st, .int .i64 a, .int .i64 b, .int .i64 c, .slice A n cap] 44)) := (Chg.refl _ _).alloc _
  have h0 := h.keep q0
  have hy0 := hy.keep q0 (by simp)
  have hbx := Blk.new w 44 #[.int .i64 3, .int .i64 st, .int .i64 a, .int .i64 b, .int .i64 c, .slice A n cap]
  have hgS : Hid (∀ k ∈ f.all, k ≠ w.heap.size) := fun k hk he => by have := h.2.1.lt k hk; omega
  have HA := Lib.hid hA
  clear hA
  unfold GOp.val
  simp only at h h0 ⊢
  have hs2 := siteN_lt st
  have hcall := siteN_calls st
  generalize siteN st = i at *
  have hi0 : (0 : Int) ≤ (i : Int) := by omega
  have hi1 : (i : Int) < 2 := by omega
  have H := Lib.hid h
  have H0 := Lib.hid h0
  clear h h0
  have hqS : Hid (q ∉ f.all) := H.out.2.2.2.2.1
  have hlw : Hid (∀ k ∈ f.all, k < w.heap.size) := H.out.2.1.lt
  go_enter Try.func32, Try.ntmps32
  go_wp2_with fail
  generalize w.alloc (.cells #[.int .i64 3, .int .i64 st, .int .i64 a, .int .i64 b, .int .i64 c, .slice A n cap] 44) = w0 at *
  have hsz := Lib.hid q0.size
  generalize hgb : w.heap.size = gb at *
  have HGB := Lib.hid hgb
  clear hgb
  have b0 := hbx.cell 0
  have b1 := hbx.cell 1
  have b2 := hbx.cell 2
  have b3 := hbx.cell 3
  have b4 := hbx.cell 4
  have b5 := hbx.cell 5
  have c1 := H0.out.one
  have c2 := H0.out.two
  have hd := H0.out.2.1.1
  have hr := H0.out.2.1.2.1
  have hST := Lib.hid H0.out.2.1.2.2
  have hgf : Hid (gb ∉ f.S) := fun hm => hgS.out gb (by simp [Half.all, hm]) rfl
  have hqf : Hid (q ∉ f.S) := fun hm => hqS.out (by simp [Half.all, hm])
  have hAS : Hid (0 < n → ∀ k ∈ ob A, k ∉ f.S) := fun h0 k hk hm => HA.out h0 k hk (by simp [Half.all, hm])
  have hAT : Hid (0 < n → ∀ k ∈ ob A, k ∉ f.T) := fun h0 k hk hm => HA.out h0 k hk (by simp [Half.all, hm])
  have hTS : Hid (∀ k ∈ f.T, k ∉ f.S) := fun k hk hm => hST.out k hm hk
  go_wp2_with (go_at_call 30; refine (hcall _).mono ?_; rintro e w' ⟨rfl, rfl⟩)
  go_region_law (first
    | (go_simp; go_at_call 19; refine Calls.mono (copied_calls (ys := ys) ?_ hn') ?_; · exact hy0
       rintro e w1 ⟨rfl, hr1, hc1⟩
       have c11 := hc1.cell (p := ⟨q, i, none⟩) (v := .pointer (some ⟨f.p, 0, none⟩)) (by exact c1) (by simp))
    | (go_simp; go_at_call 15; refine Calls.mono (put_calls (p := f.p) (s := f.s) (S := f.S) (bs := f.bs) (ys := ys) ?_ ?_) ?_; · exact Chg.disk hc1 hd (by simp)
       · exact Row.reads hr1
       rintro e w2 ⟨rfl, hl2⟩
       have hl2' := hl2
       obtain ⟨S2, hd2, hc2, hS2⟩ := hl2'
       have c22 := hc2.cell (p := ⟨q, 2 + i, none⟩) (v := .pointer (some ⟨f.r, 0, none⟩)) (by exact hc1.cell (p := ⟨q, 2 + i, none⟩) (v := .pointer (some ⟨f.r, 0, none⟩)) (by exact c2) (by simp)) hqf.out
       have b22 := hc2.cell (p := ⟨gb, 2, none⟩) (v := .int .i64 a) (by exact hc1.cell (p := ⟨gb, 2, none⟩) (v := .int .i64 a) (by exact b2) (by simp)) hgf.out
       have b23 := hc2.cell (p := ⟨gb, 3, none⟩) (v := .int .i64 b) (by exact hc1.cell (p := ⟨gb, 3, none⟩) (v := .int .i64 b) (by exact b3) (by simp)) hgf.out
       have b24 := hc2.cell (p := ⟨gb, 4, none⟩) (v := .int .i64 c) (by exact hc1.cell (p := ⟨gb, 4, none⟩) (v := .int .i64 c) (by exact b4) (by simp)) hgf.out
       have b25 := hc2.cell (p := ⟨gb, 5, none⟩) (v := .slice A n cap) (by exact hc1.cell (p := ⟨gb, 5, none⟩) (v := .slice A n cap) (by exact b5) (by simp)) hgf.out
       have rd2 := Lib.hid (hc2.rdisk (hc1.rdisk hr (by simp)) hTS.out)
       have y2 := Lib.hid (hc2.reads0 (hc1.reads hy0 (by simp)) hAS.out)))
  all_goals
    go_wp2
    go_region_law (first
      | (go_simp; go_at_call 14; refine (num_calls _ _).mono ?_; rintro e w' ⟨rfl, rfl⟩)
      | (go_simp; go_at_call 38; refine Calls.mono (rput_calls (p := f.r) (s := f.s) (S := f.T) (bs := f.bs) (ys := ys) ?_ ?_ hAT.out) ?_; · exact rd2.out
         · exact y2.out
         rintro e w3 ⟨rfl, hl3⟩))
  all_goals
    go_wp2
    go_ret
    refine ⟨rfl, pair_both H.out (by first | exact (q0.next hc1) | exact (q0.next hc1).drew | exact (q0.next hc1).drewN _ | exact (q0.drew.next hc1) | exact (q0.drew.next hc1).drew | exact (q0.drew.next hc1).drewN _ | exact (q0.drewN _.next hc1) | exact (q0.drewN _.next hc1).drew | exact (q0.drewN _.next hc1).drewN _) hl2 (by first | exact Chg.refl _ _ | exact (Chg.refl _ _).drew | exact (Chg.refl _ _).drewN _) hl3 (by first | exact Chg.refl _ _ | exact (Chg.refl _ _).drew | exact (Chg.refl _ _).drewN _)⟩


end Go.Proofs.Ytoaaneejecdglaa
