/-
  PROVED: the contract of step.
-/
import Derived.Test.YtoaaneejecdglaaPair4
import Derived.StillTailTactics
namespace Go.Proofs.Ytoaaneejecdglaa
open Go.RowKit

set_option maxHeartbeats 4000000 in
set_option maxRecDepth 1000000 in
theorem step_1 {w : World} {q : Nat} {f g : Half} (o : GOp) (h : PairAt w q (siteN o.site) f g) (ho : o.Ok w) (hA : 0 < o.n → ∀ k ∈ ob o.A, k ∉ f.all) (hk : o.kind = 1) :
    Calls Try.prog 32 #[.pointer (some ⟨q, 0, none⟩), o.val] w fun e w' => e = .returned (.bool true) ∧ PLeft w q (siteN o.site) f g w' := by
  obtain ⟨k, st, a, b, c, A, n, cap, ys⟩ := o
  obtain ⟨hy, hn'⟩ := ho
  simp only at hk hy hn' hA
  subst hk
  have q0 : Chg [] w (w.alloc (.cells #[.int .i64 1, .int .i64 st, .int .i64 a, .int .i64 b, .int .i64 c, .slice A n cap] 44)) := (Chg.refl _ _).alloc _
  have h0 := h.keep q0
  have hy0 := hy.keep q0 (by simp)
  have hbx := Blk.new w 44 #[.int .i64 1, .int .i64 st, .int .i64 a, .int .i64 b, .int .i64 c, .slice A n cap]
  have hgS : Hid (∀ k ∈ f.all, k ≠ w.heap.size) := fun k hk he => by have := h.2.1.lt k hk; omega
  have HA := Lib.hid hA
  clear hA
  unfold GOp.val
  simp only at h h0 ⊢
  have hs2 := siteN_lt st
  have hcall := siteN_calls st
  generalize hsi0 : siteN st = i at *
  have HSI := Lib.hid hsi0
  clear hsi0
  have hi0 : (0 : Int) ≤ (i : Int) := by omega
  have hi1 : (i : Int) < 2 := by omega
  have H := Lib.hid h
  have H0 := Lib.hid h0
  clear h h0
  have hqS : Hid (q ∉ f.all) := H.out.2.2.2.2.1
  have hlw : Hid (∀ k ∈ f.all, k < w.heap.size) := H.out.2.1.lt
  go_enter Try.func32, Try.ntmps32
  go_wp2_with fail
  generalize w.alloc (.cells #[.int .i64 1, .int .i64 st, .int .i64 a, .int .i64 b, .int .i64 c, .slice A n cap] 44) = w0 at *
  have hsz := Lib.hid q0.size
  generalize hgb : w.heap.size = gb at *
  have HGB := Lib.hid hgb
  clear hgb
  have b0 := hbx.cell 0
  have b1 := hbx.cell 1
  have b2 := hbx.cell 2
  have b3 := hbx.cell 3
  have b4 := hbx.cell 4
  have b5 := hbx.cell 5
  have c1 := H0.out.one
  have c2 := H0.out.two
  have hd := H0.out.2.1.1
  have hr := H0.out.2.1.2.1
  have hST := Lib.hid H0.out.2.1.2.2
  have hgf : Hid (gb ∉ f.S) := fun hm => hgS.out gb (by simp [Half.all, hm]) rfl
  have hqf : Hid (q ∉ f.S) := fun hm => hqS.out (by simp [Half.all, hm])
  have hAS : Hid (0 < n → ∀ k ∈ ob A, k ∉ f.S) := fun h0 k hk hm => HA.out h0 k hk (by simp [Half.all, hm])
  have hAT : Hid (0 < n → ∀ k ∈ ob A, k ∉ f.T) := fun h0 k hk hm => HA.out h0 k hk (by simp [Half.all, hm])
  have hTS : Hid (∀ k ∈ f.T, k ∉ f.S) := fun k hk hm => hST.out k hm hk
  have HC : Hid (∀ j u, ([.int .i64 1, .int .i64 st, .int .i64 a, .int .i64 b, .int .i64 c, .slice A n cap] : List Value)[j]? = some u → w0.cell? ((⟨gb, 0, none⟩ : Addr).add j) = some u) := by
    intro j u hu
    rw [add_head, hbx.cell]
    simpa using hu
  have hok : GOp.Ok w0 ⟨1, st, a, b, c, A, n, cap, ys⟩ := ⟨hy0, hn'⟩
  have hsi : Hid (siteN st = i) := HSI
  go_wp2_with (first
    | (go_at_call 30; refine (hcall _).mono ?_; rintro e w' ⟨rfl, rfl⟩)
    | (with_reducible refine wpList_load_cells _ rfl 44 (.tmp 3) rfl ⟨gb, 0, none⟩ rfl _ HC.out (.struct _) Try.underlying44 rfl (by kernel_rfl) ?_)
    | (go_at_call 37; refine Calls.mono (renewed_calls (f := f) (g := g) ⟨1, st, a, b, c, A, n, cap, ys⟩ ?_ hok) ?_; · exact (by rw [hsi.out]; exact H0.out)
       rintro e w' ⟨rfl, hl⟩))
  go_ret
  rw [hsi.out] at hl
  exact ⟨rfl, PLeft.after q0 hl⟩

set_option maxHeartbeats 4000000 in
set_option maxRecDepth 1000000 in
theorem step_2 {w : World} {q : Nat} {f g : Half} (o : GOp) (h : PairAt w q (siteN o.site) f g) (ho : o.Ok w) (hA : 0 < o.n → ∀ k ∈ ob o.A, k ∉ f.all) (hk : o.kind = 2) :
    Calls Try.prog 32 #[.pointer (some ⟨q, 0, none⟩), o.val] w fun e w' => e = .returned (.bool true) ∧ PLeft w q (siteN o.site) f g w' := by
  obtain ⟨k, st, a, b, c, A, n, cap, ys⟩ := o
  obtain ⟨hy, hn'⟩ := ho
  simp only at hk hy hn' hA
  subst hk
  have q0 : Chg [] w (w.alloc (.cells #[.int .i64 2, .int .i64 st, .int .i64 a, .int .i64 b, .int .i64 c, .slice A n cap] 44)) := (Chg.refl _ _).alloc _
  have h0 := h.keep q0
  have hy0 := hy.keep q0 (by simp)
  have hbx := Blk.new w 44 #[.int .i64 2, .int .i64 st, .int .i64 a, .int .i64 b, .int .i64 c, .slice A n cap]
  have hgS : Hid (∀ k ∈ f.all, k ≠ w.heap.size) := fun k hk he => by have := h.2.1.lt k hk; omega
  have HA := Lib.hid hA
  clear hA
  unfold GOp.val
  simp only at h h0 ⊢
  have hs2 := siteN_lt st
  have hcall := siteN_calls st
  generalize hsi0 : siteN st = i at *
  have HSI := Lib.hid hsi0
  clear hsi0
  have hi0 : (0 : Int) ≤ (i : Int) := by omega
  have hi1 : (i : Int) < 2 := by omega
  have H := Lib.hid h
  have H0 := Lib.hid h0
  clear h h0
  have hqS : Hid (q ∉ f.all) := H.out.2.2.2.2.1
  have hlw : Hid (∀ k ∈ f.all, k < w.heap.size) := H.out.2.1.lt
  go_enter Try.func32, Try.ntmps32
  go_wp2_with fail
  generalize w.alloc (.cells #[.int .i64 2, .int .i64 st, .int .i64 a, .int .i64 b, .int .i64 c, .slice A n cap] 44) = w0 at *
  have hsz := Lib.hid q0.size
  generalize hgb : w.heap.size = gb at *
  have HGB := Lib.hid hgb
  clear hgb
  have b0 := hbx.cell 0
  have b1 := hbx.cell 1
  have b2 := hbx.cell 2
  have b3 := hbx.cell 3
  have b4 := hbx.cell 4
  have b5 := hbx.cell 5
  have c1 := H0.out.one
  have c2 := H0.out.two
  have hd := H0.out.2.1.1
  have hr := H0.out.2.1.2.1
  have hST := Lib.hid H0.out.2.1.2.2
  have hgf : Hid (gb ∉ f.S) := fun hm => hgS.out gb (by simp [Half.all, hm]) rfl
  have hqf : Hid (q ∉ f.S) := fun hm => hqS.out (by simp [Half.all, hm])
  have hAS : Hid (0 < n → ∀ k ∈ ob A, k ∉ f.S) := fun h0 k hk hm => HA.out h0 k hk (by simp [Half.all, hm])
  have hAT : Hid (0 < n → ∀ k ∈ ob A, k ∉ f.T) := fun h0 k hk hm => HA.out h0 k hk (by simp [Half.all, hm])
  have hTS : Hid (∀ k ∈ f.T, k ∉ f.S) := fun k hk hm => hST.out k hm hk
  have HC : Hid (∀ j u, ([.int .i64 2, .int .i64 st, .int .i64 a, .int .i64 b, .int .i64 c, .slice A n cap] : List Value)[j]? = some u → w0.cell? ((⟨gb, 0, none⟩ : Addr).add j) = some u) := by
    intro j u hu
    rw [add_head, hbx.cell]
    simpa using hu
  have hok : GOp.Ok w0 ⟨2, st, a, b, c, A, n, cap, ys⟩ := ⟨hy0, hn'⟩
  have hsi : Hid (siteN st = i) := HSI
  go_wp2_with (first
    | (go_at_call 30; refine (hcall _).mono ?_; rintro e w' ⟨rfl, rfl⟩)
    | (with_reducible refine wpList_load_cells _ rfl 44 (.tmp 3) rfl ⟨gb, 0, none⟩ rfl _ HC.out (.struct _) Try.underlying44 rfl (by kernel_rfl) ?_)
    | (go_at_call 37; refine Calls.mono (renewed_calls (f := f) (g := g) ⟨2, st, a, b, c, A, n, cap, ys⟩ ?_ hok) ?_; · exact (by rw [hsi.out]; exact H0.out)
       rintro e w' ⟨rfl, hl⟩))
  go_ret
  rw [hsi.out] at hl
  exact ⟨rfl, PLeft.after q0 hl⟩

set_option maxHeartbeats 4000000 in
set_option maxRecDepth 1000000 in
theorem step_4 {w : World} {q : Nat} {f g : Half} (o : GOp) (h : PairAt w q (siteN o.site) f g) (ho : o.Ok w) (hA : 0 < o.n → ∀ k ∈ ob o.A, k ∉ f.all) (hk : o.kind = 4) :
    Calls Try.prog 32 #[.pointer (some ⟨q, 0, none⟩), o.val] w fun e w' => e = .returned (.bool true) ∧ PLeft w q (siteN o.site) f g w' := by
  obtain ⟨k, st, a, b, c, A, n, cap, ys⟩ := o
  obtain ⟨hy, hn'⟩ := ho
  simp only at hk hy hn' hA
  subst hk
  have q0 : Chg [] w (w.alloc (.cells #[.int .i64 4, .int .i64 st, .int .i64 a, .int .i64 b, .int .i64 c, .slice A n cap] 44)) := (Chg.refl _ _).alloc _
  have h0 := h.keep q0
  have hy0 := hy.keep q0 (by simp)
  have hbx := Blk.new w 44 #[.int .i64 4, .int .i64 st, .int .i64 a, .int .i64 b, .int .i64 c, .slice A n cap]
  have hgS : Hid (∀ k ∈ f.all, k ≠ w.heap.size) := fun k hk he => by have := h.2.1.lt k hk; omega
  have HA := Lib.hid hA
  clear hA
  unfold GOp.val
  simp only at h h0 ⊢
  have hs2 := siteN_lt st
  have hcall := siteN_calls st
  generalize siteN st = i at *
  have hi0 : (0 : Int) ≤ (i : Int) := by omega
  have hi1 : (i : Int) < 2 := by omega
  have H := Lib.hid h
  have H0 := Lib.hid h0
  clear h h0
  have hqS : Hid (q ∉ f.all) := H.out.2.2.2.2.1
  have hlw : Hid (∀ k ∈ f.all, k < w.heap.size) := H.out.2.1.lt
  go_enter Try.func32, Try.ntmps32
  go_wp2_with fail
  generalize w.alloc (.cells #[.int .i64 4, .int .i64 st, .int .i64 a, .int .i64 b, .int .i64 c, .slice A n cap] 44) = w0 at *
  have hsz := Lib.hid q0.size
  generalize hgb : w.heap.size = gb at *
  have HGB := Lib.hid hgb
  clear hgb
  have b0 := hbx.cell 0
  have b1 := hbx.cell 1
  have b2 := hbx.cell 2
  have b3 := hbx.cell 3
  have b4 := hbx.cell 4
  have b5 := hbx.cell 5
  have c1 := H0.out.one
  have c2 := H0.out.two
  have hd := H0.out.2.1.1
  have hr := H0.out.2.1.2.1
  have hST := Lib.hid H0.out.2.1.2.2
  have hgf : Hid (gb ∉ f.S) := fun hm => hgS.out gb (by simp [Half.all, hm]) rfl
  have hqf : Hid (q ∉ f.S) := fun hm => hqS.out (by simp [Half.all, hm])
  have hAS : Hid (0 < n → ∀ k ∈ ob A, k ∉ f.S) := fun h0 k hk hm => HA.out h0 k hk (by simp [Half.all, hm])
  have hAT : Hid (0 < n → ∀ k ∈ ob A, k ∉ f.T) := fun h0 k hk hm => HA.out h0 k hk (by simp [Half.all, hm])
  have hTS : Hid (∀ k ∈ f.T, k ∉ f.S) := fun k hk hm => hST.out k hm hk
  go_wp2_with (first
    | (go_at_call 30; refine (hcall _).mono ?_; rintro e w' ⟨rfl, rfl⟩)
    | (go_at_call 34; refine (sync_calls hd).mono ?_
       rintro e w2 ⟨rfl, hd2, hc2⟩
       have hl2 := Left.sync hd2 hc2
       have c22 := hc2.cell (p := ⟨q, 2 + i, none⟩) (v := .pointer (some ⟨f.r, 0, none⟩)) (by exact c2) hqf.out
       have b22 := hc2.cell (p := ⟨gb, 2, none⟩) (v := .int .i64 a) (by exact b2) hgf.out
       have b23 := hc2.cell (p := ⟨gb, 3, none⟩) (v := .int .i64 b) (by exact b3) hgf.out
       have b24 := hc2.cell (p := ⟨gb, 4, none⟩) (v := .int .i64 c) (by exact b4) hgf.out
       have b25 := hc2.cell (p := ⟨gb, 5, none⟩) (v := .slice A n cap) (by exact b5) hgf.out
       have rd2 := Lib.hid (hc2.rdisk hr hTS.out)
       have y2 := Lib.hid (hc2.reads0 hy0 hAS.out))
    | (go_at_call 39; refine (rsync_calls rd2.out).mono ?_
       rintro e w3 ⟨rfl, hd3, hc3⟩
       have hl3 := RLeft.sync hd3 hc3))
  go_ret
  refine ⟨by simp, pair_both H.out q0 hl2 (Chg.refl _ _) hl3 (Chg.refl _ _)⟩

set_option maxHeartbeats 4000000 in
set_option maxRecDepth 1000000 in
theorem step_6 {w : World} {q : Nat} {f g : Half} (o : GOp) (h : PairAt w q (siteN o.site) f g) (ho : o.Ok w) (hA : 0 < o.n → ∀ k ∈ ob o.A, k ∉ f.all) (hk : o.kind = 6) :
    Calls Try.prog 32 #[.pointer (some ⟨q, 0, none⟩), o.val] w fun e w' => e = .returned (.bool true) ∧ PLeft w q (siteN o.site) f g w' := by
  obtain ⟨k, st, a, b, c, A, n, cap, ys⟩ := o
  obtain ⟨hy, hn'⟩ := ho
  simp only at hk hy hn' hA
  subst hk
  have q0 : Chg [] w (w.alloc (.cells #[.int .i64 6, .int .i64 st, .int .i64 a, .int .i64 b, .int .i64 c, .slice A n cap] 44)) := (Chg.refl _ _).alloc _
  have h0 := h.keep q0
  have hy0 := hy.keep q0 (by simp)
  have hbx := Blk.new w 44 #[.int .i64 6, .int .i64 st, .int .i64 a, .int .i64 b, .int .i64 c, .slice A n cap]
  have hgS : Hid (∀ k ∈ f.all, k ≠ w.heap.size) := fun k hk he => by have := h.2.1.lt k hk; omega
  have HA := Lib.hid hA
  clear hA
  unfold GOp.val
  simp only at h h0 ⊢
  have hs2 := siteN_lt st
  have hcall := siteN_calls st
  generalize siteN st = i at *
  have hi0 : (0 : Int) ≤ (i : Int) := by omega
  have hi1 : (i : Int) < 2 := by omega
  have H := Lib.hid h
  have H0 := Lib.hid h0
  clear h h0
  have hqS : Hid (q ∉ f.all) := H.out.2.2.2.2.1
  have hlw : Hid (∀ k ∈ f.all, k < w.heap.size) := H.out.2.1.lt
  go_enter Try.func32, Try.ntmps32
  go_wp2_with fail
  generalize w.alloc (.cells #[.int .i64 6, .int .i64 st, .int .i64 a, .int .i64 b, .int .i64 c, .slice A n cap] 44) = w0 at *
  have hsz := Lib.hid q0.size
  generalize hgb : w.heap.size = gb at *
  have HGB := Lib.hid hgb
  clear hgb
  have b0 := hbx.cell 0
  have b1 := hbx.cell 1
  have b2 := hbx.cell 2
  have b3 := hbx.cell 3
  have b4 := hbx.cell 4
  have b5 := hbx.cell 5
  have c1 := H0.out.one
  have c2 := H0.out.two
  have hd := H0.out.2.1.1
  have hr := H0.out.2.1.2.1
  have hST := Lib.hid H0.out.2.1.2.2
  have hgf : Hid (gb ∉ f.S) := fun hm => hgS.out gb (by simp [Half.all, hm]) rfl
  have hqf : Hid (q ∉ f.S) := fun hm => hqS.out (by simp [Half.all, hm])
  have hAS : Hid (0 < n → ∀ k ∈ ob A, k ∉ f.S) := fun h0 k hk hm => HA.out h0 k hk (by simp [Half.all, hm])
  have hAT : Hid (0 < n → ∀ k ∈ ob A, k ∉ f.T) := fun h0 k hk hm => HA.out h0 k hk (by simp [Half.all, hm])
  have hTS : Hid (∀ k ∈ f.T, k ∉ f.S) := fun k hk hm => hST.out k hm hk
  go_wp2_with (go_at_call 30; refine (hcall _).mono ?_; rintro e w' ⟨rfl, rfl⟩)
  go_still_tail 12, (by kernel_rfl)
  change wpList _ _ _ _ _ w0.drew
  go_wp2_with (first
    | (go_at_call 20; refine Calls.mono (crashF_calls (p := f.p) (s := f.s) (S := f.S) (bs := f.bs) ?_ a b c) ?_; · exact hd
       rintro e w2 ⟨rfl, hl2⟩
       have hl2' := hl2
       obtain ⟨S2, hd2, hc2, hS2⟩ := hl2'
       have c22 := hc2.cell (p := ⟨q, 2 + i, none⟩) (v := .pointer (some ⟨f.r, 0, none⟩)) (by exact c2) hqf.out
       have b22 := hc2.cell (p := ⟨gb, 2, none⟩) (v := .int .i64 a) (by exact b2) hgf.out
       have b23 := hc2.cell (p := ⟨gb, 3, none⟩) (v := .int .i64 b) (by exact b3) hgf.out
       have b24 := hc2.cell (p := ⟨gb, 4, none⟩) (v := .int .i64 c) (by exact b4) hgf.out
       have b25 := hc2.cell (p := ⟨gb, 5, none⟩) (v := .slice A n cap) (by exact b5) hgf.out
       have rd2 := Lib.hid (hc2.rdisk hr hTS.out)
       have y2 := Lib.hid (hc2.reads0 hy0 hAS.out)))
  refine wp_region_still_tail 14 (by kernel_rfl) (by kernel_rfl) ?_
  simp only [List.take_succ_cons, List.take_zero, List.drop_succ_cons, List.drop_zero]
  still_step
  still_call ((num_calls _ _).mono (fun _ _ ⟨h1, h2⟩ => ⟨h1, h2.symm⟩))
  repeat still_step
  try refine wpStill_nil ?_
  change wpList _ _ _ _ _ w2.drew
  go_wp2_with (first
    | (go_at_call 41; refine Calls.mono (rcrash_calls (p := f.r) (s := f.s) (S := f.T) (bs := f.bs) ?_ a b c) ?_; · exact rd2.out
       rintro e w3 ⟨rfl, hl3⟩))
  go_ret
  refine ⟨rfl, pair_both H.out (by first | exact q0 | exact q0.drew | exact q0.drewN _) hl2 (by first | exact Chg.refl _ _ | exact (Chg.refl _ _).drew | exact (Chg.refl _ _).drewN _) hl3 (by first | exact Chg.refl _ _ | exact (Chg.refl _ _).drew | exact (Chg.refl _ _).drewN _)⟩

set_option maxHeartbeats 4000000 in
set_option maxRecDepth 1000000 in
theorem step_7 {w : World} {q : Nat} {f g : Half} (o : GOp) (h : PairAt w q (siteN o.site) f g) (ho : o.Ok w) (hA : 0 < o.n → ∀ k ∈ ob o.A, k ∉ f.all) (hk : o.kind = 7) :
    Calls Try.prog 32 #[.pointer (some ⟨q, 0, none⟩), o.val] w fun e w' => e = .returned (.bool true) ∧ PLeft w q (siteN o.site) f g w' := by
  obtain ⟨k, st, a, b, c, A, n, cap, ys⟩ := o
  obtain ⟨hy, hn'⟩ := ho
  simp only at hk hy hn' hA
  subst hk
  have q0 : Chg [] w (w.alloc (.cells #[.int .i64 7, .int .i64 st, .int .i64 a, .int .i64 b, .int .i64 c, .slice A n cap] 44)) := (Chg.refl _ _).alloc _
  have h0 := h.keep q0
  have hy0 := hy.keep q0 (by simp)
  have hbx := Blk.new w 44 #[.int .i64 7, .int .i64 st, .int .i64 a, .int .i64 b, .int .i64 c, .slice A n cap]
  have hgS : Hid (∀ k ∈ f.all, k ≠ w.heap.size) := fun k hk he => by have := h.2.1.lt k hk; omega
  have HA := Lib.hid hA
  clear hA
  unfold GOp.val
  simp only at h h0 ⊢
  have hs2 := siteN_lt st
  have hcall := siteN_calls st
  generalize hsi0 : siteN st = i at *
  have HSI := Lib.hid hsi0
  clear hsi0
  have hi0 : (0 : Int) ≤ (i : Int) := by omega
  have hi1 : (i : Int) < 2 := by omega
  have H := Lib.hid h
  have H0 := Lib.hid h0
  clear h h0
  have hqS : Hid (q ∉ f.all) := H.out.2.2.2.2.1
  have hlw : Hid (∀ k ∈ f.all, k < w.heap.size) := H.out.2.1.lt
  go_enter Try.func32, Try.ntmps32
  go_wp2_with fail
  generalize w.alloc (.cells #[.int .i64 7, .int .i64 st, .int .i64 a, .int .i64 b, .int .i64 c, .slice A n cap] 44) = w0 at *
  have hsz := Lib.hid q0.size
  generalize hgb : w.heap.size = gb at *
  have HGB := Lib.hid hgb
  clear hgb
  have b0 := hbx.cell 0
  have b1 := hbx.cell 1
  have b2 := hbx.cell 2
  have b3 := hbx.cell 3
  have b4 := hbx.cell 4
  have b5 := hbx.cell 5
  have c1 := H0.out.one
  have c2 := H0.out.two
  have hd := H0.out.2.1.1
  have hr := H0.out.2.1.2.1
  have hST := Lib.hid H0.out.2.1.2.2
  have hgf : Hid (gb ∉ f.S) := fun hm => hgS.out gb (by simp [Half.all, hm]) rfl
  have hqf : Hid (q ∉ f.S) := fun hm => hqS.out (by simp [Half.all, hm])
  have hAS : Hid (0 < n → ∀ k ∈ ob A, k ∉ f.S) := fun h0 k hk hm => HA.out h0 k hk (by simp [Half.all, hm])
  have hAT : Hid (0 < n → ∀ k ∈ ob A, k ∉ f.T) := fun h0 k hk hm => HA.out h0 k hk (by simp [Half.all, hm])
  have hTS : Hid (∀ k ∈ f.T, k ∉ f.S) := fun k hk hm => hST.out k hm hk
  have HC : Hid (∀ j u, ([.int .i64 7, .int .i64 st, .int .i64 a, .int .i64 b, .int .i64 c, .slice A n cap] : List Value)[j]? = some u → w0.cell? ((⟨gb, 0, none⟩ : Addr).add j) = some u) := by
    intro j u hu
    rw [add_head, hbx.cell]
    simpa using hu
  have hsi : Hid (siteN st = i) := HSI
  go_wp2_with (first
    | (go_at_call 30; refine (hcall _).mono ?_; rintro e w' ⟨rfl, rfl⟩)
    | (with_reducible refine wpList_load_cells _ rfl 44 (.tmp 3) rfl ⟨gb, 0, none⟩ rfl _ HC.out (.struct _) Try.underlying44 rfl (by kernel_rfl) ?_)
    | (go_at_call 33; refine Calls.mono (asked_calls (f := f) (g := g) ⟨7, st, a, b, c, A, n, cap, ys⟩ ?_) ?_; · exact (by rw [hsi.out]; exact H0.out)
       rintro e w' ⟨rfl, hl⟩))
  go_ret
  exact ⟨rfl, PLeft.same H.out (q0.next hl)⟩

set_option maxHeartbeats 4000000 in
set_option maxRecDepth 1000000 in
theorem step_8 {w : World} {q : Nat} {f g : Half} (o : GOp) (h : PairAt w q (siteN o.site) f g) (ho : o.Ok w) (hA : 0 < o.n → ∀ k ∈ ob o.A, k ∉ f.all) (hk : o.kind = 8) :
    Calls Try.prog 32 #[.pointer (some ⟨q, 0, none⟩), o.val] w fun e w' => e = .returned (.bool true) ∧ PLeft w q (siteN o.site) f g w' := by
  obtain ⟨k, st, a, b, c, A, n, cap, ys⟩ := o
  obtain ⟨hy, hn'⟩ := ho
  simp only at hk hy hn' hA
  subst hk
  have q0 : Chg [] w (w.alloc (.cells #[.int .i64 8, .int .i64 st, .int .i64 a, .int .i64 b, .int .i64 c, .slice A n cap] 44)) := (Chg.refl _ _).alloc _
  have h0 := h.keep q0
  have hy0 := hy.keep q0 (by simp)
  have hbx := Blk.new w 44 #[.int .i64 8, .int .i64 st, .int .i64 a, .int .i64 b, .int .i64 c, .slice A n cap]
  have hgS : Hid (∀ k ∈ f.all, k ≠ w.heap.size) := fun k hk he => by have := h.2.1.lt k hk; omega
  have HA := Lib.hid hA
  clear hA
  unfold GOp.val
  simp only at h h0 ⊢
  have hs2 := siteN_lt st
  have hcall := siteN_calls st
  generalize hsi0 : siteN st = i at *
  have HSI := Lib.hid hsi0
  clear hsi0
  have hi0 : (0 : Int) ≤ (i : Int) := by omega
  have hi1 : (i : Int) < 2 := by omega
  have H := Lib.hid h
  have H0 := Lib.hid h0
  clear h h0
  have hqS : Hid (q ∉ f.all) := H.out.2.2.2.2.1
  have hlw : Hid (∀ k ∈ f.all, k < w.heap.size) := H.out.2.1.lt
  go_enter Try.func32, Try.ntmps32
  go_wp2_with fail
  generalize w.alloc (.cells #[.int .i64 8, .int .i64 st, .int .i64 a, .int .i64 b, .int .i64 c, .slice A n cap] 44) = w0 at *
  have hsz := Lib.hid q0.size
  generalize hgb : w.heap.size = gb at *
  have HGB := Lib.hid hgb
  clear hgb
  have b0 := hbx.cell 0
  have b1 := hbx.cell 1
  have b2 := hbx.cell 2
  have b3 := hbx.cell 3
  have b4 := hbx.cell 4
  have b5 := hbx.cell 5
  have c1 := H0.out.one
  have c2 := H0.out.two
  have hd := H0.out.2.1.1
  have hr := H0.out.2.1.2.1
  have hST := Lib.hid H0.out.2.1.2.2
  have hgf : Hid (gb ∉ f.S) := fun hm => hgS.out gb (by simp [Half.all, hm]) rfl
  have hqf : Hid (q ∉ f.S) := fun hm => hqS.out (by simp [Half.all, hm])
  have hAS : Hid (0 < n → ∀ k ∈ ob A, k ∉ f.S) := fun h0 k hk hm => HA.out h0 k hk (by simp [Half.all, hm])
  have hAT : Hid (0 < n → ∀ k ∈ ob A, k ∉ f.T) := fun h0 k hk hm => HA.out h0 k hk (by simp [Half.all, hm])
  have hTS : Hid (∀ k ∈ f.T, k ∉ f.S) := fun k hk hm => hST.out k hm hk
  have HC : Hid (∀ j u, ([.int .i64 8, .int .i64 st, .int .i64 a, .int .i64 b, .int .i64 c, .slice A n cap] : List Value)[j]? = some u → w0.cell? ((⟨gb, 0, none⟩ : Addr).add j) = some u) := by
    intro j u hu
    rw [add_head, hbx.cell]
    simpa using hu
  have hsi : Hid (siteN st = i) := HSI
  go_wp2_with (first
    | (go_at_call 30; refine (hcall _).mono ?_; rintro e w' ⟨rfl, rfl⟩)
    | (with_reducible refine wpList_load_cells _ rfl 44 (.tmp 3) rfl ⟨gb, 0, none⟩ rfl _ HC.out (.struct _) Try.underlying44 rfl (by kernel_rfl) ?_)
    | (go_at_call 33; refine Calls.mono (asked_calls (f := f) (g := g) ⟨8, st, a, b, c, A, n, cap, ys⟩ ?_) ?_; · exact (by rw [hsi.out]; exact H0.out)
       rintro e w' ⟨rfl, hl⟩))
  go_ret
  exact ⟨rfl, PLeft.same H.out (q0.next hl)⟩

set_option maxHeartbeats 4000000 in
set_option maxRecDepth 1000000 in
theorem step_9 {w : World} {q : Nat} {f g : Half} (o : GOp) (h : PairAt w q (siteN o.site) f g) (ho : o.Ok w) (hA : 0 < o.n → ∀ k ∈ ob o.A, k ∉ f.all) (hk : o.kind = 9) :
    Calls Try.prog 32 #[.pointer (some ⟨q, 0, none⟩), o.val] w fun e w' => e = .returned (.bool true) ∧ PLeft w q (siteN o.site) f g w' := by
  obtain ⟨k, st, a, b, c, A, n, cap, ys⟩ := o
  obtain ⟨hy, hn'⟩ := ho
  simp only at hk hy hn' hA
  subst hk
  have q0 : Chg [] w (w.alloc (.cells #[.int .i64 9, .int .i64 st, .int .i64 a, .int .i64 b, .int .i64 c, .slice A n cap] 44)) := (Chg.refl _ _).alloc _
  have h0 := h.keep q0
  have hy0 := hy.keep q0 (by simp)
  have hbx := Blk.new w 44 #[.int .i64 9, .int .i64 st, .int .i64 a, .int .i64 b, .int .i64 c, .slice A n cap]
  have hgS : Hid (∀ k ∈ f.all, k ≠ w.heap.size) := fun k hk he => by have := h.2.1.lt k hk; omega
  have HA := Lib.hid hA
  clear hA
  unfold GOp.val
  simp only at h h0 ⊢
  have hs2 := siteN_lt st
  have hcall := siteN_calls st
  generalize hsi0 : siteN st = i at *
  have HSI := Lib.hid hsi0
  clear hsi0
  have hi0 : (0 : Int) ≤ (i : Int) := by omega
  have hi1 : (i : Int) < 2 := by omega
  have H := Lib.hid h
  have H0 := Lib.hid h0
  clear h h0
  have hqS : Hid (q ∉ f.all) := H.out.2.2.2.2.1
  have hlw : Hid (∀ k ∈ f.all, k < w.heap.size) := H.out.2.1.lt
  go_enter Try.func32, Try.ntmps32
  go_wp2_with fail
  generalize w.alloc (.cells #[.int .i64 9, .int .i64 st, .int .i64 a, .int .i64 b, .int .i64 c, .slice A n cap] 44) = w0 at *
  have hsz := Lib.hid q0.size
  generalize hgb : w.heap.size = gb at *
  have HGB := Lib.hid hgb
  clear hgb
  have b0 := hbx.cell 0
  have b1 := hbx.cell 1
  have b2 := hbx.cell 2
  have b3 := hbx.cell 3
  have b4 := hbx.cell 4
  have b5 := hbx.cell 5
  have c1 := H0.out.one
  have c2 := H0.out.two
  have hd := H0.out.2.1.1
  have hr := H0.out.2.1.2.1
  have hST := Lib.hid H0.out.2.1.2.2
  have hgf : Hid (gb ∉ f.S) := fun hm => hgS.out gb (by simp [Half.all, hm]) rfl
  have hqf : Hid (q ∉ f.S) := fun hm => hqS.out (by simp [Half.all, hm])
  have hAS : Hid (0 < n → ∀ k ∈ ob A, k ∉ f.S) := fun h0 k hk hm => HA.out h0 k hk (by simp [Half.all, hm])
  have hAT : Hid (0 < n → ∀ k ∈ ob A, k ∉ f.T) := fun h0 k hk hm => HA.out h0 k hk (by simp [Half.all, hm])
  have hTS : Hid (∀ k ∈ f.T, k ∉ f.S) := fun k hk hm => hST.out k hm hk
  have HC : Hid (∀ j u, ([.int .i64 9, .int .i64 st, .int .i64 a, .int .i64 b, .int .i64 c, .slice A n cap] : List Value)[j]? = some u → w0.cell? ((⟨gb, 0, none⟩ : Addr).add j) = some u) := by
    intro j u hu
    rw [add_head, hbx.cell]
    simpa using hu
  have hsi : Hid (siteN st = i) := HSI
  go_wp2_with (first
    | (go_at_call 30; refine (hcall _).mono ?_; rintro e w' ⟨rfl, rfl⟩)
    | (with_reducible refine wpList_load_cells _ rfl 44 (.tmp 3) rfl ⟨gb, 0, none⟩ rfl _ HC.out (.struct _) Try.underlying44 rfl (by kernel_rfl) ?_)
    | (go_at_call 33; refine Calls.mono (asked_calls (f := f) (g := g) ⟨9, st, a, b, c, A, n, cap, ys⟩ ?_) ?_; · exact (by rw [hsi.out]; exact H0.out)
       rintro e w' ⟨rfl, hl⟩))
  go_ret
  exact ⟨rfl, PLeft.same H.out (q0.next hl)⟩

set_option maxHeartbeats 4000000 in
set_option maxRecDepth 1000000 in
theorem step_no {w : World} {q : Nat} {f g : Half} (o : GOp) (h : PairAt w q (siteN o.site) f g) (ho : o.Ok w) (hA : 0 < o.n → ∀ k ∈ ob o.A, k ∉ f.all) (hk : o.kind ≠ 1 ∧ o.kind ≠ 2 ∧ o.kind ≠ 3 ∧ o.kind ≠ 4 ∧ o.kind ≠ 5 ∧ o.kind ≠ 6 ∧ o.kind ≠ 7 ∧ o.kind ≠ 8 ∧ o.kind ≠ 9 ∧ o.kind ≠ 10) :
    Calls Try.prog 32 #[.pointer (some ⟨q, 0, none⟩), o.val] w fun e w' => e = .returned (.bool true) ∧ PLeft w q (siteN o.site) f g w' := by
  obtain ⟨k, st, a, b, c, A, n, cap, ys⟩ := o
  obtain ⟨hy, hn'⟩ := ho
  simp only at hk hy hn' hA
  have q0 : Chg [] w (w.alloc (.cells #[.int .i64 k, .int .i64 st, .int .i64 a, .int .i64 b, .int .i64 c, .slice A n cap] 44)) := (Chg.refl _ _).alloc _
  have h0 := h.keep q0
  have hy0 := hy.keep q0 (by simp)
  have hbx := Blk.new w 44 #[.int .i64 k, .int .i64 st, .int .i64 a, .int .i64 b, .int .i64 c, .slice A n cap]
  have hgS : Hid (∀ k ∈ f.all, k ≠ w.heap.size) := fun k hk he => by have := h.2.1.lt k hk; omega
  have HA := Lib.hid hA
  clear hA
  unfold GOp.val
  simp only at h h0 ⊢
  have hs2 := siteN_lt st
  have hcall := siteN_calls st
  generalize siteN st = i at *
  have hi0 : (0 : Int) ≤ (i : Int) := by omega
  have hi1 : (i : Int) < 2 := by omega
  have H := Lib.hid h
  have H0 := Lib.hid h0
  clear h h0
  have hqS : Hid (q ∉ f.all) := H.out.2.2.2.2.1
  have hlw : Hid (∀ k ∈ f.all, k < w.heap.size) := H.out.2.1.lt
  go_enter Try.func32, Try.ntmps32
  go_wp2_with fail
  generalize w.alloc (.cells #[.int .i64 k, .int .i64 st, .int .i64 a, .int .i64 b, .int .i64 c, .slice A n cap] 44) = w0 at *
  have hsz := Lib.hid q0.size
  generalize hgb : w.heap.size = gb at *
  have HGB := Lib.hid hgb
  clear hgb
  have b0 := hbx.cell 0
  have b1 := hbx.cell 1
  have b2 := hbx.cell 2
  have b3 := hbx.cell 3
  have b4 := hbx.cell 4
  have b5 := hbx.cell 5
  have c1 := H0.out.one
  have c2 := H0.out.two
  have hd := H0.out.2.1.1
  have hr := H0.out.2.1.2.1
  have hST := Lib.hid H0.out.2.1.2.2
  have hgf : Hid (gb ∉ f.S) := fun hm => hgS.out gb (by simp [Half.all, hm]) rfl
  have hqf : Hid (q ∉ f.S) := fun hm => hqS.out (by simp [Half.all, hm])
  have hAS : Hid (0 < n → ∀ k ∈ ob A, k ∉ f.S) := fun h0 k hk hm => HA.out h0 k hk (by simp [Half.all, hm])
  have hAT : Hid (0 < n → ∀ k ∈ ob A, k ∉ f.T) := fun h0 k hk hm => HA.out h0 k hk (by simp [Half.all, hm])
  have hTS : Hid (∀ k ∈ f.T, k ∉ f.S) := fun k hk hm => hST.out k hm hk
  have b1' : (k == 1) = false := by simpa using hk.1
  have b2' : (k == 2) = false := by simpa using hk.2.1
  have b3' : (k == 3) = false := by simpa using hk.2.2.1
  have b4' : (k == 4) = false := by simpa using hk.2.2.2.1
  have b5' : (k == 5) = false := by simpa using hk.2.2.2.2.1
  have b6' : (k == 6) = false := by simpa using hk.2.2.2.2.2.1
  have b7' : (k == 7) = false := by simpa using hk.2.2.2.2.2.2.1
  have b8' : (k == 8) = false := by simpa using hk.2.2.2.2.2.2.2.1
  have b9' : (k == 9) = false := by simpa using hk.2.2.2.2.2.2.2.2.1
  have b10' : (k == 10) = false := by simpa using hk.2.2.2.2.2.2.2.2.2
  clear hk
  go_wp2_with (go_at_call 30; refine (hcall _).mono ?_; rintro e w' ⟨rfl, rfl⟩)
  go_ret
  exact ⟨rfl, PLeft.same H.out q0⟩


end Go.Proofs.Ytoaaneejecdglaa
