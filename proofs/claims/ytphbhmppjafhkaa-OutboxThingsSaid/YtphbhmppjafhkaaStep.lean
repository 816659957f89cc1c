/-
  PROVED: the contracts of the pair's lists and step.
-/
import Derived.Test.YtphbhmppjafhkaaPair
namespace Go.Proofs.Ytphbhmppjafhkaa
open Go.RowKit

theorem Chg.box {w w' : World} {p win : Nat} {S T : List Nat} {t : St} (hc : Chg T w w') (h : Box w p S win t) (hS : ∀ i ∈ S, i ∉ T) : Box w' p S win t := h.keep hc hS
theorem Chg.rbox {w w' : World} {p win : Nat} {S T : List Nat} {t : St} (hc : Chg T w w') (h : RBox w p S win t) (hS : ∀ i ∈ S, i ∉ T) : RBox w' p S win t := h.keep hc hS

set_option maxHeartbeats 4000000 in
set_option maxRecDepth 1000000 in
theorem lists_due {w : World} {q : Nat} {f g : Half} (o : GOp) (h : PairAt w q (siteN o.site) f g) (hk : o.kind = 2) :
    Calls Try.prog 25 #[.pointer (some ⟨q, 0, none⟩), o.val] w fun e w' => e = .returned (.bool true) ∧ PLeft w q (siteN o.site) f g w' := by
  obtain ⟨k, st, n⟩ := o
  simp only at hk
  subst hk
  have q0 : Chg [] w (w.alloc (.cells #[.int .i64 2, .int .i64 st, .int .i64 n] 32)) := (Chg.refl _ _).alloc _
  have h0 := h.keep q0
  have hbx := Blk.new w 32 #[.int .i64 2, .int .i64 st, .int .i64 n]
  have hgS : Hid (∀ k ∈ f.all, k ≠ w.heap.size) := fun k hk he => by have := h.2.1.lt k hk; omega
  unfold GOp.val
  simp only at h h0 ⊢
  have hs2 := siteN_lt st
  have hcall := siteN_calls st
  generalize hsi0 : siteN st = i at *
  have HSI := Lib.hid hsi0
  clear hsi0
  have hi0 : (0 : Int) ≤ (i : Int) := by omega
  have hi1 : (i : Int) < 2 := by omega
  have H := Lib.hid h
  have H0 := Lib.hid h0
  clear h h0
  have hqS : Hid (q ∉ f.all) := H.out.2.2.2.2.1
  have hlw : Hid (∀ k ∈ f.all, k < w.heap.size) := H.out.2.1.lt
  go_enter Try.func25, Try.ntmps25
  go_wp2_with fail
  generalize w.alloc (.cells #[.int .i64 2, .int .i64 st, .int .i64 n] 32) = w0 at *
  have hsz := Lib.hid q0.size
  generalize hgb : w.heap.size = gb at *
  have HGB := Lib.hid hgb
  clear hgb
  have b0 := hbx.cell 0
  have b1 := hbx.cell 1
  have b2 := hbx.cell 2
  have c1 := H0.out.one
  have c2 := H0.out.two
  have hd := H0.out.2.1.1
  have hr := H0.out.2.1.2.1
  have hST := Lib.hid H0.out.2.1.2.2
  have hgf : Hid (gb ∉ f.S) := fun hm => hgS.out gb (by simp [Half.all, hm]) rfl
  have hqf : Hid (q ∉ f.S) := fun hm => hqS.out (by simp [Half.all, hm])
  have hTS : Hid (∀ k ∈ f.T, k ∉ f.S) := fun k hk hm => hST.out k hm hk
  have hok := Lib.hid hd.ok
  have hwin := Lib.hid hd.win
  go_wp2_with (first
    | (go_at_call 49; refine (hcall _).mono ?_; rintro e w' ⟨rfl, rfl⟩)
    | (go_at_call 17; refine (due_calls hd).mono ?_
       rintro e w2 ⟨z, rfl, hr2, hl2, hz2⟩
       have hl2' := hl2
       obtain ⟨S2, hd2, hc2, hS2⟩ := hl2'
       have hzT : Hid (∀ k ∈ ob (some (⟨z, 0, none⟩ : Addr)), k ∉ f.T) := fun k hk hm => by
         have h1 := hlw.out k (by simp [Half.all, hm])
         have h2 := hsz.out
         have h3 := HGB.out
         simp [ob] at hk
         omega
       have c22 := hc2.cell (p := ⟨q, 2 + i, none⟩) (v := .pointer (some ⟨f.r, 0, none⟩)) (by exact c2) hqf.out
       have b22 := hc2.cell (p := ⟨gb, 2, none⟩) (v := .int .i64 n) (by exact b2) hgf.out
       have rd2 := Lib.hid (hc2.rbox hr hTS.out))
    | (go_at_call 35; refine (rdue_calls rd2.out).mono ?_
       rintro e w3 ⟨Z, cz, rfl, hr3, hl3, hz3⟩
       have hl3' := hl3
       obtain ⟨T3, hd3, hc3, hT3⟩ := hl3'
       have hx3 := hr2.reads.keep hc3 hzT.out
       have hm4 : min f.win f.t.xs.length ≤ 4096 := by have := hwin.out; omega)
    | (go_at_call 53; refine (sameItems_yes hm4 hx3 hr3).mono ?_; rintro e w' ⟨rfl, q5, rfl⟩))
  go_ret
  exact ⟨rfl, pair_both H.out q0 hl2 (Chg.refl _ _) hl3 ((Chg.refl _ _).drewN q5)⟩

set_option maxHeartbeats 4000000 in
set_option maxRecDepth 1000000 in
theorem lists_left {w : World} {q : Nat} {f g : Half} (o : GOp) (h : PairAt w q (siteN o.site) f g) (hk : ¬ o.kind = 2) :
    Calls Try.prog 25 #[.pointer (some ⟨q, 0, none⟩), o.val] w fun e w' => e = .returned (.bool true) ∧ PLeft w q (siteN o.site) f g w' := by
  obtain ⟨k, st, n⟩ := o
  simp only at hk
  have q0 : Chg [] w (w.alloc (.cells #[.int .i64 k, .int .i64 st, .int .i64 n] 32)) := (Chg.refl _ _).alloc _
  have h0 := h.keep q0
  have hbx := Blk.new w 32 #[.int .i64 k, .int .i64 st, .int .i64 n]
  have hgS : Hid (∀ k ∈ f.all, k ≠ w.heap.size) := fun k hk he => by have := h.2.1.lt k hk; omega
  unfold GOp.val
  simp only at h h0 ⊢
  have hs2 := siteN_lt st
  have hcall := siteN_calls st
  generalize hsi0 : siteN st = i at *
  have HSI := Lib.hid hsi0
  clear hsi0
  have hi0 : (0 : Int) ≤ (i : Int) := by omega
  have hi1 : (i : Int) < 2 := by omega
  have H := Lib.hid h
  have H0 := Lib.hid h0
  clear h h0
  have hqS : Hid (q ∉ f.all) := H.out.2.2.2.2.1
  have hlw : Hid (∀ k ∈ f.all, k < w.heap.size) := H.out.2.1.lt
  go_enter Try.func25, Try.ntmps25
  go_wp2_with fail
  generalize w.alloc (.cells #[.int .i64 k, .int .i64 st, .int .i64 n] 32) = w0 at *
  have hsz := Lib.hid q0.size
  generalize hgb : w.heap.size = gb at *
  have HGB := Lib.hid hgb
  clear hgb
  have b0 := hbx.cell 0
  have b1 := hbx.cell 1
  have b2 := hbx.cell 2
  have c1 := H0.out.one
  have c2 := H0.out.two
  have hd := H0.out.2.1.1
  have hr := H0.out.2.1.2.1
  have hST := Lib.hid H0.out.2.1.2.2
  have hgf : Hid (gb ∉ f.S) := fun hm => hgS.out gb (by simp [Half.all, hm]) rfl
  have hqf : Hid (q ∉ f.S) := fun hm => hqS.out (by simp [Half.all, hm])
  have hTS : Hid (∀ k ∈ f.T, k ∉ f.S) := fun k hk hm => hST.out k hm hk
  have bk : (k == 2) = false := by simpa using hk
  have hok := Lib.hid hd.ok
  clear hk
  go_wp2_with (first
    | (go_at_call 49; refine (hcall _).mono ?_; rintro e w' ⟨rfl, rfl⟩)
    | (go_at_call 22; refine (left_calls hd).mono ?_
       rintro e w2 ⟨z, rfl, hr2, hc2, hz2⟩
       have c22 := hc2.cell (p := ⟨q, 2 + i, none⟩) (v := .pointer (some ⟨f.r, 0, none⟩)) (by exact c2) (by simp)
       have rd2 := Lib.hid (hc2.rbox hr (by simp)))
    | (go_at_call 39; refine (rleft_calls rd2.out).mono ?_
       rintro e w3 ⟨Z, cz, rfl, hr3, hc3, hz3⟩
       have hx3 := hr2.reads.keep hc3 (by simp)
       have hm4 : f.t.xs.length ≤ 4096 := by have := hok.out.2.2; omega)
    | (go_at_call 53; refine (sameItems_yes hm4 hx3 hr3).mono ?_; rintro e w' ⟨rfl, q5, rfl⟩))
  go_ret
  exact ⟨rfl, PLeft.same H.out (((q0.next hc2).next hc3).drewN q5)⟩

theorem lists_calls {w : World} {q : Nat} {f g : Half} (o : GOp) (h : PairAt w q (siteN o.site) f g) :
    Calls Try.prog 25 #[.pointer (some ⟨q, 0, none⟩), o.val] w fun e w' => e = .returned (.bool true) ∧ PLeft w q (siteN o.site) f g w' := by
  by_cases hk : o.kind = 2
  · exact lists_due o h hk
  · exact lists_left o h hk

set_option maxHeartbeats 4000000 in
set_option maxRecDepth 1000000 in
theorem step_1 {w : World} {q : Nat} {f g : Half} (o : GOp) (h : PairAt w q (siteN o.site) f g) (hk : o.kind = 1) :
    Calls Try.prog 24 #[.pointer (some ⟨q, 0, none⟩), o.val] w fun e w' => e = .returned (.bool true) ∧ PLeft w q (siteN o.site) f g w' := by
  obtain ⟨k, st, n⟩ := o
  simp only at hk
  subst hk
  have q0 : Chg [] w (w.alloc (.cells #[.int .i64 1, .int .i64 st, .int .i64 n] 32)) := (Chg.refl _ _).alloc _
  have h0 := h.keep q0
  have hbx := Blk.new w 32 #[.int .i64 1, .int .i64 st, .int .i64 n]
  have hgS : Hid (∀ k ∈ f.all, k ≠ w.heap.size) := fun k hk he => by have := h.2.1.lt k hk; omega
  unfold GOp.val
  simp only at h h0 ⊢
  have hs2 := siteN_lt st
  have hcall := siteN_calls st
  generalize hsi0 : siteN st = i at *
  have HSI := Lib.hid hsi0
  clear hsi0
  have hi0 : (0 : Int) ≤ (i : Int) := by omega
  have hi1 : (i : Int) < 2 := by omega
  have H := Lib.hid h
  have H0 := Lib.hid h0
  clear h h0
  have hqS : Hid (q ∉ f.all) := H.out.2.2.2.2.1
  have hlw : Hid (∀ k ∈ f.all, k < w.heap.size) := H.out.2.1.lt
  go_enter Try.func24, Try.ntmps24
  go_wp2_with fail
  generalize w.alloc (.cells #[.int .i64 1, .int .i64 st, .int .i64 n] 32) = w0 at *
  have hsz := Lib.hid q0.size
  generalize hgb : w.heap.size = gb at *
  have HGB := Lib.hid hgb
  clear hgb
  have b0 := hbx.cell 0
  have b1 := hbx.cell 1
  have b2 := hbx.cell 2
  have c1 := H0.out.one
  have c2 := H0.out.two
  have hd := H0.out.2.1.1
  have hr := H0.out.2.1.2.1
  have hST := Lib.hid H0.out.2.1.2.2
  have hgf : Hid (gb ∉ f.S) := fun hm => hgS.out gb (by simp [Half.all, hm]) rfl
  have hqf : Hid (q ∉ f.S) := fun hm => hqS.out (by simp [Half.all, hm])
  have hTS : Hid (∀ k ∈ f.T, k ∉ f.S) := fun k hk hm => hST.out k hm hk
  go_wp2_with (go_at_call 49; refine (hcall _).mono ?_; rintro e w' ⟨rfl, rfl⟩)
  go_region_law (first
    | (go_simp; go_at_call 12; refine Calls.mono (push_calls (p := f.p) (win := f.win) (S := f.S) (t := f.t) ?_ n) ?_; · exact hd
       rintro e w2 ⟨rfl, hl2⟩
       have hl2' := hl2
       obtain ⟨S2, hd2, hc2, hS2⟩ := hl2'
       have c22 := hc2.cell (p := ⟨q, 2 + i, none⟩) (v := .pointer (some ⟨f.r, 0, none⟩)) (by exact c2) hqf.out
       have b22 := hc2.cell (p := ⟨gb, 2, none⟩) (v := .int .i64 n) (by exact b2) hgf.out
       have rd2 := Lib.hid (hc2.rbox hr hTS.out)))
  all_goals
    go_wp2
    go_region_law (first
      | (go_simp; go_at_call 30; refine Calls.mono (rpush_calls (p := f.r) (win := f.win) (S := f.T) (t := f.t) ?_ n) ?_; · exact rd2.out
         rintro e w3 ⟨rfl, hl3⟩))
  all_goals
    go_wp2_with (go_at_call 11; refine (num_calls _ _).mono ?_; rintro e w' ⟨rfl, rfl⟩)
    go_ret
    refine ⟨by simp, pair_both H.out (by first | exact q0 | exact q0.drew | exact q0.drewN _) hl2 (by first | exact Chg.refl _ _ | exact (Chg.refl _ _).drew | exact (Chg.refl _ _).drewN _) hl3 (by first | exact Chg.refl _ _ | exact (Chg.refl _ _).drew | exact (Chg.refl _ _).drewN _)⟩

set_option maxHeartbeats 4000000 in
set_option maxRecDepth 1000000 in
theorem step_3 {w : World} {q : Nat} {f g : Half} (o : GOp) (h : PairAt w q (siteN o.site) f g) (hk : o.kind = 3) :
    Calls Try.prog 24 #[.pointer (some ⟨q, 0, none⟩), o.val] w fun e w' => e = .returned (.bool true) ∧ PLeft w q (siteN o.site) f g w' := by
  obtain ⟨k, st, n⟩ := o
  simp only at hk
  subst hk
  have q0 : Chg [] w (w.alloc (.cells #[.int .i64 3, .int .i64 st, .int .i64 n] 32)) := (Chg.refl _ _).alloc _
  have h0 := h.keep q0
  have hbx := Blk.new w 32 #[.int .i64 3, .int .i64 st, .int .i64 n]
  have hgS : Hid (∀ k ∈ f.all, k ≠ w.heap.size) := fun k hk he => by have := h.2.1.lt k hk; omega
  unfold GOp.val
  simp only at h h0 ⊢
  have hs2 := siteN_lt st
  have hcall := siteN_calls st
  generalize hsi0 : siteN st = i at *
  have HSI := Lib.hid hsi0
  clear hsi0
  have hi0 : (0 : Int) ≤ (i : Int) := by omega
  have hi1 : (i : Int) < 2 := by omega
  have H := Lib.hid h
  have H0 := Lib.hid h0
  clear h h0
  have hqS : Hid (q ∉ f.all) := H.out.2.2.2.2.1
  have hlw : Hid (∀ k ∈ f.all, k < w.heap.size) := H.out.2.1.lt
  go_enter Try.func24, Try.ntmps24
  go_wp2_with fail
  generalize w.alloc (.cells #[.int .i64 3, .int .i64 st, .int .i64 n] 32) = w0 at *
  have hsz := Lib.hid q0.size
  generalize hgb : w.heap.size = gb at *
  have HGB := Lib.hid hgb
  clear hgb
  have b0 := hbx.cell 0
  have b1 := hbx.cell 1
  have b2 := hbx.cell 2
  have c1 := H0.out.one
  have c2 := H0.out.two
  have hd := H0.out.2.1.1
  have hr := H0.out.2.1.2.1
  have hST := Lib.hid H0.out.2.1.2.2
  have hgf : Hid (gb ∉ f.S) := fun hm => hgS.out gb (by simp [Half.all, hm]) rfl
  have hqf : Hid (q ∉ f.S) := fun hm => hqS.out (by simp [Half.all, hm])
  have hTS : Hid (∀ k ∈ f.T, k ∉ f.S) := fun k hk hm => hST.out k hm hk
  go_wp2_with (go_at_call 49; refine (hcall _).mono ?_; rintro e w' ⟨rfl, rfl⟩)
  go_region_law (first
    | (go_simp; go_at_call 16; refine Calls.mono (ack_calls (p := f.p) (win := f.win) (S := f.S) (t := f.t) ?_ n) ?_; · exact hd
       rintro e w2 ⟨rfl, hl2⟩
       have hl2' := hl2
       obtain ⟨S2, hd2, hc2, hS2⟩ := hl2'
       have c22 := hc2.cell (p := ⟨q, 2 + i, none⟩) (v := .pointer (some ⟨f.r, 0, none⟩)) (by exact c2) hqf.out
       have b22 := hc2.cell (p := ⟨gb, 2, none⟩) (v := .int .i64 n) (by exact b2) hgf.out
       have rd2 := Lib.hid (hc2.rbox hr hTS.out)))
  all_goals
    go_wp2
    go_region_law (first
      | (go_simp; go_at_call 11; refine (num_calls _ _).mono ?_; rintro e w' ⟨rfl, rfl⟩)
      | (go_simp; go_at_call 32; refine Calls.mono (rack_calls (p := f.r) (win := f.win) (S := f.T) (t := f.t) ?_ n) ?_; · exact rd2.out
         rintro e w3 ⟨rfl, hl3⟩))
  all_goals
    go_wp2_with fail
    go_ret
    refine ⟨rfl, pair_both H.out (by first | exact q0 | exact q0.drew | exact q0.drewN _) hl2 (by first | exact Chg.refl _ _ | exact (Chg.refl _ _).drew | exact (Chg.refl _ _).drewN _) hl3 (by first | exact Chg.refl _ _ | exact (Chg.refl _ _).drew | exact (Chg.refl _ _).drewN _)⟩

set_option maxHeartbeats 4000000 in
set_option maxRecDepth 1000000 in
theorem step_2 {w : World} {q : Nat} {f g : Half} (o : GOp) (h : PairAt w q (siteN o.site) f g) (hk : o.kind = 2) :
    Calls Try.prog 24 #[.pointer (some ⟨q, 0, none⟩), o.val] w fun e w' => e = .returned (.bool true) ∧ PLeft w q (siteN o.site) f g w' := by
  obtain ⟨k, st, n⟩ := o
  simp only at hk
  subst hk
  have q0 : Chg [] w (w.alloc (.cells #[.int .i64 2, .int .i64 st, .int .i64 n] 32)) := (Chg.refl _ _).alloc _
  have h0 := h.keep q0
  have hbx := Blk.new w 32 #[.int .i64 2, .int .i64 st, .int .i64 n]
  have hgS : Hid (∀ k ∈ f.all, k ≠ w.heap.size) := fun k hk he => by have := h.2.1.lt k hk; omega
  unfold GOp.val
  simp only at h h0 ⊢
  have hs2 := siteN_lt st
  have hcall := siteN_calls st
  generalize hsi0 : siteN st = i at *
  have HSI := Lib.hid hsi0
  clear hsi0
  have hi0 : (0 : Int) ≤ (i : Int) := by omega
  have hi1 : (i : Int) < 2 := by omega
  have H := Lib.hid h
  have H0 := Lib.hid h0
  clear h h0
  have hqS : Hid (q ∉ f.all) := H.out.2.2.2.2.1
  have hlw : Hid (∀ k ∈ f.all, k < w.heap.size) := H.out.2.1.lt
  go_enter Try.func24, Try.ntmps24
  go_wp2_with fail
  generalize w.alloc (.cells #[.int .i64 2, .int .i64 st, .int .i64 n] 32) = w0 at *
  have hsz := Lib.hid q0.size
  generalize hgb : w.heap.size = gb at *
  have HGB := Lib.hid hgb
  clear hgb
  have b0 := hbx.cell 0
  have b1 := hbx.cell 1
  have b2 := hbx.cell 2
  have c1 := H0.out.one
  have c2 := H0.out.two
  have hd := H0.out.2.1.1
  have hr := H0.out.2.1.2.1
  have hST := Lib.hid H0.out.2.1.2.2
  have hgf : Hid (gb ∉ f.S) := fun hm => hgS.out gb (by simp [Half.all, hm]) rfl
  have hqf : Hid (q ∉ f.S) := fun hm => hqS.out (by simp [Half.all, hm])
  have hTS : Hid (∀ k ∈ f.T, k ∉ f.S) := fun k hk hm => hST.out k hm hk
  go_wp2_with (first
    | (go_at_call 49; refine (hcall _).mono ?_; rintro e w' ⟨rfl, rfl⟩)
    | (go_at_call 25; refine Calls.mono (lists_calls (f := f) (g := g) ⟨2, st, n⟩ (by show PairAt w0 q (siteN st) f g; rw [HSI.out]; exact H0.out)) ?_
       rintro e w' ⟨rfl, hl⟩))
  go_ret
  have hl' : PLeft w0 q (siteN st) f g _ := hl
  rw [HSI.out] at hl'
  exact ⟨rfl, PLeft.after q0 hl'⟩

set_option maxHeartbeats 4000000 in
set_option maxRecDepth 1000000 in
theorem step_4 {w : World} {q : Nat} {f g : Half} (o : GOp) (h : PairAt w q (siteN o.site) f g) (hk : o.kind = 4) :
    Calls Try.prog 24 #[.pointer (some ⟨q, 0, none⟩), o.val] w fun e w' => e = .returned (.bool true) ∧ PLeft w q (siteN o.site) f g w' := by
  obtain ⟨k, st, n⟩ := o
  simp only at hk
  subst hk
  have q0 : Chg [] w (w.alloc (.cells #[.int .i64 4, .int .i64 st, .int .i64 n] 32)) := (Chg.refl _ _).alloc _
  have h0 := h.keep q0
  have hbx := Blk.new w 32 #[.int .i64 4, .int .i64 st, .int .i64 n]
  have hgS : Hid (∀ k ∈ f.all, k ≠ w.heap.size) := fun k hk he => by have := h.2.1.lt k hk; omega
  unfold GOp.val
  simp only at h h0 ⊢
  have hs2 := siteN_lt st
  have hcall := siteN_calls st
  generalize hsi0 : siteN st = i at *
  have HSI := Lib.hid hsi0
  clear hsi0
  have hi0 : (0 : Int) ≤ (i : Int) := by omega
  have hi1 : (i : Int) < 2 := by omega
  have H := Lib.hid h
  have H0 := Lib.hid h0
  clear h h0
  have hqS : Hid (q ∉ f.all) := H.out.2.2.2.2.1
  have hlw : Hid (∀ k ∈ f.all, k < w.heap.size) := H.out.2.1.lt
  go_enter Try.func24, Try.ntmps24
  go_wp2_with fail
  generalize w.alloc (.cells #[.int .i64 4, .int .i64 st, .int .i64 n] 32) = w0 at *
  have hsz := Lib.hid q0.size
  generalize hgb : w.heap.size = gb at *
  have HGB := Lib.hid hgb
  clear hgb
  have b0 := hbx.cell 0
  have b1 := hbx.cell 1
  have b2 := hbx.cell 2
  have c1 := H0.out.one
  have c2 := H0.out.two
  have hd := H0.out.2.1.1
  have hr := H0.out.2.1.2.1
  have hST := Lib.hid H0.out.2.1.2.2
  have hgf : Hid (gb ∉ f.S) := fun hm => hgS.out gb (by simp [Half.all, hm]) rfl
  have hqf : Hid (q ∉ f.S) := fun hm => hqS.out (by simp [Half.all, hm])
  have hTS : Hid (∀ k ∈ f.T, k ∉ f.S) := fun k hk hm => hST.out k hm hk
  go_wp2_with (first
    | (go_at_call 49; refine (hcall _).mono ?_; rintro e w' ⟨rfl, rfl⟩)
    | (go_at_call 25; refine Calls.mono (lists_calls (f := f) (g := g) ⟨4, st, n⟩ (by show PairAt w0 q (siteN st) f g; rw [HSI.out]; exact H0.out)) ?_
       rintro e w' ⟨rfl, hl⟩))
  go_ret
  have hl' : PLeft w0 q (siteN st) f g _ := hl
  rw [HSI.out] at hl'
  exact ⟨rfl, PLeft.after q0 hl'⟩

set_option maxHeartbeats 4000000 in
set_option maxRecDepth 1000000 in
theorem step_5 {w : World} {q : Nat} {f g : Half} (o : GOp) (h : PairAt w q (siteN o.site) f g) (hk : o.kind = 5) :
    Calls Try.prog 24 #[.pointer (some ⟨q, 0, none⟩), o.val] w fun e w' => e = .returned (.bool true) ∧ PLeft w q (siteN o.site) f g w' := by
  obtain ⟨k, st, n⟩ := o
  simp only at hk
  subst hk
  have q0 : Chg [] w (w.alloc (.cells #[.int .i64 5, .int .i64 st, .int .i64 n] 32)) := (Chg.refl _ _).alloc _
  have h0 := h.keep q0
  have hbx := Blk.new w 32 #[.int .i64 5, .int .i64 st, .int .i64 n]
  have hgS : Hid (∀ k ∈ f.all, k ≠ w.heap.size) := fun k hk he => by have := h.2.1.lt k hk; omega
  unfold GOp.val
  simp only at h h0 ⊢
  have hs2 := siteN_lt st
  have hcall := siteN_calls st
  generalize hsi0 : siteN st = i at *
  have HSI := Lib.hid hsi0
  clear hsi0
  have hi0 : (0 : Int) ≤ (i : Int) := by omega
  have hi1 : (i : Int) < 2 := by omega
  have H := Lib.hid h
  have H0 := Lib.hid h0
  clear h h0
  have hqS : Hid (q ∉ f.all) := H.out.2.2.2.2.1
  have hlw : Hid (∀ k ∈ f.all, k < w.heap.size) := H.out.2.1.lt
  go_enter Try.func24, Try.ntmps24
  go_wp2_with fail
  generalize w.alloc (.cells #[.int .i64 5, .int .i64 st, .int .i64 n] 32) = w0 at *
  have hsz := Lib.hid q0.size
  generalize hgb : w.heap.size = gb at *
  have HGB := Lib.hid hgb
  clear hgb
  have b0 := hbx.cell 0
  have b1 := hbx.cell 1
  have b2 := hbx.cell 2
  have c1 := H0.out.one
  have c2 := H0.out.two
  have hd := H0.out.2.1.1
  have hr := H0.out.2.1.2.1
  have hST := Lib.hid H0.out.2.1.2.2
  have hgf : Hid (gb ∉ f.S) := fun hm => hgS.out gb (by simp [Half.all, hm]) rfl
  have hqf : Hid (q ∉ f.S) := fun hm => hqS.out (by simp [Half.all, hm])
  have hTS : Hid (∀ k ∈ f.T, k ∉ f.S) := fun k hk hm => hST.out k hm hk
  go_wp2_with (go_at_call 49; refine (hcall _).mono ?_; rintro e w' ⟨rfl, rfl⟩)
  go_region_law (first
    | (go_simp; go_at_call 13; refine Calls.mono (acked_calls (p := f.p) (win := f.win) (S := f.S) (t := f.t) ?_) ?_; · exact hd
       rintro e w' ⟨rfl, rfl⟩)
    | (go_simp; go_at_call 41; refine Calls.mono (racked_calls (p := f.r) (win := f.win) (S := f.T) (t := f.t) ?_) ?_; · exact hr
       rintro e w' ⟨rfl, rfl⟩))
  all_goals
    go_wp2
    go_ret
    exact ⟨rfl, PLeft.same H.out (by first | exact q0 | exact q0.drew | exact q0.drewN _)⟩

set_option maxHeartbeats 4000000 in
set_option maxRecDepth 1000000 in
theorem step_6 {w : World} {q : Nat} {f g : Half} (o : GOp) (h : PairAt w q (siteN o.site) f g) (hk : o.kind = 6) :
    Calls Try.prog 24 #[.pointer (some ⟨q, 0, none⟩), o.val] w fun e w' => e = .returned (.bool true) ∧ PLeft w q (siteN o.site) f g w' := by
  obtain ⟨k, st, n⟩ := o
  simp only at hk
  subst hk
  have q0 : Chg [] w (w.alloc (.cells #[.int .i64 6, .int .i64 st, .int .i64 n] 32)) := (Chg.refl _ _).alloc _
  have h0 := h.keep q0
  have hbx := Blk.new w 32 #[.int .i64 6, .int .i64 st, .int .i64 n]
  have hgS : Hid (∀ k ∈ f.all, k ≠ w.heap.size) := fun k hk he => by have := h.2.1.lt k hk; omega
  unfold GOp.val
  simp only at h h0 ⊢
  have hs2 := siteN_lt st
  have hcall := siteN_calls st
  generalize hsi0 : siteN st = i at *
  have HSI := Lib.hid hsi0
  clear hsi0
  have hi0 : (0 : Int) ≤ (i : Int) := by omega
  have hi1 : (i : Int) < 2 := by omega
  have H := Lib.hid h
  have H0 := Lib.hid h0
  clear h h0
  have hqS : Hid (q ∉ f.all) := H.out.2.2.2.2.1
  have hlw : Hid (∀ k ∈ f.all, k < w.heap.size) := H.out.2.1.lt
  go_enter Try.func24, Try.ntmps24
  go_wp2_with fail
  generalize w.alloc (.cells #[.int .i64 6, .int .i64 st, .int .i64 n] 32) = w0 at *
  have hsz := Lib.hid q0.size
  generalize hgb : w.heap.size = gb at *
  have HGB := Lib.hid hgb
  clear hgb
  have b0 := hbx.cell 0
  have b1 := hbx.cell 1
  have b2 := hbx.cell 2
  have c1 := H0.out.one
  have c2 := H0.out.two
  have hd := H0.out.2.1.1
  have hr := H0.out.2.1.2.1
  have hST := Lib.hid H0.out.2.1.2.2
  have hgf : Hid (gb ∉ f.S) := fun hm => hgS.out gb (by simp [Half.all, hm]) rfl
  have hqf : Hid (q ∉ f.S) := fun hm => hqS.out (by simp [Half.all, hm])
  have hTS : Hid (∀ k ∈ f.T, k ∉ f.S) := fun k hk hm => hST.out k hm hk
  go_wp2_with (go_at_call 49; refine (hcall _).mono ?_; rintro e w' ⟨rfl, rfl⟩)
  go_region_law (first
    | (go_simp; go_at_call 14; refine Calls.mono (sent_calls (p := f.p) (win := f.win) (S := f.S) (t := f.t) ?_) ?_; · exact hd
       rintro e w' ⟨rfl, rfl⟩)
    | (go_simp; go_at_call 43; refine Calls.mono (rsent_calls (p := f.r) (win := f.win) (S := f.T) (t := f.t) ?_) ?_; · exact hr
       rintro e w' ⟨rfl, rfl⟩))
  all_goals
    go_wp2
    go_ret
    exact ⟨rfl, PLeft.same H.out (by first | exact q0 | exact q0.drew | exact q0.drewN _)⟩

set_option maxHeartbeats 4000000 in
set_option maxRecDepth 1000000 in
theorem step_7 {w : World} {q : Nat} {f g : Half} (o : GOp) (h : PairAt w q (siteN o.site) f g) (hk : o.kind = 7) :
    Calls Try.prog 24 #[.pointer (some ⟨q, 0, none⟩), o.val] w fun e w' => e = .returned (.bool true) ∧ PLeft w q (siteN o.site) f g w' := by
  obtain ⟨k, st, n⟩ := o
  simp only at hk
  subst hk
  have q0 : Chg [] w (w.alloc (.cells #[.int .i64 7, .int .i64 st, .int .i64 n] 32)) := (Chg.refl _ _).alloc _
  have h0 := h.keep q0
  have hbx := Blk.new w 32 #[.int .i64 7, .int .i64 st, .int .i64 n]
  have hgS : Hid (∀ k ∈ f.all, k ≠ w.heap.size) := fun k hk he => by have := h.2.1.lt k hk; omega
  unfold GOp.val
  simp only at h h0 ⊢
  have hs2 := siteN_lt st
  have hcall := siteN_calls st
  generalize hsi0 : siteN st = i at *
  have HSI := Lib.hid hsi0
  clear hsi0
  have hi0 : (0 : Int) ≤ (i : Int) := by omega
  have hi1 : (i : Int) < 2 := by omega
  have H := Lib.hid h
  have H0 := Lib.hid h0
  clear h h0
  have hqS : Hid (q ∉ f.all) := H.out.2.2.2.2.1
  have hlw : Hid (∀ k ∈ f.all, k < w.heap.size) := H.out.2.1.lt
  go_enter Try.func24, Try.ntmps24
  go_wp2_with fail
  generalize w.alloc (.cells #[.int .i64 7, .int .i64 st, .int .i64 n] 32) = w0 at *
  have hsz := Lib.hid q0.size
  generalize hgb : w.heap.size = gb at *
  have HGB := Lib.hid hgb
  clear hgb
  have b0 := hbx.cell 0
  have b1 := hbx.cell 1
  have b2 := hbx.cell 2
  have c1 := H0.out.one
  have c2 := H0.out.two
  have hd := H0.out.2.1.1
  have hr := H0.out.2.1.2.1
  have hST := Lib.hid H0.out.2.1.2.2
  have hgf : Hid (gb ∉ f.S) := fun hm => hgS.out gb (by simp [Half.all, hm]) rfl
  have hqf : Hid (q ∉ f.S) := fun hm => hqS.out (by simp [Half.all, hm])
  have hTS : Hid (∀ k ∈ f.T, k ∉ f.S) := fun k hk hm => hST.out k hm hk
  go_wp2_with (go_at_call 49; refine (hcall _).mono ?_; rintro e w' ⟨rfl, rfl⟩)
  go_region_law (first
    | (go_simp; go_at_call 15; refine Calls.mono (last_calls (p := f.p) (win := f.win) (S := f.S) (t := f.t) ?_) ?_
       · first
           | exact hd
           | exact hd
       rintro e w' ⟨rfl, q7, rfl⟩)
    | (go_simp; go_at_call 45; refine Calls.mono (rlast_calls (p := f.r) (win := f.win) (S := f.T) (t := f.t) ?_) ?_
       · first
           | exact hr
           | exact hr.drewN _
       rintro e w' ⟨rfl, rfl⟩))
  all_goals
    go_wp2
    go_ret
    refine ⟨rfl, PLeft.same H.out ?_⟩
    first
      | exact q0.drew
      | exact q0.drewN _
      | exact q0.drew.drewN _
      | exact (q0.drewN _).drewN _

set_option maxHeartbeats 4000000 in
set_option maxRecDepth 1000000 in
theorem step_8 {w : World} {q : Nat} {f g : Half} (o : GOp) (h : PairAt w q (siteN o.site) f g) (hk : o.kind = 8) :
    Calls Try.prog 24 #[.pointer (some ⟨q, 0, none⟩), o.val] w fun e w' => e = .returned (.bool true) ∧ PLeft w q (siteN o.site) f g w' := by
  obtain ⟨k, st, n⟩ := o
  simp only at hk
  subst hk
  have q0 : Chg [] w (w.alloc (.cells #[.int .i64 8, .int .i64 st, .int .i64 n] 32)) := (Chg.refl _ _).alloc _
  have h0 := h.keep q0
  have hbx := Blk.new w 32 #[.int .i64 8, .int .i64 st, .int .i64 n]
  have hgS : Hid (∀ k ∈ f.all, k ≠ w.heap.size) := fun k hk he => by have := h.2.1.lt k hk; omega
  unfold GOp.val
  simp only at h h0 ⊢
  have hs2 := siteN_lt st
  have hcall := siteN_calls st
  generalize hsi0 : siteN st = i at *
  have HSI := Lib.hid hsi0
  clear hsi0
  have hi0 : (0 : Int) ≤ (i : Int) := by omega
  have hi1 : (i : Int) < 2 := by omega
  have H := Lib.hid h
  have H0 := Lib.hid h0
  clear h h0
  have hqS : Hid (q ∉ f.all) := H.out.2.2.2.2.1
  have hlw : Hid (∀ k ∈ f.all, k < w.heap.size) := H.out.2.1.lt
  go_enter Try.func24, Try.ntmps24
  go_wp2_with fail
  generalize w.alloc (.cells #[.int .i64 8, .int .i64 st, .int .i64 n] 32) = w0 at *
  have hsz := Lib.hid q0.size
  generalize hgb : w.heap.size = gb at *
  have HGB := Lib.hid hgb
  clear hgb
  have b0 := hbx.cell 0
  have b1 := hbx.cell 1
  have b2 := hbx.cell 2
  have c1 := H0.out.one
  have c2 := H0.out.two
  have hd := H0.out.2.1.1
  have hr := H0.out.2.1.2.1
  have hST := Lib.hid H0.out.2.1.2.2
  have hgf : Hid (gb ∉ f.S) := fun hm => hgS.out gb (by simp [Half.all, hm]) rfl
  have hqf : Hid (q ∉ f.S) := fun hm => hqS.out (by simp [Half.all, hm])
  have hTS : Hid (∀ k ∈ f.T, k ∉ f.S) := fun k hk hm => hST.out k hm hk
  go_wp2_with (first
    | (go_at_call 49; refine (hcall _).mono ?_; rintro e w' ⟨rfl, rfl⟩)
    | (go_at_call 18; refine (reset_calls hd).mono ?_
       rintro e w2 ⟨rfl, hl2⟩
       have hl2' := hl2
       obtain ⟨S2, hd2, hc2, hS2⟩ := hl2'
       have c22 := hc2.cell (p := ⟨q, 2 + i, none⟩) (v := .pointer (some ⟨f.r, 0, none⟩)) (by exact c2) hqf.out
       have b22 := hc2.cell (p := ⟨gb, 2, none⟩) (v := .int .i64 n) (by exact b2) hgf.out
       have rd2 := Lib.hid (hc2.rbox hr hTS.out))
    | (go_at_call 37; refine (rreset_calls rd2.out).mono ?_
       rintro e w3 ⟨rfl, hl3⟩))
  go_ret
  exact ⟨rfl, pair_both H.out q0 hl2 (Chg.refl _ _) hl3 (Chg.refl _ _)⟩

set_option maxHeartbeats 4000000 in
set_option maxRecDepth 1000000 in
theorem step_9 {w : World} {q : Nat} {f g : Half} (o : GOp) (h : PairAt w q (siteN o.site) f g) (hk : o.kind = 9) :
    Calls Try.prog 24 #[.pointer (some ⟨q, 0, none⟩), o.val] w fun e w' => e = .returned (.bool true) ∧ PLeft w q (siteN o.site) f g w' := by
  obtain ⟨k, st, n⟩ := o
  simp only at hk
  subst hk
  have q0 : Chg [] w (w.alloc (.cells #[.int .i64 9, .int .i64 st, .int .i64 n] 32)) := (Chg.refl _ _).alloc _
  have h0 := h.keep q0
  have hbx := Blk.new w 32 #[.int .i64 9, .int .i64 st, .int .i64 n]
  have hgS : Hid (∀ k ∈ f.all, k ≠ w.heap.size) := fun k hk he => by have := h.2.1.lt k hk; omega
  unfold GOp.val
  simp only at h h0 ⊢
  have hs2 := siteN_lt st
  have hcall := siteN_calls st
  generalize hsi0 : siteN st = i at *
  have HSI := Lib.hid hsi0
  clear hsi0
  have hi0 : (0 : Int) ≤ (i : Int) := by omega
  have hi1 : (i : Int) < 2 := by omega
  have H := Lib.hid h
  have H0 := Lib.hid h0
  clear h h0
  have hqS : Hid (q ∉ f.all) := H.out.2.2.2.2.1
  have hlw : Hid (∀ k ∈ f.all, k < w.heap.size) := H.out.2.1.lt
  go_enter Try.func24, Try.ntmps24
  go_wp2_with fail
  generalize w.alloc (.cells #[.int .i64 9, .int .i64 st, .int .i64 n] 32) = w0 at *
  have hsz := Lib.hid q0.size
  generalize hgb : w.heap.size = gb at *
  have HGB := Lib.hid hgb
  clear hgb
  have b0 := hbx.cell 0
  have b1 := hbx.cell 1
  have b2 := hbx.cell 2
  have c1 := H0.out.one
  have c2 := H0.out.two
  have hd := H0.out.2.1.1
  have hr := H0.out.2.1.2.1
  have hST := Lib.hid H0.out.2.1.2.2
  have hgf : Hid (gb ∉ f.S) := fun hm => hgS.out gb (by simp [Half.all, hm]) rfl
  have hqf : Hid (q ∉ f.S) := fun hm => hqS.out (by simp [Half.all, hm])
  have hTS : Hid (∀ k ∈ f.T, k ∉ f.S) := fun k hk hm => hST.out k hm hk
  by_cases hn : n < 1 ∨ 4096 < n
  · go_wp2_with (first
      | (go_at_call 49; refine (hcall _).mono ?_; rintro e w' ⟨rfl, rfl⟩)
      | (go_at_call 52; refine (renewed_no n hn).mono ?_; rintro e w' ⟨rfl, rfl⟩))
    go_ret
    exact ⟨rfl, PLeft.same H.out q0⟩
  · obtain ⟨m, rfl⟩ := Int.eq_ofNat_of_zero_le (show 0 ≤ n by omega)
    have HREN : Hid (Calls Try.prog 52 #[.pointer (some ⟨q, 0, none⟩), .int .i64 i, .int .i64 (m : Int)] w0 fun e w' => e = .returned (.bool true) ∧ PLeft w0 q i f g w') := by
      obtain ⟨⟨cs, hb, h4, hcs⟩, hrest⟩ := H0.out
      refine (renewed_ok hb h4 hs2 (n := m) (by omega) (by omega)).mono fun e w' ⟨he, hr⟩ => ⟨he, Renewed.left ⟨⟨cs, hb, h4, hcs⟩, hrest⟩ hs2 (n := m) (fun cs' hb' => ?_)⟩
      have e : cs' = cs := by
        unfold Blk at hb hb'
        rw [hb] at hb'
        injection hb' with hb'
        injection hb' with hb'
        exact hb'.symm
      rw [e]
      exact hr
    go_wp2_with (first
      | (go_at_call 49; refine (hcall _).mono ?_; rintro e w' ⟨rfl, rfl⟩)
      | (go_at_call 52; refine HREN.out.mono ?_; rintro e w' ⟨rfl, hl⟩))
    go_ret
    exact ⟨rfl, PLeft.after q0 hl⟩

set_option maxHeartbeats 4000000 in
set_option maxRecDepth 1000000 in
theorem step_no {w : World} {q : Nat} {f g : Half} (o : GOp) (h : PairAt w q (siteN o.site) f g) (hk : ¬ o.kind = 1 ∧ ¬ o.kind = 2 ∧ ¬ o.kind = 3 ∧ ¬ o.kind = 4 ∧ ¬ o.kind = 5 ∧ ¬ o.kind = 6 ∧ ¬ o.kind = 7 ∧ ¬ o.kind = 8 ∧ ¬ o.kind = 9) :
    Calls Try.prog 24 #[.pointer (some ⟨q, 0, none⟩), o.val] w fun e w' => e = .returned (.bool true) ∧ PLeft w q (siteN o.site) f g w' := by
  obtain ⟨k, st, n⟩ := o
  simp only at hk
  have q0 : Chg [] w (w.alloc (.cells #[.int .i64 k, .int .i64 st, .int .i64 n] 32)) := (Chg.refl _ _).alloc _
  have h0 := h.keep q0
  have hbx := Blk.new w 32 #[.int .i64 k, .int .i64 st, .int .i64 n]
  have hgS : Hid (∀ k ∈ f.all, k ≠ w.heap.size) := fun k hk he => by have := h.2.1.lt k hk; omega
  unfold GOp.val
  simp only at h h0 ⊢
  have hs2 := siteN_lt st
  have hcall := siteN_calls st
  generalize hsi0 : siteN st = i at *
  have HSI := Lib.hid hsi0
  clear hsi0
  have hi0 : (0 : Int) ≤ (i : Int) := by omega
  have hi1 : (i : Int) < 2 := by omega
  have H := Lib.hid h
  have H0 := Lib.hid h0
  clear h h0
  have hqS : Hid (q ∉ f.all) := H.out.2.2.2.2.1
  have hlw : Hid (∀ k ∈ f.all, k < w.heap.size) := H.out.2.1.lt
  go_enter Try.func24, Try.ntmps24
  go_wp2_with fail
  generalize w.alloc (.cells #[.int .i64 k, .int .i64 st, .int .i64 n] 32) = w0 at *
  have hsz := Lib.hid q0.size
  generalize hgb : w.heap.size = gb at *
  have HGB := Lib.hid hgb
  clear hgb
  have b0 := hbx.cell 0
  have b1 := hbx.cell 1
  have b2 := hbx.cell 2
  have c1 := H0.out.one
  have c2 := H0.out.two
  have hd := H0.out.2.1.1
  have hr := H0.out.2.1.2.1
  have hST := Lib.hid H0.out.2.1.2.2
  have hgf : Hid (gb ∉ f.S) := fun hm => hgS.out gb (by simp [Half.all, hm]) rfl
  have hqf : Hid (q ∉ f.S) := fun hm => hqS.out (by simp [Half.all, hm])
  have hTS : Hid (∀ k ∈ f.T, k ∉ f.S) := fun k hk hm => hST.out k hm hk
  have b1' : (k == 1) = false := by simpa using hk.1
  have b2' : (k == 2) = false := by simpa using hk.2.1
  have b3' : (k == 3) = false := by simpa using hk.2.2.1
  have b4' : (k == 4) = false := by simpa using hk.2.2.2.1
  have b5' : (k == 5) = false := by simpa using hk.2.2.2.2.1
  have b6' : (k == 6) = false := by simpa using hk.2.2.2.2.2.1
  have b7' : (k == 7) = false := by simpa using hk.2.2.2.2.2.2.1
  have b8' : (k == 8) = false := by simpa using hk.2.2.2.2.2.2.2.1
  have b9' : (k == 9) = false := by simpa using hk.2.2.2.2.2.2.2.2
  clear hk
  go_wp2_with (go_at_call 49; refine (hcall _).mono ?_; rintro e w' ⟨rfl, rfl⟩)
  go_ret
  exact ⟨rfl, PLeft.same H.out q0⟩

theorem step_calls {w : World} {q : Nat} {f g : Half} (o : GOp) (h : PairAt w q (siteN o.site) f g) :
    Calls Try.prog 24 #[.pointer (some ⟨q, 0, none⟩), o.val] w fun e w' => e = .returned (.bool true) ∧ PLeft w q (siteN o.site) f g w' := by
  by_cases k1 : o.kind = 1
  · exact step_1 o h k1
  by_cases k2 : o.kind = 2
  · exact step_2 o h k2
  by_cases k3 : o.kind = 3
  · exact step_3 o h k3
  by_cases k4 : o.kind = 4
  · exact step_4 o h k4
  by_cases k5 : o.kind = 5
  · exact step_5 o h k5
  by_cases k6 : o.kind = 6
  · exact step_6 o h k6
  by_cases k7 : o.kind = 7
  · exact step_7 o h k7
  by_cases k8 : o.kind = 8
  · exact step_8 o h k8
  by_cases k9 : o.kind = 9
  · exact step_9 o h k9
  exact step_no o h ⟨k1, k2, k3, k4, k5, k6, k7, k8, k9⟩

end Go.Proofs.Ytphbhmppjafhkaa
