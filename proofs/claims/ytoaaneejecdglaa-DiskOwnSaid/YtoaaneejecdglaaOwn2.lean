/-
  PROVED: the walk of DiskOwn.
-/
import Derived.Test.YtoaaneejecdglaaOwn
namespace Go.Proofs.Ytoaaneejecdglaa
open Go.RowKit

theorem lt1 {w : World} {g : Nat} {t : TypeId} {cs : Array Value} (h : Blk w g t cs) : ∀ i ∈ [g], i < w.heap.size := fun i hi => by simp at hi; subst hi; exact h.lt

theorem blk_cells {w : World} {g : Nat} {t : TypeId} {cs : List Value} (h : Blk w g t cs.toArray) : ∀ j u, cs[j]? = some u → w.cell? ((⟨g, 0, none⟩ : Addr).add j) = some u := by
  intro j u hu
  rw [add_head, h.cell]
  simpa using hu

theorem OSt.grow {w wr w' : World} {pd pw q N z : Nat} {rd rw : List Int × Nat} {B : List Nat} (h : OSt w wr pd pw q rd rw N B) (c : Chg [] wr w') (hz : wr.heap.size ≤ z) : OSt w w' pd pw q rd rw N (z :: B) :=
  h.keep c (fun i hi => by
    rcases List.mem_cons.1 hi with rfl | hi
    · exact .inr hz
    · exact .inl hi)

set_option maxHeartbeats 2000000 in
set_option maxRecDepth 100000 in
theorem own_long (A B : Option Addr) (n c m d : Nat) (w : World) (h : 262144 < n) :
    Calls Try.prog 9 #[.slice A n c, .slice B m d] w fun e w' => e = .returned (.bool true) ∧ Chg [] w w' := by
  have h2 : (262144 : Int) < n := by omega
  go_enter Try.func9, Try.ntmps9
  go_wp2_with fail
  go_ret
  exact ⟨rfl, Chg.refl _ _⟩

set_option maxHeartbeats 4000000 in
set_option maxRecDepth 100000 in
theorem own_in (A B : Option Addr) (n c d : Nat) (w : World) (fs : List Int) (ops : List GOp) (hx : Reads w 1 A n (bv fs)) (hy : OpsAt w B ops) (hm : ops.length * 64 ≤ 140737488351232) (h : n ≤ 262144) :
    Calls Try.prog 9 #[.slice A n c, .slice B ops.length d] w fun e w' => e = .returned (.bool true) ∧ Chg [] w w' := by
  have h2 : ¬ (262144 : Int) < n := by omega
  obtain ⟨i0, hi, hz0, hz1, hz2⟩ := info_parts Try.info5
  go_enter Try.func9, Try.ntmps9
  go_wp2_with fail
  refine (born_calls hx h).mono ?_
  rintro e1 w1 ⟨pd, Sd, rfl, hd, hcd, hSd⟩
  go_wp2_with fail
  refine (born_calls (hx.keep hcd (by simp)) h).mono ?_
  rintro e1 w2 ⟨pw, Sw, rfl, hw, hcw, hSw⟩
  have hS2 : OSt w (w2.alloc (.cells #[.slice none 0 0, .slice none 0 0] 55)) pd pw w2.heap.size (fs, n) (fs, n) 0 [] := by
    have q : Chg [] w2 (w2.alloc (.cells #[.slice none 0 0, .slice none 0 0] 55)) := (Chg.refl _ _).alloc _
    have hd2 := hd.keep hcw (by simp)
    have s1 := hcd.size
    have s2 := hcw.size
    refine ⟨Sd, Sw, [w2.heap.size], [], [], hd2.keep q (by simp), hw.keep q (by simp), KeptAt.none_ w2, by simp, ?_, ?_, ?_, ?_, by simp, (hcd.next hcw).next q⟩
    · intro k hk hm
      have := hd.lt k hk; have := hSw k hm; omega
    · intro k hk hm
      simp at hk; subst hk; have := hd2.lt _ hm; omega
    · intro k hk hm
      simp at hk; subst hk; have := hw.lt _ hm; omega
    · intro k hk
      simp only [List.mem_append, List.mem_singleton, List.not_mem_nil, or_false] at hk
      rcases hk with hk | hk | hk
      · exact hSd k hk
      · have := hSw k hk; omega
      · omega
  clear hd hw hcd hcw hSd hSw hx
  go_wp2_with fail
  generalize w2.alloc (.cells #[.slice none 0 0, .slice none 0 0] 55) = w3 at *
  generalize w2.heap.size = q at *
  go_loopw [9] (fun i wr => ∃ (k : Nat) (r : List Int × Nat), k ≤ ops.length ∧ i = .int .i64 k ∧ OSt w wr pd pw q r r (4 * k) []) (fun i _ => ops.length - (intOf i).toNat)
  case atStart => exact ⟨0, (fs, n), Nat.zero_le _, rfl, hS2⟩
  case round =>
    clear hS2
    obtain ⟨k, r, hk, rfl, hS⟩ := hrel
    by_cases hlt : k < ops.length
    · have hyw := hy.keep hS.chg
      obtain ⟨ad, o, rfl, ho, hcells, _⟩ := hyw.at_ hlt
      have hokw := hy.2 o (List.mem_of_getElem? ho)
      obtain ⟨kd, st, oa, ob', oc, A', n', cap', ys⟩ := o
      have hcells' : ∀ j u, ([.int .i64 kd, .int .i64 st, .int .i64 oa, .int .i64 ob', .int .i64 oc, .slice A' n' cap'] : List Value)[j]? = some u → wr.cell? ((ad.add (k * 6)).add j) = some u := hcells
      clear hcells hyw
      have HC := Lib.hid hcells'
      have HO := Lib.hid hokw
      clear hcells' hokw
      have hn' : n' ≤ 140737488351232 := HO.out.2
      have hro : Blk (wr.alloc (.cells #[.int .i64 kd, .int .i64 st, .int .i64 oa, .int .i64 ob', .int .i64 oc, .slice A' n' cap'] 44)) wr.heap.size 44 #[.int .i64 kd, .int .i64 st, .int .i64 oa, .int .i64 ob', .int .i64 oc, .slice A' n' cap'] := Blk.new _ _ _
      have hS3 := hS.keep ((Chg.refl _ _).alloc (.cells #[.int .i64 kd, .int .i64 st, .int .i64 oa, .int .i64 ob', .int .i64 oc, .slice A' n' cap'] 44)) (B' := [wr.heap.size]) (fun i hi => .inr (by simp at hi; omega))
      have HRO := Lib.hid hro
      have HS3 := Lib.hid hS3
      clear hro hS3
      by_cases k3 : kd = 3
      · subst k3
        go_wp2_with (with_reducible refine wpList_load_cells _ rfl 44 (.tmp 44) rfl (ad.add (k * 6)) rfl _ HC.out (.struct _) Try.underlying44 rfl (by kernel_rfl) ?_)
        generalize wr.alloc (.cells #[.int .i64 3, .int .i64 st, .int .i64 oa, .int .i64 ob', .int .i64 oc, .slice A' n' cap'] 44) = w4 at *
        generalize wr.heap.size = o1 at *
        have n9 : ((3 : Int) != 9) = true := rfl
        refine (copied_ex (ys := ys) (HO.out.keep HS3.out.chg (by simp)).1 hn').mono ?_
        rintro e w5 ⟨z5, rfl, hr5, hc5, hz5⟩
        have hr5A := hr5.alloc (.cells #[.int .u8 250, .int .u8 251, .int .u8 252] 5)
        have hone := built_reads w5 5 [.int .u8 250, .int .u8 251, .int .u8 252]
        go_wp2_with (at_builtin; refine wpList_append_row2 _ rfl (.tmp 55) (.tmp 56) 25 rfl 5 i0 (.int .u8 0) 1 1 Try.underlying25 hi hz0 hz1 hz2 rfl _ n' n' (bv ys) rfl hr5A _ 3 3 [.int .u8 250, .int .u8 251, .int .u8 252] rfl hone (by simp [Value.oneCell']) (by unfold maxLen; omega) (grow_ok (by omega)) ?_)
        intro A6 cap6 w6 hr6 hch6 hcase6 _
        obtain ⟨g, rfl, hg⟩ : ∃ g, A6 = some ⟨g, 0, none⟩ ∧ Hid (w5.heap.size ≤ g) := ⟨_, hcase6.new (by omega), ((Chg.refl [] w5).alloc _).size⟩
        have c46 : Chg [] w4 w6 := (Chg.alloc hc5 (.cells #[.int .u8 250, .int .u8 251, .int .u8 252] 5)).trans hch6 (fun i hi => .inr (blk_ge (Nat.le_of_eq hz5.out.symm) i hi))
        have hS6 := HS3.out.grow c46 (z := g) (Nat.le_trans hc5.size hg.out)
        have hgw : Hid (w.heap.size ≤ g) := Nat.le_trans (HS3.out.chg.size) (Nat.le_trans hc5.size hg.out)
        have hgo : Hid (o1 ≠ g) := fun e => by have h1 := HRO.out.lt; have h2 := hc5.size; have h3 := hg.out; omega
        have hro6 := HRO.out.keep c46 (by simp)
        clear hr5 hc5 hz5 hr5A hone hch6 hcase6 c46 hg
        have hb6 : Row w6 5 1 (some ⟨g, 0, none⟩) n' cap6 (bv ys) := by
          have h1 := hr6.take (k := n') (by omega)
          have h2 := (HO.out.1).len
          have h3 : n' = (bv ys).length := by rw [bv_length]; exact h2.symm
          rw [Nat.mul_one, show List.take n' (bv ys ++ [.int .u8 250, .int .u8 251, .int .u8 252]) = bv ys by rw [h3, List.take_left]] at h1
          exact h1
        have hcap6 := hr6.le
        have hBl6 : Hid (∀ i ∈ [g, o1], i < w6.heap.size) := fun i hi => by
          rcases List.mem_cons.1 hi with rfl | hi
          · exact hr6.lt _ (by simp [ob])
          · exact lt1 hro6 i hi
        have hn6 : n' ≤ cap6 := by omega
        have hne6 : ¬ cap6 = n' := by omega
        have c60 := hro6.cell 0
        have c65 := hro6.cell 5
        go_wp2_with fail
        have hput := hS6.put (c := cap6) hBl6.out hb6.reads
        generalize hE : putF ys r.1 r.2 = R at *
        have HE : Hid (actF ⟨3, st, oa, ob', oc, A', n', cap', ys⟩ r.1 r.2 = R) := by rw [Hid, ← hE]; simp [actF]
        clear hE
        obtain ⟨eR, r5⟩ := R
        refine hput.mono ?_
        clear hput
        rintro e w7 ⟨rfl, hS7, hF7⟩
        have hro7 := hF7.blk hro6 (by simp)
        have hb7 := hF7.row hb6 (by simp)
        have hr7 := hF7.row hr6 (by simp)
        have c70 := hro7.cell 0
        have c75 := hro7.cell 5
        have hBl7 : Hid (∀ i ∈ [g, o1], i < w7.heap.size) := fun i hi => Nat.lt_of_lt_of_le (hBl6.out i hi) hF7.size
        clear hro6 hb6 hr6 c60 c65 hF7 hBl6
        go_wp2_with (go_at_call 14; refine (num_calls _ _).mono ?_; rintro e w' ⟨rfl, rfl⟩)
        refine (same_yes hb7.reads (HO.out.keep hS7.chg (by simp)).1 hn' rfl).mono ?_
        rintro e w' ⟨rfl, q1, rfl⟩
        have honeB := built_reads (w7.drewN q1) 5 [.int .u8 250, .int .u8 251, .int .u8 252]
        have hcut : Reads ((w7.drewN q1).alloc (.cells #[.int .u8 250, .int .u8 251, .int .u8 252] 5)) 1 (some ⟨g, n', none⟩) 3 (bv [250, 251, 252]) := by
          have h1 := ((hr7.drewN q1).alloc (.cells #[.int .u8 250, .int .u8 251, .int .u8 252] 5)).reads.cut (k := n') (cap := cap6) (by omega) (by omega)
          have h2 := (HO.out.1).len
          have h3 : n' = (bv ys).length := by rw [bv_length]; exact h2.symm
          rw [if_neg hne6, Nat.mul_one, show List.drop n' (bv ys ++ [.int .u8 250, .int .u8 251, .int .u8 252]) = bv [250, 251, 252] by rw [h3, List.drop_left]; rfl, Nat.add_sub_cancel_left] at h1
          simpa [add_head] using h1
        have hS8 := ((hS7.drewN q1).keep ((Chg.refl _ _).alloc (.cells #[.int .u8 250, .int .u8 251, .int .u8 252] 5)) (B' := [g, o1]) (fun _ h => .inl h))
        have hb8 := (hb7.drewN q1).alloc (.cells #[.int .u8 250, .int .u8 251, .int .u8 252] 5)
        have hro8 := (hro7.drewN q1).alloc (.cells #[.int .u8 250, .int .u8 251, .int .u8 252] 5)
        have hBl8 : Hid (∀ i ∈ [g, o1], i < ((w7.drewN q1).alloc (.cells #[.int .u8 250, .int .u8 251, .int .u8 252] 5)).heap.size) := fun i hi => by have := hBl7.out i hi; have := ((Chg.refl [] (w7.drewN q1)).alloc (.cells #[.int .u8 250, .int .u8 251, .int .u8 252] 5)).size; exact Nat.lt_of_lt_of_le (hBl7.out i hi) this
        clear hr7 hS7 hb7 hro7
        go_wp2_with fail
        refine (same_yes (ys := [250, 251, 252]) hcut honeB (by omega) rfl).mono ?_
        rintro e w' ⟨rfl, q2, rfl⟩
        go_wp2_with fail
        refine ((hS8.drewN q2).marked hBl8.out (by omega) (hb8.drewN q2) hn' (by simp) hgw.out (B' := [o1]) (fun i hi => by simp at hi; subst hi; exact ⟨by simp, hgo.out⟩)).mono ?_
        rintro e w9 ⟨rfl, hS9, hF9⟩
        have hro9 := hF9.blk (hro8.drewN q2) (by simp)
        clear hcut honeB hS8 hb8 hro8 c70 c75
        have c90 := hro9.cell 0
        have c91 := hro9.cell 1
        have c92 := hro9.cell 2
        have c93 := hro9.cell 3
        have c94 := hro9.cell 4
        have c95 := hro9.cell 5
        have hactW := hS9.actW (lt1 hro9) ⟨3, st, oa, ob', oc, A', n', cap', ys⟩ (HO.out.keep hS9.chg (by simp))
        rw [HE.out] at hactW
        dsimp only at hactW
        clear hS9 hF9 hro9
        go_wp2_with (first
          | (go_at_call 25; refine hactW.mono ?_; rintro e w6 ⟨rfl, hS6, _⟩; have lD := hS6.leD)
          | (go_at_call 16; with_reducible refine (OSt.sizeD hS6).mono ?_; rintro e w' ⟨rfl, rfl⟩)
          | (go_at_call 16; refine (OSt.sizeW hS6).mono ?_; rintro e w' ⟨rfl, rfl⟩)
          | (go_at_call 18; with_reducible refine (OSt.syncedD hS6).mono ?_; rintro e w' ⟨rfl, rfl⟩)
          | (go_at_call 18; refine (OSt.syncedW hS6).mono ?_; rintro e w' ⟨rfl, rfl⟩)
          | (go_at_call 17; with_reducible refine (OSt.bytesD hS6).mono ?_; rintro e w7 ⟨z7, rfl, hr7, hc7, hz7⟩; have hS7 := hS6.keep hc7 (B' := []) (by simp))
          | (go_at_call 17; refine hS7.bytesW.mono ?_; rintro e w8 ⟨z8, rfl, hr8, hc8, hz8⟩; have hS8 := hS7.keep hc8 (fun _ h => .inl h); have hr78 := hr7.keep hc8 (by simp))
          | (go_at_call 22; refine (same_yes hr78.reads hr8.reads (by omega) rfl).mono ?_; rintro e w' ⟨rfl, q1, rfl⟩)
          | (go_at_call 29; refine ((hS8.drewN q1).whole (by omega)).mono ?_; rintro e w' ⟨rfl, q2, rfl⟩))
        go_roundw
        case rel => exact ⟨k + 1, _, by omega, by go_num, (hS8.drewN (q1 + q2)).more (by omega)⟩
        case measure => simp [intOf]; omega
      by_cases k9 : kd = 9
      · subst k9
        go_wp2_with (with_reducible refine wpList_load_cells _ rfl 44 (.tmp 44) rfl (ad.add (k * 6)) rfl _ HC.out (.struct _) Try.underlying44 rfl (by kernel_rfl) ?_)
        generalize wr.alloc (.cells #[.int .i64 9, .int .i64 st, .int .i64 oa, .int .i64 ob', .int .i64 oc, .slice A' n' cap'] 44) = w4 at *
        generalize wr.heap.size = o1 at *
        have n9 : ((9 : Int) != 9) = false := rfl
        have hsz := HS3.out.chg.size
        have ho1 := HRO.out.lt
        refine HS3.out.bytesD.mono ?_
        rintro e w5 ⟨z5, rfl, hr5, hc5, hz5⟩
        have hS5 := HS3.out.grow hc5 hz5
        have hl5 := hr5.lt z5 (by simp [ob])
        have lD := hS5.leD
        go_wp2_with fail
        refine hS5.bytesD.mono ?_
        rintro e w6 ⟨z6, rfl, hr6, hc6, hz6⟩
        have hS6 := hS5.grow hc6 hz6
        have hl6 := hr6.lt z6 (by simp [ob])
        have hr56 := hr5.keep hc6 (by simp)
        go_wp2_with fail
        refine hS6.bytesW.mono ?_
        rintro e w7 ⟨z7, rfl, hr7, hc7, hz7⟩
        have hS7 := hS6.grow hc7 hz7
        have hl7 := hr7.lt z7 (by simp [ob])
        have hr57 := hr56.keep hc7 (by simp)
        have hr67 := hr6.keep hc7 (by simp)
        have hro7 := HRO.out.keep ((hc5.next hc6).next hc7) (by simp)
        have hBl7 : Hid (∀ i ∈ [z7, z6, z5, o1], i < w7.heap.size) := fun i hi => by simp at hi; omega
        have hne : Hid (z7 ≠ z5 ∧ z6 ≠ z5 ∧ o1 ≠ z5 ∧ z7 ≠ z6 ∧ o1 ≠ z6 ∧ w.heap.size ≤ z5 ∧ w.heap.size ≤ z6) := ⟨by omega, by omega, by omega, by omega, by omega, by omega, by omega⟩
        clear hr5 hr56 hr6 hc5 hc6 hc7 hz5 hz6 hz7 hl5 hl6 hl7 hS5 hS6 hsz ho1
        go_wp2_with fail
        refine (same_yes hr57.reads hr7.reads (by omega) rfl).mono ?_
        rintro e w' ⟨rfl, q1, rfl⟩
        go_wp2_with fail
        refine (same_yes (hr67.reads.drewN q1) (hr7.reads.drewN q1) (by omega) rfl).mono ?_
        rintro e w' ⟨rfl, q2, rfl⟩
        go_wp2_with fail
        refine ((hS7.drewN (q1 + q2)).marked hBl7.out (by omega) (hr57.drewN _) (by omega) (by simp) hne.out.2.2.2.2.2.1 (B' := [z7, z6, o1]) (fun i hi => by
          simp only [List.mem_cons, List.not_mem_nil, or_false] at hi
          rcases hi with rfl | rfl | rfl
          · exact ⟨by simp, hne.out.1⟩
          · exact ⟨by simp, hne.out.2.1⟩
          · exact ⟨by simp, hne.out.2.2.1⟩)).mono ?_
        rintro e w9 ⟨rfl, hS9, hF9⟩
        have hr69 := hF9.row (hr67.drewN (q1 + q2)) (by simp)
        have hr79 := hF9.row (hr7.drewN (q1 + q2)) (by simp)
        have hro9 := hF9.blk (hro7.drewN (q1 + q2)) (by simp)
        have hBl9 : Hid (∀ i ∈ [z7, z6, o1], i < w9.heap.size) := fun i hi => Nat.lt_of_lt_of_le (hBl7.out i (by simp at hi ⊢; omega)) hF9.size
        clear hr57 hr67 hr7 hro7 hF9 hS7 hBl7
        go_wp2_with fail
        refine (same_yes hr69.reads hr79.reads (by omega) rfl).mono ?_
        rintro e w' ⟨rfl, q3, rfl⟩
        go_wp2_with fail
        refine ((hS9.drewN q3).marked hBl9.out (by omega) (hr69.drewN _) (by omega) (by simp) hne.out.2.2.2.2.2.2 (B' := [o1]) (fun i hi => by
          simp only [List.mem_singleton] at hi
          subst hi
          exact ⟨by simp, hne.out.2.2.2.2.1⟩)).mono ?_
        rintro e w10 ⟨rfl, hS10, hF10⟩
        have hro10 := hF10.blk (hro9.drewN q3) (by simp)
        have c0 := hro10.cell 0
        clear hr69 hr79 hro9 hBl9 hS9 hF10 hro10
        go_wp2_with (first
          | (go_at_call 16; with_reducible refine (OSt.sizeD hS10).mono ?_; rintro e w' ⟨rfl, rfl⟩)
          | (go_at_call 16; refine (OSt.sizeW hS10).mono ?_; rintro e w' ⟨rfl, rfl⟩)
          | (go_at_call 18; with_reducible refine (OSt.syncedD hS10).mono ?_; rintro e w' ⟨rfl, rfl⟩)
          | (go_at_call 18; refine (OSt.syncedW hS10).mono ?_; rintro e w' ⟨rfl, rfl⟩)
          | (go_at_call 17; with_reducible refine (OSt.bytesD hS10).mono ?_; rintro e w7 ⟨z7, rfl, hr7, hc7, hz7⟩; have hS7 := hS10.keep hc7 (B' := []) (by simp))
          | (go_at_call 17; refine hS7.bytesW.mono ?_; rintro e w8 ⟨z8, rfl, hr8, hc8, hz8⟩; have hS8 := hS7.keep hc8 (fun _ h => .inl h); have hr78 := hr7.keep hc8 (by simp))
          | (go_at_call 22; refine (same_yes hr78.reads hr8.reads (by omega) rfl).mono ?_; rintro e w' ⟨rfl, q1, rfl⟩)
          | (go_at_call 29; refine ((hS8.drewN q1).whole (by omega)).mono ?_; rintro e w' ⟨rfl, q2, rfl⟩))
        go_roundw
        case rel => exact ⟨k + 1, _, by omega, by go_num, (hS8.drewN (q1 + q2)).more (by omega)⟩
        case measure => simp [intOf]; omega
      · have b3 : (kd == 3) = false := by simpa using k3
        have b9 : (kd == 9) = false := by simpa using k9
        have n9 : (kd != 9) = true := by simpa using k9
        clear k3 k9
        go_wp2_with (with_reducible refine wpList_load_cells _ rfl 44 (.tmp 44) rfl (ad.add (k * 6)) rfl _ HC.out (.struct _) Try.underlying44 rfl (by kernel_rfl) ?_)
        generalize wr.alloc (.cells #[.int .i64 kd, .int .i64 st, .int .i64 oa, .int .i64 ob', .int .i64 oc, .slice A' n' cap'] 44) = w4 at *
        generalize wr.heap.size = o1 at *
        have hact := HS3.out.actD (lt1 HRO.out) ⟨kd, st, oa, ob', oc, A', n', cap', ys⟩ (HO.out.keep HS3.out.chg (by simp))
        generalize hE : actF ⟨kd, st, oa, ob', oc, A', n', cap', ys⟩ r.1 r.2 = R at *
        have HE := Lib.hid hE
        clear hE
        obtain ⟨eR, r5⟩ := R
        refine hact.mono ?_
        clear hact
        rintro e w5 ⟨rfl, hS5, hF5⟩
        have hro5 := hF5.blk HRO.out (by simp)
        have c50 := hro5.cell 0
        have HS5 := Lib.hid hS5
        have HRO5 := Lib.hid hro5
        have c51 := hro5.cell 1
        have c52 := hro5.cell 2
        have c53 := hro5.cell 3
        have c54 := hro5.cell 4
        have c55 := hro5.cell 5
        have hactW := HS5.out.actW (lt1 HRO5.out) ⟨kd, st, oa, ob', oc, A', n', cap', ys⟩ (HO.out.keep HS5.out.chg (by simp))
        rw [HE.out] at hactW
        dsimp only at hactW
        clear hS5 hF5 hro5
        go_wp2_with (first
          | (go_at_call 25; refine hactW.mono ?_; rintro e w6 ⟨rfl, hS6, _⟩; have lD := hS6.leD)
          | (go_at_call 16; with_reducible refine (OSt.sizeD hS6).mono ?_; rintro e w' ⟨rfl, rfl⟩)
          | (go_at_call 16; refine (OSt.sizeW hS6).mono ?_; rintro e w' ⟨rfl, rfl⟩)
          | (go_at_call 18; with_reducible refine (OSt.syncedD hS6).mono ?_; rintro e w' ⟨rfl, rfl⟩)
          | (go_at_call 18; refine (OSt.syncedW hS6).mono ?_; rintro e w' ⟨rfl, rfl⟩)
          | (go_at_call 17; with_reducible refine (OSt.bytesD hS6).mono ?_; rintro e w7 ⟨z7, rfl, hr7, hc7, hz7⟩; have hS7 := hS6.keep hc7 (B' := []) (by simp))
          | (go_at_call 17; refine hS7.bytesW.mono ?_; rintro e w8 ⟨z8, rfl, hr8, hc8, hz8⟩; have hS8 := hS7.keep hc8 (fun _ h => .inl h); have hr78 := hr7.keep hc8 (by simp))
          | (go_at_call 22; refine (same_yes hr78.reads hr8.reads (by omega) rfl).mono ?_; rintro e w' ⟨rfl, q1, rfl⟩)
          | (go_at_call 29; refine ((hS8.drewN q1).whole (by omega)).mono ?_; rintro e w' ⟨rfl, q2, rfl⟩))
        go_roundw
        case rel => exact ⟨k + 1, _, by omega, by go_num, (hS8.drewN (q1 + q2)).more (by omega)⟩
        case measure => simp [intOf]; omega
    · go_wp2
      go_ret
      exact ⟨rfl, hS.chg⟩

end Go.Proofs.Ytoaaneejecdglaa
