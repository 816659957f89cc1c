/-
  PROVED: the contract of Flip.
-/
import Derived.Test.YtgockfjhokocbaaGreatDoorNE
namespace Go.Proofs.YtgockfjhokocbaaGreatDoor
open Go.RowKit

/-- What Flip makes of the i-th. -/
def FlipR (w : World) (p b : Nat) (l : List (Nat × Dg)) (nx i a : Nat) (d : Dg) (k x : Nat) (e : Ending) (w' : World) : Prop :=
  (∃ c, e = .returned (.int .i64 c)) ∧ Chg [b] w w' ∧
    ((d.sp = true ∧ NetAt w' p b l nx) ∨ (d.sp = false ∧ ∃ d' : Dg, d'.up = d.up ∧ d'.sp = true ∧ d'.n = d.n ∧ d'.bs = d.bs.set k x ∧ w.heap.size ≤ d'.g ∧ NetAt w' p b (l.set i (a, d')) nx))

set_option maxRecDepth 100000 in
set_option maxHeartbeats 1000000 in
theorem net_flip {w : World} {p b nx i a k m B : Nat} {d : Dg} {l : List (Nat × Dg)} (h : NetAt w p b l nx) (hx : l[i]? = some (a, d)) (hk : k < d.n) (hm1 : 1 ≤ m) (hm2 : m ≤ 255) (hB : d.bs[k]? = some B) (hB2 : B < 256) :
    Calls Tryz.prog 23 #[.pointer (some ⟨p, 0, none⟩), .int .i64 i, .int .i64 k, .int .i64 m] w (FlipR w p b l nx i a d k (B ^^^ m)) := by
  obtain ⟨hi, hxi⟩ := List.getElem?_eq_some_iff.1 hx
  have hA := net_age h hi
  rw [hxi] at hA
  have hg1 := enc_get h.map.1 hi
  have ha1 := h.age l[i] (List.getElem_mem _)
  have hdg := h.dg l[i] (List.getElem_mem _)
  rw [hxi] at hg1 ha1 hdg
  have HSet : Hid (∀ d', ins a (dgV d') (enc l) = enc (l.set i (a, d'))) := fun d' => enc_set h.map.1 hx
  have HA := Lib.hid hA
  have H := Lib.hid h
  have hget := Lib.hid hg1
  have hage : a ≤ 9223372036854775807 := by have := h.nx; simp only at ha1; omega
  have HX := Lib.hid hx
  have HAx := Lib.hid ha1
  have HDg := Lib.hid hdg
  have HBy := Lib.hid hB
  clear h hi hxi hx hg1 ha1 hA hdg hB
  simp only at hget HA HDg HAx
  obtain ⟨F, hF⟩ : ∃ F, F = fromV d.up := ⟨_, rfl⟩
  obtain ⟨T, hT⟩ : ∃ T, T = toV d.up := ⟨_, rfl⟩
  have hV : dgV d = .agg #[.int .i64 F, .int .i64 T, .slice (some ⟨d.g, 0, none⟩) d.n d.cap, .bool d.sp] := by rw [hF, hT]; rfl
  rw [hV] at hget
  have HF := Lib.hid hF
  have HT := Lib.hid hT
  clear hV hF hT
  obtain ⟨sp, hsp⟩ : ∃ sp, sp = d.sp := ⟨_, rfl⟩
  rw [← hsp] at hget
  have HSp := Lib.hid hsp
  have hn64 : d.n ≤ 64 := HDg.out.2.2
  clear hsp
  go_enter Tryz.func23, Tryz.ntmps23
  go_wp2_with fail
  refine HA.out.mono ?_
  rintro e w2 ⟨rfl, hc1⟩
  have H2 := Lib.hid (H.out.next hc1)
  have HC2 := Lib.hid hc1
  have c2 := H2.out.blk.cell 2
  clear hc1
  have hb8 := Lib.hid (Blk.new w2 79 #[.int .i64 F, .int .i64 T, .slice (some ⟨d.g, 0, none⟩) d.n d.cap, .bool sp])
  have hc3 := (Chg.refl [] w2).alloc (.cells #[.int .i64 F, .int .i64 T, .slice (some ⟨d.g, 0, none⟩) d.n d.cap, .bool sp] 79)
  have H3 := Lib.hid (H2.out.next hc3)
  have HC3 := Lib.hid (HC2.out.next hc3)
  have hz2 : Hid (w2.heap.size ≠ b ∧ w2.heap.size ≠ p ∧ w.heap.size ≤ w2.heap.size) := ⟨by have := H2.out.map.lt; omega, by have := H2.out.blk.lt; omega, HC2.out.size⟩
  have HR3 := Lib.hid ((HDg.out.keep HC2.out (by simp)).keep hc3 (by simp))
  have c23 := H3.out.blk.cell 2
  have q0 := hb8.out.cell 0
  have q1 := hb8.out.cell 1
  have q2 := hb8.out.cell 2
  have q3 := hb8.out.cell 3
  clear hc3
  cases sp
  · go_wp2_with (first
      | (with_reducible refine wpList_of _ rfl (wp_map_look _ Tryz.underlying3 Tryz.underlying75 H2.out.map (.tmp 24) (.tmp 25) rfl (zero79 _) a rfl rfl hage ?_); rw [hget.out]))
    clear q0 q1 q2 q3 c2 c23
    generalize hw3 : w2.alloc (.cells #[.int .i64 F, .int .i64 T, .slice (some ⟨d.g, 0, none⟩) d.n d.cap, .bool false] 79) = w3 at *
    clear hw3
    generalize w2.heap.size = g8 at *
    refine (clone_calls HR3.out.1.reads HR3.out.2.1 HR3.out.2.2).mono ?_
    rintro e w4 ⟨z, cp, rfl, hz, hc4, hzz⟩
    have hb4 := hc4.blk' hb8.out (by simp)
    have h4 := H3.out.next hc4
    have f42 := hb4.frozen 2
    have f43 := hb4.frozen 3
    have q42 := hb4.cell 2
    have hcs : Chg [g8] w4 (w4.setCell ⟨g8, 2, none⟩ (.slice (some ⟨z, 0, none⟩) d.n cp)) := (Chg.refl _ _).setCell (.inl (by simp)) _
    have hzg : z ≠ g8 := fun e => hz.ne_blk hb4 (by decide) z (by simp [ob]) e
    have hzp : z ≠ p := fun e => hz.ne_blk h4.blk (by decide) z (by simp [ob]) e
    have hzb : z ≠ b := fun e => by
      obtain ⟨g', cur, hA, hbz, _⟩ := hz.blk HDg.out.2.1
      obtain rfl : z = g' := by injection hA with hA; injection hA
      exact h4.map.ne_blk hbz e.symm
    have HB5 : Hid (Blk (w4.setCell ⟨g8, 2, none⟩ (.slice (some ⟨z, 0, none⟩) d.n cp)) g8 79 #[.int .i64 F, .int .i64 T, .slice (some ⟨z, 0, none⟩) d.n cp, .bool false]) := hb4.set_ 2 _
    have hgd : ∀ x ∈ l, x.2.g ≠ g8 ∧ x.2.g < w4.heap.size := fun x hx => by
      obtain ⟨cur, hbx⟩ := (h4.dg x hx).blk
      exact ⟨hbx.ne_ hb4 (by decide), hbx.lt⟩
    have H5 := Lib.hid (h4.keep hcs (by have := hz2.out; simp; omega) (by have := hz2.out; simp; omega) (fun x hx => by simpa using (hgd x hx).1))
    have hz5 := hz.keep hcs (by simpa [ob] using hzg)
    have HC5 := Lib.hid ((HC3.out.next hc4).trans hcs (fun i hi => .inr (by have := hz2.out; simp at hi; omega)))
    have HZW := Lib.hid (Nat.le_trans HC3.out.size hzz)
    have HZN : Hid (z ≠ g8 ∧ z ≠ p ∧ z ≠ b) := ⟨hzg, hzp, hzb⟩
    have hzd : Hid (∀ x ∈ l, x.2.g ≠ z) := fun x hx e => by
      have h1 := (H3.out.dg x hx).lt
      omega
    have hcell : (w4.setCell ⟨g8, 2, none⟩ (.slice (some ⟨z, 0, none⟩) d.n cp)).cell? ⟨z, k, none⟩ = some (.int .u8 B) := by
      obtain ⟨ad', e, hcc⟩ := hz5.reads.2 HDg.out.2.1
      obtain rfl : (⟨z, 0, none⟩ : Addr) = ad' := Option.some.inj e
      have := hcc k (.int .u8 B) (by unfold bv; rw [List.getElem?_map, HBy.out]; rfl)
      rwa [add_head] at this
    have hfz : (w4.setCell ⟨g8, 2, none⟩ (.slice (some ⟨z, 0, none⟩) d.n cp)).frozen? ⟨z, k, none⟩ = false := by
      obtain ⟨g', cur, hA, hbz, _⟩ := hz5.blk HDg.out.2.1
      obtain rfl : z = g' := by injection hA with hA; injection hA
      exact hbz.frozen k
    have hrow6 := hz5.set_ (k := k) (by omega) (.int .u8 (B ^^^ m : Nat))
    have HZ5 := Lib.hid hz5
    have HRow6 : Hid (Row ((w4.setCell ⟨g8, 2, none⟩ (.slice (some ⟨z, 0, none⟩) d.n cp)).setCell ⟨z, k, none⟩ (.int .u8 (B ^^^ m : Nat))) 5 1 (some ⟨z, 0, none⟩) d.n cp (bv (d.bs.set k (B ^^^ m)))) := by
      unfold Hid bv
      rw [List.map_set]
      exact hrow6
    have hx8 := u8_xor_nat B m hB2 (by omega)
    have q52 := HB5.out.cell 2
    have HB6 := Lib.hid (HB5.out.far (p := ⟨z, k, none⟩) (fun e => HZN.out.1 e.symm) (.int .u8 (B ^^^ m : Nat)))
    have q63 := HB6.out.cell 3
    have f63 := HB6.out.frozen 3
    have HW7 : Hid (∀ W, W = ((w4.setCell ⟨g8, 2, none⟩ (.slice (some ⟨z, 0, none⟩) d.n cp)).setCell ⟨z, k, none⟩ (.int .u8 (B ^^^ m : Nat))).setCell ⟨g8, 3, none⟩ (.bool true) →
        Blk W g8 79 #[.int .i64 F, .int .i64 T, .slice (some ⟨z, 0, none⟩) d.n cp, .bool true] ∧ NetAt W p b l nx ∧ Row W 5 1 (some ⟨z, 0, none⟩) d.n cp (bv (d.bs.set k (B ^^^ m))) ∧ Chg [] w W) := by
      rintro W rfl
      have hcA : Chg [z, g8] (w4.setCell ⟨g8, 2, none⟩ (.slice (some ⟨z, 0, none⟩) d.n cp)) (((w4.setCell ⟨g8, 2, none⟩ (.slice (some ⟨z, 0, none⟩) d.n cp)).setCell ⟨z, k, none⟩ (.int .u8 (B ^^^ m : Nat))).setCell ⟨g8, 3, none⟩ (.bool true)) :=
        ((Chg.refl _ _).setCell (.inl (by simp)) _).setCell (.inl (by simp)) _
      refine ⟨HB6.out.set_ 3 _, H5.out.keep hcA (by have := HZN.out; have := hz2.out; simp; omega) (by have := HZN.out; have := hz2.out; simp; omega) ?_, HRow6.out.keep (S := [g8]) ((Chg.refl _ _).setCell (.inl (by simp)) _) (by have := HZN.out; simpa [ob] using this.1), HC5.out.trans hcA (fun i hi => .inr ?_)⟩
      · intro x hx
        obtain ⟨cur, hbx⟩ := (H5.out.dg x hx).blk
        have := hzd.out x hx
        have := hbx.ne_ HB5.out (by decide)
        simp
        omega
      · have := HZW.out
        have := hz2.out
        simp at hi
        omega
    clear hz hc4 hzz hb4 h4 hcs hzg hzp hzb hgd hz5 hrow6 H3 HC3 hb8 HR3 H2 HC2
    go_wp2_with fail
    generalize hW : ((w4.setCell ⟨g8, 2, none⟩ (.slice (some ⟨z, 0, none⟩) d.n cp)).setCell ⟨z, k, none⟩ (.int .u8 (B ^^^ m : Nat))).setCell ⟨g8, 3, none⟩ (.bool true) = W at *
    obtain ⟨hb7, h7, hr7, hc7⟩ := HW7.out W rfl
    have HB7 := Lib.hid hb7
    have H7 := Lib.hid h7
    have HR7 := Lib.hid hr7
    have HC7 := Lib.hid hc7
    clear hW HW7 hb7 h7 hr7 hc7 q63 f63 q52 hcell hfz f42 f43 q42 hx8 HB6 HB5 H5 HRow6 HZ5 HC5
    have p2 := H7.out.blk.cell 2
    have q0 := HB7.out.cell 0
    have q1 := HB7.out.cell 1
    have q2 := HB7.out.cell 2
    have q3 := HB7.out.cell 3
    go_still_tail 6, (by kernel_rfl)
    change wpList _ _ _ _ _ W.drew
    clear p2 q0 q1 q2 q3
    refine wpList_of _ rfl (wp_map_store _ Tryz.underlying3 Tryz.underlying75 (H7.out.map.keep (Chg.refl [] W).drew (by simp)) (.tmp 63) (.tmp 64) (.tmp 65) rfl a (.agg #[.int .i64 F, .int .i64 T, .slice (some ⟨z, 0, none⟩) d.n cp, .bool true]) rfl rfl rfl hage (by rw [enc_length]; have := H7.out.len; unfold maxLen; omega) ?_)
    intro w9 hm9 hc9
    have hc79 : Chg [b] W w9 := ((Chg.refl [b] W).drew).trans hc9 (fun i hi => .inl hi)
    have HM9 := Lib.hid hm9
    have HC79 := Lib.hid hc79
    clear hm9 hc9 hc79
    go_wp2_with fail
    go_ret
    have hdn := HZN.out
    refine ⟨⟨_, rfl⟩, (HC7.out.mono (T := [b]) (by simp)).trans HC79.out (fun i hi => .inl hi), .inr ⟨HSp.out.symm, ⟨d.up, z, d.n, cp, true, d.bs.set k (B ^^^ m)⟩, rfl, rfl, rfl, rfl, HZW.out, ?_⟩⟩
    have hne := H7.out.ne
    have hmem : ∀ x ∈ l.set i (a, (⟨d.up, z, d.n, cp, true, d.bs.set k (B ^^^ m)⟩ : Dg)), x ∈ l ∨ x = (a, (⟨d.up, z, d.n, cp, true, d.bs.set k (B ^^^ m)⟩ : Dg)) := fun x hx => List.mem_or_eq_of_mem_set hx
    refine ⟨HC79.out.blk' H7.out.blk (by simpa using fun e => hne e.symm), ?_, ?_, ?_, by rw [List.length_set]; exact H7.out.len, H7.out.nx⟩
    · have := HM9.out
      rw [show (Value.agg #[.int .i64 F, .int .i64 T, .slice (some ⟨z, 0, none⟩) d.n cp, .bool true]) = dgV ⟨d.up, z, d.n, cp, true, d.bs.set k (B ^^^ m)⟩ by rw [HF.out, HT.out]; rfl, HSet.out] at this
      exact this
    · intro x hx
      rcases hmem x hx with hx | rfl
      · exact (H7.out.dg x hx).keep HC79.out (by simpa using (H7.out.dg_ne x hx).2)
      · exact ⟨HR7.out.keep HC79.out (by simpa [ob] using hdn.2.2), HDg.out.2⟩
    · intro x hx
      rcases hmem x hx with hx | rfl
      · exact H7.out.age x hx
      · exact HAx.out
  · go_wp2_with (first
      | (with_reducible refine wpList_of _ rfl (wp_map_look _ Tryz.underlying3 Tryz.underlying75 H2.out.map (.tmp 24) (.tmp 25) rfl (zero79 _) a rfl rfl hage ?_); rw [hget.out]))
    go_ret
    exact ⟨⟨_, rfl⟩, HC3.out.mono (by simp), .inl ⟨HSp.out.symm, H3.out⟩⟩
end Go.Proofs.YtgockfjhokocbaaGreatDoor
