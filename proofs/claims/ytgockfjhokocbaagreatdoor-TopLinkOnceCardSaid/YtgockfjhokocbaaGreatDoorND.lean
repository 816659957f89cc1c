/-
  PROVED: the contracts of Send, Deliver, Drop.
-/
import Derived.Test.YtgockfjhokocbaaGreatDoorNC
namespace Go.Proofs.YtgockfjhokocbaaGreatDoor
open Go.RowKit

set_option maxRecDepth 100000 in
theorem net_send {w : World} {p b nx n c : Nat} {l : List (Nat × Dg)} {ad : Addr} {bs : List Nat} (h : NetAt w p b l nx) (hnx : nx + 1 ≤ 4611686018427387904) (up : Bool) (F T : Int) (hF : F = fromV up) (hT : T = toV up) (hr : Reads w 1 (some ad) n (bv bs)) (h0 : 0 < n) (hn : n ≤ 64) :
    Calls Tryz.prog 26 #[.pointer (some ⟨p, 0, none⟩), .int .i64 F, .int .i64 T, .slice (some ad) n c] w (PutR w p b l nx up false n bs) := by
  have HP := Lib.hid (net_put (c := c) h hnx up false F T hF hT hr h0 hn)
  have c0 := h.blk.cell 0
  have hn64 : ¬ (64 : Int) < n := by omega
  cases up
  · obtain rfl : F = 0 := hF
    obtain rfl : T = 1 := hT
    clear h hr
    go_enter Tryz.func26, Tryz.ntmps26
    go_wp2_with fail
    refine HP.out.mono ?_
    rintro e w' hh
    rcases hh with ⟨g1, rfl, g3, g4⟩ | ⟨g1, rfl, g3⟩
    · go_wp2_with fail
      go_ret
      exact .inl ⟨g1, rfl, g3, g4⟩
    · have G3 := Lib.hid g3
      clear g3
      go_wp2_with fail
      go_ret
      exact .inr ⟨g1, rfl, G3.out⟩
  · obtain rfl : F = 1 := hF
    obtain rfl : T = 0 := hT
    clear h hr
    go_enter Tryz.func26, Tryz.ntmps26
    go_wp2_with fail
    refine HP.out.mono ?_
    rintro e w' hh
    rcases hh with ⟨g1, rfl, g3, g4⟩ | ⟨g1, rfl, g3⟩
    · go_wp2_with fail
      go_ret
      exact .inl ⟨g1, rfl, g3, g4⟩
    · have G3 := Lib.hid g3
      clear g3
      go_wp2_with fail
      go_ret
      exact .inr ⟨g1, rfl, G3.out⟩

/-! ### a rising list by place -/
theorem enc_get {l : List (Nat × Dg)} (h : Rising (enc l)) {i : Nat} (hi : i < l.length) : get l[i].1 (enc l) = some (dgV l[i].2) := by
  rw [get_some h]
  unfold enc
  exact List.mem_map.2 ⟨l[i], List.getElem_mem _, rfl⟩
theorem rising_lt {l : List (Nat × Dg)} (h : Rising (enc l)) {i j : Nat} (hij : i < j) (hj : j < l.length) : l[i].1 < l[j].1 := by
  have := List.pairwise_iff_getElem.1 h.1 i j (by rw [enc_length]; omega) (by rw [enc_length]; omega) hij
  simpa [enc] using this
theorem enc_del {l : List (Nat × Dg)} (h : Rising (enc l)) {i : Nat} (hi : i < l.length) : del l[i].1 (enc l) = enc (l.eraseIdx i) := by
  have e : l = l.take i ++ (l[i] :: l.drop (i + 1)) := by rw [List.getElem_cons_drop, List.take_append_drop]
  have e2 : l.eraseIdx i = l.take i ++ l.drop (i + 1) := List.eraseIdx_eq_take_drop_succ ..
  have h1 : ∀ x ∈ l.take i, x.1 ≠ l[i].1 := by
    intro x hx
    obtain ⟨j, hj, rfl⟩ := List.getElem_of_mem hx
    have hj' : j < i := by rw [List.length_take] at hj; omega
    rw [List.getElem_take]
    have := rising_lt h hj' hi
    omega
  have h2 : ∀ x ∈ l.drop (i + 1), x.1 ≠ l[i].1 := by
    intro x hx
    obtain ⟨j, hj, rfl⟩ := List.getElem_of_mem hx
    rw [List.length_drop] at hj
    rw [List.getElem_drop]
    have := rising_lt h (show i < i + 1 + j by omega) (by omega)
    omega
  generalize hk : l[i].1 = k at *
  have hd : ∀ m : List (Nat × Dg), (∀ x ∈ m, x.1 ≠ k) → del k (enc m) = enc m := by
    intro m hm
    unfold del
    rw [List.filter_eq_self]
    intro x hx
    simp only [enc, List.mem_map] at hx
    obtain ⟨y, hy, rfl⟩ := hx
    simpa using hm y hy
  have hd1 : del k (enc [l[i]]) = [] := by simp [del, enc, hk]
  have ha : ∀ m n : List (Nat × Dg), enc (m ++ n) = enc m ++ enc n := fun m n => by simp [enc]
  have hda : ∀ m n : List (Nat × Value), del k (m ++ n) = del k m ++ del k n := fun m n => by simp [del]
  have e' : l = l.take i ++ ([l[i]] ++ l.drop (i + 1)) := e
  conv => lhs; rw [e']
  rw [e2, ha, ha, hda, hda, hd _ h1, hd1, hd _ h2, ha, List.nil_append]

theorem zero79 (w : World) : (zeroValue 79).run Tryz.prog w = .ok (.agg #[.int .i64 0, .int .i64 0, .slice none 0 0, .bool false]) w := by kernel_rfl

set_option maxRecDepth 100000 in
set_option maxHeartbeats 1000000 in
theorem net_deliver {w : World} {p b nx i a : Nat} {d : Dg} {l : List (Nat × Dg)} (h : NetAt w p b l nx) (hx : l[i]? = some (a, d)) :
    Calls Tryz.prog 31 #[.pointer (some ⟨p, 0, none⟩), .int .i64 i] w fun e w' => e = .returned (.tuple #[dgV d, .int .i64 0]) ∧ NetAt w' p b (l.eraseIdx i) nx ∧ Chg [b] w w' := by
  obtain ⟨hi, hxi⟩ := List.getElem?_eq_some_iff.1 hx
  have hc1 : Chg [] w (w.alloc (.cells #[.int .i64 0, .int .i64 0, .slice none 0 0, .bool false] 79)) := (Chg.refl _ _).alloc _
  have hb1 := Lib.hid (Blk.new w 79 #[.int .i64 0, .int .i64 0, .slice none 0 0, .bool false])
  have h1 := h.next hc1
  have hA := net_age h1 hi
  rw [hxi] at hA
  have HA := Lib.hid hA
  have HC1 := Lib.hid hc1
  have H1 := Lib.hid h1
  have hpb : Hid (w.heap.size ≠ p ∧ w.heap.size ≠ b) := ⟨by have := h.blk.lt; omega, by have := h.map.lt; omega⟩
  have hg1 := enc_get h.map.1 hi
  have hd1 := enc_del h.map.1 hi
  have ha1 := h.age l[i] (List.getElem_mem _)
  rw [hxi] at hg1 hd1 ha1
  have hget := Lib.hid hg1
  have hdel := Lib.hid hd1
  have hage : a ≤ 9223372036854775807 := by have := h.nx; simp only at ha1; omega
  clear h hc1 h1 hi hxi hx hg1 hd1 ha1 hA
  simp only at hget hdel HA
  obtain ⟨F, T, z, n, cp, sp, hV⟩ : ∃ F T z n cp sp, dgV d = .agg #[.int .i64 F, .int .i64 T, .slice (some ⟨z, 0, none⟩) n cp, .bool sp] := ⟨_, _, _, _, _, _, rfl⟩
  rw [hV] at hget ⊢
  clear hV
  go_enter Tryz.func31, Tryz.ntmps31
  go_wp2_with fail
  obtain ⟨g, hg⟩ : ∃ g, g = w.heap.size := ⟨_, rfl⟩
  rw [← hg] at hb1 hpb ⊢
  have hgw := Lib.hid (Nat.le_of_eq hg.symm)
  clear hg
  generalize w.alloc (.cells #[.int .i64 0, .int .i64 0, .slice none 0 0, .bool false] 79) = w1 at *
  refine HA.out.mono ?_
  rintro e w2 ⟨rfl, hc2⟩
  have H2 := Lib.hid (H1.out.next hc2)
  have hb2 := Lib.hid (hc2.blk' hb1.out (by simp))
  have HC2 := Lib.hid (HC1.out.next hc2)
  have c2 := H2.out.blk.cell 2
  clear hc2 hb1 H1 HC1 HA
  have hb8 := Lib.hid (Blk.new w2 79 #[.int .i64 F, .int .i64 T, .slice (some ⟨z, 0, none⟩) n cp, .bool sp])
  have hc3 := (Chg.refl [] w2).alloc (.cells #[.int .i64 F, .int .i64 T, .slice (some ⟨z, 0, none⟩) n cp, .bool sp] 79)
  have H3 := Lib.hid (H2.out.next hc3)
  have hb3 := Lib.hid (hc3.blk' hb2.out (by simp))
  have HC3 := Lib.hid (HC2.out.next hc3)
  have hg2 := Lib.hid hb2.out.lt
  have hz2 : Hid (w2.heap.size ≠ g ∧ w2.heap.size ≠ b ∧ w2.heap.size ≠ p) := ⟨by have := hg2.out; omega, by have := H2.out.map.lt; omega, by have := H2.out.blk.lt; omega⟩
  have c23 := H3.out.blk.cell 2
  clear hc3
  go_wp2_with (first
    | (with_reducible refine wpList_of _ rfl (wp_map_look _ Tryz.underlying3 Tryz.underlying75 H2.out.map (.tmp 22) (.tmp 23) rfl (zero79 _) a rfl rfl hage ?_); rw [hget.out])
    | (with_reducible refine wpList_of _ rfl (wp_map_delete _ Tryz.underlying3 Tryz.underlying75 H3.out.map (.tmp 28) (.tmp 29) rfl a rfl rfl hage ?_)))
  intro w4 hm4 hc4
  have hne := H3.out.ne
  have h4p := hc4.blk' H3.out.blk (by simpa using fun e => hne e.symm)
  have h48 := hc4.blk' hb8.out (by have := hz2.out; simp; omega)
  have h4g := hc4.blk' hb3.out (by have := hpb.out; simp; omega)
  have hd4 : ∀ x ∈ l, DgAt w4 x.2 := fun x hx => (H3.out.dg x hx).keep hc4 (by simpa using (H3.out.dg_ne x hx).2)
  have HC4 := Lib.hid ((HC3.out.mono (T := [b]) (by simp)).trans hc4 (fun i hi => .inl hi))
  generalize w2.alloc (.cells #[.int .i64 F, .int .i64 T, .slice (some ⟨z, 0, none⟩) n cp, .bool sp] 79) = w3 at *
  generalize w2.heap.size = g8 at *
  have q0 := h48.cell 0
  have q1 := h48.cell 1
  have q2 := h48.cell 2
  have q3 := h48.cell 3
  have H4G := Lib.hid h4g
  have H4P := Lib.hid h4p
  have HD4 := Lib.hid hd4
  have HM4 := Lib.hid hm4
  have HNE := Lib.hid hne
  clear hc4 h4p h48 h4g hd4 hm4 hne c23 c2
  go_wp2_with (with_reducible refine wpList_of _ rfl (wp_store_blk 79 (.tmp 4) (.tmp 30) rfl g 79 _ #[.int .i64 F, .int .i64 T, .slice (some ⟨z, 0, none⟩) n cp, .bool sp] rfl rfl H4G.out rfl (by kernel_rfl) (by simp [Value.oneCell']) ?_))
  intro w5 hb5 hc5
  have hld : (loadVar 79 ⟨g, 0, none⟩).run Tryz.prog w5 = .ok (.agg #[.int .i64 F, .int .i64 T, .slice (some ⟨z, 0, none⟩) n cp, .bool sp]) w5 := run_load_cells w5 79 ⟨g, 0, none⟩ [.int .i64 F, .int .i64 T, .slice (some ⟨z, 0, none⟩) n cp, .bool sp] (by
    intro j v hj
    rw [add_head, hb5.cell]
    simpa using hj) _ Tryz.underlying79 rfl (by kernel_rfl)
  have HB5 := Lib.hid hb5
  clear hb5 q0 q1 q2 q3
  go_wp2_with fail
  refine bodyPost_ret (v := .tuple #[.agg #[.int .i64 F, .int .i64 T, .slice (some ⟨z, 0, none⟩) n cp, .bool sp], .int .i64 0]) (results_cell2 (t := 4) (ty := 79) (u := 5) rfl _ _ _ rfl hld) rfl ⟨rfl, ?_, HC4.out.trans hc5 (fun i hi => .inr (by have := hgw.out; simp at hi; omega))⟩
  have hsub : ∀ x ∈ l.eraseIdx i, x ∈ l := fun x hx => List.mem_of_mem_eraseIdx hx
  refine ⟨H4P.out.keep hc5 (by have := hpb.out; simp; omega), ?_, fun x hx => (HD4.out x (hsub x hx)).keep hc5 ?_, fun x hx => H3.out.age x (hsub x hx), ?_, H3.out.nx⟩
  · have := HM4.out
    rw [hdel.out] at this
    exact this.keep hc5 (by have := hpb.out; simp; omega)
  · obtain ⟨cur, hbx⟩ := (HD4.out x (hsub x hx)).blk
    simp only [List.mem_singleton]
    exact hbx.ne_ H4G.out (by decide)
  · have h1 := H3.out.len
    have h2 := List.length_eraseIdx_le l i
    omega
end Go.Proofs.YtgockfjhokocbaaGreatDoor
