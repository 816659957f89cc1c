/-
  PROVED: the contracts of put and Send.
-/
import Derived.Test.YtgockfjhokocbaaGreatDoorNB
import Derived.Test.YtgockfjhokocbaaGreatDoorRB
namespace Go.Proofs.YtgockfjhokocbaaGreatDoor
open Go.RowKit

theorem ins_last {l : List (Nat × Value)} {k : Nat} {v : Value} (h : ∀ x ∈ l, x.1 < k) : ins k v l = l ++ [(k, v)] := by
  induction l with
  | nil => rfl
  | cons a l ih =>
    unfold ins
    rw [if_pos (h a (by simp)), ih (fun x hx => h x (by simp [hx]))]
    rfl

/-- What a datagram comes to that is put into flight. -/
def PutR (w : World) (p b : Nat) (l : List (Nat × Dg)) (nx : Nat) (up sp : Bool) (n : Nat) (bs : List Nat) (e : Ending) (w' : World) : Prop :=
  (2048 ≤ l.length ∧ e = .returned (.int .i64 73) ∧ NetAt w' p b l nx ∧ Chg [p, b] w w') ∨
  (l.length < 2048 ∧ e = .returned (.int .i64 0) ∧ ∃ d : Dg, d.up = up ∧ d.sp = sp ∧ d.bs = bs ∧ d.n = n ∧ w.heap.size ≤ d.g ∧ NetAt w' p b (l ++ [(nx, d)]) (nx + 1) ∧ Chg [p, b] w w')
theorem PutR.after {w w1 : World} {p b : Nat} {l : List (Nat × Dg)} {nx : Nat} {up sp : Bool} {n : Nat} {bs : List Nat} {e : Ending} {w' : World} (hc : Chg [] w w1) (h : PutR w1 p b l nx up sp n bs e w') : PutR w p b l nx up sp n bs e w' := by
  have hc' : Chg [p, b] w w1 := hc.mono (by simp)
  rcases h with ⟨h1, h2, h3, h4⟩ | ⟨h1, h2, d, h3, h4, h5, h6, h7, h8, h9⟩
  · exact .inl ⟨h1, h2, h3, hc'.trans h4 (fun i hi => .inl hi)⟩
  · exact .inr ⟨h1, h2, d, h3, h4, h5, h6, Nat.le_trans hc.size h7, h8, hc'.trans h9 (fun i hi => .inl hi)⟩

set_option maxRecDepth 100000 in
set_option maxHeartbeats 1000000 in
theorem net_put {w : World} {p b nx n c : Nat} {l : List (Nat × Dg)} {ad : Addr} {bs : List Nat} (h : NetAt w p b l nx) (hnx : nx + 1 ≤ 4611686018427387904) (up sp : Bool) (F T : Int) (hF : F = fromV up) (hT : T = toV up) (hr : Reads w 1 (some ad) n (bv bs)) (h0 : 0 < n) (hn : n ≤ 64) :
    Calls Tryz.prog 38 #[.pointer (some ⟨p, 0, none⟩), .agg #[.int .i64 F, .int .i64 T, .slice (some ad) n c, .bool sp]] w (PutR w p b l nx up sp n bs) := by
  have hc1 : Chg [] w (w.alloc (.cells #[.int .i64 F, .int .i64 T, .slice (some ad) n c, .bool sp] 79)) := (Chg.refl _ _).alloc _
  have h1 := h.next hc1
  have hr1 := Lib.hid (hc1.reads' hr (by simp))
  have hb1 := Blk.new w 79 #[.int .i64 F, .int .i64 T, .slice (some ad) n c, .bool sp]
  have HC1 := Lib.hid hc1
  have H1 := Lib.hid h1
  have hpb : Hid (w.heap.size ≠ p ∧ w.heap.size ≠ b) := ⟨by have := h.blk.lt; omega, by have := h.map.lt; omega⟩
  have HF := Lib.hid hF
  have HT := Lib.hid hT
  have c2 := h1.blk.cell 2
  have c2b := hb1.cell 2
  have f2b := hb1.frozen 2
  have HB1 := Lib.hid hb1
  have hl : ∀ ty, (Builtin.len_ #[75] ty #[.map (some b)]).run Tryz.prog (w.alloc (.cells #[.int .i64 F, .int .i64 T, .slice (some ad) n c, .bool sp] 79)) = .ok (.int .i64 l.length) (w.alloc (.cells #[.int .i64 F, .int .i64 T, .slice (some ad) n c, .bool sp] 79)) := fun ty => by
    have := h1.map.len Tryz.underlying75 ty
    rwa [enc_length] at this
  clear hF hT h hr hc1 h1 hb1
  by_cases hfull : 2048 ≤ l.length
  · have hf : ¬ (l.length : Int) < 2048 := by omega
    go_enter Tryz.func38, Tryz.ntmps38
    go_wp2
    go_ret
    exact .inl ⟨hfull, rfl, H1.out, HC1.out.mono (by simp)⟩
  · have hf : (l.length : Int) < 2048 := by omega
    go_enter Tryz.func38, Tryz.ntmps38
    go_wp2_with fail
    obtain ⟨gb, hgb⟩ : ∃ g, g = w.heap.size := ⟨_, rfl⟩
    rw [← hgb] at HB1 hpb c2b f2b ⊢
    have hgw := Lib.hid (Nat.le_of_eq hgb.symm)
    clear hgb
    generalize w.alloc (.cells #[.int .i64 F, .int .i64 T, .slice (some ad) n c, .bool sp] 79) = w1 at *
    refine (clone_calls hr1.out h0 hn).mono ?_
    rintro e w2 ⟨z, cp, rfl, hz, hc2, hzz⟩
    have hb2 := hc2.blk' HB1.out (by simp)
    have h2 := H1.out.next hc2
    have f2b2 := hb2.frozen 2
    have c2b2 := hb2.cell 2
    have hcs : Chg [gb] w2 (w2.setCell ⟨gb, 2, none⟩ (.slice (some ⟨z, 0, none⟩) n cp)) := (Chg.refl _ _).setCell (.inl (by simp)) _
    have hzl : z < w2.heap.size := hz.lt z (by simp [ob])
    have hzg : z ≠ gb := fun e => hz.ne_blk hb2 (by decide) z (by simp [ob]) e
    have HB3 : Hid (Blk (w2.setCell ⟨gb, 2, none⟩ (.slice (some ⟨z, 0, none⟩) n cp)) gb 79 #[.int .i64 F, .int .i64 T, .slice (some ⟨z, 0, none⟩) n cp, .bool sp]) := hb2.set_ 2 _
    have H3 := Lib.hid (h2.keep hcs (by have := hpb.out; simp; omega) (by have := hpb.out; simp; omega) (fun x hx hm => by
      obtain ⟨cur, hbx⟩ := (h2.dg x hx).blk
      simp at hm
      exact hbx.ne_ hb2 (by decide) hm))
    have HZ3 := Lib.hid (hz.keep hcs (by simpa [ob] using hzg))
    have HC3 := Lib.hid ((HC1.out.next hc2).trans hcs (fun i hi => .inr (by have := hgw.out; simp at hi; omega)))
    have HZW := Lib.hid (Nat.le_trans HC1.out.size hzz)
    clear hz hc2 hzz hb2 h2 hcs hzl hzg HB1 H1 HC1 hr1 hl c2 c2b f2b
    go_wp2_with fail
    generalize w2.setCell ⟨gb, 2, none⟩ (.slice (some ⟨z, 0, none⟩) n cp) = w3 at *
    have p1 := H3.out.blk.cell 1
    have p2 := H3.out.blk.cell 2
    have q0 := HB3.out.cell 0
    have q1 := HB3.out.cell 1
    have q2 := HB3.out.cell 2
    have q3 := HB3.out.cell 3
    clear c2b2 f2b2
    go_still_tail 9, (by kernel_rfl)
    change wpList _ _ _ _ _ w3.drew
    clear p1 p2 q0 q1 q2 q3
    refine wpList_of _ rfl (wp_map_store _ Tryz.underlying3 Tryz.underlying75 (H3.out.map.keep (Chg.refl [] w3).drew (by simp)) (.tmp 18) (.tmp 22) (.tmp 23) rfl nx (.agg #[.int .i64 F, .int .i64 T, .slice (some ⟨z, 0, none⟩) n cp, .bool sp]) rfl rfl rfl (by omega) (by rw [enc_length]; unfold maxLen; omega) ?_)
    intro w4 hm4 hc4
    have hc34 : Chg [b] w3 w4 := ((Chg.refl [b] w3).drew).trans hc4 (fun i hi => .inl hi)
    have hne := H3.out.ne
    have hp4 := hc34.blk' H3.out.blk (by simpa using fun e => hne e.symm)
    have r1 := hp4.cell 1
    have rf := hp4.frozen 1
    have hcz : Chg [p] w4 (w4.setCell ⟨p, 1, none⟩ (.int .i64 ((nx : Int) + 1))) := (Chg.refl _ _).setCell (.inl (by simp)) _
    have HN : Hid (NetAt (w4.setCell ⟨p, 1, none⟩ (.int .i64 ((nx : Int) + 1))) p b (l ++ [(nx, ⟨up, z, n, cp, sp, bs⟩)]) (nx + 1)) := by
      have hold : ∀ x ∈ l, DgAt (w4.setCell ⟨p, 1, none⟩ (.int .i64 ((nx : Int) + 1))) x.2 := fun x hx =>
        ((H3.out.dg x hx).keep hc34 (by simpa using (H3.out.dg_ne x hx).2)).keep hcz (by simpa using (H3.out.dg_ne x hx).1)
      have hzp : z ≠ p ∧ z ≠ b := by
        refine ⟨fun e => HZ3.out.ne_blk H3.out.blk (by decide) z (by simp [ob]) e, fun e => ?_⟩
        obtain ⟨g', cur, hA, hbz, _⟩ := HZ3.out.blk h0
        obtain rfl : z = g' := by injection hA with hA; injection hA
        exact H3.out.map.ne_blk hbz e.symm
      refine ⟨?_, ?_, ?_, ?_, by simp; omega, hnx⟩
      · have := hp4.set_ 1 (.int .i64 ((nx : Int) + 1))
        exact this
      · have := hm4.keep hcz (by simpa using hne)
        rw [ins_last (by
          intro x hx
          simp only [enc, List.mem_map] at hx
          obtain ⟨y, hy, rfl⟩ := hx
          exact H3.out.age y hy)] at this
        unfold enc at this ⊢
        rw [List.map_append]
        rw [HF.out, HT.out] at this
        exact this
      · intro x hx
        rcases List.mem_append.1 hx with hx | hx
        · exact hold x hx
        · simp at hx
          subst hx
          exact ⟨(HZ3.out.keep hc34 (by simpa [ob] using hzp.2)).keep hcz (by simpa [ob] using hzp.1), h0, hn⟩
      · intro x hx
        rcases List.mem_append.1 hx with hx | hx
        · have := H3.out.age x hx; omega
        · simp at hx
          subst hx
          exact Nat.lt_succ_self _
    have HCZ : Hid (Chg [p, b] w (w4.setCell ⟨p, 1, none⟩ (.int .i64 ((nx : Int) + 1)))) := ((HC3.out.mono (T := [p, b]) (by simp)).trans hc34 (fun i hi => .inl (by simp at hi; simp [hi]))).trans hcz (fun i hi => .inl (by simp at hi; simp [hi]))
    clear hm4 hc4 hc34 hp4 hcz hne
    go_wp2_with fail
    go_ret
    exact .inr ⟨by omega, rfl, ⟨up, z, n, cp, sp, bs⟩, rfl, rfl, rfl, rfl, HZW.out, HN.out, HCZ.out⟩
end Go.Proofs.YtgockfjhokocbaaGreatDoor
