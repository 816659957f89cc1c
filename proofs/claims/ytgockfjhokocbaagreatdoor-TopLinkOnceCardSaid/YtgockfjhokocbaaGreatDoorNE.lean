/-
  PROVED: the contracts of Drop, Double and Flip.
-/
import Derived.Test.YtgockfjhokocbaaGreatDoorND
namespace Go.Proofs.YtgockfjhokocbaaGreatDoor
open Go.RowKit

theorem net_drop {w : World} {p b nx i a : Nat} {d : Dg} {l : List (Nat × Dg)} (h : NetAt w p b l nx) (hx : l[i]? = some (a, d)) :
    Calls Tryz.prog 21 #[.pointer (some ⟨p, 0, none⟩), .int .i64 i] w fun e w' => e = .returned (.int .i64 0) ∧ NetAt w' p b (l.eraseIdx i) nx ∧ Chg [b] w w' := by
  have HD := Lib.hid (net_deliver h hx)
  obtain ⟨F, T, z, n, cp, sp, hV⟩ : ∃ F T z n cp sp, dgV d = .agg #[.int .i64 F, .int .i64 T, .slice (some ⟨z, 0, none⟩) n cp, .bool sp] := ⟨_, _, _, _, _, _, rfl⟩
  rw [hV] at HD
  clear h hx hV
  go_enter Tryz.func21, Tryz.ntmps21
  go_wp2_with (go_at_call 31; refine HD.out.mono ?_; rintro e w1 ⟨rfl, h1, hc1⟩; have H1 := Lib.hid h1; clear h1)
  go_ret
  exact ⟨rfl, H1.out.next ((Chg.refl _ _).alloc _), hc1.alloc _⟩

set_option maxRecDepth 100000 in
theorem net_double {w : World} {p b nx i a : Nat} {d : Dg} {l : List (Nat × Dg)} (h : NetAt w p b l nx) (hnx : nx + 1 ≤ 4611686018427387904) (hx : l[i]? = some (a, d)) :
    Calls Tryz.prog 22 #[.pointer (some ⟨p, 0, none⟩), .int .i64 i] w (PutR w p b l nx d.up d.sp d.n d.bs) := by
  obtain ⟨hi, hxi⟩ := List.getElem?_eq_some_iff.1 hx
  have hA := net_age h hi
  rw [hxi] at hA
  have hg1 := enc_get h.map.1 hi
  have ha1 := h.age l[i] (List.getElem_mem _)
  have hdg := h.dg l[i] (List.getElem_mem _)
  rw [hxi] at hg1 ha1 hdg
  have HA := Lib.hid hA
  have H := Lib.hid h
  have hget := Lib.hid hg1
  have hage : a ≤ 9223372036854775807 := by have := h.nx; simp only at ha1; omega
  have HDg := Lib.hid hdg
  clear h hi hxi hx hg1 ha1 hA hdg
  simp only at hget HA HDg
  obtain ⟨F, hF⟩ : ∃ F, F = fromV d.up := ⟨_, rfl⟩
  obtain ⟨T, hT⟩ : ∃ T, T = toV d.up := ⟨_, rfl⟩
  have hV : dgV d = .agg #[.int .i64 F, .int .i64 T, .slice (some ⟨d.g, 0, none⟩) d.n d.cap, .bool d.sp] := by rw [hF, hT]; rfl
  rw [hV] at hget
  have HF := Lib.hid hF
  have HT := Lib.hid hT
  clear hV hF hT
  have HP : Hid (∀ w1, Chg [] w w1 → Calls Tryz.prog 38 #[.pointer (some ⟨p, 0, none⟩), .agg #[.int .i64 F, .int .i64 T, .slice (some ⟨d.g, 0, none⟩) d.n d.cap, .bool d.sp]] w1 (PutR w1 p b l nx d.up d.sp d.n d.bs)) := fun w1 hc1 =>
    net_put (H.out.next hc1) hnx d.up d.sp F T HF.out HT.out (HDg.out.keep hc1 (by simp)).1.reads HDg.out.2.1 HDg.out.2.2
  go_enter Tryz.func22, Tryz.ntmps22
  go_wp2_with fail
  refine HA.out.mono ?_
  rintro e w1 ⟨rfl, hc1⟩
  have H1 := Lib.hid (H.out.next hc1)
  have HC1 := Lib.hid hc1
  have c2 := H1.out.blk.cell 2
  clear hc1
  go_wp2_with (with_reducible refine wpList_of _ rfl (wp_map_look _ Tryz.underlying3 Tryz.underlying75 H1.out.map (.tmp 20) (.tmp 21) rfl (zero79 _) a rfl rfl hage ?_); rw [hget.out])
  refine (HP.out w1 HC1.out).mono ?_
  rintro e w' hh
  rcases hh with ⟨g1, rfl, g3, g4⟩ | ⟨g1, rfl, g3⟩
  · have G3 := Lib.hid g3
    clear g3
    go_wp2_with fail
    go_ret
    exact PutR.after HC1.out (.inl ⟨g1, rfl, G3.out, g4⟩)
  · have G3 := Lib.hid g3
    clear g3
    go_wp2_with fail
    go_ret
    exact PutR.after HC1.out (.inr ⟨g1, rfl, G3.out⟩)

theorem enc_set {l : List (Nat × Dg)} (h : Rising (enc l)) {i a : Nat} {d d' : Dg} (hx : l[i]? = some (a, d)) : ins a (dgV d') (enc l) = enc (l.set i (a, d')) := by
  obtain ⟨hi, hxi⟩ := List.getElem?_eq_some_iff.1 hx
  have e : l = l.take i ++ (l[i] :: l.drop (i + 1)) := by rw [List.getElem_cons_drop, List.take_append_drop]
  have h1 : ∀ x ∈ enc (l.take i), x.1 < a := by
    intro x hx
    simp only [enc, List.mem_map] at hx
    obtain ⟨y, hy, rfl⟩ := hx
    obtain ⟨j, hj, rfl⟩ := List.getElem_of_mem hy
    have hj' : j < i := by rw [List.length_take] at hj; omega
    rw [List.getElem_take]
    have := rising_lt h hj' hi
    rw [hxi] at this
    exact this
  have key : ∀ m n : List (Nat × Value), (∀ x ∈ m, x.1 < a) → ∀ v, ins a (dgV d') (m ++ (a, v) :: n) = m ++ (a, dgV d') :: n := by
    intro m
    induction m with
    | nil => intro n _ v; simp [ins]
    | cons y m ih =>
      intro n hm v
      rw [List.cons_append, ins, if_pos (hm y (by simp)), ih n (fun x hx => hm x (by simp [hx])) v]
      rfl
  have e1 : enc l = enc (l.take i) ++ (a, dgV d) :: enc (l.drop (i + 1)) := by
    conv => lhs; rw [e, hxi]
    simp [enc]
  have e2 : enc (l.set i (a, d')) = enc (l.take i) ++ (a, dgV d') :: enc (l.drop (i + 1)) := by
    rw [List.set_eq_take_append_cons_drop, if_pos hi]
    simp [enc]
  rw [e1, e2]
  exact key _ _ h1 _
end Go.Proofs.YtgockfjhokocbaaGreatDoor
