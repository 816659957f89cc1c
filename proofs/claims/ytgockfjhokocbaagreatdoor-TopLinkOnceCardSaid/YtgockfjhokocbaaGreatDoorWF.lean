/-
  PROVED: the contract of Encode, at an Edit (a deletion, maker 1) and at a Beat.
-/
import Derived.Test.YtgockfjhokocbaaGreatDoorWE
import Derived.Deep.RegionHeld3
namespace Go.Proofs.YtgockfjhokocbaaGreatDoor
open Go.RowKit

/-- What must hold of the fields behind the kind. -/
def Good (V S : List Nat) (m : Int) : Prop := ∀ f, 1 ≤ f → f < 14 → (f ∈ S → f ∈ editShape ∧ (f = 10 ∨ f = 11 → V.getD 9 0 = 2) ∧ (f = 12 → m = 1) ∧ lo f ≤ V.getD f 0 ∧ (V.getD f 0 : Int) ≤ hi f) ∧ (f ∉ S → V.getD f 0 = 0)

def msgV (V : List Nat) : Value := .agg #[.int .i64 (V.getD 0 0 : Nat), .int .i64 (V.getD 1 0 : Nat), .int .i64 (V.getD 2 0 : Nat), .int .i64 (V.getD 3 0 : Nat), .int .i64 (V.getD 4 0 : Nat), .int .i64 (V.getD 5 0 : Nat), .int .i64 (V.getD 6 0 : Nat), .int .i64 (V.getD 7 0 : Nat), .int .i64 (V.getD 8 0 : Nat), .int .i64 (V.getD 9 0 : Nat), .int .i64 (V.getD 10 0 : Nat), .int .u8 0, .int .i64 (V.getD 12 0 : Nat), .int .i64 (V.getD 13 0 : Nat)]

section
variable {P : Program} {ops : Array Oper} {o : Oper} {a : Act} {w : World} {K : Act → World → Prop} {Q : Exit → Act → World → Prop} {E : Prop}
/-- 'x := v' of a struct or an array into a block of its own. -/
theorem wp_store_blk (ty : TypeId) (x y : Operand) (ho : o.op = .store ty x y) (g : Nat) (t : TypeId) (old cs : Array Value) (hx : a.eval x = .pointer (some ⟨g, 0, none⟩)) (hy : a.eval y = .agg cs)
    (hb : Blk w g t old) (hsz : old.size = cs.size) (hi : (P.info? ty).map (·.size) = some cs.size) (h1 : cs.all (·.oneCell') = true)
    (h : ∀ w', Blk w' g t cs → Chg [g] w w' → K (a.put o.dst undef) w') : Oper.wp P o a w K Q := by
  have hr := run_storeVar_row (P := P) w g t ty old cs hb hi hsz h1
  unfold Oper.wp execOp
  simp only [ho, hx, hy, Instr.storeAt, Instr.sureAddr, Sem.run_bind, Sem.run_pure, Result.andThen_ok, hr]
  exact h _ (setRow_heap w g old cs t (0, 0) hb) ((Chg.refl _ w).setRow (.inl (by simp)) _)
end

theorem laidB_bytes {V S : List Nat} (h : FitsV V S) : Bytes (laidB V S) := by
  obtain ⟨_, h0, hf⟩ := h
  intro c hc
  unfold laidB at hc
  rcases List.mem_cons.1 hc with rfl | hc
  · exact h0
  · obtain ⟨f, hfS, hc⟩ := List.mem_flatMap.1 hc
    obtain ⟨h1, h2, h3, h4⟩ := hf f hfS
    have := sizeN_le f
    unfold putB at hc
    split at hc
    · rename_i hs
      have := h4 hs
      simp only [List.mem_cons, List.not_mem_nil, or_false] at hc
      omega
    · rename_i hs
      have := h3 (by omega)
      simp only [List.mem_cons, List.not_mem_nil, or_false] at hc
      omega

theorem encBlk {w : World} {g a0 a1 a2 a3 a4 a5 a6 a7 a8 a9 a10 a12 a13 : Nat} (h : Blk w g 92 #[.int .i64 (a0 : Nat), .int .i64 (a1 : Nat), .int .i64 (a2 : Nat), .int .i64 (a3 : Nat), .int .i64 (a4 : Nat), .int .i64 (a5 : Nat), .int .i64 (a6 : Nat), .int .i64 (a7 : Nat), .int .i64 (a8 : Nat), .int .i64 (a9 : Nat), .int .i64 (a10 : Nat), .int .i64 0, .int .i64 (a12 : Nat), .int .i64 (a13 : Nat)]) : Blk w g 92 (iv [a0, a1, a2, a3, a4, a5, a6, a7, a8, a9, a10, 0, a12, a13]).toArray := h
theorem enc_may {w : World} {g : Nat} {V : List Nat} {m : Int} (hb : Blk w g 92 (iv V).toArray) (hV : V.length = 14) (k : Nat) (hk : k < 14) (he : k ∈ editShape) (h9 : k = 10 ∨ k = 11 → V.getD 9 0 = 2) (h12 : k = 12 → m = 1) (hlo : lo k ≤ V.getD k 0) (hhi : (V.getD k 0 : Int) ≤ hi k) :
    Calls Tryz.prog 43 #[.int .i64 k, .pointer (some ⟨g, 0, none⟩), .int .i64 m] w fun e w' => e = .returned (.bool true) ∧ w = w' := by
  have key : ∀ f, f < 14 → (iv V).toArray[f]? = some (.int .i64 (V.getD f 0 : Nat)) := by
    intro f hf
    rw [List.getElem?_toArray, iv_get (by omega), List.getD_eq_getElem?_getD, List.getElem?_eq_getElem (by omega)]
    rfl
  exact may_calls hb m k _ he (key k hk) (fun h => by rw [key 9 (by omega), h9 h]; rfl) h12 hlo hhi

abbrev EncS (b a0 a1 a2 a3 a4 a5 a6 a7 a8 a9 a10 a12 a13 : Nat) (q : Addr) (n c : Nat) (w' : World) : Prop :=
  w'.cell? ⟨b, 0, none⟩ = some (.int .i64 a0) ∧ w'.cell? ⟨b, 1, none⟩ = some (.int .i64 a1) ∧ w'.cell? ⟨b, 2, none⟩ = some (.int .i64 a2) ∧ w'.cell? ⟨b, 3, none⟩ = some (.int .i64 a3) ∧ w'.cell? ⟨b, 4, none⟩ = some (.int .i64 a4) ∧ w'.cell? ⟨b, 5, none⟩ = some (.int .i64 a5) ∧ w'.cell? ⟨b, 6, none⟩ = some (.int .i64 a6) ∧ w'.cell? ⟨b, 7, none⟩ = some (.int .i64 a7) ∧ w'.cell? ⟨b, 8, none⟩ = some (.int .i64 a8) ∧ w'.cell? ⟨b, 9, none⟩ = some (.int .i64 a9) ∧ w'.cell? ⟨b, 10, none⟩ = some (.int .i64 a10) ∧ w'.cell? ⟨b, 11, none⟩ = some (.int .u8 0) ∧ w'.cell? ⟨b, 12, none⟩ = some (.int .i64 a12) ∧ w'.cell? ⟨b, 13, none⟩ = some (.int .i64 a13) ∧ w'.cell? ⟨0, a0, none⟩ = some (.slice (some q) n c)
theorem EncS.keep {b a0 a1 a2 a3 a4 a5 a6 a7 a8 a9 a10 a12 a13 : Nat} {q : Addr} {n c : Nat} {w w' : World} (hc : Chg [] w w') (h : EncS b a0 a1 a2 a3 a4 a5 a6 a7 a8 a9 a10 a12 a13 q n c w) : EncS b a0 a1 a2 a3 a4 a5 a6 a7 a8 a9 a10 a12 a13 q n c w' := by
  obtain ⟨h0, h1, h2, h3, h4, h5, h6, h7, h8, h9, h10, h11, h12, h13, h14⟩ := h
  exact ⟨hc.cell h0 (by simp), hc.cell h1 (by simp), hc.cell h2 (by simp), hc.cell h3 (by simp), hc.cell h4 (by simp), hc.cell h5 (by simp), hc.cell h6 (by simp), hc.cell h7 (by simp), hc.cell h8 (by simp), hc.cell h9 (by simp), hc.cell h10 (by simp), hc.cell h11 (by simp), hc.cell h12 (by simp), hc.cell h13 (by simp), hc.cell h14 (by simp)⟩

set_option maxRecDepth 100000 in
set_option maxHeartbeats 4000000 in
theorem encode_any {B : Nat} {w : World} {a0 a1 a2 a3 a4 a5 a6 a7 a8 a9 a10 a12 a13 n : Nat} {S : List Nat} {q : Addr} {c : Nat} (m : Int) (h : Laid B w) (hk : (a0 = 2 ∧ m = a2) ∨ (a0 = 6 ∧ m = 0))
    (hs : w.cell? ⟨0, a0, none⟩ = some (.slice (some q) n c)) (hr : Reads w 1 (some q) n (iv S)) (hn : n ≤ 100)
    (hg : Good [a0, a1, a2, a3, a4, a5, a6, a7, a8, a9, a10, 0, a12, a13] S m) (hV : FitsV [a0, a1, a2, a3, a4, a5, a6, a7, a8, a9, a10, 0, a12, a13] S) {T : Nat} (hT : T = (laidB [a0, a1, a2, a3, a4, a5, a6, a7, a8, a9, a10, 0, a12, a13] S).length) :
    Calls Tryz.prog 25 #[.agg #[.int .i64 a0, .int .i64 a1, .int .i64 a2, .int .i64 a3, .int .i64 a4, .int .i64 a5, .int .i64 a6, .int .i64 a7, .int .i64 a8, .int .i64 a9, .int .i64 a10, .int .u8 0, .int .i64 a12, .int .i64 a13]] w fun e w' =>
      ∃ z, e = .returned (.tuple #[.slice (some ⟨z, 0, none⟩) (T + 4) (T + 4), .nilIface]) ∧ Row w' 5 1 (some ⟨z, 0, none⟩) (T + 4) (T + 4) (bv (framed (laidB [a0, a1, a2, a3, a4, a5, a6, a7, a8, a9, a10, 0, a12, a13] S))) ∧ Chg [] w w' := by
  have k1 : ¬ (a0 : Int) < 1 := by omega
  have k2 : ¬ (6 : Int) < a0 := by omega
  have k3 : (a0 : Int) < 7 := by omega
  have k4 : (0 : Int) ≤ (a0 : Int) := by omega
  have H := Lib.hid h
  have HS := Lib.hid hs
  have HR := Lib.hid hr
  have HG := Lib.hid hg
  have HV := Lib.hid hV
  have HT := Lib.hid hT
  have HK := Lib.hid hk
  clear h hs hr hg hV hT hk
  go_enter Tryz.func25, Tryz.ntmps25
  go_wp2_with fail
  have hB : Hid (Blk (w.alloc (.cells #[.int .i64 a0, .int .i64 a1, .int .i64 a2, .int .i64 a3, .int .i64 a4, .int .i64 a5, .int .i64 a6, .int .i64 a7, .int .i64 a8, .int .i64 a9, .int .i64 a10, .int .u8 0, .int .i64 a12, .int .i64 a13] 58)) w.heap.size 58 #[.int .i64 a0, .int .i64 a1, .int .i64 a2, .int .i64 a3, .int .i64 a4, .int .i64 a5, .int .i64 a6, .int .i64 a7, .int .i64 a8, .int .i64 a9, .int .i64 a10, .int .u8 0, .int .i64 a12, .int .i64 a13]) := Blk.new _ _ _
  have hC : Hid (Chg [] w (w.alloc (.cells #[.int .i64 a0, .int .i64 a1, .int .i64 a2, .int .i64 a3, .int .i64 a4, .int .i64 a5, .int .i64 a6, .int .i64 a7, .int .i64 a8, .int .i64 a9, .int .i64 a10, .int .u8 0, .int .i64 a12, .int .i64 a13] 58))) := (Chg.refl [] w).alloc _
  have h1 : EncS w.heap.size a0 a1 a2 a3 a4 a5 a6 a7 a8 a9 a10 a12 a13 q n c (w.alloc (.cells #[.int .i64 a0, .int .i64 a1, .int .i64 a2, .int .i64 a3, .int .i64 a4, .int .i64 a5, .int .i64 a6, .int .i64 a7, .int .i64 a8, .int .i64 a9, .int .i64 a10, .int .u8 0, .int .i64 a12, .int .i64 a13] 58)) :=
    ⟨hB.out.cell 0, hB.out.cell 1, hB.out.cell 2, hB.out.cell 3, hB.out.cell 4, hB.out.cell 5, hB.out.cell 6, hB.out.cell 7, hB.out.cell 8, hB.out.cell 9, hB.out.cell 10, hB.out.cell 11, hB.out.cell 12, hB.out.cell 13, hC.out.cell HS.out (by simp)⟩
  generalize w.alloc (.cells #[.int .i64 a0, .int .i64 a1, .int .i64 a2, .int .i64 a3, .int .i64 a4, .int .i64 a5, .int .i64 a6, .int .i64 a7, .int .i64 a8, .int .i64 a9, .int .i64 a10, .int .u8 0, .int .i64 a12, .int .i64 a13] 58) = w1 at *
  generalize hb : w.heap.size = b at *
  have Hb := Lib.hid hb
  clear hb
  have H1 := Lib.hid h1
  unfold EncS at h1
  have Hd : EncS b a0 a1 a2 a3 a4 a5 a6 a7 a8 a9 a10 a12 a13 q n c w1.drew := H1.out
  clear h1
  refine wp_region_noPanic ?_
  refine wp_region_held_drew (S := fun w' => EncS b a0 a1 a2 a3 a4 a5 a6 a7 a8 a9 a10 a12 a13 q n c w') (by kernel_rfl) Hd (fun hHeld => ?_)
  refine wpAnyH_take (i := 0) (oi := _) (v := ?v0) rfl (by kernel_rfl) (by kernel_rfl) (by kernel_rfl) (fun _ _ _ h => h) (Or.inl ⟨by rfl, ?y0⟩) hHeld ?r0
  case y0 =>
    intro wS hSw
    simp only [EncS] at hSw
    go_simp
    with_reducible rfl
  simp only [Act.put, List.setIfInBounds_toArray]
  refine wpAnyH_take (i := 2) (oi := _) (v := ?v2) rfl (by kernel_rfl) (by kernel_rfl) (by kernel_rfl) (fun _ _ _ h => h) (Or.inl ⟨by rfl, ?y2⟩) hHeld ?r2
  case y2 =>
    intro wS hSw
    simp only [EncS] at hSw
    go_simp
    with_reducible rfl
  simp only [Act.put]
  refine wpAnyH_take (i := 3) (oi := _) (v := ?v3) rfl (by kernel_rfl) (by kernel_rfl) (by kernel_rfl) (fun _ _ _ h => h) (Or.inl ⟨by rfl, ?y3⟩) hHeld ?r3
  case y3 =>
    intro wS hSw
    simp only [EncS] at hSw
    go_simp
    with_reducible rfl
  simp only [Act.put]
  refine wpAnyH_take (i := 4) (oi := _) (v := ?v4) rfl (by kernel_rfl) (by kernel_rfl) (by kernel_rfl) (fun _ _ _ h => h) (Or.inl ⟨by rfl, ?y4⟩) hHeld ?r4
  case y4 =>
    intro wS hSw
    simp only [EncS] at hSw
    go_simp
    with_reducible rfl
  simp only [Act.put]
  refine wpAnyH_take (i := 5) (oi := _) (v := ?v5) rfl (by kernel_rfl) (by kernel_rfl) (by kernel_rfl) (fun _ _ _ h => h) (Or.inl ⟨by rfl, ?y5⟩) hHeld ?r5
  case y5 =>
    intro wS hSw
    simp only [EncS] at hSw
    go_simp
    with_reducible rfl
  simp only [Act.put]
  refine wpAnyH_ready (rs := [1, 6]) (by kernel_rfl) (by simp) ?_
  refine AllReadyH.cons rfl (fun K hK => ?_) ?_
  · rw [if_pos (by rfl)]
    go_simp
    go_at_call 41
    refine (flat_calls _ a0 a1 a2 a3 a4 a5 a6 a7 a8 a9 a10 a12 a13).mono ?_
    rintro e w2 ⟨rfl, hc2⟩
    go_wp2_with fail
    refine hK.out _ _ (EncS.keep hc2 Hd) (fun _ => ?_)
    clear hK K
    refine wpAnyH_ready (rs := [6]) (by kernel_rfl) (by simp) ?_
    refine AllReadyH.cons rfl (fun K hK => ?_) AllReadyH.nil
    rw [if_pos (by rfl)]
    go_simp
    have hc3 := hc2.alloc (.cells #[.int .i64 0, .int .i64 0, .int .i64 0, .int .i64 0, .int .i64 0, .int .i64 0, .int .i64 0, .int .i64 0, .int .i64 0, .int .i64 0, .int .i64 0, .int .i64 0, .int .i64 0, .int .i64 0] 92)
    have hbz := Blk.new w2 92 #[.int .i64 0, .int .i64 0, .int .i64 0, .int .i64 0, .int .i64 0, .int .i64 0, .int .i64 0, .int .i64 0, .int .i64 0, .int .i64 0, .int .i64 0, .int .i64 0, .int .i64 0, .int .i64 0]
    have hg3 := Lib.hid hc2.size
    generalize w2.alloc (.cells #[.int .i64 0, .int .i64 0, .int .i64 0, .int .i64 0, .int .i64 0, .int .i64 0, .int .i64 0, .int .i64 0, .int .i64 0, .int .i64 0, .int .i64 0, .int .i64 0, .int .i64 0, .int .i64 0] 92) = w3 at *
    refine hK.out _ _ (EncS.keep hc3 Hd) (fun _ => ?_)
    clear hK K
    generalize w2.heap.size = g at *
    refine wpAnyH_ready (rs := [7]) (by kernel_rfl) (by simp) ?_
    refine AllReadyH.cons rfl (fun K hK => ?_) AllReadyH.nil
    rw [if_pos (by rfl)]
    refine wp_store_blk 92 (.tmp 4) (.tmp 18) rfl _ 92 #[.int .i64 0, .int .i64 0, .int .i64 0, .int .i64 0, .int .i64 0, .int .i64 0, .int .i64 0, .int .i64 0, .int .i64 0, .int .i64 0, .int .i64 0, .int .i64 0, .int .i64 0, .int .i64 0] #[.int .i64 a0, .int .i64 a1, .int .i64 a2, .int .i64 a3, .int .i64 a4, .int .i64 a5, .int .i64 a6, .int .i64 a7, .int .i64 a8, .int .i64 a9, .int .i64 a10, .int .i64 0, .int .i64 a12, .int .i64 a13] rfl rfl hbz rfl (by kernel_rfl) (by simp [Value.oneCell']) ?_
    intro w4 hb4 hc4
    have HC4 := Lib.hid (hc3.trans hc4 (fun i hi => .inr (by simp at hi; rw [hi]; exact hg3.out)))
    have HB4 := Lib.hid hb4
    clear hc4 hb4 hbz hc3
    simp only [Act.put]
    refine hK.out _ _ (EncS.keep HC4.out Hd) (fun _ => ?_)
    clear hK K
    refine wpAnyH_ready (rs := [8]) (by kernel_rfl) (by simp) ?_
    refine AllReadyH.cons rfl (fun K hK => ?_) AllReadyH.nil
    rw [if_pos (by rfl)]
    go_simp
    refine hK.out _ _ (EncS.keep HC4.out Hd) (fun _ => ?_)
    clear hK K
    refine wpAnyH_done (by kernel_rfl) ?_ _
    refine NoPanic.normal ?_
    have HD : Hid (Chg [] w w4) := (hC.out.drew).next HC4.out
    have HBb := hB.out.keep ((Chg.refl [] w1).drew.next HC4.out) (by simp)
    have d0 := HBb.cell 0
    have d2 := HBb.cell 2
    have HL4 := Lib.hid (H.out.keep HD.out (by simp))
    have HR4 := Lib.hid (HD.out.reads' HR.out (by simp))
    clear HC4 hB HBb hC Hb H1 Hd H HS HR hg3 hHeld
    have hB2 : ((a0 : Int) == 2) = true ∧ m = a2 ∨ ((a0 : Int) == 2) = false ∧ m = 0 := by
      rcases HK.out with ⟨h2, hm⟩ | ⟨h2, hm⟩
      · exact .inl ⟨beq_iff_eq.2 (by omega), hm⟩
      · exact .inr ⟨beq_eq_false_iff_ne.2 (by omega), hm⟩
    clear HK
    rcases hB2 with ⟨h2, rfl⟩ | ⟨h2, rfl⟩
    all_goals
      go_wp2_with fail
      clear d0 d2 h2
      have HB6 := encBlk HB4.out
      have HB7 := Lib.hid HB6
      clear HB6
      go_loop [2, 3, 7] (fun r2 r3 i => ∃ k : Nat, 1 ≤ k ∧ k ≤ 14 ∧ i = .int .i64 k ∧ r2 = .slice none 0 0 ∧ r3 = .nilIface) (fun _ _ i => 14 - (intOf i).toNat)
      case atStart => exact ⟨1, by omega, by omega, rfl, rfl, rfl⟩
      case round =>
        obtain ⟨k, hk1, hk2, rfl, rfl, rfl⟩ := hrel
        by_cases hlt : k < 14
        · have hg := HG.out k hk1 hlt
          have vk := Lib.hid (vget HB7.out rfl k hlt)
          by_cases hS : k ∈ S
          · obtain ⟨he, h9, h12, hlo, hhi⟩ := hg.1 hS
            have hN := Lib.hid (named_yes (c := c) HR4.out hn k hS)
            have hM := Lib.hid (enc_may HB7.out rfl k hlt he h9 h12 hlo hhi)
            clear hg he h9 h12 hlo hhi hS
            go_wp2_with (first
              | (go_at_call 42; refine hN.out.mono ?_; rintro e w5 ⟨rfl, rfl⟩)
              | (go_at_call 43; refine hM.out.mono ?_; rintro e w5 ⟨rfl, rfl⟩))
            go_round
            case rel => exact ⟨k + 1, by omega, by omega, by go_num, rfl, rfl⟩
            case measure => simp [intOf]; omega
          · have h0 := hg.2 hS
            have hN := Lib.hid (named_no (c := c) HR4.out hn k hS)
            have hv := vk.out
            rw [h0] at hv
            clear hg hS h0
            have f0 : (0 : Int) ≤ (k : Int) := by omega
            have f1 : (k : Int) < 14 := by omega
            go_wp2_with (go_at_call 42; refine hN.out.mono ?_; rintro e w5 ⟨rfl, rfl⟩)
            go_round
            case rel => exact ⟨k + 1, by omega, by omega, by go_num, rfl, rfl⟩
            case measure => simp [intOf]; omega
        · have hk14 : k = 14 := by omega
          subst hk14
          go_wp2_with fail
          refine (lay_calls HL4.out HB7.out HR4.out hn HV.out HT.out).mono ?_
          rintro e w5 ⟨z5, rfl, hr5, hc5, hz5⟩
          have HC5 := Lib.hid hc5
          have hTl : T ≤ 1000 := by
            rw [HT.out, laidB_length (fun f hf => (HV.out.2.2 f hf).2.1)]
            have h1 := sum_size_le S
            have h2 : S.length = n := by have := HR4.out.1; rw [iv_length] at this; omega
            omega
          have hS5 := Lib.hid (seal_calls (c := T) (HL4.out.keep hc5 (by simp)) hr5.reads (laidB_bytes HV.out) hTl)
          clear hr5 hc5 hz5
          go_wp2_with fail
          refine hS5.out.mono ?_
          rintro e w6 ⟨z6, rfl, hr6, hc6, hz6⟩
          go_wp2_with fail
          go_ret2
          exact ⟨z6, rfl, hr6, HD.out.next (HC5.out.next hc6)⟩
  · refine AllReadyH.cons rfl (fun K hK => ?_) AllReadyH.nil
    rw [if_pos (by rfl)]
    go_simp
    have hc2 := (Chg.refl [] w1.drew).alloc (.cells #[.int .i64 0, .int .i64 0, .int .i64 0, .int .i64 0, .int .i64 0, .int .i64 0, .int .i64 0, .int .i64 0, .int .i64 0, .int .i64 0, .int .i64 0, .int .i64 0, .int .i64 0, .int .i64 0] 92)
    have hbz0 := Blk.new w1.drew 92 #[.int .i64 0, .int .i64 0, .int .i64 0, .int .i64 0, .int .i64 0, .int .i64 0, .int .i64 0, .int .i64 0, .int .i64 0, .int .i64 0, .int .i64 0, .int .i64 0, .int .i64 0, .int .i64 0]
    have hg3 : Hid (w1.heap.size ≤ w1.heap.size) := Nat.le_refl _
    refine hK.out _ _ (EncS.keep hc2 Hd) (fun _ => ?_)
    clear hK K
    refine wpAnyH_ready (rs := [1]) (by kernel_rfl) (by simp) ?_
    refine AllReadyH.cons rfl (fun K hK => ?_) AllReadyH.nil
    rw [if_pos (by rfl)]
    go_simp
    go_at_call 41
    refine (flat_calls _ a0 a1 a2 a3 a4 a5 a6 a7 a8 a9 a10 a12 a13).mono ?_
    rintro e w3 ⟨rfl, hc30⟩
    have hc3 := hc2.next hc30
    have hbz := hc30.blk' hbz0 (by simp)
    clear hc2 hbz0 hc30
    go_wp2_with fail
    refine hK.out _ _ (EncS.keep hc3 Hd) (fun _ => ?_)
    clear hK K
    refine wpAnyH_ready (rs := [7]) (by kernel_rfl) (by simp) ?_
    refine AllReadyH.cons rfl (fun K hK => ?_) AllReadyH.nil
    rw [if_pos (by rfl)]
    refine wp_store_blk 92 (.tmp 4) (.tmp 18) rfl _ 92 #[.int .i64 0, .int .i64 0, .int .i64 0, .int .i64 0, .int .i64 0, .int .i64 0, .int .i64 0, .int .i64 0, .int .i64 0, .int .i64 0, .int .i64 0, .int .i64 0, .int .i64 0, .int .i64 0] #[.int .i64 a0, .int .i64 a1, .int .i64 a2, .int .i64 a3, .int .i64 a4, .int .i64 a5, .int .i64 a6, .int .i64 a7, .int .i64 a8, .int .i64 a9, .int .i64 a10, .int .i64 0, .int .i64 a12, .int .i64 a13] rfl rfl hbz rfl (by kernel_rfl) (by simp [Value.oneCell']) ?_
    intro w4 hb4 hc4
    have HC4 := Lib.hid (hc3.trans hc4 (fun i hi => .inr (by simp at hi; rw [hi]; exact hg3.out)))
    have HB4 := Lib.hid hb4
    clear hc4 hb4 hbz hc3
    simp only [Act.put]
    refine hK.out _ _ (EncS.keep HC4.out Hd) (fun _ => ?_)
    clear hK K
    refine wpAnyH_ready (rs := [8]) (by kernel_rfl) (by simp) ?_
    refine AllReadyH.cons rfl (fun K hK => ?_) AllReadyH.nil
    rw [if_pos (by rfl)]
    go_simp
    refine hK.out _ _ (EncS.keep HC4.out Hd) (fun _ => ?_)
    clear hK K
    refine wpAnyH_done (by kernel_rfl) ?_ _
    refine NoPanic.normal ?_
    have HD : Hid (Chg [] w w4) := (hC.out.drew).next HC4.out
    have HBb := hB.out.keep ((Chg.refl [] w1).drew.next HC4.out) (by simp)
    have d0 := HBb.cell 0
    have d2 := HBb.cell 2
    have HL4 := Lib.hid (H.out.keep HD.out (by simp))
    have HR4 := Lib.hid (HD.out.reads' HR.out (by simp))
    clear HC4 hB HBb hC Hb H1 Hd H HS HR hg3 hHeld
    have hB2 : ((a0 : Int) == 2) = true ∧ m = a2 ∨ ((a0 : Int) == 2) = false ∧ m = 0 := by
      rcases HK.out with ⟨h2, hm⟩ | ⟨h2, hm⟩
      · exact .inl ⟨beq_iff_eq.2 (by omega), hm⟩
      · exact .inr ⟨beq_eq_false_iff_ne.2 (by omega), hm⟩
    clear HK
    rcases hB2 with ⟨h2, rfl⟩ | ⟨h2, rfl⟩
    all_goals
      go_wp2_with fail
      clear d0 d2 h2
      have HB6 := encBlk HB4.out
      have HB7 := Lib.hid HB6
      clear HB6
      go_loop [2, 3, 7] (fun r2 r3 i => ∃ k : Nat, 1 ≤ k ∧ k ≤ 14 ∧ i = .int .i64 k ∧ r2 = .slice none 0 0 ∧ r3 = .nilIface) (fun _ _ i => 14 - (intOf i).toNat)
      case atStart => exact ⟨1, by omega, by omega, rfl, rfl, rfl⟩
      case round =>
        obtain ⟨k, hk1, hk2, rfl, rfl, rfl⟩ := hrel
        by_cases hlt : k < 14
        · have hg := HG.out k hk1 hlt
          have vk := Lib.hid (vget HB7.out rfl k hlt)
          by_cases hS : k ∈ S
          · obtain ⟨he, h9, h12, hlo, hhi⟩ := hg.1 hS
            have hN := Lib.hid (named_yes (c := c) HR4.out hn k hS)
            have hM := Lib.hid (enc_may HB7.out rfl k hlt he h9 h12 hlo hhi)
            clear hg he h9 h12 hlo hhi hS
            go_wp2_with (first
              | (go_at_call 42; refine hN.out.mono ?_; rintro e w5 ⟨rfl, rfl⟩)
              | (go_at_call 43; refine hM.out.mono ?_; rintro e w5 ⟨rfl, rfl⟩))
            go_round
            case rel => exact ⟨k + 1, by omega, by omega, by go_num, rfl, rfl⟩
            case measure => simp [intOf]; omega
          · have h0 := hg.2 hS
            have hN := Lib.hid (named_no (c := c) HR4.out hn k hS)
            have hv := vk.out
            rw [h0] at hv
            clear hg hS h0
            have f0 : (0 : Int) ≤ (k : Int) := by omega
            have f1 : (k : Int) < 14 := by omega
            go_wp2_with (go_at_call 42; refine hN.out.mono ?_; rintro e w5 ⟨rfl, rfl⟩)
            go_round
            case rel => exact ⟨k + 1, by omega, by omega, by go_num, rfl, rfl⟩
            case measure => simp [intOf]; omega
        · have hk14 : k = 14 := by omega
          subst hk14
          go_wp2_with fail
          refine (lay_calls HL4.out HB7.out HR4.out hn HV.out HT.out).mono ?_
          rintro e w5 ⟨z5, rfl, hr5, hc5, hz5⟩
          have HC5 := Lib.hid hc5
          have hTl : T ≤ 1000 := by
            rw [HT.out, laidB_length (fun f hf => (HV.out.2.2 f hf).2.1)]
            have h1 := sum_size_le S
            have h2 : S.length = n := by have := HR4.out.1; rw [iv_length] at this; omega
            omega
          have hS5 := Lib.hid (seal_calls (c := T) (HL4.out.keep hc5 (by simp)) hr5.reads (laidB_bytes HV.out) hTl)
          clear hr5 hc5 hz5
          go_wp2_with fail
          refine hS5.out.mono ?_
          rintro e w6 ⟨z6, rfl, hr6, hc6, hz6⟩
          go_wp2_with fail
          go_ret2
          exact ⟨z6, rfl, hr6, HD.out.next (HC5.out.next hc6)⟩

/-- An Edit's fields: number num, a deletion at pos. -/
def editV (num pos : Nat) : List Nat := [2, 1, 1, 0, 0, num, 0, 0, 0, 2, pos, 0, 1, 1]
def beatV (ack : Nat) : List Nat := [6, 1, 1, 0, 0, 0, ack, 0, 0, 0, 0, 0, 0, 0]
def editB (num pos : Nat) : List Nat := laidB (editV num pos) editShape
def beatB (ack : Nat) : List Nat := laidB (beatV ack) beatShape
theorem upto14 {f : Nat} (h1 : 1 ≤ f) (h2 : f < 14) : f = 1 ∨ f = 2 ∨ f = 3 ∨ f = 4 ∨ f = 5 ∨ f = 6 ∨ f = 7 ∨ f = 8 ∨ f = 9 ∨ f = 10 ∨ f = 11 ∨ f = 12 ∨ f = 13 := by omega
theorem editGood {num pos : Nat} (h1 : 1 ≤ num) (h2 : num ≤ 4096) (h3 : pos ≤ 4095) : Good (editV num pos) editShape 1 := by
  intro f hf1 hf2
  rcases upto14 hf1 hf2 with rfl | rfl | rfl | rfl | rfl | rfl | rfl | rfl | rfl | rfl | rfl | rfl | rfl <;> simp [editShape, editV, lo, hi] <;> omega
theorem beatGood {ack : Nat} (h2 : ack ≤ 4096) : Good (beatV ack) beatShape 0 := by
  intro f hf1 hf2
  rcases upto14 hf1 hf2 with rfl | rfl | rfl | rfl | rfl | rfl | rfl | rfl | rfl | rfl | rfl | rfl | rfl <;> simp [editShape, beatShape, beatV, lo, hi] <;> omega
theorem editFits {num pos : Nat} (h2 : num ≤ 4096) (h3 : pos ≤ 4095) : FitsV (editV num pos) editShape := by
  refine ⟨rfl, by simp [editV], fun f hf => ?_⟩
  simp only [editShape, List.mem_cons, List.not_mem_nil, or_false] at hf
  rcases hf with rfl | rfl | rfl | rfl | rfl | rfl | rfl | rfl | rfl | rfl <;> simp [editV, sizeN] <;> omega
theorem beatFits {ack : Nat} (h2 : ack ≤ 4096) : FitsV (beatV ack) beatShape := by
  refine ⟨rfl, by simp [beatV], fun f hf => ?_⟩
  simp only [beatShape, List.mem_cons, List.not_mem_nil, or_false] at hf
  rcases hf with rfl | rfl | rfl <;> simp [beatV, sizeN] <;> omega
theorem editB_length (num pos : Nat) : (editB num pos).length = 15 := by simp [editB, laidB, editShape, putB, sizeN]
theorem beatB_length (ack : Nat) : (beatB ack).length = 5 := by simp [beatB, laidB, beatShape, putB, sizeN]

theorem encode_edit {B : Nat} {w : World} {num pos : Nat} (h : Laid B w) (h1 : 1 ≤ num) (h2 : num ≤ 4096) (h3 : pos ≤ 4095) :
    Calls Tryz.prog 25 #[.agg #[.int .i64 2, .int .i64 1, .int .i64 1, .int .i64 0, .int .i64 0, .int .i64 num, .int .i64 0, .int .i64 0, .int .i64 0, .int .i64 2, .int .i64 pos, .int .u8 0, .int .i64 1, .int .i64 1]] w fun e w' =>
      ∃ z, e = .returned (.tuple #[.slice (some ⟨z, 0, none⟩) 19 19, .nilIface]) ∧ Row w' 5 1 (some ⟨z, 0, none⟩) 19 19 (bv (framed (editB num pos))) ∧ Chg [] w w' := by
  obtain ⟨q, c, hs, _, hr⟩ := h.edit
  exact encode_any (a0 := 2) (a1 := 1) (a2 := 1) (a3 := 0) (a4 := 0) (a5 := num) (a6 := 0) (a7 := 0) (a8 := 0) (a9 := 2) (a10 := pos) (a12 := 1) (a13 := 1) (S := editShape) (T := 15) 1 h (.inl ⟨rfl, rfl⟩) hs hr (by omega) (editGood h1 h2 h3) (editFits h2 h3) (editB_length num pos).symm
theorem encode_beat {B : Nat} {w : World} {ack : Nat} (h : Laid B w) (h2 : ack ≤ 4096) :
    Calls Tryz.prog 25 #[.agg #[.int .i64 6, .int .i64 1, .int .i64 1, .int .i64 0, .int .i64 0, .int .i64 0, .int .i64 ack, .int .i64 0, .int .i64 0, .int .i64 0, .int .i64 0, .int .u8 0, .int .i64 0, .int .i64 0]] w fun e w' =>
      ∃ z, e = .returned (.tuple #[.slice (some ⟨z, 0, none⟩) 9 9, .nilIface]) ∧ Row w' 5 1 (some ⟨z, 0, none⟩) 9 9 (bv (framed (beatB ack))) ∧ Chg [] w w' := by
  obtain ⟨q, c, hs, _, hr⟩ := h.beat
  exact encode_any (a0 := 6) (a1 := 1) (a2 := 1) (a3 := 0) (a4 := 0) (a5 := 0) (a6 := ack) (a7 := 0) (a8 := 0) (a9 := 0) (a10 := 0) (a12 := 0) (a13 := 0) (S := beatShape) (T := 5) 0 h (.inr ⟨rfl, rfl⟩) hs hr (by omega) (beatGood h2) (beatFits h2) (beatB_length ack).symm
end Go.Proofs.YtgockfjhokocbaaGreatDoor
