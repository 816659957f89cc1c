/-
  PROVED: the contract of pick: the fields of a shape read from bytes.
-/
import Derived.Test.YtgockfjhokocbaaGreatDoorWF
import Derived.Test.YtgockfjhokocbaaGreatDoorRA
import Derived.Test.YtgockfjhokocbaaGreatDoorMM
import Derived.Laws.EntriesVeiled
namespace Go.Proofs.YtgockfjhokocbaaGreatDoor
open Go.RowKit

theorem results_cell2 {fn : Func} {t : Tmp} {ty : TypeId} {u : Tmp} (h : fn.results = #[.cell t ty, .tmp u]) (tmps : Array Value) (P : Program) (w : World) {ad : Addr} {v : Value} (ht : tmps.getD t undef = .pointer (some ad)) (hl : (loadVar ty ad).run P w = .ok v w) :
    (results fn tmps).run P w = .ok (.tuple #[v, tmps.getD u undef]) w := by
  have ht' : tmps[t]?.getD undef = .pointer (some ad) := by simpa using ht
  simp [results, h, ht', hl, asAddr]
theorem results_cell1 {fn : Func} {t : Tmp} {ty : TypeId} (h : fn.results = #[.cell t ty]) (tmps : Array Value) (P : Program) (w : World) {ad : Addr} {v : Value} (ht : tmps.getD t undef = .pointer (some ad)) (hl : (loadVar ty ad).run P w = .ok v w) :
    (results fn tmps).run P w = .ok v w := by
  have ht' : tmps[t]?.getD undef = .pointer (some ad) := by simpa using ht
  simp [results, h, ht', hl, asAddr]

/-- The fields read so far. -/
def fill (V : List Nat) : List Nat → List Nat
  | S => S.foldl (fun L f => L.set f (V.getD f 0)) ((List.replicate 14 0).set 0 (V.getD 0 0))
theorem fill_length (V S : List Nat) : (fill V S).length = 14 := by
  unfold fill
  have : ∀ (T : List Nat) (L : List Nat), L.length = 14 → (T.foldl (fun L f => L.set f (V.getD f 0)) L).length = 14 := by
    intro T
    induction T with
    | nil => exact fun _ h => h
    | cons a T ih => exact fun L h => ih _ (by simpa using h)
  exact this S _ (by simp)
theorem fill_snoc (V S : List Nat) (f : Nat) : fill V (S ++ [f]) = (fill V S).set f (V.getD f 0) := by simp [fill]
theorem iv_set (L : List Nat) (f x : Nat) : (iv L).toArray.setIfInBounds f (.int .i64 x) = (iv (L.set f x)).toArray := by
  unfold iv
  rw [List.map_set]
  simp

/-- What lets each field stand, in its turn. -/
def Turns (V S : List Nat) (own : Bool) : Prop := ∀ k (_ : k < S.length), S[k] ∈ editShape ∧ S[k] < 14 ∧ lo S[k] ≤ V.getD S[k] 0 ∧ (V.getD S[k] 0 : Int) ≤ hi S[k] ∧
  (S[k] = 10 ∨ S[k] = 11 → (fill V (S.take (k + 1))).getD 9 0 = 2) ∧ (S[k] = 12 → own = true ∧ (fill V (S.take (k + 1))).getD 2 0 = 1)

theorem laidB_at {V S : List Nat} (hV : FitsV V S) {k : Nat} (hk : k < S.length) :
    (laidB V (S.take k)).length + sizeN S[k] ≤ (laidB V S).length ∧ ∀ i, i < sizeN S[k] → (laidB V S)[(laidB V (S.take k)).length + i]? = (putB S[k] (V.getD S[k] 0))[i]? := by
  have e : laidB V S = laidB V (S.take k) ++ (putB S[k] (V.getD S[k] 0) ++ (S.drop (k + 1)).flatMap fun f => putB f (V.getD f 0)) := by
    have h1 : S.take k ++ (S[k] :: S.drop (k + 1)) = S := by rw [List.getElem_cons_drop, List.take_append_drop]
    have h2 : laidB V (S.take k ++ (S[k] :: S.drop (k + 1))) = laidB V (S.take k) ++ (putB S[k] (V.getD S[k] 0) ++ (S.drop (k + 1)).flatMap fun f => putB f (V.getD f 0)) := by
      unfold laidB
      rw [List.flatMap_append, List.flatMap_cons, List.cons_append]
    rw [h1] at h2
    exact h2
  have hp := putB_length (f := S[k]) (v := V.getD S[k] 0) (hV.2.2 _ (List.getElem_mem _)).2.1
  refine ⟨?_, fun i hi => ?_⟩
  · rw [e, List.length_append, List.length_append, hp]; omega
  · rw [e, List.getElem?_append_right (by omega), Nat.add_sub_cancel_left, List.getElem?_append_left (by omega)]

theorem List.getElem_set_self' {L : List Nat} {f x : Nat} (hf : f < 14) (hL : L.length = 14) : (L.set f x)[f]? = some x := by
  rw [List.getElem?_set_self (by omega)]
theorem pick_may {w : World} {g : Nat} {L : List Nat} (hb : Blk w g 92 (iv L).toArray) (hL : L.length = 14) (m : Int) (f x : Nat) (hf : f < 14) (he : f ∈ editShape) (hx : L[f]? = some x) (h9 : f = 10 ∨ f = 11 → L.getD 9 0 = 2) (h12 : f = 12 → m = 1) (hlo : lo f ≤ x) (hhi : (x : Int) ≤ hi f) :
    Calls Tryz.prog 43 #[.int .i64 f, .pointer (some ⟨g, 0, none⟩), .int .i64 m] w fun e w' => e = .returned (.bool true) ∧ w = w' := by
  have e : L.getD f 0 = x := by rw [List.getD_eq_getElem?_getD, hx]; rfl
  exact enc_may hb hL f hf he h9 h12 (by rw [e]; exact hlo) (by rw [e]; exact hhi)

set_option maxRecDepth 100000 in
set_option maxHeartbeats 2000000 in
theorem pick_calls {B : Nat} {w : World} {A Q : Option Addr} {n c N d : Nat} {V S : List Nat} {own : Bool} (h : Laid B w) (hx : Reads w 1 A N (bv (laidB V S))) (hr : Reads w 1 Q n (iv S)) (hn : n ≤ 100) (hN : N ≤ 900) (hV : FitsV V S) (hT : Turns V S own) :
    Calls Tryz.prog 51 #[.slice A N c, .slice Q n d, .bool own] w fun e w' => e = .returned (.tuple #[.agg (iv (fill V S)).toArray, .nilIface]) ∧ Chg [] w w' := by
  have hl : S.length = n := by have := hr.1; rw [iv_length] at this; omega
  have hlN : (laidB V S).length = N := by have := hx.1; rw [bv_length] at this; omega
  have H := Lib.hid h
  have HX := Lib.hid hx
  have HR := Lib.hid hr
  have HV := Lib.hid hV
  have HTu := Lib.hid hT
  have HL := Lib.hid hl
  have HLN := Lib.hid hlN
  clear h hx hr hV hT hl hlN
  go_enter Tryz.func51, Tryz.ntmps51
  go_wp2_with fail
  have hb6 : Hid (Blk ((w.alloc (.cells #[.int .i64 0, .int .i64 0, .int .i64 0, .int .i64 0, .int .i64 0, .int .i64 0, .int .i64 0, .int .i64 0, .int .i64 0, .int .i64 0, .int .i64 0, .int .i64 0, .int .i64 0, .int .i64 0] 92)).alloc (.cells #[.int .i64 0, .int .i64 0, .int .i64 0, .int .i64 0, .int .i64 0, .int .i64 0, .int .i64 0, .int .i64 0, .int .i64 0, .int .i64 0, .int .i64 0, .int .i64 0, .int .i64 0, .int .i64 0] 92)) w.heap.size 92 #[.int .i64 0, .int .i64 0, .int .i64 0, .int .i64 0, .int .i64 0, .int .i64 0, .int .i64 0, .int .i64 0, .int .i64 0, .int .i64 0, .int .i64 0, .int .i64 0, .int .i64 0, .int .i64 0]) := (Blk.new w 92 #[.int .i64 0, .int .i64 0, .int .i64 0, .int .i64 0, .int .i64 0, .int .i64 0, .int .i64 0, .int .i64 0, .int .i64 0, .int .i64 0, .int .i64 0, .int .i64 0, .int .i64 0, .int .i64 0]).alloc _
  have hb8 : Hid (Blk ((w.alloc (.cells #[.int .i64 0, .int .i64 0, .int .i64 0, .int .i64 0, .int .i64 0, .int .i64 0, .int .i64 0, .int .i64 0, .int .i64 0, .int .i64 0, .int .i64 0, .int .i64 0, .int .i64 0, .int .i64 0] 92)).alloc (.cells #[.int .i64 0, .int .i64 0, .int .i64 0, .int .i64 0, .int .i64 0, .int .i64 0, .int .i64 0, .int .i64 0, .int .i64 0, .int .i64 0, .int .i64 0, .int .i64 0, .int .i64 0, .int .i64 0] 92)) (w.heap.size + 1) 92 #[.int .i64 0, .int .i64 0, .int .i64 0, .int .i64 0, .int .i64 0, .int .i64 0, .int .i64 0, .int .i64 0, .int .i64 0, .int .i64 0, .int .i64 0, .int .i64 0, .int .i64 0, .int .i64 0]) := by
    have := Blk.new (w.alloc (.cells #[.int .i64 0, .int .i64 0, .int .i64 0, .int .i64 0, .int .i64 0, .int .i64 0, .int .i64 0, .int .i64 0, .int .i64 0, .int .i64 0, .int .i64 0, .int .i64 0, .int .i64 0, .int .i64 0] 92)) 92 #[.int .i64 0, .int .i64 0, .int .i64 0, .int .i64 0, .int .i64 0, .int .i64 0, .int .i64 0, .int .i64 0, .int .i64 0, .int .i64 0, .int .i64 0, .int .i64 0, .int .i64 0, .int .i64 0]
    unfold Hid
    simpa using this
  have hc2 : Hid (Chg [] w ((w.alloc (.cells #[.int .i64 0, .int .i64 0, .int .i64 0, .int .i64 0, .int .i64 0, .int .i64 0, .int .i64 0, .int .i64 0, .int .i64 0, .int .i64 0, .int .i64 0, .int .i64 0, .int .i64 0, .int .i64 0] 92)).alloc (.cells #[.int .i64 0, .int .i64 0, .int .i64 0, .int .i64 0, .int .i64 0, .int .i64 0, .int .i64 0, .int .i64 0, .int .i64 0, .int .i64 0, .int .i64 0, .int .i64 0, .int .i64 0, .int .i64 0] 92))) := ((Chg.refl [] w).alloc _).alloc _
  have hz2 : Hid (((w.alloc (.cells #[.int .i64 0, .int .i64 0, .int .i64 0, .int .i64 0, .int .i64 0, .int .i64 0, .int .i64 0, .int .i64 0, .int .i64 0, .int .i64 0, .int .i64 0, .int .i64 0, .int .i64 0, .int .i64 0] 92)).alloc (.cells #[.int .i64 0, .int .i64 0, .int .i64 0, .int .i64 0, .int .i64 0, .int .i64 0, .int .i64 0, .int .i64 0, .int .i64 0, .int .i64 0, .int .i64 0, .int .i64 0, .int .i64 0, .int .i64 0] 92)).heap.size = w.heap.size + 1 + 1) := by simp [Hid]
  generalize ((w.alloc (.cells #[.int .i64 0, .int .i64 0, .int .i64 0, .int .i64 0, .int .i64 0, .int .i64 0, .int .i64 0, .int .i64 0, .int .i64 0, .int .i64 0, .int .i64 0, .int .i64 0, .int .i64 0, .int .i64 0] 92)).alloc (.cells #[.int .i64 0, .int .i64 0, .int .i64 0, .int .i64 0, .int .i64 0, .int .i64 0, .int .i64 0, .int .i64 0, .int .i64 0, .int .i64 0, .int .i64 0, .int .i64 0, .int .i64 0, .int .i64 0] 92)) = w2 at *
  obtain ⟨g6, hg6⟩ : ∃ g, g = w.heap.size := ⟨_, rfl⟩
  obtain ⟨g8, hg8⟩ : ∃ g, g = w.heap.size + 1 := ⟨_, rfl⟩
  rw [← hg8] at hb8 ⊢
  rw [← hg6] at hb6 ⊢
  have G : Hid (g6 ≠ g8 ∧ w.heap.size ≤ g6 ∧ w.heap.size ≤ g8 ∧ g6 < w2.heap.size ∧ g8 < w2.heap.size) := ⟨by omega, by omega, by omega, by have := hz2.out; omega, by have := hz2.out; omega⟩
  clear hg6 hg8 hz2
  refine (rdr_new (hc2.out.reads' HX.out (by simp)) hN).mono ?_
  rintro e w3 ⟨p, rfl, hrd, hc3, hp⟩
  have hb63 := hc3.blk' hb6.out (by simp)
  have hb83 := hc3.blk' hb8.out (by simp)
  have hpx : Hid (p ≠ g6 ∧ p ≠ g8 ∧ w.heap.size ≤ p) := ⟨by have := G.out; omega, by have := G.out; omega, by have := G.out; omega⟩
  have hcw3 : Hid (Chg [] w w3) := hc2.out.next hc3
  clear hb6 hb8 hc2 hc3 hp HX
  go_wp2_with fail
  have hgp := Blk.new w3 133 #[.nilFunc, .func (.func 75) #[.pointer (some ⟨p, 0, none⟩)] #[], .func (.func 76) #[.pointer (some ⟨p, 0, none⟩)] #[]]
  have hc4 := (Chg.refl [] w3).alloc (.cells #[.nilFunc, .func (.func 75) #[.pointer (some ⟨p, 0, none⟩)] #[], .func (.func 76) #[.pointer (some ⟨p, 0, none⟩)] #[]] 133)
  have hrd4 := hrd.keep hc4 (by simp) (by simp)
  have hb64 := hc4.blk' hb63 (by simp)
  have hb84 := hc4.blk' hb83 (by simp)
  have hcw4 : Hid (Chg [] w (w3.alloc (.cells #[.nilFunc, .func (.func 75) #[.pointer (some ⟨p, 0, none⟩)] #[], .func (.func 76) #[.pointer (some ⟨p, 0, none⟩)] #[]] 133))) := hcw3.out.next hc4
  have hgpx : Hid (w3.heap.size ≠ p ∧ w3.heap.size ≠ g8) := ⟨by
      obtain ⟨g, _, hb, _⟩ := hrd
      have := hb.lt
      omega, by have := hb83.lt; omega⟩
  generalize w3.alloc (.cells #[.nilFunc, .func (.func 75) #[.pointer (some ⟨p, 0, none⟩)] #[], .func (.func 76) #[.pointer (some ⟨p, 0, none⟩)] #[]] 133) = w4 at *
  generalize w3.heap.size = gp at *
  have hV0 : (laidB V S)[0]? = some (V.getD 0 0) := by simp [laidB]
  have hRU := Lib.hid (rdr_u8 hrd4 hN (by rw [← HLN.out]; simp [laidB]) hV0 HV.out.2.1)
  have HB64 := Lib.hid hb64
  have HB84 := Lib.hid hb84
  have HGP := Lib.hid hgp
  clear hrd hb63 hb83 hcw3 hc4 hrd4 hb64 hb84 hgp hV0
  have hF0 : Hid ((#[.int .i64 0, .int .i64 0, .int .i64 0, .int .i64 0, .int .i64 0, .int .i64 0, .int .i64 0, .int .i64 0, .int .i64 0, .int .i64 0, .int .i64 0, .int .i64 0, .int .i64 0, .int .i64 0] : Array Value).setIfInBounds 0 (.int .i64 (V.getD 0 0 : Nat)) = (iv (fill V [])).toArray) := by
    unfold Hid fill
    rw [List.foldl_nil, ← iv_set]
    rfl
  generalize V.getD 0 0 = v0 at *
  refine hRU.out.mono ?_
  rintro e w5 ⟨rfl, hrd5, hc5⟩
  have hb65 := hc5.blk' HB64.out (by have := hpx.out; simp; omega)
  have hb85 := hc5.blk' HB84.out (by have := hpx.out; simp; omega)
  have hgp5 := hc5.blk' HGP.out (by have := hgpx.out; simp; omega)
  have k80 := hb85.cell 0
  have k8f := hb85.frozen 0
  have hst : Hid (Blk (w5.setCell ⟨g8, 0, none⟩ (.int .i64 v0)) g8 92 (iv (fill V [])).toArray) := by
    unfold Hid
    rw [← hF0.out]
    exact hb85.set_ 0 _
  have hcs : Chg [g8] w5 (w5.setCell ⟨g8, 0, none⟩ (.int .i64 v0)) := (Chg.refl _ _).setCell (.inl (by simp)) _
  have hst6 := Lib.hid (hcs.blk' hb65 (by have := G.out; simp; omega))
  have hstp := Lib.hid (hcs.blk' hgp5 (by have := hgpx.out; simp; omega))
  have hstr := Lib.hid (hrd5.keep hcs (by have := hpx.out; simp; omega) (by have := G.out; simp; omega))
  have hstc : Hid (Chg [] w (w5.setCell ⟨g8, 0, none⟩ (.int .i64 v0))) := by
    have h1 : Chg [] w w5 := hcw4.out.trans hc5 (fun i hi => .inr (by have := hpx.out; simp at hi; omega))
    exact h1.trans hcs (fun i hi => .inr (by have := G.out; simp at hi; omega))
  clear hrd5 hc5 hb65 hb85 hgp5 hcs hRU HB64 HB84 HGP hcw4
  go_wp2_with fail
  generalize w5.setCell ⟨g8, 0, none⟩ (.int .i64 v0) = w6 at *
  have hst0 : Hid (1 = (laidB V (S.take 0)).length) := by simp [Hid, laidB]
  go_loopw [7, 27] (fun r i wr => ∃ k o, k ≤ n ∧ i = .int .i64 k ∧ r = .nilIface ∧ Hid (o = (laidB V (S.take k)).length) ∧ Hid (Rdr w2.heap.size wr p N o (laidB V S)) ∧ Hid (Blk wr g8 92 (iv (fill V (S.take k))).toArray) ∧
    Hid (Blk wr g6 92 #[.int .i64 0, .int .i64 0, .int .i64 0, .int .i64 0, .int .i64 0, .int .i64 0, .int .i64 0, .int .i64 0, .int .i64 0, .int .i64 0, .int .i64 0, .int .i64 0, .int .i64 0, .int .i64 0]) ∧ Hid (Blk wr gp 133 #[.nilFunc, .func (.func 75) #[.pointer (some ⟨p, 0, none⟩)] #[], .func (.func 76) #[.pointer (some ⟨p, 0, none⟩)] #[]]) ∧ Hid (Chg [] w wr)) (fun _ i _ => n - (intOf i).toNat)
  case atStart => exact ⟨0, 1, Nat.zero_le _, rfl, rfl, hst0, hstr, hst, hst6, hstp, hstc⟩
  case round =>
    obtain ⟨k, o, hk, rfl, rfl, ho, hrd, hv, h6, hgr, hch⟩ := hrel
    clear hst0 hstr hst hst6 hstp hstc
    by_cases hlt : k < n
    · obtain ⟨ad, u, rfl, hu, hc⟩ := (hch.out.reads' HR.out (by simp)).at_ hlt
      have hkS : k < S.length := by have := HL.out; omega
      rw [iv_get hkS] at hu
      obtain rfl : Value.int .i64 S[k] = u := by injection hu
      obtain ⟨_, hs1, hfit1, hfit2⟩ := HV.out.2.2 S[k] (List.getElem_mem _)
      obtain ⟨hed, hf14, hlo, hhi, h9, h12⟩ := HTu.out k hkS
      have hat := Lib.hid (laidB_at HV.out hkS)
      have hsz := (H.out.keep hch.out (by simp)).size S[k] hf14
      have hgpr := hgr.out
      have hRA := Lib.hid (rdr_at hrd.out)
      have hfill : Hid (fill V (S.take (k + 1)) = (fill V (S.take k)).set S[k] (V.getD S[k] 0)) := by
        unfold Hid
        rw [List.take_succ_eq_append_getElem hkS, fill_snoc]
      have hlen : Hid ((laidB V (S.take (k + 1))).length = (laidB V (S.take k)).length + sizeN S[k]) := by
        unfold Hid
        rw [List.take_succ_eq_append_getElem hkS, laidB_snoc, List.length_append, putB_length hs1]
      have hed := Lib.hid hed
      have h9 := Lib.hid h9
      have h12 := Lib.hid h12
      generalize S[k] = f at *
      generalize V.getD f 0 = x at *
      have hs2 := sizeN_le f
      rcases (show sizeN f = 1 ∨ sizeN f = 2 by omega) with hz | hz
      · have s1 : wr.cell? ⟨1, f, none⟩ = some (.int .i64 1) := by rw [hsz, hz]; rfl
        have q1 := hgpr.cell 1
        have hoN : o + 1 ≤ N := by rw [ho.out, ← HLN.out]; have := hat.out.1; rw [hz] at this; exact this
        have hb0 : (laidB V S)[o]? = some x := by
          rw [ho.out]
          have := hat.out.2 0 (by rw [hz]; omega)
          simpa [putB, hz] using this
        have hRU := Lib.hid (rdr_u8 hrd.out hN hoN hb0 (hfit1 hz))
        have HZ := Lib.hid hz
        clear hsz hz hgpr hb0 hfit1 hfit2 hat
        go_wp2_with fail
        refine hRA.out.mono ?_
        rintro e w7 ⟨rfl, rfl⟩
        go_wp2_with fail
        refine hRU.out.mono ?_
        rintro e w8 ⟨rfl, hrd8, hc8⟩
        have hv8 := hc8.blk' hv.out (by have := hpx.out; simp; omega)
        have h68 := hc8.blk' h6.out (by have := hpx.out; simp; omega)
        have hp8 := hc8.blk' hgr.out (by have := hgpx.out; simp; omega)
        have k8f := hv8.frozen f
        have k8c : w8.cell? ⟨g8, f, none⟩ = some (.int .i64 ((fill V (S.take k)).getD f 0 : Nat)) := vget hv8 (fill_length _ _) f hf14
        have hcs : Chg [g8] w8 (w8.setCell ⟨g8, f, none⟩ (.int .i64 x)) := (Chg.refl _ _).setCell (.inl (by simp)) _
        have HV9 : Hid (Blk (w8.setCell ⟨g8, f, none⟩ (.int .i64 x)) g8 92 (iv (fill V (S.take (k + 1)))).toArray) := by
          have := hv8.set_ f (.int .i64 x)
          rw [iv_set] at this
          unfold Hid
          rw [hfill.out]
          exact this
        have H69 := Lib.hid (hcs.blk' h68 (by have := G.out; simp; omega))
        have HP9 := Lib.hid (hcs.blk' hp8 (by have := hgpx.out; simp; omega))
        have HR9 := Lib.hid (hrd8.keep hcs (by have := hpx.out; simp; omega) (by have := G.out; simp; omega))
        have HC9 : Hid (Chg [] w (w8.setCell ⟨g8, f, none⟩ (.int .i64 x))) := by
          have h1 : Chg [] w w8 := hch.out.trans hc8 (fun i hi => .inr (by have := hpx.out; simp at hi; omega))
          exact h1.trans hcs (fun i hi => .inr (by have := G.out; simp at hi; omega))
        clear hrd8 hc8 hv8 h68 hp8 hcs hRU hRA
        have f0 : (0 : Int) ≤ (f : Int) := by omega
        have f1 : (f : Int) < 14 := by omega
        have hm2 := Lib.hid (vget HV9.out (fill_length _ _) 2 (by omega))
        cases own
        · have hM := Lib.hid (pick_may HV9.out (fill_length _ _) 0 f x hf14 hed.out (by rw [hfill.out]; exact List.getElem_set_self' hf14 (fill_length _ _)) h9.out (fun e => by have := (h12.out e).1; cases this) hlo hhi)
          go_wp2_with fail
          generalize w8.setCell ⟨g8, f, none⟩ (.int .i64 x) = w9 at *
          refine hM.out.mono ?_
          rintro e w10 ⟨rfl, rfl⟩
          go_wp2_with fail
          go_roundw
          case rel => exact ⟨k + 1, o + 1, by omega, by go_num, rfl, by unfold Hid; rw [hlen.out, ← ho.out, HZ.out], HR9, HV9, H69, HP9, HC9⟩
          case measure => simp [intOf]; omega
        · have hM := Lib.hid (pick_may HV9.out (fill_length _ _) ((fill V (S.take (k + 1))).getD 2 0) f x hf14 hed.out (by rw [hfill.out]; exact List.getElem_set_self' hf14 (fill_length _ _)) h9.out (fun e => by have := (h12.out e).2; omega) hlo hhi)
          have hmc := hm2.out
          generalize (fill V (S.take (k + 1))).getD 2 0 = mk at *
          generalize hww : w8.setCell ⟨g8, f, none⟩ (.int .i64 x) = w9 at *
          have hmc9 : w9.cell? ⟨g8, 2, none⟩ = some (.int .i64 mk) := hmc
          go_wp2_with fail
          refine hM.out.mono ?_
          rintro e w10 ⟨rfl, rfl⟩
          clear hmc9 hww
          go_wp2_with fail
          go_roundw
          case rel => exact ⟨k + 1, o + 1, by omega, by go_num, rfl, by unfold Hid; rw [hlen.out, ← ho.out, HZ.out], HR9, HV9, H69, HP9, HC9⟩
          case measure => simp [intOf]; omega
      · have s1 : wr.cell? ⟨1, f, none⟩ = some (.int .i64 2) := by rw [hsz, hz]; rfl
        have q2 := hgpr.cell 2
        have hoN : o + 2 ≤ N := by rw [ho.out, ← HLN.out]; have := hat.out.1; rw [hz] at this; exact this
        have hb0 : (laidB V S)[o]? = some (x / 256) := by
          rw [ho.out]
          have := hat.out.2 0 (by rw [hz]; omega)
          simpa [putB, hz] using this
        have hb1 : (laidB V S)[o + 1]? = some (x % 256) := by
          rw [ho.out]
          have := hat.out.2 1 (by rw [hz]; omega)
          simpa [putB, hz] using this
        have hRU := Lib.hid (rdr_u16 hrd.out hN hoN hb0 hb1 (by have := hfit2 hz; omega) (by omega) (x := x) (by omega))
        clear hb1
        have HZ := Lib.hid hz
        clear hsz hz hgpr hb0 hfit1 hfit2 hat
        go_wp2_with fail
        refine hRA.out.mono ?_
        rintro e w7 ⟨rfl, rfl⟩
        go_wp2_with fail
        refine hRU.out.mono ?_
        rintro e w8 ⟨rfl, hrd8, hc8⟩
        have hv8 := hc8.blk' hv.out (by have := hpx.out; simp; omega)
        have h68 := hc8.blk' h6.out (by have := hpx.out; simp; omega)
        have hp8 := hc8.blk' hgr.out (by have := hgpx.out; simp; omega)
        have k8f := hv8.frozen f
        have k8c : w8.cell? ⟨g8, f, none⟩ = some (.int .i64 ((fill V (S.take k)).getD f 0 : Nat)) := vget hv8 (fill_length _ _) f hf14
        have hcs : Chg [g8] w8 (w8.setCell ⟨g8, f, none⟩ (.int .i64 x)) := (Chg.refl _ _).setCell (.inl (by simp)) _
        have HV9 : Hid (Blk (w8.setCell ⟨g8, f, none⟩ (.int .i64 x)) g8 92 (iv (fill V (S.take (k + 1)))).toArray) := by
          have := hv8.set_ f (.int .i64 x)
          rw [iv_set] at this
          unfold Hid
          rw [hfill.out]
          exact this
        have H69 := Lib.hid (hcs.blk' h68 (by have := G.out; simp; omega))
        have HP9 := Lib.hid (hcs.blk' hp8 (by have := hgpx.out; simp; omega))
        have HR9 := Lib.hid (hrd8.keep hcs (by have := hpx.out; simp; omega) (by have := G.out; simp; omega))
        have HC9 : Hid (Chg [] w (w8.setCell ⟨g8, f, none⟩ (.int .i64 x))) := by
          have h1 : Chg [] w w8 := hch.out.trans hc8 (fun i hi => .inr (by have := hpx.out; simp at hi; omega))
          exact h1.trans hcs (fun i hi => .inr (by have := G.out; simp at hi; omega))
        clear hrd8 hc8 hv8 h68 hp8 hcs hRU hRA
        have f0 : (0 : Int) ≤ (f : Int) := by omega
        have f1 : (f : Int) < 14 := by omega
        have hm2 := Lib.hid (vget HV9.out (fill_length _ _) 2 (by omega))
        cases own
        · have hM := Lib.hid (pick_may HV9.out (fill_length _ _) 0 f x hf14 hed.out (by rw [hfill.out]; exact List.getElem_set_self' hf14 (fill_length _ _)) h9.out (fun e => by have := (h12.out e).1; cases this) hlo hhi)
          go_wp2_with fail
          generalize w8.setCell ⟨g8, f, none⟩ (.int .i64 x) = w9 at *
          refine hM.out.mono ?_
          rintro e w10 ⟨rfl, rfl⟩
          go_wp2_with fail
          go_roundw
          case rel => exact ⟨k + 1, o + 2, by omega, by go_num, rfl, by unfold Hid; rw [hlen.out, ← ho.out, HZ.out], HR9, HV9, H69, HP9, HC9⟩
          case measure => simp [intOf]; omega
        · have hM := Lib.hid (pick_may HV9.out (fill_length _ _) ((fill V (S.take (k + 1))).getD 2 0) f x hf14 hed.out (by rw [hfill.out]; exact List.getElem_set_self' hf14 (fill_length _ _)) h9.out (fun e => by have := (h12.out e).2; omega) hlo hhi)
          have hmc := hm2.out
          generalize (fill V (S.take (k + 1))).getD 2 0 = mk at *
          generalize hww : w8.setCell ⟨g8, f, none⟩ (.int .i64 x) = w9 at *
          have hmc9 : w9.cell? ⟨g8, 2, none⟩ = some (.int .i64 mk) := hmc
          go_wp2_with fail
          refine hM.out.mono ?_
          rintro e w10 ⟨rfl, rfl⟩
          clear hmc9 hww
          go_wp2_with fail
          go_roundw
          case rel => exact ⟨k + 1, o + 2, by omega, by go_num, rfl, by unfold Hid; rw [hlen.out, ← ho.out, HZ.out], HR9, HV9, H69, HP9, HC9⟩
          case measure => simp [intOf]; omega
    · have hkS : S.take k = S := List.take_of_length_le (by have := HL.out; omega)
      rw [hkS] at hv
      have hLl := fill_length V S
      obtain ⟨L, hL⟩ : ∃ L, L = fill V S := ⟨_, rfl⟩
      rw [← hL] at hv hLl
      have HLL := Lib.hid hL
      clear hL
      have hcells : ∀ j v, (iv L)[j]? = some v → wr.cell? ((⟨g8, 0, none⟩ : Addr).add j) = some v := by
        intro j v hj
        rw [add_head, hv.out.cell, List.getElem?_toArray]
        exact hj
      have hsz : (Tryz.prog.info? 92).map (·.size) = some (iv L).length := by rw [iv_length, hLl]; kernel_rfl
      have hsz2 : (Tryz.prog.info? 92).map (·.size) = some (iv L).toArray.size := by rw [List.size_toArray, iv_length, hLl]; kernel_rfl
      have hold : (#[.int .i64 0, .int .i64 0, .int .i64 0, .int .i64 0, .int .i64 0, .int .i64 0, .int .i64 0, .int .i64 0, .int .i64 0, .int .i64 0, .int .i64 0, .int .i64 0, .int .i64 0, .int .i64 0] : Array Value).size = (iv L).toArray.size := by
        have e : (iv L).toArray.size = 14 := by rw [List.size_toArray, iv_length, hLl]
        rw [e]
        rfl
      have hone : ((iv L).toArray.all fun x => x.oneCell') = true := by
        simp only [List.all_toArray, List.all_eq_true, iv, List.mem_map]
        rintro v ⟨a, _, rfl⟩
        rfl
      have HCC := Lib.hid hcells
      have HS1 := Lib.hid hsz
      have HS2 := Lib.hid hsz2
      have HO := Lib.hid hold
      have HN := Lib.hid hone
      clear hcells hsz hsz2 hold hone hLl ho hrd hgr
      go_wp2_with (first
        | (with_reducible refine wpList_load_cells _ rfl 92 (.tmp 8) rfl ⟨g8, 0, none⟩ rfl (iv L) HCC.out _ Tryz.underlying92 rfl HS1.out ?_)
        | (with_reducible refine wpList_of _ rfl (wp_store_blk 92 (.tmp 6) (.tmp 52) rfl g6 92 _ (iv L).toArray rfl rfl h6.out HO.out HS2.out HN.out ?_)))
      intro w9 hb9 hc9
      have hld : (loadVar 92 ⟨g6, 0, none⟩).run Tryz.prog w9 = .ok (.agg (iv L).toArray) w9 := run_load_cells w9 92 ⟨g6, 0, none⟩ (iv L) (by
        intro j v hj
        rw [add_head, hb9.cell, List.getElem?_toArray]
        exact hj) _ Tryz.underlying92 rfl HS1.out
      have HB9 := Lib.hid hb9
      clear hb9
      go_wp2_with fail
      exact bodyPost_ret (v := .tuple #[.agg (iv L).toArray, .nilIface]) (results_cell2 (t := 6) (ty := 92) (u := 7) rfl _ _ _ rfl hld) rfl ⟨by rw [HLL.out], hch.out.trans hc9 (fun i hi => .inr (by have := G.out; simp at hi; omega))⟩
end Go.Proofs.YtgockfjhokocbaaGreatDoor
