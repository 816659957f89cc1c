/-
  PROVED: the walk of OutboxApart.
-/
import Derived.Test.YtphbhmppjafhkaaApartSt
namespace Go.Proofs.Ytphbhmppjafhkaa
open Go.RowKit

theorem add_zero_ (a : Addr) : a.add 0 = a := by unfold Addr.add; simp

/-- The steps of the first site, played. -/
def playA (win : Nat) (ops : List GOp) : St := ops.foldl (fun t o => if siteN o.site = 1 then t else (actF o win t).2) St.new
theorem playA_succ (win : Nat) {ops : List GOp} {k : Nat} {o : GOp} (h : ops[k]? = some o) : playA win (ops.take (k + 1)) = if siteN o.site = 1 then playA win (ops.take k) else (actF o win (playA win (ops.take k))).2 := by
  obtain ⟨hk, rfl⟩ := List.getElem?_eq_some_iff.1 h
  unfold playA
  rw [List.take_succ_eq_append_getElem hk, List.foldl_append]
  rfl

/-- The pushes of the first things. -/
def pushes (xs : List Int) (n1 : Nat) : List GOp := (xs.take n1).map fun x => ⟨1, 0, x⟩

theorem ASt.lay {w w4 w5 : World} {pa pb pc pd : Nat} {ta tb td : St} {LA : Option Addr} {L : List GOp} (h : ASt w w4 pa pb pc pd ta tb td none []) (c : Chg [] w4 w5) (hL : OpsAt w5 LA L) (hLA : ∀ k ∈ ob LA, w4.heap.size ≤ k ∧ k < w5.heap.size) : ASt w w5 pa pb pc pd ta tb td LA L := by
  obtain ⟨S0, S1, S2, S3, h0, h1, h2, h3, _, ⟨a01, a02, a03, a12, a13, a23, _⟩, hw, hO, hc⟩ := h
  refine ⟨S0, S1, S2, S3, h0.keep c (by simp), h1.keep c (by simp), h2.keep c (by simp), h3.keep c (by simp), hL, ⟨a01, a02, a03, a12, a13, a23, fun k hk hm => ?_, fun k hk hm => ?_, fun k hk hm => ?_, fun k hk hm => ?_⟩, hw, fun k hk => (hLA k hk).2, hc.next c⟩
  · have := h0.lt k hk; have := (hLA k hm).1; omega
  · have := h1.lt k hk; have := (hLA k hm).1; omega
  · have := h2.lt k hk; have := (hLA k hm).1; omega
  · have := h3.lt k hk; have := (hLA k hm).1; omega

theorem Try.info32 : (Try.prog.info? 32).map (fun i => (i.zero, i.size, i.bytes)) = some (some (.agg #[.int .i64 0, .int .i64 0, .int .i64 0]), 3, 24) := by kernel_rfl

set_option maxHeartbeats 4000000 in
set_option maxRecDepth 100000 in
theorem apart_walk (A B : Option Addr) (c d : Nat) (w : World) (xs : List Int) (ops : List GOp) (hx : Reads w 1 A xs.length (ev cI xs)) (hy : OpsAt w B ops) (hr : xs.length * 8 ≤ 140737488351232) (hm : ops.length * 24 ≤ 140737488351232) :
    Calls Try.prog 9 #[.slice A xs.length c, .slice B ops.length d] w fun e w' => e = .returned (.bool true) ∧ Chg [] w w' := by
  obtain ⟨i0, hi, hz0, hz1, hz2⟩ := info_parts Try.info32
  go_enter Try.func9, Try.ntmps9
  go_wp2_with fail
  refine (new_ok w 3 (by omega) (by omega)).mono ?_
  rintro e w1 ⟨pa, S0, rfl, h0, hc1, hS0⟩
  go_wp2_with fail
  refine (new_ok w1 7 (by omega) (by omega)).mono ?_
  rintro e w2 ⟨pb, S1, rfl, h1, hc2, hS1⟩
  go_wp2_with fail
  refine (newS_ok w2 3 (by omega) (by omega)).mono ?_
  rintro e w3 ⟨pc, S2, rfl, h2, hc3, hS2⟩
  go_wp2_with fail
  refine (new_ok w3 3 (by omega) (by omega)).mono ?_
  rintro e w4 ⟨pd, S3, rfl, h3, hc4, hS3⟩
  have hA4 : ASt w w4 pa pb pc pd St.new St.new St.new none [] := by
    have l0 := h0.lt
    have l1 := h1.lt
    have l2 := h2.lt
    have s1 := hc1.size
    have s2 := hc2.size
    have s3 := hc3.size
    refine ⟨S0, S1, S2, S3, ((h0.keep hc2 (by simp)).keep hc3 (by simp)).keep hc4 (by simp), (h1.keep hc3 (by simp)).keep hc4 (by simp), h2.keep hc4 (by simp), h3, fun h => absurd h (by simp), ⟨fun k hk hm => ?_, fun k hk hm => ?_, fun k hk hm => ?_, fun k hk hm => ?_, fun k hk hm => ?_, fun k hk hm => ?_, by simp [Apart, ob], by simp [Apart, ob], by simp [Apart, ob], by simp [Apart, ob]⟩, ?_, by simp [ob], ((hc1.next hc2).next hc3).next hc4⟩
    · have := l0 k hk; have := hS1 k hm; omega
    · have := l0 k hk; have := hS2 k hm; omega
    · have := l0 k hk; have := hS3 k hm; omega
    · have := l1 k hk; have := hS2 k hm; omega
    · have := l1 k hk; have := hS3 k hm; omega
    · have := l2 k hk; have := hS3 k hm; omega
    · intro k hk
      simp only [List.mem_append] at hk
      rcases hk with hk | hk | hk | hk
      · exact hS0 k hk
      · have := hS1 k hk; omega
      · have := hS2 k hk; omega
      · have := hS3 k hk; omega
  clear h0 h1 h2 h3 hc1 hc2 hc3 hc4 hS0 hS1 hS2 hS3
  go_wp2_with (go_at_call 11; refine (num_calls _ _).mono ?_; rintro e w' ⟨rfl, rfl⟩)
  go_loopw [13, 14] (fun l i wr => ∃ (k : Nat) (Z : Option Addr) (cz : Nat), k ≤ xs.length ∧ k ≤ 4096 ∧ i = .int .i64 k ∧ l = .slice Z k cz ∧ Row wr 32 3 Z k cz (opv (pushes xs k)) ∧ (∀ i ∈ ob Z, w4.heap.size ≤ i) ∧ Chg [] w4 wr) (fun _ i _ => 4096 - (intOf i).toNat)
  case atStart => exact ⟨0, none, 0, Nat.zero_le _, Nat.zero_le _, rfl, rfl, Row.nil _ _ _, by simp [ob], Chg.refl _ _⟩
  case round =>
    obtain ⟨k, Z, cz, hk, hk4, rfl, rfl, hrow, hZ, hc⟩ := hrel
    by_cases hlt : k < xs.length ∧ k < 4096
    · obtain ⟨h1, h2⟩ := hlt
      have h1' : (k : Int) < xs.length := by omega
      have h2' : (k : Int) < 4096 := by omega
      obtain ⟨ad, u, rfl, hu, hcell⟩ := ((hx.keep hA4.chg (by simp)).keep hc (by simp)).at_ h1
      rw [ev_cI_get h1] at hu
      obtain rfl : Value.int .i64 xs[k] = u := by injection hu
      have hrX := hrow.alloc (.cells #[.int .i64 1, .int .i64 0, .int .i64 xs[k]] 32)
      have hone := built_reads' wr 32 [.int .i64 1, .int .i64 0, .int .i64 xs[k]] 1 3 rfl
      have eP : Hid (opv (pushes xs k) ++ [.int .i64 1, .int .i64 0, .int .i64 xs[k]] = opv (pushes xs (k + 1))) := by
        unfold Hid pushes
        rw [List.take_succ_eq_append_getElem h1, List.map_append, opv_append]
        rfl
      clear hu
      go_wp2_with (at_builtin; refine wpList_append_row _ rfl (.tmp 77) (.tmp 83) 23 rfl 32 i0 (.agg #[.int .i64 0, .int .i64 0, .int .i64 0]) 3 24 Try.underlying23 hi hz0 hz1 hz2 rfl Z k cz _ rfl hrX _ 1 1 [.int .i64 1, .int .i64 0, .int .i64 xs[k]] rfl hone (by simp [Value.oneCell']) (by unfold maxLen; omega) (grow_ok (by omega)) ?_)
      intro Z' cz' w5 hr5 hc5 hcase
      rw [eP.out] at hr5
      have HCA := Lib.hid hcase
      clear hcase hrX hone
      go_wp2_with fail
      go_roundw
      case rel =>
        refine ⟨k + 1, Z', cz', by omega, by omega, by go_num, rfl, hr5, ?_, (hc.alloc _).trans hc5 (fun i hi => .inr (hZ i hi))⟩
        intro i hi
        rcases HCA.out.ob_ i hi with h | h
        · exact hZ i h
        · have h1 := (hc.alloc (.cells #[.int .i64 1, .int .i64 0, .int .i64 xs[k]] 32)).size
          omega
      case measure => simp [intOf]; omega
    · have hn1 : Hid (k ≤ xs.length ∧ k ≤ 4096 ∧ (k = xs.length ∨ k = 4096)) := by unfold Hid; omega
      have hend : ¬ (k : Int) < xs.length ∨ (k : Int) < xs.length ∧ ¬ (k : Int) < 4096 := by omega
      clear hlt
      generalize k = n1 at *
      have hopr := ops_reads (hy.keep (hA4.chg.next hc))
      rcases hend with h1 | ⟨h1, h2⟩
      all_goals
        go_wp2_with (at_builtin; refine wpList_append_row _ rfl (.tmp 85) (.tmp 86) 23 rfl 32 i0 (.agg #[.int .i64 0, .int .i64 0, .int .i64 0]) 3 24 Try.underlying23 hi hz0 hz1 hz2 rfl Z n1 cz _ rfl hrow B ops.length d (opv ops) rfl hopr (opv_one ops) (by unfold maxLen; omega) (grow_quarter (by omega)) ?_)
        intro LA cl w5 hr5 hc5 hcase
        obtain ⟨L, hLe⟩ : ∃ L, L = pushes xs n1 ++ ops := ⟨_, rfl⟩
        have hLl : Hid (L.length = n1 + ops.length) := by subst hLe; simp [Hid, pushes]; have := hn1.out; omega
        have hpre : Hid (∀ j, j < n1 → L[j]? = some ⟨1, 0, xs.getD j 0⟩) := by
          intro j hj
          have := hn1.out
          have hj2 : j < (pushes xs n1).length := by simp [pushes]; omega
          rw [hLe, List.getElem?_append_left hj2, List.getElem?_eq_getElem hj2]
          simp [pushes, List.getD_eq_getElem?_getD, List.getElem?_eq_getElem (show j < xs.length by omega)]
        rw [← opv_append, ← hLe] at hr5
        have hlL : n1 + ops.length = L.length := hLl.out.symm
        have hszc := hc.size
        have hA5 : ASt w w5 pa pb pc pd St.new St.new St.new LA L := hA4.lay (hc.trans hc5 (fun i hi => .inr (hZ i hi))) (reads_ops hr5.reads) (fun k hk => ⟨by
          rcases hcase.ob_ k hk with h | h
          · exact hZ k h
          · omega, hr5.lt k hk⟩)
        have HLL := Lib.hid hlL
        have hLb : L.length ≤ 140737488355328 := by have := hLl.out; have := hn1.out; omega
        clear hA4 hrow hZ hc hr5 hc5 hcase hopr hlL hLe hszc
        rw [HLL.out]
        go_wp2_with fail
        go_loopw [15] (fun i wr => ∃ (k : Nat) (ta tb : St), k ≤ L.length ∧ i = .int .i64 k ∧ playA 3 (L.take k) = ta ∧ ASt w wr pa pb pc pd ta tb St.new LA L ∧ (k ≤ n1 → ta = ⟨0, 0, xs.take k⟩ ∧ tb = St.new)) (fun i _ => L.length - (intOf i).toNat)
        case atStart => exact ⟨0, St.new, St.new, Nat.zero_le _, rfl, rfl, hA5, fun _ => ⟨by simp [St.new], rfl⟩⟩
        case round =>
          clear hA5
          obtain ⟨k, ta, tb, hk, rfl, hta, hA, hn⟩ := hrel
          have hTA := Lib.hid hta
          have htA := hTA
          have hn' := Lib.hid hn
          clear hta hn
          have hn := hn'
          clear hn'
          by_cases hlt : k < L.length
          · obtain ⟨ad, o, rfl, ho, hcells⟩ := hA.opsAt.at_ hlt
            obtain ⟨kd, st, n⟩ := o
            have hcells' : ∀ j u, ([.int .i64 kd, .int .i64 st, .int .i64 n] : List Value)[j]? = some u → wr.cell? ((ad.add (k * 3)).add j) = some u := hcells
            have c1 : wr.cell? ⟨(ad.add (k * 3)).block, (ad.add (k * 3)).off + 1, none⟩ = some (.int .i64 st) := hcells' 1 _ rfl
            have HC := Lib.hid hcells'
            have H := Lib.hid hA
            clear hcells hcells' hA
            by_cases hs : siteN st = 1
            · have hsite : ∀ W, Calls Try.prog 49 #[.int .i64 st] W fun e w' => e = .returned (.int .i64 1) ∧ W = w' := fun W => by have := siteN_calls st W; rw [hs] at this; exact this
              have hpl : Hid (playA 3 (L.take (k + 1)) = ta) := by rw [Hid, playA_succ 3 ho, if_pos hs]; exact hTA.out
              have hk1 : Hid (¬ k + 1 ≤ n1) := fun h => by
                have h3 := hpre.out k (by omega)
                rw [ho] at h3
                injection h3 with h3
                injection h3 with h3 h4 h5
                rw [h4] at hs
                exact absurd hs (by decide)
              clear hs ho
              go_wp2_with (first
                | (go_at_call 49; refine (hsite _).mono ?_; rintro e w' ⟨rfl, rfl⟩)
                | (with_reducible refine wpList_load_cells _ rfl 32 (.tmp 104) rfl (ad.add (k * 3)) rfl _ HC.out (.struct _) Try.underlying32 rfl (by kernel_rfl) ?_)
                | (go_at_call 19; refine Calls.mono (H.out.actB ⟨kd, st, n⟩) ?_; rintro e w5 ⟨rfl, h5⟩))
              go_roundw
              case rel => exact ⟨k + 1, ta, _, by omega, by go_num, hpl.out, h5, fun h => absurd h hk1.out⟩
              case measure => simp [intOf]; omega
            · have hs0 : siteN st = 0 := by have := siteN_lt st; omega
              have hsite : ∀ W, Calls Try.prog 49 #[.int .i64 st] W fun e w' => e = .returned (.int .i64 0) ∧ W = w' := fun W => by have := siteN_calls st W; rw [hs0] at this; exact this
              have hact := H.out.actA ⟨kd, st, n⟩
              obtain ⟨t5, ht5⟩ : ∃ t5, t5 = (actF ⟨kd, st, n⟩ 3 ta).2 := ⟨_, rfl⟩
              rw [← ht5] at hact
              have hpl : Hid (playA 3 (L.take (k + 1)) = t5) := by rw [Hid, playA_succ 3 ho, if_neg hs, htA.out, ht5]
              have hn5 : Hid (k + 1 ≤ n1 → t5 = ⟨0, 0, xs.take (k + 1)⟩ ∧ tb = St.new) := fun hk1 => by
                obtain ⟨h1, h2⟩ := hn.out (by omega)
                have h3 := hpre.out k (by omega)
                rw [ho] at h3
                injection h3 with h3
                injection h3 with h3 h4 h5
                refine ⟨?_, h2⟩
                rw [ht5, h1, h3, h4, h5]
                have h6 : k < 4096 := by have := hn1.out; omega
                have h7 : k < xs.length := by have := hn1.out; omega
                have hlt : (St.mk 0 0 (xs.take k)).last = k := by simp [St.last]; omega
                have e : (actF ⟨1, 0, xs.getD k 0⟩ 3 ⟨0, 0, xs.take k⟩).2 = (St.push ⟨0, 0, xs.take k⟩ (xs.getD k 0)).2.2 := rfl
                rw [e, St.push, hlt, if_neg (by omega)]
                show (⟨0, 0, xs.take k ++ [xs.getD k 0]⟩ : St) = _
                rw [List.getD_eq_getElem?_getD, List.getElem?_eq_getElem h7, Option.getD_some, List.take_succ_eq_append_getElem h7]
              clear ht5

              clear hs hs0
              go_wp2_with (first
                | (go_at_call 49; refine (hsite _).mono ?_; rintro e w' ⟨rfl, rfl⟩)
                | (with_reducible refine wpList_load_cells _ rfl 32 (.tmp 110) rfl (ad.add (k * 3)) rfl _ HC.out (.struct _) Try.underlying32 rfl (by kernel_rfl) ?_))
              refine hact.mono ?_
              rintro e w5 ⟨rfl, h5⟩
              have H5 := Lib.hid h5
              obtain ⟨ad5, o5, hA5, ho5, hcells5⟩ := h5.opsAt.at_ hlt
              obtain rfl : ad = ad5 := by injection hA5
              obtain rfl : (⟨kd, st, n⟩ : GOp) = o5 := by rw [ho] at ho5; injection ho5
              have c50 : w5.cell? (ad.add (k * 3)) = some (.int .i64 kd) := by have := hcells5 0 _ rfl; rw [add_zero_] at this; exact this
              have c52 : w5.cell? ⟨(ad.add (k * 3)).block, (ad.add (k * 3)).off + 2, none⟩ = some (.int .i64 n) := hcells5 2 _ rfl
              clear h5 hA5 ho5 hcells5 hact ho

              by_cases k1 : kd = 1
              · subst k1
                have hg1 := built_reads w5 5 [.int .u8 (n % 256)]
                have hcg : ∀ i, i < 1 → (w5.alloc (.cells #[.int .u8 (n % 256)] 5)).cell? ⟨w5.heap.size, 0 + i, none⟩ = some (.int .u8 ([n % 256].getD i 0)) := by
                  intro i hi
                  obtain rfl : i = 0 := by omega
                  exact (Blk.new w5 5 #[.int .u8 (n % 256)]).cell 0
                have g := run_convert_bytes_arg (P := Try.prog) (w5.alloc (.cells #[.int .u8 (n % 256)] 5)) 81 5 Try.underlying81 Try.underlying5 w5.heap.size 0 1 1 [n % 256] rfl hcg 9 Try.underlying9
                clear hg1 hcg
                go_wp2_with fail
                refine ((H5.out.keep ((Chg.refl [] w5).alloc _)).pushC _).mono ?_
                rintro e w6 ⟨ra, rb, rfl, h6⟩
                have H6 := Lib.hid h6
                clear h6 g c50 c52
                by_cases hq : k + 1 = xs.length
                · have hqb : (((k : Int) + 1) == (xs.length : Int)) = true := by simpa using (show (k : Int) + 1 = xs.length by omega)
                  by_cases hk4 : k < 4096
                  · have hk4' : (k : Int) < 4096 := by omega
                    obtain ⟨hA, hB⟩ := hn5.out (by have := hn1.out; omega)
                    have hl1 := H6.out.last_.1
                    have hl2 := fun q' => ((H6.out.keep ((Chg.refl [] _).drewN q')).last_.2.1)
                    rw [hA] at hl1
                    rw [hB] at hl2
                    have e1 : Hid (St.last ⟨0, 0, xs.take (k + 1)⟩ = k + 1) := by simp [Hid, St.last]; omega
                    have e2 : Hid (St.last St.new = 0) := rfl
                    rw [e1.out] at hl1
                    simp only [e2.out] at hl2
                    have HQ := Lib.hid hq
                    clear hq hA hB
                    go_wp2_with fail
                    refine hl1.mono ?_
                    rintro e w' ⟨rfl, q1, rfl⟩
                    go_wp2_with fail
                    refine (hl2 q1).mono ?_
                    rintro e w' ⟨rfl, q2, rfl⟩
                    go_wp2_with fail
                    go_roundw
                    case rel => exact ⟨k + 1, t5, tb, by omega, by go_num, by rw [hpl.out], H6.out.keep ((Chg.refl [] _).drewN _), hn5.out⟩
                    case measure => simp [intOf]; omega

                  · have hk4' : ¬ (k : Int) < 4096 := by omega
                    have HQ := Lib.hid hq
                    clear hq
                    go_wp2_with fail
                    go_roundw
                    case rel => exact ⟨k + 1, t5, tb, by omega, by go_num, by rw [hpl.out], H6.out, hn5.out⟩
                    case measure => simp [intOf]; omega

                · have hqb : (((k : Int) + 1) == (xs.length : Int)) = false := by simpa using (show ¬ (k : Int) + 1 = xs.length by omega)
                  clear hq
                  go_wp2_with fail
                  go_roundw
                  case rel => exact ⟨k + 1, t5, tb, by omega, by go_num, by rw [hpl.out], H6.out, hn5.out⟩
                  case measure => simp [intOf]; omega


              · have b1 : (kd == 1) = false := by simpa using k1
                clear k1
                by_cases hq : k + 1 = xs.length
                · have hqb : (((k : Int) + 1) == (xs.length : Int)) = true := by simpa using (show (k : Int) + 1 = xs.length by omega)
                  by_cases hk4 : k < 4096
                  · have hk4' : (k : Int) < 4096 := by omega
                    obtain ⟨hA, hB⟩ := hn5.out (by have := hn1.out; omega)
                    have hl1 := H5.out.last_.1
                    have hl2 := fun q' => ((H5.out.keep ((Chg.refl [] _).drewN q')).last_.2.1)
                    rw [hA] at hl1
                    rw [hB] at hl2
                    have e1 : Hid (St.last ⟨0, 0, xs.take (k + 1)⟩ = k + 1) := by simp [Hid, St.last]; omega
                    have e2 : Hid (St.last St.new = 0) := rfl
                    rw [e1.out] at hl1
                    simp only [e2.out] at hl2
                    have HQ := Lib.hid hq
                    clear hq hA hB
                    go_wp2_with fail
                    refine hl1.mono ?_
                    rintro e w' ⟨rfl, q1, rfl⟩
                    go_wp2_with fail
                    refine (hl2 q1).mono ?_
                    rintro e w' ⟨rfl, q2, rfl⟩
                    go_wp2_with fail
                    go_roundw
                    case rel => exact ⟨k + 1, t5, tb, by omega, by go_num, by rw [hpl.out], H5.out.keep ((Chg.refl [] _).drewN _), hn5.out⟩
                    case measure => simp [intOf]; omega

                  · have hk4' : ¬ (k : Int) < 4096 := by omega
                    have HQ := Lib.hid hq
                    clear hq
                    go_wp2_with fail
                    go_roundw
                    case rel => exact ⟨k + 1, t5, tb, by omega, by go_num, by rw [hpl.out], H5.out, hn5.out⟩
                    case measure => simp [intOf]; omega

                · have hqb : (((k : Int) + 1) == (xs.length : Int)) = false := by simpa using (show ¬ (k : Int) + 1 = xs.length by omega)
                  clear hq
                  go_wp2_with fail
                  go_roundw
                  case rel => exact ⟨k + 1, t5, tb, by omega, by go_num, by rw [hpl.out], H5.out, hn5.out⟩
                  case measure => simp [intOf]; omega


          · have hke : L.take k = L := List.take_of_length_le (by omega)
            rw [hke] at hTA htA
            clear hke hn
            go_wp2_with fail
            go_loopw [16] (fun i wr => ∃ (k : Nat) (td : St), k ≤ L.length ∧ i = .int .i64 k ∧ playA 3 (L.take k) = td ∧ ASt w wr pa pb pc pd ta tb td LA L) (fun i _ => L.length - (intOf i).toNat)
            case atStart => exact ⟨0, St.new, Nat.zero_le _, rfl, rfl, hA⟩
            case round =>
              clear hA
              obtain ⟨k, td, hk, rfl, htd, hA⟩ := hrel
              have hTD := Lib.hid htd
              clear htd
              by_cases hlt : k < L.length
              · obtain ⟨ad, o, rfl, ho, hcells⟩ := hA.opsAt.at_ hlt
                obtain ⟨kd, st, n⟩ := o
                have hcells' : ∀ j u, ([.int .i64 kd, .int .i64 st, .int .i64 n] : List Value)[j]? = some u → wr.cell? ((ad.add (k * 3)).add j) = some u := hcells
                have c1 : wr.cell? ⟨(ad.add (k * 3)).block, (ad.add (k * 3)).off + 1, none⟩ = some (.int .i64 st) := hcells' 1 _ rfl
                have HC := Lib.hid hcells'
                have HO := Lib.hid ho
                clear hcells hcells' ho
                by_cases hs : siteN st = 1
                · have hsite : ∀ W, Calls Try.prog 49 #[.int .i64 st] W fun e w' => e = .returned (.int .i64 1) ∧ W = w' := fun W => by have := siteN_calls st W; rw [hs] at this; exact this
                  have HS := Lib.hid hs
                  clear hs
                  go_wp2_with (go_at_call 49; refine (hsite _).mono ?_; rintro e w' ⟨rfl, rfl⟩)
                  go_roundw
                  case rel => exact ⟨k + 1, td, by omega, by go_num, by rw [playA_succ 3 HO.out, if_pos HS.out]; exact hTD.out, hA⟩
                  case measure => simp [intOf]; omega
                · have hs0 : siteN st = 0 := by have := siteN_lt st; omega
                  have hsite : ∀ W, Calls Try.prog 49 #[.int .i64 st] W fun e w' => e = .returned (.int .i64 0) ∧ W = w' := fun W => by have := siteN_calls st W; rw [hs0] at this; exact this
                  have HS := Lib.hid hs
                  clear hs hs0
                  go_wp2_with (first
                    | (go_at_call 49; refine (hsite _).mono ?_; rintro e w' ⟨rfl, rfl⟩)
                    | (with_reducible refine wpList_load_cells _ rfl 32 (.tmp 166) rfl (ad.add (k * 3)) rfl _ HC.out (.struct _) Try.underlying32 rfl (by kernel_rfl) ?_)
                    | (go_at_call 19; refine Calls.mono (hA.actD ⟨kd, st, n⟩) ?_; rintro e w5 ⟨rfl, h5⟩))
                  go_roundw
                  case rel => exact ⟨k + 1, _, by omega, by go_num, by rw [playA_succ 3 HO.out, if_neg HS.out, hTD.out], h5⟩
                  case measure => simp [intOf]; omega
              · have hke : L.take k = L := List.take_of_length_le (by omega)
                have htd : td = ta := by rw [← hTD.out, hke]; exact hTA.out
                subst htd
                clear hke
                have hl4 := Lib.hid hA.okA.2.2
                go_wp2_with fail
                refine hA.acked_.1.mono ?_
                rintro e w' ⟨rfl, rfl⟩
                go_wp2_with fail
                refine hA.acked_.2.mono ?_
                rintro e w' ⟨rfl, rfl⟩
                go_wp2_with fail
                refine hA.sent_.1.mono ?_
                rintro e w' ⟨rfl, rfl⟩
                go_wp2_with fail
                refine hA.sent_.2.mono ?_
                rintro e w' ⟨rfl, rfl⟩
                go_wp2_with fail
                refine hA.last_.1.mono ?_
                rintro e w' ⟨rfl, q1, rfl⟩
                have hA1 := hA.keep ((Chg.refl [] _).drewN q1)
                go_wp2_with fail
                refine hA1.last_.2.2.mono ?_
                rintro e w' ⟨rfl, q2, rfl⟩
                have hA2 := hA.keep ((Chg.refl [] _).drewN (q1 + q2))
                go_wp2_with fail
                refine hA2.left_.1.mono ?_
                rintro e w6 ⟨z6, rfl, hr6, hc6, hz6⟩
                have hA6 := hA2.keep hc6
                go_wp2_with fail
                refine hA6.left_.2.mono ?_
                rintro e w7 ⟨z7, rfl, hr7, hc7, hz7⟩
                have hA7 := hA6.keep hc7
                have hr67 := hr6.keep hc7 (by simp)
                go_wp2_with fail
                refine (sameList_yes (by have := hl4.out; omega) hr67 hr7).mono ?_
                rintro e w' ⟨rfl, q3, rfl⟩
                have hA8 := hA7.keep ((Chg.refl [] _).drewN q3)
                have hm3 : min 3 td.xs.length ≤ 3 := by omega
                have hdue := hA8.dueA
                have hdd := fun (W : World) (S3 : List Nat) (hB : Box W pd S3 3 td) => due_calls hB
                generalize min 3 td.xs.length = m at *
                go_wp2_with fail
                refine hdue.mono ?_
                rintro e w9 ⟨z9, rfl, hr9, S3, hb9, hz9, hS9, hc9⟩
                go_wp2_with fail
                refine (hdd _ _ hb9).mono ?_
                rintro e w10 ⟨z10, rfl, hr10, ⟨S', hb10, hc10, _⟩, hz10⟩
                have hr910 := hr9.keep hc10 (fun i hi => by simp [ob] at hi; subst hi; exact hz9)
                go_wp2_with fail
                refine (sameList_yes (by omega) hr910 hr10).mono ?_
                rintro e w' ⟨rfl, q4, rfl⟩
                go_wp2_with fail
                go_ret
                exact ⟨rfl, (hc9.trans hc10 (fun i hi => .inr (hS9 i hi))).drewN q4⟩


end Go.Proofs.Ytphbhmppjafhkaa
