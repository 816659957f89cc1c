/-
  PROVED: the contracts of an outbox of things.
-/
import Derived.Test.YtphbhmppjafhkaaRef
import Derived.Laws.BytesArg
namespace Go.Proofs.Ytphbhmppjafhkaa
open Go.RowKit

/-- The name of thing n. -/
def strT (n : Int) : ByteArray := strOfNums [n % 256, n / 256 % 256]
def cT (n : Int) : List Value := [.string (strT n), .int .i64 0, .int .i64 n, .int .u8 0, .int .i64 0, .int .i64 (wrap64 (-n))]
theorem cT_len (n : Int) : (cT n).length = 6 := rfl
theorem cT_one (xs : List Int) : ∀ u ∈ ev cT xs, u.oneCell' = true := by
  intro u hu
  simp only [ev, cT, List.mem_flatMap, List.mem_cons, List.not_mem_nil, or_false] at hu
  obtain ⟨a, _, h⟩ := hu
  rcases h with rfl | rfl | rfl | rfl | rfl | rfl <;> rfl
def zT : Value := .agg #[.string ByteArray.empty, .int .i64 0, .int .i64 0, .int .u8 0, .int .i64 0, .int .i64 0]
def zIT : Value := .agg #[.int .i64 0, .string ByteArray.empty, .int .i64 0, .int .i64 0, .int .u8 0, .int .i64 0, .int .i64 0]
theorem Try.info58 : (Try.prog.info? 58).map (fun i => (i.zero, i.size, i.bytes)) = some (some zT, 6, 56) := by kernel_rfl
theorem Try.info98 : (Try.prog.info? 98).map (fun i => (i.zero, i.size, i.bytes)) = some (some zIT, 7, 64) := by kernel_rfl

set_option maxRecDepth 100000 in
theorem thing_calls (w : World) (n : Int) : Calls Try.prog 29 #[.int .i64 n] w fun e w' => e = .returned (.agg (cT n).toArray) ∧ Chg [] w w' := by
  unfold cT strT
  have hb : Blk ((w.alloc (.cells #[.string ⟨#[]⟩, .int .i64 0, .int .i64 0, .int .u8 0, .int .i64 0, .int .i64 0] 58)).alloc (.cells #[.int .u8 (n % 256), .int .u8 (n / 256 % 256)] 5)) (w.heap.size + 1) 5 #[.int .u8 (n % 256), .int .u8 (n / 256 % 256)] := by
    have := Blk.new (w.alloc (.cells #[.string ⟨#[]⟩, .int .i64 0, .int .i64 0, .int .u8 0, .int .i64 0, .int .i64 0] 58)) 5 #[.int .u8 (n % 256), .int .u8 (n / 256 % 256)]
    simpa using this
  have hcg : ∀ i, i < 2 → ((w.alloc (.cells #[.string ⟨#[]⟩, .int .i64 0, .int .i64 0, .int .u8 0, .int .i64 0, .int .i64 0] 58)).alloc (.cells #[.int .u8 (n % 256), .int .u8 (n / 256 % 256)] 5)).cell? ⟨w.heap.size + 1, 0 + i, none⟩ = some (.int .u8 ([n % 256, n / 256 % 256].getD i 0)) := by
    intro i hi
    rw [hb.cell]
    rcases i with _ | _ | i
    · rfl
    · rfl
    · omega
  have g := run_convert_bytes_arg (P := Try.prog) ((w.alloc (.cells #[.string ⟨#[]⟩, .int .i64 0, .int .i64 0, .int .u8 0, .int .i64 0, .int .i64 0] 58)).alloc (.cells #[.int .u8 (n % 256), .int .u8 (n / 256 % 256)] 5)) 81 5 Try.underlying81 Try.underlying5 (w.heap.size + 1) 0 2 2 [n % 256, n / 256 % 256] rfl hcg 9 Try.underlying9
  clear hb hcg
  generalize strOfNums [n % 256, n / 256 % 256] = sx at *
  go_enter Try.func29, Try.ntmps29
  go_wp2_with fail
  refine bodyPost_ret (v := .agg #[.string sx, .int .i64 0, .int .i64 n, .int .u8 0, .int .i64 0, .int .i64 (wrap64 (-n))]) (by simp [results, Try.results29, go_sem]) rfl ⟨rfl, ((Chg.refl _ _).alloc _).alloc _⟩

/-- An outbox of things: its block p, and the row of what is left. -/
def BoxT (w : World) (p : Nat) (S : List Nat) (win : Nat) (t : St) : Prop :=
  ∃ A cap, S = p :: ob A ∧ Blk w p 92 #[.int .i64 win, .int .i64 t.a, .int .i64 t.s, .slice A t.xs.length cap] ∧ Row w 58 6 A t.xs.length cap (ev cT t.xs) ∧ t.Ok ∧ 1 ≤ win ∧ win ≤ 4096

theorem BoxT.keep {w w' : World} {p win : Nat} {S T : List Nat} {t : St} (h : BoxT w p S win t) (hc : Chg T w w') (hS : ∀ k ∈ S, k ∉ T) : BoxT w' p S win t := by
  obtain ⟨A, cap, rfl, hb, hr, r⟩ := h
  exact ⟨A, cap, rfl, hb.keep hc (hS p (by simp)), hr.keep hc (fun i hi => hS i (by simp [hi])), r⟩
theorem BoxT.drewN {w : World} {p win : Nat} {S : List Nat} {t : St} (h : BoxT w p S win t) (n : Nat) : BoxT (w.drewN n) p S win t := h.keep (T := []) ((Chg.refl _ _).drewN n) (by simp)
theorem BoxT.lt {w : World} {p win : Nat} {S : List Nat} {t : St} (h : BoxT w p S win t) : ∀ k ∈ S, k < w.heap.size := by
  obtain ⟨A, cap, rfl, hb, hr, _⟩ := h
  intro k hk
  rcases List.mem_cons.1 hk with rfl | hk
  · exact hb.lt
  · exact hr.lt k hk
theorem BoxT.ok {w : World} {p win : Nat} {S : List Nat} {t : St} (h : BoxT w p S win t) : t.Ok := by
  obtain ⟨A, cap, rfl, hb, hr, h, _⟩ := h
  exact h
theorem BoxT.win {w : World} {p win : Nat} {S : List Nat} {t : St} (h : BoxT w p S win t) : 1 ≤ win ∧ win ≤ 4096 := by
  obtain ⟨A, cap, rfl, hb, hr, _, h⟩ := h
  exact h

/-- What each call leaves: the outbox in blocks of its own or new ones. -/
def LeftT (w : World) (p : Nat) (S : List Nat) (win : Nat) (t : St) (w' : World) : Prop :=
  ∃ S', BoxT w' p S' win t ∧ Chg S w w' ∧ ∀ k ∈ S', k ∈ S ∨ w.heap.size ≤ k
theorem LeftT.same {w w' : World} {p win : Nat} {S : List Nat} {t : St} (h : BoxT w p S win t) (hc : Chg [] w w') : LeftT w p S win t w' :=
  ⟨S, h.keep hc (by simp), hc.mono (by simp), fun k hk => .inl hk⟩
theorem LeftT.after {w w1 w' : World} {p win : Nat} {S : List Nat} {t : St} (hc : Chg [] w w1) (h : LeftT w1 p S win t w') : LeftT w p S win t w' := by
  obtain ⟨S', hd, hc', hS⟩ := h
  refine ⟨S', hd, (hc.mono (T := S) (by simp)).trans hc' (fun i hi => .inl hi), fun k hk => ?_⟩
  rcases hS k hk with h | h
  · exact .inl h
  · exact .inr (Nat.le_trans hc.size h)
theorem LeftT.next {w w1 w' : World} {p win : Nat} {S : List Nat} {t : St} (h : LeftT w p S win t w1) (hc : Chg [] w1 w') : LeftT w p S win t w' := by
  obtain ⟨S', hd, hc', hS⟩ := h
  exact ⟨S', hd.keep hc (by simp), hc'.next hc, hS⟩

theorem new_noT (w : World) (n : Int) (h : n < 1 ∨ 4096 < n) : Calls Try.prog 26 #[.int .i64 n] w fun e w' => e = .returned (.tuple #[.pointer none, .int .i64 80]) ∧ w = w' := by
  by_cases h0 : n < 1
  · go_enter Try.func26, Try.ntmps26
    go_wp2
    go_ret2
    exact ⟨rfl, rfl⟩
  · have h1 : 4096 < n := by omega
    clear h
    go_enter Try.func26, Try.ntmps26
    go_wp2
    go_ret2
    exact ⟨rfl, rfl⟩
theorem new_okT (w : World) (n : Nat) (h1 : 1 ≤ n) (h2 : n ≤ 4096) :
    Calls Try.prog 26 #[.int .i64 n] w fun e w' => ∃ p S, e = .returned (.tuple #[.pointer (some ⟨p, 0, none⟩), .int .i64 0]) ∧ BoxT w' p S n St.new ∧ Chg [] w w' ∧ ∀ k ∈ S, w.heap.size ≤ k := by
  have h3 : ¬ (n : Int) < 1 := by omega
  have h4 : ¬ (4096 : Int) < n := by omega
  go_enter Try.func26, Try.ntmps26
  go_wp2
  go_ret2
  refine ⟨w.heap.size, rfl, [w.heap.size], ⟨none, 0, rfl, Blk.new _ _ _, Row.nil _ _ _, St.new_ok, h1, h2⟩, (Chg.refl _ _).alloc _, by simp⟩

theorem acked_callsT {w : World} {p win : Nat} {S : List Nat} {t : St} (h : BoxT w p S win t) : Calls Try.prog 40 #[.pointer (some ⟨p, 0, none⟩)] w fun e w' => e = .returned (.int .i64 t.a) ∧ w = w' := by
  obtain ⟨A, cap, rfl, hb, hr, hok, hw⟩ := h
  have c1 := hb.cell 1
  go_enter Try.func40, Try.ntmps40
  go_wp2
  go_ret
  exact ⟨rfl, rfl⟩
theorem sent_callsT {w : World} {p win : Nat} {S : List Nat} {t : St} (h : BoxT w p S win t) : Calls Try.prog 42 #[.pointer (some ⟨p, 0, none⟩)] w fun e w' => e = .returned (.int .i64 t.s) ∧ w = w' := by
  obtain ⟨A, cap, rfl, hb, hr, hok, hw⟩ := h
  have c1 := hb.cell 2
  go_enter Try.func42, Try.ntmps42
  go_wp2
  go_ret
  exact ⟨rfl, rfl⟩
theorem last_callsT {w : World} {p win : Nat} {S : List Nat} {t : St} (h : BoxT w p S win t) : Calls Try.prog 44 #[.pointer (some ⟨p, 0, none⟩)] w fun e w' => e = .returned (.int .i64 t.last) ∧ ∃ q, w' = w.drewN q := by
  obtain ⟨A, cap, rfl, hb, hr, ⟨h1, h2, h3⟩, hw⟩ := h
  obtain ⟨a, s, xs⟩ := t
  simp only at h1 h2 h3 hb
  have c1 := hb.cell 1
  have c3 := hb.cell 3
  have e1 : IntKind.i64.wrap ((a : Int) + xs.length) = a + xs.length := IntWalk.i64_in _ (by omega)
  go_enter Try.func44, Try.ntmps44
  go_wp2
  go_quiet (fail)
  go_wp2
  go_ret
  refine ⟨?_, _, rfl⟩
  simp [St.last]

end Go.Proofs.Ytphbhmppjafhkaa
