/-
  ExpandApart, ExpandDeep: what the programs that they write come to, reckoned; and that these are all.
-/
import Derived.Test.YtmkacifjegnehaaDoorBase
import Derived.Test.YtmkacifjegnehaaDoorLex
namespace Go.Proofs.YtmkacifjegnehaaDoor
open Go Go.Proofs Go.Proofs.YtmkacifjegnehaaDoor.Ab
set_option maxRecDepth 100000
theorem apart_k (n k : Int) : apart1 n k = apart1 n (k.tmod 2) := by
  have e : (k.tmod 2).tmod 2 = k.tmod 2 := Int.tmod_tmod_of_dvd k (Int.dvd_refl 2)
  simp only [apart1, apart2, apart3, apart4, apart5, apart6, e]
def parseS (n : Nat) (s : Bytes) : Option (List Uni × Int × Int) := (fun x : List Tok × Int × Int => match x with
  | (l, c, a) => cond (c == 0) ((loopO (parseB n) (l.length + 2) (⟨s, l, 0, 0, 0⟩, [])).bind fun (us, p) => cond (okP p) ((deepU n us).bind fun d => cond (decide (60 < d)) (some ([], 3, 0)) (some (us, 0, 0))) (some ([], p.code, p.mat))) (some ([], c, a))) (tokensS s)
theorem parse_eq (n : Nat) (s : Bytes) : parseP n s = parseS n s := by
  unfold parseP parseS
  rw [tokens_eq]
  rfl
def apart3S (n k : Int) (calls inner : Bytes) : Option Bool := (addS [98, 121, 116, 101, 32, 120, 59, 32, 105, 110, 108, 105, 110, 101, 32, 103, 40, 41, 32, 123, 32, 98, 121, 116, 101, 32, 117, 59, 32, 77, 58, 32, 117, 32, 61, 32, 49, 32, 125, 32, 105, 110, 108, 105, 110, 101, 32, 102, 40, 97, 41, 32, 123, 32, 98, 121, 116, 101, 32, 116, 59, 32] inner).bind fun a => (addS a [76, 58, 32, 116, 32, 61, 32, 97, 32, 125, 32, 105, 110, 105, 116, 32, 123, 32]).bind fun a => (addS a calls).bind fun a => (addS a [115, 107, 105, 112, 32, 125]).bind fun t => (parseS 200 t).bind fun (l, c, a) => apart4 n k c l
theorem apart3_eq (n k : Int) (calls inner : Bytes) : apart3 n k calls inner = apart3S n k calls inner := by simp only [apart3, apart3S, parse_eq]
def apart1S (n k : Int) : Option Bool := (loopO (apB n) 40 (0, [])).bind fun calls => cond (k.tmod 2 == 1) (apart3S n k calls [103, 40, 41, 59, 32]) (apart3S n k calls [])
theorem apart1_eq (n k : Int) : apart1 n k = apart1S n k := by simp only [apart1, apart2, apart1S, apart3_eq]
def deep2S (f : Int → Int → Xr (List Uni) → Option Bool) (n : Int) : Option (Bytes × Bytes) → Option Bool
  | none => some true
  | some (nm, tx) => (addS tx [105, 110, 105, 116, 32, 123, 32]).bind fun a => (addS a nm).bind fun a => (addS a [40, 41, 32, 125]).bind fun t => (parseS 200 t).bind fun (l, c, a) => (inlX 200 l).bind fun r => f n c r
theorem deep2_eq (f : Int → Int → Xr (List Uni) → Option Bool) (n : Int) (r : Option (Bytes × Bytes)) : deep2 f n r = deep2S f n r := by
  cases r with
  | none => rfl
  | some x => obtain ⟨nm, tx⟩ := x; simp only [deep2, deep2S, parse_eq]
def deep1S (f : Int → Int → Xr (List Uni) → Option Bool) (n : Int) : Option Bool := (loopO (dpB n) 40 (1, [102, 48], [98, 121, 116, 101, 32, 120, 59, 32, 105, 110, 108, 105, 110, 101, 32, 102, 48, 40, 41, 32, 123, 32, 120, 32, 61, 32, 49, 32, 125, 32])).bind fun r => deep2S f n r
theorem deep1_eq (f : Int → Int → Xr (List Uni) → Option Bool) (n : Int) : deep1 f n = deep1S f n := by simp only [deep1, deep1S, deep2_eq]
theorem ap1_0 : apart1 1 0 = some true := (apart1_eq _ _).trans (by decide +kernel)
theorem ap2_0 : apart1 2 0 = some true := (apart1_eq _ _).trans (by decide +kernel)
theorem ap3_0 : apart1 3 0 = some true := (apart1_eq _ _).trans (by decide +kernel)
theorem ap4_0 : apart1 4 0 = some true := (apart1_eq _ _).trans (by decide +kernel)
theorem ap5_0 : apart1 5 0 = some true := (apart1_eq _ _).trans (by decide +kernel)
theorem ap6_0 : apart1 6 0 = some true := (apart1_eq _ _).trans (by decide +kernel)
theorem ap7_0 : apart1 7 0 = some true := (apart1_eq _ _).trans (by decide +kernel)
theorem ap8_0 : apart1 8 0 = some true := (apart1_eq _ _).trans (by decide +kernel)
theorem ap1_1 : apart1 1 1 = some true := (apart1_eq _ _).trans (by decide +kernel)
theorem ap2_1 : apart1 2 1 = some true := (apart1_eq _ _).trans (by decide +kernel)
theorem ap3_1 : apart1 3 1 = some true := (apart1_eq _ _).trans (by decide +kernel)
theorem ap4_1 : apart1 4 1 = some true := (apart1_eq _ _).trans (by decide +kernel)
theorem ap5_1 : apart1 5 1 = some true := (apart1_eq _ _).trans (by decide +kernel)
theorem ap6_1 : apart1 6 1 = some true := (apart1_eq _ _).trans (by decide +kernel)
theorem ap7_1 : apart1 7 1 = some true := (apart1_eq _ _).trans (by decide +kernel)
theorem ap8_1 : apart1 8 1 = some true := (apart1_eq _ _).trans (by decide +kernel)
theorem dp1 : deep1 deepB3 1 = some true := (deep1_eq _ _).trans (by decide +kernel)
theorem dp2 : deep1 deepB3 2 = some true := (deep1_eq _ _).trans (by decide +kernel)
theorem dp3 : deep1 deepB3 3 = some true := (deep1_eq _ _).trans (by decide +kernel)
theorem dp4 : deep1 deepB3 4 = some true := (deep1_eq _ _).trans (by decide +kernel)
theorem dp5 : deep1 deepB3 5 = some true := (deep1_eq _ _).trans (by decide +kernel)
theorem dp6 : deep1 deepB3 6 = some true := (deep1_eq _ _).trans (by decide +kernel)
theorem dp7 : deep1 deepB3 7 = some true := (deep1_eq _ _).trans (by decide +kernel)
theorem dp8 : deep1 deepB3 8 = some true := (deep1_eq _ _).trans (by decide +kernel)
theorem dp9 : deep1 deepB3 9 = some true := (deep1_eq _ _).trans (by decide +kernel)
theorem dp10 : deep1 deepB3 10 = some true := (deep1_eq _ _).trans (by decide +kernel)
theorem dp11 : deep1 deepB3 11 = some true := (deep1_eq _ _).trans (by decide +kernel)
theorem dp12 : deep1 deepB3 12 = some true := (deep1_eq _ _).trans (by decide +kernel)
theorem dp13 : deep1 deepB3 13 = some true := (deep1_eq _ _).trans (by decide +kernel)
theorem dp14 : deep1 deepB3 14 = some true := (deep1_eq _ _).trans (by decide +kernel)
theorem dp15 : deep1 deepB3 15 = some true := (deep1_eq _ _).trans (by decide +kernel)
theorem dp16 : deep1 deepB3 16 = some true := (deep1_eq _ _).trans (by decide +kernel)
theorem dp17 : deep1 deepB3 17 = some true := (deep1_eq _ _).trans (by decide +kernel)
theorem dp18 : deep1 deepB3 18 = some true := (deep1_eq _ _).trans (by decide +kernel)
theorem dp19 : deep1 deepB3 19 = some true := (deep1_eq _ _).trans (by decide +kernel)
theorem dp20 : deep1 deepB3 20 = some true := (deep1_eq _ _).trans (by decide +kernel)
theorem dp21 : deep1 deepA3 21 = some true := (deep1_eq _ _).trans (by decide +kernel)
theorem dp22 : deep1 deepA3 22 = some true := (deep1_eq _ _).trans (by decide +kernel)
theorem dp23 : deep1 deepA3 23 = some true := (deep1_eq _ _).trans (by decide +kernel)
theorem dp24 : deep1 deepA3 24 = some true := (deep1_eq _ _).trans (by decide +kernel)
theorem dp25 : deep1 deepA3 25 = some true := (deep1_eq _ _).trans (by decide +kernel)
theorem ab1_range {n : Int} (h1 : -9223372036854775808 ≤ n) (h2 : n ≤ 9223372036854775807) : 0 ≤ ab1 n ∧ ab1 n ≤ 9223372036854775807 := by
  unfold ab1
  cases hd : decide (n < 0) with
  | false => have := of_decide_eq_false hd; simp only [cond_false]; omega
  | true =>
    have := of_decide_eq_true hd
    simp only [cond_true, wadd]
    rw [IntWalk.i64_in (n + 1) (by omega), IntWalk.i64_in (0 - (n + 1)) (by omega)]
    omega
theorem tmod_range {a : Int} (h : 0 ≤ a) (m : Int) (hm : 0 < m) : 0 ≤ a.tmod m ∧ a.tmod m < m := by
  rw [Int.tmod_eq_emod_of_nonneg h]
  exact ⟨Int.emod_nonneg a (by omega), Int.emod_lt_of_pos a hm⟩
theorem apart_all {n k : Int} (h1 : -9223372036854775808 ≤ n) (h2 : n ≤ 9223372036854775807) (h3 : -9223372036854775808 ≤ k) (h4 : k ≤ 9223372036854775807) : apart0 n k = some true := by
  unfold apart0
  rw [apart_k]
  obtain ⟨a1, a2⟩ := tmod_range (ab1_range h1 h2).1 8 (by decide)
  obtain ⟨b1, b2⟩ := tmod_range (ab1_range h3 h4).1 2 (by decide)
  generalize (ab1 n).tmod 8 = a at a1 a2 ⊢
  generalize (ab1 k).tmod 2 = b at b1 b2 ⊢
  simp only [wadd]
  rw [IntWalk.i64_in (a + 1) (by omega)]
  have hb : b = 0 ∨ b = 1 := by omega
  have ha : a = 0 ∨ a = 1 ∨ a = 2 ∨ a = 3 ∨ a = 4 ∨ a = 5 ∨ a = 6 ∨ a = 7 := by omega
  rcases hb with rfl | rfl <;> rcases ha with rfl | rfl | rfl | rfl | rfl | rfl | rfl | rfl
  · exact ap1_0
  · exact ap2_0
  · exact ap3_0
  · exact ap4_0
  · exact ap5_0
  · exact ap6_0
  · exact ap7_0
  · exact ap8_0
  · exact ap1_1
  · exact ap2_1
  · exact ap3_1
  · exact ap4_1
  · exact ap5_1
  · exact ap6_1
  · exact ap7_1
  · exact ap8_1
theorem deep_all {n : Int} (h1 : -9223372036854775808 ≤ n) (h2 : n ≤ 9223372036854775807) : deep0 deepA3 n = some true ∨ deep0 deepB3 n = some true := by
  unfold deep0
  obtain ⟨a1, a2⟩ := tmod_range (ab1_range h1 h2).1 25 (by decide)
  generalize (ab1 n).tmod 25 = a at a1 a2 ⊢
  simp only [wadd]
  rw [IntWalk.i64_in (a + 1) (by omega)]
  have ha : a = 0 ∨ a = 1 ∨ a = 2 ∨ a = 3 ∨ a = 4 ∨ a = 5 ∨ a = 6 ∨ a = 7 ∨ a = 8 ∨ a = 9 ∨ a = 10 ∨ a = 11 ∨ a = 12 ∨ a = 13 ∨ a = 14 ∨ a = 15 ∨ a = 16 ∨ a = 17 ∨ a = 18 ∨ a = 19 ∨ a = 20 ∨ a = 21 ∨ a = 22 ∨ a = 23 ∨ a = 24 := by omega
  rcases ha with rfl | rfl | rfl | rfl | rfl | rfl | rfl | rfl | rfl | rfl | rfl | rfl | rfl | rfl | rfl | rfl | rfl | rfl | rfl | rfl | rfl | rfl | rfl | rfl | rfl
  · exact .inr dp1
  · exact .inr dp2
  · exact .inr dp3
  · exact .inr dp4
  · exact .inr dp5
  · exact .inr dp6
  · exact .inr dp7
  · exact .inr dp8
  · exact .inr dp9
  · exact .inr dp10
  · exact .inr dp11
  · exact .inr dp12
  · exact .inr dp13
  · exact .inr dp14
  · exact .inr dp15
  · exact .inr dp16
  · exact .inr dp17
  · exact .inr dp18
  · exact .inr dp19
  · exact .inr dp20
  · exact .inl dp21
  · exact .inl dp22
  · exact .inl dp23
  · exact .inl dp24
  · exact .inl dp25
theorem wf_range {a : Int} (h : (Lit.int .i64 a).wf = true) : -9223372036854775808 ≤ a ∧ a ≤ 9223372036854775807 := by
  simpa [Lit.wf, IntKind.min, IntKind.max, IntKind.signed, IntKind.bits] using h
theorem walkExpandApart (a0 a1 : Int) (w0 : (Lit.int .i64 a0).wf = true) (w1 : (Lit.int .i64 a1).wf = true) (W : World) (hW : ∃ t fr, W.heap[G0]? = some (.cells pow10s t fr)) : Calls Tryd.prog 3 #[.int .i64 a0, .int .i64 a1] W fun e W' => e = .returned (.bool true) ∧ Left0 W W' :=
  walk_of (W3 (apart_all (wf_range w0).1 (wf_range w0).2 (wf_range w1).1 (wf_range w1).2)) (.cons (.c (.d (.int _ _))) (.cons (.c (.d (.int _ _))) .nil)) hW
theorem walkExpandDeep (a0 : Int) (w0 : (Lit.int .i64 a0).wf = true) (W : World) (hW : ∃ t fr, W.heap[G0]? = some (.cells pow10s t fr)) : Calls Tryd.prog 4 #[.int .i64 a0] W fun e W' => e = .returned (.bool true) ∧ Left0 W W' := by
  rcases deep_all (wf_range w0).1 (wf_range w0).2 with h | h
  · exact walk_of (W4a h) (.cons (.c (.d (.int _ _))) .nil) hW
  · exact walk_of (W4b h) (.cons (.c (.d (.int _ _))) .nil) hW
end Go.Proofs.YtmkacifjegnehaaDoor
