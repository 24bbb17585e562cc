/-
  THE ABSTRACT STATE, KEPT: what a new block, a store into an object's own block, an object let go or sealed does to the relation between the objects and the world. No program is named.
-/
import Derived.Test.YtmkacifjegnehaaDoorAb1
namespace Go.Proofs.YtmkacifjegnehaaDoor.Ab
open Go

/-- Where a call began: the world, the blocks that may be written, what stayed, the first objects. -/
structure Ctx where
  w0 : World
  M : Nat → Prop
  Z0 : Zt
  s0 : List Value

def OwnAt (X : Ctx) (r b : Nat) : Prop := (r < X.s0.length → X.M b) ∧ (X.s0.length ≤ r → X.w0.heap.size ≤ b)
structure Core (X : Ctx) (Z : Zt) (σ : List Value) (H : List O) (w : World) : Prop where
  h : HRel Z σ H w
  z : Zok Z w
  os : w.os = X.w0.os
  tape : w.tape = X.w0.tape
  output : w.output = X.w0.output
  size : X.w0.heap.size ≤ w.heap.size
  frame : ∀ b, b < X.w0.heap.size → ¬ X.M b → w.heap[b]? = X.w0.heap[b]?
  own : ∀ (r : Nat) o v b, H[r]? = some o → o.live = true → σ[r]? = some v → blk v = some b → OwnAt X r b
  z0 : Zle X.Z0 Z
  zc : ∀ b o v, Z.cell b o = some v → X.Z0.cell b o = some v ∨ X.w0.heap.size ≤ b
  zm : ∀ b es, Z.mp b = some es → X.Z0.mp b = some es ∨ X.w0.heap.size ≤ b
  pre : ∀ (r : Nat) v, X.s0[r]? = some v → σ[r]? = some v

theorem Zok.cellBlock {Z : Zt} {w : World} (h : Zok Z w) {b o : Nat} {v : Value} (hz : Z.cell b o = some v) : b < w.heap.size :=
  World.block_lt_of_cell? w _ (h.cell b o v hz)
theorem Zok.mpBlock {Z : Zt} {w : World} (h : Zok Z w) {b : Nat} {es : List MapEntry} (hz : Z.mp b = some es) : b < w.heap.size := by
  obtain ⟨c, hc⟩ := h.mp b es hz
  rcases Nat.lt_or_ge b w.heap.size with hl | hl
  · exact hl
  · rw [Array.getElem?_eq_none hl] at hc; cases hc
/-- The world turns in no block that is known to stay. -/
theorem Zok.keep {Z : Zt} {w w' : World} (h : Zok Z w) (hb : ∀ k, k < w.heap.size → ((∃ o v, Z.cell k o = some v) ∨ (∃ es, Z.mp k = some es)) → w'.heap[k]? = w.heap[k]?) : Zok Z w' := by
  refine ⟨h.zg, ?_, ?_, ?_⟩
  · obtain ⟨t, fr, ht⟩ := h.tab
    refine ⟨t, fr, (hb G0 ?_ (.inl ⟨0, _, h.zg.cell G0 0 (.int .u64 1) rfl⟩)).trans ht⟩
    rcases Nat.lt_or_ge G0 w.heap.size with hl | hl
    · exact hl
    · rw [Array.getElem?_eq_none hl] at ht; cases ht
  · intro b o v hz
    have hl := h.cellBlock hz
    rw [World.cell?_of_block (w := w) (hb b hl (.inl ⟨o, v, hz⟩))]
    exact h.cell b o v hz
  · intro b es hz
    have hl := h.mpBlock hz
    rw [hb b hl (.inr ⟨es, hz⟩)]
    exact h.mp b es hz

section
variable {X : Ctx} {Z : Zt} {σ : List Value} {H : List O} {w : World}

theorem Core.s0_le (hc : Core X Z σ H w) : X.s0.length ≤ H.length := by
  rcases Nat.lt_or_ge H.length X.s0.length with h | h
  · have h1 := hc.pre H.length _ (List.getElem?_eq_getElem h)
    have h2 := (List.getElem?_eq_some_iff.1 h1).1
    rw [hc.h.len] at h2; omega
  · exact h
theorem Core.blockLt (hc : Core X Z σ H w) {r : Nat} {o : O} {v : Value} {b : Nat} (ho : H[r]? = some o) (hl : o.live = true) (hv : σ[r]? = some v) (hb : blk v = some b) : b < w.heap.size := (hc.h.zsep r o v b ho hl hv hb).1

/-- The count of draws alone has turned. -/
theorem Core.drew (hc : Core X Z σ H w) : Core X Z σ H w.drew where
  h := ⟨hc.h.len, fun r o v ho hv => (hc.h.obj r o v ho hv).block (fun _ _ => rfl), hc.h.sep, hc.h.zsep⟩
  z := hc.z.keep (fun _ _ _ => rfl)
  os := hc.os
  tape := hc.tape
  output := hc.output
  size := hc.size
  frame := hc.frame
  own := hc.own
  z0 := hc.z0
  zc := hc.zc
  zm := hc.zm
  pre := hc.pre

theorem heap_push_old (w : World) (ob : Obj) {k : Nat} (h : k < w.heap.size) : (w.alloc ob).heap[k]? = w.heap[k]? := Go.RowKit.Below.heap_alloc w ob k h

/-- A new block that is nobody's object. -/
theorem Core.allocIdle (hc : Core X Z σ H w) (ob : Obj) : Core X Z σ H (w.alloc ob) where
  h := ⟨hc.h.len, fun r o v ho hv => by
      cases hl : o.live with
      | false => cases o <;> first | trivial | cases hl
      | true => exact (hc.h.obj r o v ho hv).block (fun b hb => heap_push_old w ob (hc.blockLt ho hl hv hb)), hc.h.sep,
    fun r o v b ho hl hv hb => ⟨by rw [World.size_alloc]; exact Nat.lt_succ_of_lt (hc.blockLt ho hl hv hb), (hc.h.zsep r o v b ho hl hv hb).2⟩⟩
  z := hc.z.keep (fun k hk _ => heap_push_old w ob hk)
  os := hc.os
  tape := hc.tape
  output := hc.output
  size := by rw [World.size_alloc]; exact Nat.le_succ_of_le hc.size
  frame := fun b hb hM => (heap_push_old w ob (Nat.lt_of_lt_of_le hb hc.size)).trans (hc.frame b hb hM)
  own := hc.own
  z0 := hc.z0
  zc := hc.zc
  zm := hc.zm
  pre := hc.pre

theorem get_snoc_lt {α : Type} {l : List α} {a : α} {r : Nat} {x : α} (h : (l ++ [a])[r]? = some x) : (r < l.length ∧ l[r]? = some x) ∨ (r = l.length ∧ x = a) := by
  rcases Nat.lt_trichotomy r l.length with hl | hl | hl
  · left; exact ⟨hl, by rwa [List.getElem?_append_left hl] at h⟩
  · right; subst hl; simp at h; exact ⟨rfl, h.symm⟩
  · rw [List.getElem?_append_right (by omega)] at h
    have : r - l.length = (r - l.length - 1) + 1 := by omega
    rw [this] at h; simp at h
theorem get_app {α : Type} {l m : List α} {r : Nat} {x : α} (h : l[r]? = some x) : (l ++ m)[r]? = some x := by
  have hl : r < l.length := (List.getElem?_eq_some_iff.1 h).1
  rw [List.getElem?_append_left hl]; exact h

/-- An object more, in a block that is nobody's. -/
theorem Core.adopt (hc : Core X Z σ H w) {o : O} {v : Value} (ho : ORel Z (σ ++ [v]) w o v)
    (hb : ∀ b, blk v = some b → b < w.heap.size ∧ (∀ i, Z.cell b i = none) ∧ Z.mp b = none ∧ X.w0.heap.size ≤ b ∧ (∀ (r : Nat) o' v', H[r]? = some o' → o'.live = true → σ[r]? = some v' → blk v' ≠ some b)) :
    Core X Z (σ ++ [v]) (H ++ [o]) w where
  h := ⟨by simp [hc.h.len], fun r o' v' hr hv => by
      rcases get_snoc_lt hr with ⟨hl, hr'⟩ | ⟨rfl, rfl⟩
      · have hl' : r < σ.length := by rw [hc.h.len]; exact hl
        rw [List.getElem?_append_left hl'] at hv
        exact (hc.h.obj r o' v' hr' hv).mono (Zle.refl Z) (fun _ _ h => get_app h)
      · rw [← hc.h.len] at hv; simp at hv; subst hv; exact ho,
    fun r r' o1 o2 v1 v2 b hne h1 h2 l1 l2 s1 s2 hb1 hb2 => by
      rcases get_snoc_lt h1 with ⟨a1, h1'⟩ | ⟨e1, x1⟩ <;> rcases get_snoc_lt h2 with ⟨a2, h2'⟩ | ⟨e2, x2⟩
      · rw [List.getElem?_append_left (by rw [hc.h.len]; exact a1)] at s1
        rw [List.getElem?_append_left (by rw [hc.h.len]; exact a2)] at s2
        exact hc.h.sep r r' o1 o2 v1 v2 b hne h1' h2' l1 l2 s1 s2 hb1 hb2
      · rw [List.getElem?_append_left (by rw [hc.h.len]; exact a1)] at s1
        rw [e2, ← hc.h.len] at s2; simp at s2; subst s2
        exact (hb b hb2).2.2.2.2 r o1 v1 h1' l1 s1 hb1
      · rw [List.getElem?_append_left (by rw [hc.h.len]; exact a2)] at s2
        rw [e1, ← hc.h.len] at s1; simp at s1; subst s1
        exact (hb b hb1).2.2.2.2 r' o2 v2 h2' l2 s2 hb2
      · omega,
    fun r o1 v1 b h1 l1 s1 hb1 => by
      rcases get_snoc_lt h1 with ⟨a1, h1'⟩ | ⟨e1, x1⟩
      · rw [List.getElem?_append_left (by rw [hc.h.len]; exact a1)] at s1
        exact hc.h.zsep r o1 v1 b h1' l1 s1 hb1
      · rw [e1, ← hc.h.len] at s1; simp at s1; subst s1
        obtain ⟨q1, q2, q3, _⟩ := hb b hb1
        exact ⟨q1, q2, q3⟩⟩
  z := hc.z
  os := hc.os
  tape := hc.tape
  output := hc.output
  size := hc.size
  frame := hc.frame
  own := fun r o1 v1 b h1 l1 s1 hb1 => by
    rcases get_snoc_lt h1 with ⟨a1, h1'⟩ | ⟨e1, x1⟩
    · rw [List.getElem?_append_left (by rw [hc.h.len]; exact a1)] at s1
      exact hc.own r o1 v1 b h1' l1 s1 hb1
    · rw [e1, ← hc.h.len] at s1; simp at s1; subst s1
      rw [e1]; exact ⟨fun q => absurd hc.s0_le (by omega), fun _ => (hb b hb1).2.2.2.1⟩
  z0 := hc.z0
  zc := hc.zc
  zm := hc.zm
  pre := fun r v h => get_app (hc.pre r v h)

theorem Core.fresh (hc : Core X Z σ H w) : (∀ i, Z.cell w.heap.size i = none) ∧ Z.mp w.heap.size = none := by
  constructor
  · intro i
    cases h : Z.cell w.heap.size i with
    | none => rfl
    | some v => exact absurd (hc.z.cellBlock h) (by omega)
  · cases h : Z.mp w.heap.size with
    | none => rfl
    | some v => exact absurd (hc.z.mpBlock h) (by omega)

/-- A new block that is an object. -/
theorem Core.alloc (hc : Core X Z σ H w) (ob : Obj) {o : O} {v : Value} (hb : blk v = some w.heap.size) (ho : ORel Z (σ ++ [v]) (w.alloc ob) o v) :
    Core X Z (σ ++ [v]) (H ++ [o]) (w.alloc ob) := by
  refine (hc.allocIdle ob).adopt ho ?_
  intro b hb'
  rw [hb] at hb'
  injection hb' with e
  subst e
  exact ⟨by simp, hc.fresh.1, hc.fresh.2, hc.size, fun r o' v' hr hl hv hbb => absurd (hc.blockLt hr hl hv hbb) (by omega)⟩

/-- What is known to stay, and a block more. -/
def Zt.add (Z : Zt) (b : Nat) (cs : List Value) : Zt := ⟨fun b' o => if b' = b then cs[o]? else Z.cell b' o, Z.mp⟩
theorem Zt.le_add {Z : Zt} {b : Nat} {cs : List Value} (h : ∀ i, Z.cell b i = none) : Zle Z (Z.add b cs) :=
  ⟨fun b' o v hv => by
    show (if b' = b then cs[o]? else Z.cell b' o) = some v
    by_cases e : b' = b
    · subst e; rw [h] at hv; cases hv
    · rw [if_neg e]; exact hv, fun _ _ h => h⟩
theorem Zt.add_at (Z : Zt) (b : Nat) (cs : List Value) (o : Nat) : (Z.add b cs).cell b o = cs[o]? := by simp [Zt.add]
def Zt.addMp (Z : Zt) (b : Nat) (es : List MapEntry) : Zt := ⟨Z.cell, fun b' => if b' = b then some es else Z.mp b'⟩
theorem Zt.le_addMp {Z : Zt} {b : Nat} {es : List MapEntry} (h : Z.mp b = none) : Zle Z (Z.addMp b es) :=
  ⟨fun _ _ _ h => h, fun b' es' hv => by
    show (if b' = b then some es else Z.mp b') = some es'
    by_cases e : b' = b
    · subst e; rw [h] at hv; cases hv
    · rw [if_neg e]; exact hv⟩

/-- A new block of cells that stay as they are. -/
theorem Core.allocZ (hc : Core X Z σ H w) (carr : Array Value) (t : TypeId) : Core X (Z.add w.heap.size carr.toList) σ H (w.alloc (.cells carr t)) := by
  have hle : Zle Z (Z.add w.heap.size carr.toList) := Zt.le_add hc.fresh.1
  have hi := hc.allocIdle (.cells carr t)
  refine ⟨⟨hi.h.len, fun r o v ho hv => (hi.h.obj r o v ho hv).mono hle (fun _ _ h => h), hi.h.sep, fun r o v b ho hl hv hb => ?_⟩, ⟨hi.z.zg.trans hle, hi.z.tab, ?_, hi.z.mp⟩, hi.os, hi.tape, hi.output, hi.size, hi.frame, hi.own, hi.z0.trans hle, ?_, hi.zm, hi.pre⟩
  · obtain ⟨q1, q2, q3⟩ := hi.h.zsep r o v b ho hl hv hb
    refine ⟨q1, fun i => ?_, q3⟩
    have hne : b ≠ w.heap.size := Nat.ne_of_lt (hc.blockLt ho hl hv hb)
    show (if b = w.heap.size then carr.toList[i]? else Z.cell b i) = none
    rw [if_neg hne]; exact q2 i
  · intro b o v hv
    by_cases e : b = w.heap.size
    · subst e
      rw [Zt.add_at] at hv
      rw [World.cell?_alloc_new]; simpa using hv
    · have hv' : Z.cell b o = some v := by
        have : (if b = w.heap.size then carr.toList[o]? else Z.cell b o) = some v := hv
        rwa [if_neg e] at this
      exact hi.z.cell b o v hv'
  · intro b o v hv
    by_cases e : b = w.heap.size
    · subst e; exact .inr hc.size
    · have hv' : Z.cell b o = some v := by
        have : (if b = w.heap.size then carr.toList[o]? else Z.cell b o) = some v := hv
        rwa [if_neg e] at this
      exact hc.zc b o v hv'

/-- An object's own block is written. -/
theorem Core.write (hc : Core X Z σ H w) {r : Nat} {o o' : O} {v : Value} {b : Nat} (hr : H[r]? = some o) (hl : o.live = true) (hv : σ[r]? = some v) (hb : blk v = some b)
    {w' : World} (e1 : w'.os = w.os) (e2 : w'.tape = w.tape) (e3 : w'.output = w.output) (e4 : w'.heap.size = w.heap.size) (e5 : ∀ k, k ≠ b → w'.heap[k]? = w.heap[k]?)
    (hl' : o'.live = true) (ho : ORel Z σ w' o' v) : Core X Z σ (H.set r o') w' := by
  have hrl : r < H.length := (List.getElem?_eq_some_iff.1 hr).1
  have get : ∀ {k : Nat} {x : O}, (H.set r o')[k]? = some x → (k = r ∧ x = o') ∨ (k ≠ r ∧ H[k]? = some x) := by
    intro k x hk
    by_cases e : k = r
    · subst e; rw [List.getElem?_set_self hrl] at hk; injection hk with hk; exact .inl ⟨rfl, hk.symm⟩
    · rw [List.getElem?_set_ne (Ne.symm e)] at hk; exact .inr ⟨e, hk⟩
  have hzs := hc.h.zsep r o v b hr hl hv hb
  refine ⟨⟨by simp [hc.h.len], fun k x u hk hu => ?_, fun k k' x x' u u' bb hne hk hk' l1 l2 su su' hb1 hb2 => ?_, fun k x u bb hk hx hu hbb => ?_⟩, hc.z.keep (fun k hk hz => e5 k ?_), e1.trans hc.os, e2.trans hc.tape, e3.trans hc.output, by rw [e4]; exact hc.size, fun k hk hM => ?_, fun k x u bb hk hx hu hbb => ?_, hc.z0, hc.zc, hc.zm, hc.pre⟩
  · rcases get hk with ⟨rfl, rfl⟩ | ⟨hne, hk⟩
    · rw [hv] at hu; injection hu with hu; subst hu; exact ho
    · cases hx : x.live with
      | false => cases x <;> first | trivial | cases hx
      | true =>
        refine (hc.h.obj k x u hk hu).block fun bb hbb => e5 bb fun e => ?_
        subst e
        exact hc.h.sep k r x o u v bb hne hk hr hx hl hu hv hbb hb
  · rcases get hk with ⟨rfl, rfl⟩ | ⟨n1, hj⟩ <;> rcases get hk' with ⟨rfl, rfl⟩ | ⟨n2, hj'⟩
    · exact hne rfl
    · exact hc.h.sep k k' o x' u u' bb hne hr hj' hl l2 su su' hb1 hb2
    · exact hc.h.sep k k' x o u u' bb hne hj hr l1 hl su su' hb1 hb2
    · exact hc.h.sep k k' x x' u u' bb hne hj hj' l1 l2 su su' hb1 hb2
  · rcases get hk with ⟨rfl, rfl⟩ | ⟨hne, hk⟩
    · obtain ⟨q1, q2, q3⟩ := hc.h.zsep k o u bb hr hl hu hbb
      exact ⟨by rw [e4]; exact q1, q2, q3⟩
    · obtain ⟨q1, q2, q3⟩ := hc.h.zsep k x u bb hk hx hu hbb
      exact ⟨by rw [e4]; exact q1, q2, q3⟩
  · rintro rfl
    rcases hz with ⟨oo, vv, hz⟩ | ⟨es, hz⟩
    · rw [hzs.2.1] at hz; cases hz
    · rw [hzs.2.2] at hz; cases hz
  · obtain ⟨q1, q2⟩ := hc.own r o v b hr hl hv hb
    rcases Nat.lt_or_ge r X.s0.length with q | q
    · rw [e5 k (fun e => hM (e ▸ q1 q))]; exact hc.frame k hk hM
    · have := q2 q; rw [e5 k (by omega)]; exact hc.frame k hk hM
  · rcases get hk with ⟨rfl, rfl⟩ | ⟨hne, hk⟩
    · exact hc.own k o u bb hr hl hu hbb
    · exact hc.own k x u bb hk hx hu hbb

/-- An object is let go. -/
theorem Core.kill (hc : Core X Z σ H w) (r : Nat) : Core X Z σ (H.set r .dead) w := by
  have get : ∀ {k : Nat} {x : O}, (H.set r .dead)[k]? = some x → x = .dead ∨ H[k]? = some x := by
    intro k x hk
    by_cases e : k = r
    · subst e
      have hrl : k < H.length := by have := (List.getElem?_eq_some_iff.1 hk).1; simpa using this
      rw [List.getElem?_set_self hrl] at hk; injection hk with hk; exact .inl hk.symm
    · rw [List.getElem?_set_ne (Ne.symm e)] at hk; exact .inr hk
  refine ⟨⟨by simp [hc.h.len], fun k x u hk hu => ?_, fun k k' x x' u u' bb hne hk hk' l1 l2 su su' hb1 hb2 => ?_, fun k x u bb hk hx hu hbb => ?_⟩, hc.z, hc.os, hc.tape, hc.output, hc.size, hc.frame, fun k x u bb hk hx hu hbb => ?_, hc.z0, hc.zc, hc.zm, hc.pre⟩
  · rcases get hk with rfl | hk
    · trivial
    · exact hc.h.obj k x u hk hu
  · rcases get hk with rfl | hk
    · cases l1
    · rcases get hk' with rfl | hk'
      · cases l2
      · exact hc.h.sep k k' x x' u u' bb hne hk hk' l1 l2 su su' hb1 hb2
  · rcases get hk with rfl | hk
    · cases hx
    · exact hc.h.zsep k x u bb hk hx hu hbb
  · rcases get hk with rfl | hk
    · cases hx
    · exact hc.own k x u bb hk hx hu hbb

/-! ### The last objects let go -/
def C.cut (n : Nat) : C → C
  | .row r => if r < n then .row r else .dead
  | .ptr r o => if r < n then .ptr r o else .dead
  | .mp r => if r < n then .mp r else .dead
  | .fn f caps => if caps.all (· < n) then .fn f caps else .dead
  | c => c
def V.cut (n : Nat) : V → V
  | .c x => .c (x.cut n)
  | .agg cs => .agg (cs.map (C.cut n))
  | .tup _ => .dead
  | .dead => .dead
def O.cut (n : Nat) : O → O
  | .box cs => .box (cs.map (C.cut n))
  | .row t sz k es => .row t sz k (es.map (C.cut n))
  | o => o
theorem take_get {n r : Nat} {v : Value} (hr : r < n) (h : σ[r]? = some v) : (σ.take n)[r]? = some v := by rw [List.getElem?_take, if_pos hr]; exact h
theorem CRel.cut (n : Nat) {c : C} {v : Value} (h : CRel Z σ c v) : CRel Z (σ.take n) (c.cut n) v := by
  have h1 := h.one
  cases h with
  | d h => exact .d h
  | nilS => exact .nilS
  | row h => simp only [C.cut]; split <;> first | exact .row (take_get ‹_› h) | exact .dead h1
  | ptr h hb => simp only [C.cut]; split <;> first | exact .ptr (take_get ‹_› h) hb | exact .dead h1
  | cptr h => exact .cptr h
  | mp h => simp only [C.cut]; split <;> first | exact .mp (take_get ‹_› h) | exact .dead h1
  | fn h =>
    rename_i f caps vs
    simp only [C.cut]; split
    · rename_i hall
      refine .fn (All2.of_get h.length fun i r v hr hv => ?_)
      obtain ⟨b, hb, e⟩ := h.get2 hr hv
      have hm := List.mem_of_getElem? hr
      have := List.all_eq_true.1 hall r hm
      exact ⟨b, take_get (by simpa using this) hb, e⟩
    · exact .dead h1
  | ifc h => exact .ifc h
  | nilI => exact .nilI
  | dead h => exact .dead h
theorem VRel.cut (n : Nat) {x : V} {v : Value} (h : VRel Z σ x v) : VRel Z (σ.take n) (x.cut n) v := by
  cases h with
  | c h => exact .c (h.cut n)
  | agg h => exact .agg (All2.map_left (h.mono fun _ _ r => r.cut n))
  | tup hl h => exact .dead
  | dead => exact .dead
theorem ORel.cut (n : Nat) {o : O} {v : Value} (h : ORel Z σ w o v) : ORel Z (σ.take n) w (o.cut n) v := by
  cases o with
  | box cs => obtain ⟨b, carr, t, h1, h2, h3⟩ := h; exact ⟨b, carr, t, h1, h2, All2.map_left (h3.mono fun _ _ r => r.cut n)⟩
  | row t sz k es => obtain ⟨a, c, vals, h1, h0, h2, h3⟩ := h; exact ⟨a, c, vals, h1, h0, h2, All2.map_left (h3.mono fun _ _ r => r.cut n)⟩
  | mp es => exact h
  | dead => trivial
theorem O.live_cut (n : Nat) (o : O) : (o.cut n).live = o.live := by cases o <;> rfl
theorem Core.take (hc : Core X Z σ H w) (n : Nat) (hn : X.s0.length ≤ n) : Core X Z (σ.take n) ((H.take n).map (O.cut n)) w := by
  have gh : ∀ {k : Nat} {x : O}, ((H.take n).map (O.cut n))[k]? = some x → ∃ y, x = y.cut n ∧ H[k]? = some y := by
    intro k x hk
    rw [List.getElem?_map, List.getElem?_take] at hk; split at hk
    · cases hy : H[k]? with
      | none => rw [hy] at hk; cases hk
      | some y => rw [hy] at hk; injection hk with hk; exact ⟨y, hk.symm, rfl⟩
    · cases hk
  have gs : ∀ {k : Nat} {x : Value}, (σ.take n)[k]? = some x → σ[k]? = some x := by
    intro k x hk
    rw [List.getElem?_take] at hk; split at hk
    · exact hk
    · cases hk
  refine ⟨⟨by simp [hc.h.len], fun k x u hk hu => ?_, fun k k' x x' u u' bb hne hk hk' l1 l2 su su' hb1 hb2 => ?_, fun k x u bb hk hx hu hbb => ?_⟩, hc.z, hc.os, hc.tape, hc.output, hc.size, hc.frame, fun k x u bb hk hx hu hbb => ?_, hc.z0, hc.zc, hc.zm, fun r v hr => ?_⟩
  · obtain ⟨y, rfl, hy⟩ := gh hk
    exact (hc.h.obj k y u hy (gs hu)).cut n
  · obtain ⟨y, rfl, hy⟩ := gh hk
    obtain ⟨y', rfl, hy'⟩ := gh hk'
    rw [O.live_cut] at l1 l2
    exact hc.h.sep k k' y y' u u' bb hne hy hy' l1 l2 (gs su) (gs su') hb1 hb2
  · obtain ⟨y, rfl, hy⟩ := gh hk
    rw [O.live_cut] at hx
    exact hc.h.zsep k y u bb hy hx (gs hu) hbb
  · obtain ⟨y, rfl, hy⟩ := gh hk
    rw [O.live_cut] at hx
    exact hc.own k y u bb hy hx (gs hu) hbb
  · have hrl : r < X.s0.length := (List.getElem?_eq_some_iff.1 hr).1
    exact take_get (by omega) (hc.pre r v hr)

/-! ### An object sealed: what it holds stays as it is -/
/-- A row's block is known to stay; the row is let go. -/
theorem Core.sealCells (hc : Core X Z σ H w) {r b : Nat} {o : O} {v : Value} {carr : Array Value} {t : TypeId} (hr : H[r]? = some o) (hl : o.live = true) (hv : σ[r]? = some v) (hb : blk v = some b) (hh : w.heap[b]? = some (.cells carr t (0, 0))) (hM : X.w0.heap.size ≤ b) :
    Core X (Z.add b carr.toList) σ (H.set r .dead) w := by
  have hzs := hc.h.zsep r o v b hr hl hv hb
  have hle : Zle Z (Z.add b carr.toList) := Zt.le_add hzs.2.1
  have hk := hc.kill r
  refine ⟨⟨hk.h.len, fun k x u hk' hu => (hk.h.obj k x u hk' hu).mono hle (fun _ _ h => h), hk.h.sep, fun k x u bb hk' hx hu hbb => ?_⟩, ⟨hk.z.zg.trans hle, hk.z.tab, ?_, hk.z.mp⟩, hk.os, hk.tape, hk.output, hk.size, hk.frame, hk.own, hk.z0.trans hle, ?_, hk.zm, hk.pre⟩
  · obtain ⟨q1, q2, q3⟩ := hk.h.zsep k x u bb hk' hx hu hbb
    refine ⟨q1, fun i => ?_, q3⟩
    have hne : bb ≠ b := by
      rintro rfl
      by_cases e : k = r
      · subst e
        have hrl : k < H.length := by have := (List.getElem?_eq_some_iff.1 hk').1; simpa using this
        rw [List.getElem?_set_self hrl] at hk'; injection hk' with hk'; subst hk'; cases hx
      · rw [List.getElem?_set_ne (Ne.symm e)] at hk'
        exact hc.h.sep k r x o u v bb e hk' hr hx hl hu hv hbb hb
    show (if bb = b then carr.toList[i]? else Z.cell bb i) = none
    rw [if_neg hne]; exact q2 i
  · intro b' o' v' hv'
    by_cases e : b' = b
    · subst e
      rw [Zt.add_at] at hv'
      simp only [World.cell?, hh]; simpa using hv'
    · have : (if b' = b then carr.toList[o']? else Z.cell b' o') = some v' := hv'
      rw [if_neg e] at this
      exact hk.z.cell b' o' v' this
  · intro b' o' v' hv'
    by_cases e : b' = b
    · subst e; exact .inr hM
    · have : (if b' = b then carr.toList[o']? else Z.cell b' o') = some v' := hv'
      rw [if_neg e] at this
      exact hk.zc b' o' v' this

/-- A map is known to stay; the object is let go. -/
theorem Core.sealMap (hc : Core X Z σ H w) {r b clock : Nat} {o : O} {v : Value} {ents : Array MapEntry} (hr : H[r]? = some o) (hl : o.live = true) (hv : σ[r]? = some v) (hb : blk v = some b) (hh : w.heap[b]? = some (.map ents clock)) (hM : X.w0.heap.size ≤ b) :
    Core X (Z.addMp b ents.toList) σ (H.set r .dead) w := by
  have hzs := hc.h.zsep r o v b hr hl hv hb
  have hle : Zle Z (Z.addMp b ents.toList) := Zt.le_addMp hzs.2.2
  have hk := hc.kill r
  refine ⟨⟨hk.h.len, fun k x u hk' hu => (hk.h.obj k x u hk' hu).mono hle (fun _ _ h => h), hk.h.sep, fun k x u bb hk' hx hu hbb => ?_⟩, ⟨hk.z.zg.trans hle, hk.z.tab, hk.z.cell, ?_⟩, hk.os, hk.tape, hk.output, hk.size, hk.frame, hk.own, hk.z0.trans hle, hk.zc, ?_, hk.pre⟩
  · obtain ⟨q1, q2, q3⟩ := hk.h.zsep k x u bb hk' hx hu hbb
    refine ⟨q1, q2, ?_⟩
    have hne : bb ≠ b := by
      rintro rfl
      by_cases e : k = r
      · subst e
        have hrl : k < H.length := by have := (List.getElem?_eq_some_iff.1 hk').1; simpa using this
        rw [List.getElem?_set_self hrl] at hk'; injection hk' with hk'; subst hk'; cases hx
      · rw [List.getElem?_set_ne (Ne.symm e)] at hk'
        exact hc.h.sep k r x o u v bb e hk' hr hx hl hu hv hbb hb
    show (if bb = b then some ents.toList else Z.mp bb) = none
    rw [if_neg hne]; exact q3
  · intro b' es' hv'
    by_cases e : b' = b
    · subst e
      have : (if b' = b' then some ents.toList else Z.mp b') = some es' := hv'
      rw [if_pos rfl] at this; injection this with this; subst this
      exact ⟨clock, by simpa using hh⟩
    · have : (if b' = b then some ents.toList else Z.mp b') = some es' := hv'
      rw [if_neg e] at this
      exact hk.z.mp b' es' this
  · intro b' es' hv'
    by_cases e : b' = b
    · subst e; exact .inr hM
    · have : (if b' = b then some ents.toList else Z.mp b') = some es' := hv'
      rw [if_neg e] at this
      exact hk.zm b' es' this

end
end Go.Proofs.YtmkacifjegnehaaDoor.Ab
