/-
  THE ABSTRACT STATE OVER A GO PROGRAM's MEMORY: pure data (D), one-cell values (C), values in temporaries (V), objects of the frame's own (O); and how they stand for the model's values and blocks. No program is named.
-/
import Derived.WalkKit
import Derived.Maps.AppendAt
import Derived.Deep.LoopGhost
import Derived.OrdersHeld
namespace Go.Proofs.YtmkacifjegnehaaDoor.Ab
open Go

/-! ### Two lists, entry by entry -/
inductive All2 {α β : Type} (R : α → β → Prop) : List α → List β → Prop
  | nil : All2 R [] []
  | cons {a : α} {b : β} {l : List α} {m : List β} : R a b → All2 R l m → All2 R (a :: l) (b :: m)
namespace All2
variable {α β : Type} {R S : α → β → Prop}
theorem length {l : List α} {m : List β} (h : All2 R l m) : l.length = m.length := by
  induction h with
  | nil => rfl
  | cons _ _ ih => simp [ih]
theorem mono {l : List α} {m : List β} (h : All2 R l m) (k : ∀ a b, R a b → S a b) : All2 S l m := by
  induction h with
  | nil => exact .nil
  | cons r _ ih => exact .cons (k _ _ r) ih
theorem get {l : List α} {m : List β} (h : All2 R l m) : ∀ {i : Nat} {a : α}, l[i]? = some a → ∃ b, m[i]? = some b ∧ R a b := by
  induction h with
  | nil => intro i a hi; simp at hi
  | cons r _ ih =>
    intro i a hi
    cases i with
    | zero => simp at hi; subst hi; exact ⟨_, by simp, r⟩
    | succ i => simp at hi; obtain ⟨b, hb, hr⟩ := ih hi; exact ⟨b, by simpa using hb, hr⟩
theorem get2 {l : List α} {m : List β} (h : All2 R l m) {i : Nat} {a : α} {b : β} (ha : l[i]? = some a) (hb : m[i]? = some b) : R a b := by
  obtain ⟨b', hb', hr⟩ := h.get ha
  rw [hb] at hb'
  injection hb' with e
  exact e ▸ hr
theorem append {l l' : List α} {m m' : List β} (h : All2 R l m) (k : All2 R l' m') : All2 R (l ++ l') (m ++ m') := by
  induction h with
  | nil => exact k
  | cons r _ ih => exact .cons r ih
theorem take {l : List α} {m : List β} (h : All2 R l m) (n : Nat) : All2 R (l.take n) (m.take n) := by
  induction h generalizing n with
  | nil => simp; exact .nil
  | cons r _ ih => cases n with
    | zero => simp; exact .nil
    | succ n => simpa using .cons r (ih n)
theorem drop {l : List α} {m : List β} (h : All2 R l m) (n : Nat) : All2 R (l.drop n) (m.drop n) := by
  induction h generalizing n with
  | nil => simp; exact .nil
  | cons r t ih => cases n with
    | zero => simpa using .cons r t
    | succ n => simpa using ih n
theorem set {l : List α} {m : List β} (h : All2 R l m) (n : Nat) {a : α} {b : β} (r : R a b) : All2 R (l.set n a) (m.set n b) := by
  induction h generalizing n with
  | nil => simp; exact .nil
  | cons r' t ih => cases n with
    | zero => simpa using .cons r t
    | succ n => simpa using .cons r' (ih n)
theorem of_get {l : List α} {m : List β} (hl : l.length = m.length) (h : ∀ (i : Nat) a b, l[i]? = some a → m[i]? = some b → R a b) : All2 R l m := by
  induction l generalizing m with
  | nil => cases m with
    | nil => exact .nil
    | cons b m => simp at hl
  | cons a l ih => cases m with
    | nil => simp at hl
    | cons b m =>
      refine .cons (h 0 a b (by simp) (by simp)) (ih (by simpa using hl) fun i x y hx hy => h (i + 1) x y (by simpa using hx) (by simpa using hy))
theorem map_left {γ : Type} {f : γ → α} {l : List γ} {m : List β} (h : All2 (fun c b => R (f c) b) l m) : All2 R (l.map f) m := by
  induction h with
  | nil => exact .nil
  | cons r _ ih => exact .cons r ih
theorem of_map_left {γ : Type} {f : γ → α} {l : List γ} {m : List β} (h : All2 R (l.map f) m) : All2 (fun c b => R (f c) b) l m := by
  induction l generalizing m with
  | nil => cases h; exact .nil
  | cons c l ih => cases h with | cons r t => exact .cons r (ih t)
end All2

/-! ### Pure data -/
inductive D where
  | int (k : IntKind) (n : Int)
  | bo (b : Bool)
  | str (l : List UInt8)
  | sl (xs : List (List D))
  | fm (es : List (List UInt8 × Bool × List D))
instance : Inhabited D := ⟨.bo false⟩
def Sv (l : List UInt8) : Value := .string ⟨l.toArray⟩
/-- What is known to stay as it is: cells, maps. -/
structure Zt where
  cell : Nat → Nat → Option Value
  mp : Nat → Option (List MapEntry)
structure Zle (Z Z' : Zt) : Prop where
  cell : ∀ b o v, Z.cell b o = some v → Z'.cell b o = some v
  mp : ∀ b es, Z.mp b = some es → Z'.mp b = some es
theorem Zle.refl (Z : Zt) : Zle Z Z := ⟨fun _ _ _ h => h, fun _ _ h => h⟩
theorem Zle.trans {Z Z' Z'' : Zt} (h : Zle Z Z') (k : Zle Z' Z'') : Zle Z Z'' := ⟨fun _ _ _ x => k.cell _ _ _ (h.cell _ _ _ x), fun _ _ x => k.mp _ _ (h.mp _ _ x)⟩
/-- A map's element, as one value: several cells, or one. -/
def Packs (ag : Bool) (n : Nat) (v : Value) : Prop := if ag then ∃ cs : Array Value, v = .agg cs ∧ cs.size = n else v.oneCell' = true ∧ n = 1
inductive DRel (Z : Zt) : D → Value → Prop
  | int (k : IntKind) (n : Int) : DRel Z (.int k n) (.int k n)
  | bo (b : Bool) : DRel Z (.bo b) (.bool b)
  | str (l : List UInt8) : DRel Z (.str l) (Sv l)
  | sl (xs : List (List D)) (a : Option Addr) (n c b o sz : Nat) (hn : n = xs.length) (hc : n ≤ c) (hm : c ≤ maxLen) (ha : xs ≠ [] → a = some ⟨b, o, none⟩)
      (hs : ∀ (i : Nat) (x : List D), xs[i]? = some x → x.length = sz)
      (hz : ∀ (i j : Nat) (x : List D) (d : D), xs[i]? = some x → x[j]? = some d → ∃ v, Z.cell b (o + i * sz + j) = some v)
      (hd : ∀ (i j : Nat) (x : List D) (d : D) (v : Value), xs[i]? = some x → x[j]? = some d → Z.cell b (o + i * sz + j) = some v → DRel Z d v) : DRel Z (.sl xs) (.slice a n c)
  | fm0 : DRel Z (.fm []) (.map none)
  | fm (es : List (List UInt8 × Bool × List D)) (b : Nat) (ents : List MapEntry) (hz : Z.mp b = some ents) (hl : es.length = ents.length)
      (hk : ∀ (i : Nat) (e : List UInt8 × Bool × List D) (m : MapEntry), es[i]? = some e → ents[i]? = some m → m.key = Sv e.1 ∧ Packs e.2.1 e.2.2.length m.val)
      (hd : ∀ (i : Nat) (e : List UInt8 × Bool × List D) (m : MapEntry) (j : Nat) (d : D) (v : Value), es[i]? = some e → ents[i]? = some m → e.2.2[j]? = some d → m.val.cells[j]? = some v → DRel Z d v) : DRel Z (.fm es) (.map (some b))
theorem DRel.mono {Z Z' : Zt} (hz : Zle Z Z') {d : D} {v : Value} (h : DRel Z d v) : DRel Z' d v := by
  induction h with
  | int k n => exact .int k n
  | bo b => exact .bo b
  | str l => exact .str l
  | sl xs a n c b o sz hn hc hm ha hs h1 h2 ih =>
    refine .sl xs a n c b o sz hn hc hm ha hs (fun i j x d hx hd => ?_) (fun i j x d v hx hd hv => ?_)
    · obtain ⟨v, hv⟩ := h1 i j x d hx hd; exact ⟨v, hz.cell _ _ _ hv⟩
    · obtain ⟨v', hv'⟩ := h1 i j x d hx hd
      have e := hz.cell _ _ _ hv'
      rw [hv] at e; injection e with e; subst e
      exact ih i j x d v hx hd hv'
  | fm0 => exact .fm0
  | fm es b ents h1 hl hk hd ih => exact .fm es b ents (hz.mp _ _ h1) hl hk ih
theorem DRel.one {Z : Zt} {d : D} {v : Value} (h : DRel Z d v) : v.oneCell' = true := by cases h <;> rfl

/-! ### One-cell values: data, or what points to an object of the frame -/
inductive C where
  | d (x : D)
  | nilS
  | row (r : Nat)
  | ptr (r off : Nat)
  | cptr (cs : List D)
  | mp (r : Nat)
  | fn (f : Nat) (caps : List Nat)
  | ifc (t : Nat) (cs : List D)
  | nilI
  | dead
instance : Inhabited C := ⟨.dead⟩
def blk : Value → Option Nat
  | .pointer (some a) => some a.block
  | .slice (some a) _ _ => some a.block
  | .map (some b) => some b
  | _ => none
inductive CRel (Z : Zt) (σ : List Value) : C → Value → Prop
  | d {x : D} {v : Value} (h : DRel Z x v) : CRel Z σ (.d x) v
  | nilS : CRel Z σ .nilS (.slice none 0 0)
  | row {r : Nat} {a : Option Addr} {n c : Nat} (h : σ[r]? = some (.slice a n c)) : CRel Z σ (.row r) (.slice a n c)
  | ptr {r off b : Nat} {p : Value} (h : σ[r]? = some p) (hb : blk p = some b) : CRel Z σ (.ptr r off) (.pointer (some ⟨b, off, none⟩))
  | cptr {cs : List D} {b o : Nat} (hz : ∀ (j : Nat) d, cs[j]? = some d → ∃ v, Z.cell b (o + j) = some v ∧ DRel Z d v) : CRel Z σ (.cptr cs) (.pointer (some ⟨b, o, none⟩))
  | mp {r b : Nat} (h : σ[r]? = some (.map (some b))) : CRel Z σ (.mp r) (.map (some b))
  | fn {f : Nat} {caps : List Nat} {vs : Array Value} (h : All2 (fun r v => ∃ b, σ[r]? = some (.pointer (some ⟨b, 0, none⟩)) ∧ v = .pointer (some ⟨b, 0, none⟩)) caps vs.toList) : CRel Z σ (.fn f caps) (.func (.func f) #[] vs)
  | ifc {t : Nat} {cs : List D} {vs : Array Value} (h : All2 (DRel Z) cs vs.toList) : CRel Z σ (.ifc t cs) (.iface t (.agg vs))
  | nilI : CRel Z σ .nilI .nilIface
  | dead {v : Value} (h : v.oneCell' = true) : CRel Z σ .dead v
theorem CRel.one {Z : Zt} {σ : List Value} {c : C} {v : Value} (h : CRel Z σ c v) : v.oneCell' = true := by
  cases h <;> first | rfl | (rename_i h; exact h.one) | assumption
theorem CRel.monoZ {Z Z' : Zt} {σ : List Value} (hz : Zle Z Z') {c : C} {v : Value} (h : CRel Z σ c v) : CRel Z' σ c v := by
  cases h with
  | d h => exact .d (h.mono hz)
  | nilS => exact .nilS
  | row h => exact .row h
  | ptr h hb => exact .ptr h hb
  | cptr h => exact .cptr fun j d hd => by obtain ⟨v, hv, hr⟩ := h j d hd; exact ⟨v, hz.cell _ _ _ hv, hr.mono hz⟩
  | mp h => exact .mp h
  | fn h => exact .fn h
  | ifc h => exact .ifc (h.mono fun _ _ r => r.mono hz)
  | nilI => exact .nilI
  | dead h => exact .dead h
theorem CRel.monoS {Z : Zt} {σ σ' : List Value} (hs : ∀ (r : Nat) v, σ[r]? = some v → σ'[r]? = some v) {c : C} {v : Value} (h : CRel Z σ c v) : CRel Z σ' c v := by
  cases h with
  | d h => exact .d h
  | nilS => exact .nilS
  | row h => exact .row (hs _ _ h)
  | ptr h hb => exact .ptr (hs _ _ h) hb
  | cptr h => exact .cptr h
  | mp h => exact .mp (hs _ _ h)
  | fn h => exact .fn (h.mono fun _ _ ⟨b, hb, e⟩ => ⟨b, hs _ _ hb, e⟩)
  | ifc h => exact .ifc h
  | nilI => exact .nilI
  | dead h => exact .dead h

/-! ### Values in temporaries -/
inductive V where
  | c (x : C)
  | agg (cs : List C)
  | tup (vs : List V)
  | dead
instance : Inhabited V := ⟨.dead⟩
inductive VRel (Z : Zt) (σ : List Value) : V → Value → Prop
  | c {x : C} {v : Value} (h : CRel Z σ x v) : VRel Z σ (.c x) v
  | agg {cs : List C} {vs : Array Value} (h : All2 (CRel Z σ) cs vs.toList) : VRel Z σ (.agg cs) (.agg vs)
  | tup {xs : List V} {vs : Array Value} (hl : xs.length = vs.size) (h : ∀ (i : Nat) x v, xs[i]? = some x → vs[i]? = some v → VRel Z σ x v) : VRel Z σ (.tup xs) (.tuple vs)
  | dead {v : Value} : VRel Z σ .dead v
theorem VRel.mono {Z Z' : Zt} {σ σ' : List Value} (hz : Zle Z Z') (hs : ∀ (r : Nat) v, σ[r]? = some v → σ'[r]? = some v) {x : V} {v : Value} (h : VRel Z σ x v) : VRel Z' σ' x v := by
  induction h with
  | c h => exact .c ((h.monoZ hz).monoS hs)
  | agg h => exact .agg (h.mono fun _ _ r => (r.monoZ hz).monoS hs)
  | tup hl _ ih => exact .tup hl ih
  | dead => exact .dead

/-! ### Objects -/
inductive O where
  | box (cs : List C)
  | row (t sz n : Nat) (es : List C)
  | mp (es : List (List UInt8 × Bool × List D))
  | dead
instance : Inhabited O := ⟨.dead⟩
def O.live : O → Bool
  | .dead => false
  | _ => true
def MapRel (Z : Zt) (es : List (List UInt8 × Bool × List D)) (ents : List MapEntry) : Prop :=
  All2 (fun e m => m.key = Sv e.1 ∧ Packs e.2.1 e.2.2.length m.val ∧ All2 (DRel Z) e.2.2 m.val.cells.toList) es ents
theorem MapRel.mono {Z Z' : Zt} (hz : Zle Z Z') {es : List (List UInt8 × Bool × List D)} {ents : List MapEntry} (h : MapRel Z es ents) : MapRel Z' es ents :=
  All2.mono h fun _ _ ⟨h1, h2, h3⟩ => ⟨h1, h2, h3.mono fun _ _ r => r.mono hz⟩
def ORel (Z : Zt) (σ : List Value) (w : World) : O → Value → Prop
  | .box cs, v => ∃ b carr t, v = .pointer (some ⟨b, 0, none⟩) ∧ w.heap[b]? = some (.cells carr t (0, 0)) ∧ All2 (CRel Z σ) cs carr.toList
  | .row t sz n es, v => ∃ a c vals, v = .slice a n c ∧ 0 < sz ∧ w.ownsRow 0 t sz v n vals ∧ All2 (CRel Z σ) es vals
  | .mp es, v => ∃ b ents clock, v = .map (some b) ∧ w.heap[b]? = some (.map ents clock) ∧ MapRel Z es ents.toList
  | .dead, _ => True
theorem ORel.mono {Z Z' : Zt} {σ σ' : List Value} {w : World} (hz : Zle Z Z') (hs : ∀ (r : Nat) v, σ[r]? = some v → σ'[r]? = some v) {o : O} {v : Value} (h : ORel Z σ w o v) : ORel Z' σ' w o v := by
  cases o with
  | box cs => obtain ⟨b, carr, t, h1, h2, h3⟩ := h; exact ⟨b, carr, t, h1, h2, h3.mono fun _ _ r => (r.monoZ hz).monoS hs⟩
  | row t sz n es => obtain ⟨a, c, vals, h1, h0, h2, h3⟩ := h; exact ⟨a, c, vals, h1, h0, h2, h3.mono fun _ _ r => (r.monoZ hz).monoS hs⟩
  | mp es => obtain ⟨b, ents, clock, h1, h2, h3⟩ := h; exact ⟨b, ents, clock, h1, h2, h3.mono hz⟩
  | dead => trivial
/-- The object is read off its own block alone. -/
theorem ORel.block {Z : Zt} {σ : List Value} {w w' : World} {o : O} {v : Value} (h : ORel Z σ w o v) (hb : ∀ b, blk v = some b → w'.heap[b]? = w.heap[b]?) : ORel Z σ w' o v := by
  cases o with
  | box cs => obtain ⟨b, carr, t, rfl, h2, h3⟩ := h; exact ⟨b, carr, t, rfl, by rw [hb b rfl]; exact h2, h3⟩
  | row t sz n es =>
    obtain ⟨a, c, vals, rfl, h0, ⟨h2, h3⟩, h4⟩ := h
    refine ⟨a, c, vals, rfl, h0, ⟨h2, ?_⟩, h4⟩
    rcases h3 with h3 | ⟨g, cap, cur, e, hg, hh, h5⟩
    · exact .inl h3
    · refine .inr ⟨g, cap, cur, e, hg, ?_, h5⟩
      rw [hb g (by rw [e]; rfl)]; exact hh
  | mp es => obtain ⟨b, ents, clock, rfl, h2, h3⟩ := h; exact ⟨b, ents, clock, rfl, by rw [hb b rfl]; exact h2, h3⟩
  | dead => trivial

/-- The table of powers of ten that the program lays: the one package variable that is read. -/
def pow10s : Array Value := ((List.range 20).map fun i => Value.int .u64 ((10 ^ i : Nat) : Int)).toArray
abbrev G0 : Nat := 0
def ZG : Zt := ⟨fun b o => if b = G0 then pow10s[o]? else none, fun _ => none⟩
/-- The world holds what is known to stay. -/
structure Zok (Z : Zt) (w : World) : Prop where
  zg : Zle ZG Z
  tab : ∃ t fr, w.heap[G0]? = some (.cells pow10s t fr)
  cell : ∀ b o v, Z.cell b o = some v → w.cell? ⟨b, o, none⟩ = some v
  mp : ∀ b es, Z.mp b = some es → ∃ clock, w.heap[b]? = some (.map es.toArray clock)
structure HRel (Z : Zt) (σ : List Value) (H : List O) (w : World) : Prop where
  len : σ.length = H.length
  obj : ∀ (r : Nat) o v, H[r]? = some o → σ[r]? = some v → ORel Z σ w o v
  sep : ∀ (r r' : Nat) o o' v v' b, r ≠ r' → H[r]? = some o → H[r']? = some o' → o.live = true → o'.live = true → σ[r]? = some v → σ[r']? = some v' → blk v = some b → blk v' ≠ some b
  zsep : ∀ (r : Nat) o v b, H[r]? = some o → o.live = true → σ[r]? = some v → blk v = some b → b < w.heap.size ∧ (∀ i, Z.cell b i = none) ∧ Z.mp b = none

end Go.Proofs.YtmkacifjegnehaaDoor.Ab
