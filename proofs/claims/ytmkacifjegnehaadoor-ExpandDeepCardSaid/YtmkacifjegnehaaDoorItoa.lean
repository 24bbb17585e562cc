/-
  strconv.Itoa by the shelf's contract: the interpreter's given answers are true; the interpreter tells the truth of this program.
-/
import Derived.Shelf.Strconv.Itoa3
import Derived.Ground.NamesProg
import Derived.Test.YtmkacifjegnehaaDoorAb21
import Derived.Test.YtmkacifjegnehaaDoorHints
namespace Go.Proofs.YtmkacifjegnehaaDoor
open Go Go.Shelf Go.Proofs Go.Proofs.YtmkacifjegnehaaDoor.Ab
def laysItoa_ren : Go.Shelf.Ren := ⟨fun | 171 => 68 | 243 => 76 | 246 => 83 | 283 => 86 | 284 => 87 | 285 => 88 | 286 => 89 | 129 => 92 | 317 => 91 | 318 => 93 | 319 => 94 | 320 => 95 | 337 => 96 | 338 => 97 | n => n, fun | 3 => 3 | 9 => 9 | 2 => 2 | 4 => 4 | 171 => 136 | 0 => 0 | 53 => 137 | 37 => 118 | 5 => 5 | 173 => 140 | 212 => 144 | 51 => 145 | 20 => 20 | 213 => 146 | 46 => 147 | 232 => 150 | 233 => 151 | n => n, fun | 17 => 0 | 18 => 1 | 19 => 2 | n => n⟩
theorem laysItoa : LaysM.n171 Tryd.prog laysItoa_ren := {
  mixed := by kernel_rfl
  f129 := Tryd.func92.trans (congrArg some (by kernel_rfl))
  f171 := Tryd.func68.trans (congrArg some (by kernel_rfl))
  f243 := Tryd.func76.trans (congrArg some (by kernel_rfl))
  f246 := Tryd.func83.trans (congrArg some (by kernel_rfl))
  f283 := Tryd.func86.trans (congrArg some (by kernel_rfl))
  f284 := Tryd.func87.trans (congrArg some (by kernel_rfl))
  f285 := Tryd.func88.trans (congrArg some (by kernel_rfl))
  f286 := Tryd.func89.trans (congrArg some (by kernel_rfl))
  f317 := Tryd.func91.trans (congrArg some (by kernel_rfl))
  f318 := Tryd.func93.trans (congrArg some (by kernel_rfl))
  f319 := Tryd.func94.trans (congrArg some (by kernel_rfl))
  f320 := Tryd.func95.trans (congrArg some (by kernel_rfl))
  f337 := Tryd.func96.trans (congrArg some (by kernel_rfl))
  f338 := Tryd.func97.trans (congrArg some (by kernel_rfl))
  t0 := Tryd.underlying0
  a0 := Tryd.isAgg0
  z0 := Tryd.sizeOf0
  v0 := Tryd.zeroValue0
  t2 := Tryd.underlying2
  a2 := Tryd.isAgg2
  z2 := Tryd.sizeOf2
  v2 := Tryd.zeroValue2
  t3 := Tryd.underlying3
  a3 := Tryd.isAgg3
  z3 := Tryd.sizeOf3
  v3 := Tryd.zeroValue3
  t4 := Tryd.underlying4
  a4 := Tryd.isAgg4
  z4 := Tryd.sizeOf4
  v4 := Tryd.zeroValue4
  t5 := Tryd.underlying5
  a5 := Tryd.isAgg5
  z5 := Tryd.sizeOf5
  v5 := Tryd.zeroValue5
  t9 := Tryd.underlying9
  a9 := Tryd.isAgg9
  z9 := Tryd.sizeOf9
  v9 := Tryd.zeroValue9
  t20 := Tryd.underlying20
  a20 := Tryd.isAgg20
  z20 := Tryd.sizeOf20
  v20 := Tryd.zeroValue20
  t37 := Tryd.underlying118
  a37 := Tryd.isAgg118
  z37 := Tryd.sizeOf118
  v37 := Tryd.zeroValue118
  t46 := Tryd.underlying147
  a46 := Tryd.isAgg147
  z46 := Tryd.sizeOf147
  v46 := Tryd.zeroValue147
  t51 := Tryd.underlying145
  a51 := Tryd.isAgg145
  z51 := Tryd.sizeOf145
  v51 := Tryd.zeroValue145
  t53 := Tryd.underlying137
  a53 := Tryd.isAgg137
  z53 := Tryd.sizeOf137
  v53 := Tryd.zeroValue137
  t171 := Tryd.underlying136
  a171 := Tryd.isAgg136
  z171 := Tryd.sizeOf136
  v171 := Tryd.zeroValue136
  t173 := Tryd.underlying140
  a173 := Tryd.isAgg140
  z173 := Tryd.sizeOf140
  v173 := Tryd.zeroValue140
  t212 := Tryd.underlying144
  a212 := Tryd.isAgg144
  z212 := Tryd.sizeOf144
  v212 := Tryd.zeroValue144
  t213 := Tryd.underlying146
  a213 := Tryd.isAgg146
  z213 := Tryd.sizeOf146
  t232 := Tryd.underlying150
  a232 := Tryd.isAgg150
  z232 := Tryd.sizeOf150
  v232 := Tryd.zeroValue150
  t233 := Tryd.underlying151
  a233 := Tryd.isAgg151
  z233 := Tryd.sizeOf151
  v233 := Tryd.zeroValue151
  g17 := by kernel_rfl
  g18 := by kernel_rfl
  g19 := by kernel_rfl
  i0 := by kernel_rfl
  i2 := by kernel_rfl
  i3 := by kernel_rfl
  i4 := by kernel_rfl
  i5 := by kernel_rfl
  i9 := by kernel_rfl
  i20 := by kernel_rfl
  i37 := by kernel_rfl
  i46 := by kernel_rfl
  i51 := by kernel_rfl
  i53 := by kernel_rfl
  i171 := by kernel_rfl
  i173 := by kernel_rfl
  i212 := by kernel_rfl
  i232 := by kernel_rfl
  i233 := by kernel_rfl
  m17 := by kernel_rfl
  m18 := by kernel_rfl
  m19 := by kernel_rfl }
theorem Ab.HRel.grown {Z : Zt} {σ : List Value} {H : List O} {w w' : World} (h : HRel Z σ H w) (hs : w.heap.size ≤ w'.heap.size) (hb : ∀ k, k < w.heap.size → w'.heap[k]? = w.heap[k]?) : HRel Z σ H w' := by
  refine ⟨h.len, fun r o v ho hv => ?_, h.sep, fun r o v b ho hl hv hb' => ?_⟩
  · cases hl : o.live with
    | false => cases o <;> first | trivial | cases hl
    | true => exact (h.obj r o v ho hv).block fun b hb' => hb b (h.zsep r o v b ho hl hv hb').1
  · obtain ⟨q1, q2⟩ := h.zsep r o v b ho hl hv hb'
    exact ⟨Nat.lt_of_lt_of_le q1 hs, q2⟩
theorem decs_eq : ∀ (f n : Nat), n < 10 ^ (f + 1) → decs (f + 1) n = Lib.decDigits n
  | 0, n, h => by
    rw [decs, Lib.decDigits, if_pos (by omega), dif_pos (by omega)]
  | f + 1, n, h => by
    rw [decs, Lib.decDigits]
    by_cases hn : n < 10
    · rw [if_pos hn, dif_pos hn]
    · rw [if_neg hn, dif_neg hn, decs_eq f (n / 10) (by rw [Nat.pow_succ] at h; omega)]
theorem itoa_calls {n : Nat} {H : List O} (hn : n < 1000000) : ACalls Tryd.prog 68 [.c (.d (.int .i64 (n : Int)))] H fun r H' => r = .ret [.c (.d (.str (decs 20 n)))] ∧ H' = H := by
  intro Z σ w vargs hH hZ hargs
  have hv : vargs = #[.int .i64 (n : Int)] := by
    match vargs, hargs with
    | ⟨l⟩, h => cases h with | cons r h => cases h; cases r with | c r => cases r with | d r => cases r; rfl
  subst hv
  have htab : Lib.TabIs Tryd.prog w "internal/strconv.uint64pow10" .u64 Lib.pow10Tab := by
    obtain ⟨t, fr, ht⟩ := hZ.tab
    unfold Lib.TabIs World.var?
    rw [show Tryd.prog.globalNamed "internal/strconv.uint64pow10" = some G0 from laysItoa.m17]
    simp only [Option.bind_some, ht]
    rfl
  refine (Any.strconv_Itoa laysItoa (n : Int) (by omega) (by omega) w htab).mono ?_
  rintro e w' ⟨rfl, k, os, rfl⟩
  have hb : ∀ j, j < w.heap.size → (Sort.grow (w.drewN k) os).heap[j]? = w.heap[j]? := fun j hj => Sort.heap_grow_old (w.drewN k) os hj
  have hs : w.heap.size ≤ (Sort.grow (w.drewN k) os).heap.size := by rw [Sort.size_grow]; exact Nat.le_add_right _ _
  refine ⟨Z, σ, _, H, Zle.refl Z, hH.grown hs hb, hZ.keep (fun j hj _ => hb j hj), .ret ?_, ⟨rfl, rfl⟩, fun _ _ h => h, rfl, rfl, rfl, hs, fun j hj _ => hb j hj, fun _ _ _ h => .inl h, fun _ _ h => .inl h, fun i o v b ho _ hi => absurd (List.getElem?_eq_some_iff.1 ho).1 (by omega)⟩
  have : Lib.itoa (n : Int) = decs 20 n := by
    unfold Lib.itoa
    rw [if_neg (by omega), decs_eq 19 n (by omega)]
    rfl
  rw [this]
  exact .c (.d (.str _))
theorem prim_ok : SoundCall Tryd.prog prim := by
  intro g args H r H' h
  unfold prim at h
  split at h
  · split at h
    · rename_i n
      split at h
      · rename_i hn
        injection h with h; injection h with h1 h2; subst h1 h2
        refine ⟨enters_of Tryd.func68 rfl rfl, ?_⟩
        exact itoa_calls hn
      · cases h
    · cases h
  · cases h
theorem named_ok : (Tryd.prog.funcs.toList.all fun fn => !(fn.name == "runtime.NumGoroutine")) = true := by kernel_rfl
theorem codes_ok : (Tryd.prog.funcs.toList.zipIdx.all fun x => match x.1.body with
  | none => true
  | some c => codeOk (plans x.2) c) = true := by kernel_rfl
theorem ip_ok : IpOk Tryd.prog ip where
  mixed := follows
  types := tab_ok
  fns := fun g fn h => h
  named := fun g fn h => by
    have h : Tryd.prog.funcs[g]? = some fn := h
    have := List.all_eq_true.1 named_ok fn (by simpa using Array.mem_of_getElem? h)
    simpa using this
  codes := fun g fn c h hb => by
    have h : Tryd.prog.funcs[g]? = some fn := h
    have hm : (fn, g) ∈ Tryd.prog.funcs.toList.zipIdx := by
      rw [List.mem_zipIdx_iff_getElem?]
      simpa using h
    have h2 : (match fn.body with
      | none => true
      | some c => codeOk (plans g) c) = true := List.all_eq_true.1 codes_ok _ hm
    rw [hb] at h2
    exact h2
  prim := prim_ok
theorem sound : SoundCall Tryd.prog (callW ip) := callW_ok ip_ok
end Go.Proofs.YtmkacifjegnehaaDoor
