import Derived.Test.YtmkacifjegnehaaDoorM11
namespace Go.Proofs.YtmkacifjegnehaaDoor
open Go Go.Proofs Go.Proofs.YtmkacifjegnehaaDoor.Ab
set_option linter.unusedSimpArgs false
set_option linter.unusedVariables false
set_option maxRecDepth 10000
set_option maxHeartbeats 8000000
theorem Ab.finK_keep {I : Ip} {g : Nat} {fn : Func} {n0 : Nat} {T : Nat → Option TI} (hT : I.T = T) {res : List ResultVar} (hres : fn.results.toList = res) (hk : I.keepR g = true) {e : List (Nat × V)} {H H2 : List O} {vs vs' : List V} {sub : List Nat} (h1 : resRaw T e H res = some vs) (h2 : List.range' 0 n0 ++ (reach H 64 (refsVs vs) []).filter (fun r => Nat.ble n0 r) = sub) (h3 : subO sub H sub = some H2) (h4 : vs.map (V.into sub) = vs') : finK I g fn n0 (.ret vs', H2) .ret e H := by
  subst hT hres h2 h4
  simp only [finK, finX, h1, hk, h3]
theorem pos_succ (n : Nat) : ((0 : Int) < ((n + 1 : Nat) : Int)) = True := by simp only [eq_iff_iff, iff_true]; omega
theorem zero_add' (n : Nat) : 0 + n = n := Nat.zero_add n

theorem rowC_len {α : Type} {f : α → List D} {sz : Nat} (hf : ∀ x, (f x).length = sz) : ∀ l : List α, (rowC f l).length = l.length * sz
  | [] => by simp [rowC]
  | x :: l => by rw [rowC_cons, List.length_append, List.length_map, hf x, rowC_len hf l, List.length_cons, Nat.add_mul]; omega
theorem rowC_take {α : Type} {f : α → List D} {sz : Nat} (hf : ∀ x, (f x).length = sz) (l : List α) (k : Nat) : (rowC f l).take (k * sz) = rowC f (l.take k) := by
  induction k generalizing l with
  | zero => simp [rowC]
  | succ k ih =>
    cases l with
    | nil => simp [rowC]
    | cons x l =>
      rw [rowC_cons, List.take_succ_cons, rowC_cons, ← ih l, List.take_append, List.length_map, hf x, List.take_of_length_le (by rw [List.length_map, hf x, Nat.add_mul]; omega), Nat.add_mul]
      congr 2; omega
theorem rowC_drop {α : Type} {f : α → List D} {sz : Nat} (hf : ∀ x, (f x).length = sz) (l : List α) (k : Nat) : (rowC f l).drop (k * sz) = rowC f (l.drop k) := by
  induction k generalizing l with
  | zero => simp [rowC]
  | succ k ih =>
    cases l with
    | nil => simp [rowC]
    | cons x l =>
      rw [rowC_cons, List.drop_succ_cons, ← ih l, List.drop_append, List.length_map, hf x, List.drop_eq_nil_of_le (by rw [List.length_map, hf x, Nat.add_mul]; omega), List.nil_append, Nat.add_mul]
      congr 1; omega
theorem set_parts {α : Type} (l : List α) (k : Nat) (x : α) (h : k < l.length) : l.set k x = l.take k ++ x :: l.drop (k + 1) := by
  rw [List.set_eq_take_append_cons_drop, if_pos h]
theorem spl_bo {l : List Bool} {k : Nat} {b : Bool} (h : k < l.length) : List.take k (rowC boD l) ++ C.d (D.bo b) :: List.drop (k + 1) (rowC boD l) = rowC boD (l.set k b) := by
  have h1 := rowC_take boD_len l k
  have h2 := rowC_drop boD_len l (k + 1)
  rw [Nat.mul_one] at h1 h2
  rw [h1, h2, set_parts l k b h, rowC_app, rowC_cons]; rfl
theorem spl_ast {l : List Ast} {k : Nat} {i : Ast} (h : k < l.length) : List.take (k * 9) (rowC astD l) ++ C.d (.int .i64 i.kind) :: C.d (.int .i64 i.n) :: C.d (.str i.name) :: C.d (.str i.label) :: C.d (.sl (i.ref.names.map strD)) :: C.d (.sl (i.ref.index.map astD)) :: C.d (.sl (i.ref.has.map boD)) :: C.d (.sl (i.kids.map astD)) :: C.d (.sl (i.args.map argD)) :: List.drop (k * 9 + 9) (rowC astD l) = rowC astD (l.set k i) := by
  have h1 := rowC_take astD_len l k
  have h2 := rowC_drop astD_len l (k + 1)
  rw [Nat.add_mul, Nat.one_mul] at h2
  rw [h1, h2, set_parts l k i h, rowC_app, rowC_cons, astD_eta]; rfl
theorem get_bo {l : List Bool} {k : Nat} {b : Bool} (h : l[k]? = some b) : (rowC boD l)[k]? = some (C.d (D.bo b)) := by
  induction l generalizing k with
  | nil => simp at h
  | cons x l ih =>
    rw [rowC_cons]
    cases k with
    | zero => simp at h; subst h; rfl
    | succ k => simp at h; simpa [boD] using ih h

theorem succ_ne0 (n : Nat) : (((n + 1 : Nat) : Int) == 0) = false := by
  rw [beq_eq_false_iff_ne]; omega
theorem lt1 {k n : Nat} (h : k < n) : (k + 1 ≤ n) = True := by simp only [eq_iff_iff, iff_true]; omega
theorem mul9 {k n : Nat} (h : k < n) : (k * 9 + 9 ≤ n * 9) = True := by simp only [eq_iff_iff, iff_true]; omega
theorem chunks_hd {sz n : Nat} {ds : List D} : chunks sz (n + 1) ds = ds.take sz :: chunks sz n (ds.drop sz) := rfl
theorem one_le (n : Nat) : (1 ≤ n + 1) = True := by simp
theorem take_len_map {α β : Type} (f : α → β) (l : List α) : List.take l.length (l.map f) = l.map f := by rw [← List.length_map (f := f), List.take_length]
theorem idx_lt {α : Type} {l : List α} {i : Int} {x : α} (h0 : 0 ≤ i) (h : l[i.toNat]? = some x) : i < (l.length : Int) := by
  have := (List.getElem?_eq_some_iff.1 h).1; omega
theorem int_lt {n : Nat} {i : Int} (h0 : 0 ≤ i) (h : i.toNat < n) : i < (n : Int) := by omega

section
variable {A l : List C} {n : Nat} (hA : A.length = n)
include hA
theorem getA (j : Nat) : (A ++ l)[n + j]? = l[j]? := by rw [List.getElem?_append_right (by omega)]; congr 1; omega
theorem getA0 : (A ++ l)[n]? = l[0]? := getA hA 0
theorem dropA (j : Nat) : (A ++ l).drop (n + j) = l.drop j := by rw [List.drop_append, List.drop_eq_nil_of_le (by omega), List.nil_append]; congr 1; omega
theorem dropA0 : (A ++ l).drop n = l := by have := dropA hA (l := l) 0; simpa using this
theorem dropA2 (j k : Nat) : (A ++ l).drop (n + j + k) = l.drop (j + k) := by rw [Nat.add_assoc]; exact dropA hA (j + k)
theorem takeA (j : Nat) : (A ++ l).take (n + j) = A ++ l.take j := by rw [List.take_append, List.take_of_length_le (by omega)]; congr 2; omega
theorem takeA0 : (A ++ l).take n = A := by have := takeA hA (l := l) 0; simpa using this
theorem leA (j : Nat) : (n + j ≤ (A ++ l).length) = (j ≤ l.length) := by rw [List.length_append, hA]; simp only [eq_iff_iff]; omega
theorem leA2 (j k : Nat) : (n + j + k ≤ (A ++ l).length) = (j + k ≤ l.length) := by rw [List.length_append, hA]; simp only [eq_iff_iff]; omega
end
theorem declX_drop {f : Sc → Ast → MS → Option (Xr Ast)} {s : Sc} {d : Decl} {m : MS} {r : Xr Decl} (h : declX f s d m = some r) : ∃ v vs, d.vars = v :: vs ∧ d.vars.length ≤ 1000000000 ∧ (bindX (lenO d.vars (foldX (dvX f s) d.vars [] m)) fun l m => cond (decide (0 < s.deep)) (some (.ok { d with vars := l, pos := m.pos } m)) (some (.ok { d with vars := l } m))) = some r := by
  unfold declX at h
  cases hv : d.vars with
  | nil => rw [hv] at h; cases h
  | cons v vs =>
    rw [hv] at h
    obtain ⟨h1, h2⟩ := capO_some h
    exact ⟨v, vs, rfl, by rw [List.length_cons]; omega, h2⟩

theorem W78 {x : Bytes} {xs : List Bytes} (hl : xs.length ≤ 999999999) : callW ip 70 [slV strD (x :: xs)] [] = some (.ret [.c (.row 0)], [.row 9 1 (x :: xs).length (rowC strD (x :: xs))]) := by
 refine callW_runs (fn := Tryd.f70) (L := long70) (nt := 8) (n0 := 0) (T := tab) (rw' := [5]) (kA := keepA) Tryd.func70 rfl rfl rfl rfl rfl rfl rfl rfl rfl ?_
 refine Runs.seq ?_
 refine Runs.reg (by simp only [go_sem, seval, hl, Nat.zero_add, List.length_map, List.all_cons]; rfl) (by simp only [long70, go_sem, seval]; rfl) ?_
 refine Runs.seq ?_
 refine Runs.seq ?_
 refine Runs.reg (by simp only [go_sem, seval, hl, Nat.zero_add, List.length_map, List.all_cons]; rfl) (by simp only [long70, go_sem, seval]; rfl) ?_
 refine Runs.cond (t := 4) rfl (fun hc1 => ?_) (fun hc1 => ?_)
 · exact absurd hc1 (by first | decide)
 try simp only [N3] at hc1
 try simp only [hc1, C5] at h
 refine Runs.skip ?_
 refine Runs.seq ?_
 refine Runs.reg (by simp only [go_sem, seval, hl, Nat.zero_add, List.length_map, List.all_cons]; rfl) (by simp only [long70, go_sem, seval]; rfl) ?_
 refine Runs.ret ?_
 try cases h
 try dsimp only [outX]
 refine finK_keep (T := tab) (res := [.tmp 2]) rfl rfl rfl (by simp only [go_sem, seval, hl, Nat.zero_add, List.length_map, List.all_cons]; rfl) (by simp only [go_sem, seval, hl, Nat.zero_add, List.length_map, List.all_cons]; rfl) (by simp only [go_sem, seval, hl, Nat.zero_add, List.length_map, List.all_cons]; try rfl) (by simp only [go_sem, seval, hl, Nat.zero_add, List.length_map, List.all_cons]; try rfl)
theorem W79 {x : Bool} {xs : List Bool} (hl : xs.length ≤ 999999999) : callW ip 71 [slV boD (x :: xs)] [] = some (.ret [.c (.row 0)], [.row 4 1 (x :: xs).length (rowC boD (x :: xs))]) := by
 refine callW_runs (fn := Tryd.f71) (L := long71) (nt := 8) (n0 := 0) (T := tab) (rw' := [5]) (kA := keepA) Tryd.func71 rfl rfl rfl rfl rfl rfl rfl rfl rfl ?_
 refine Runs.seq ?_
 refine Runs.reg (by simp only [go_sem, seval, hl, Nat.zero_add, List.length_map, List.all_cons]; rfl) (by simp only [long71, go_sem, seval]; rfl) ?_
 refine Runs.seq ?_
 refine Runs.seq ?_
 refine Runs.reg (by simp only [go_sem, seval, hl, Nat.zero_add, List.length_map, List.all_cons]; rfl) (by simp only [long71, go_sem, seval]; rfl) ?_
 refine Runs.cond (t := 4) rfl (fun hc1 => ?_) (fun hc1 => ?_)
 · exact absurd hc1 (by first | decide)
 try simp only [N3] at hc1
 try simp only [hc1, C5] at h
 refine Runs.skip ?_
 refine Runs.seq ?_
 refine Runs.reg (by simp only [go_sem, seval, hl, Nat.zero_add, List.length_map, List.all_cons]; rfl) (by simp only [long71, go_sem, seval]; rfl) ?_
 refine Runs.ret ?_
 try cases h
 try dsimp only [outX]
 refine finK_keep (T := tab) (res := [.tmp 2]) rfl rfl rfl (by simp only [go_sem, seval, hl, Nat.zero_add, List.length_map, List.all_cons]; rfl) (by simp only [go_sem, seval, hl, Nat.zero_add, List.length_map, List.all_cons]; rfl) (by simp only [go_sem, seval, hl, Nat.zero_add, List.length_map, List.all_cons]; try rfl) (by simp only [go_sem, seval, hl, Nat.zero_add, List.length_map, List.all_cons]; try rfl)
theorem W80 {x : DVar} {xs : List DVar} (hl : xs.length ≤ 999999999) : callW ip 72 [slV dvarD (x :: xs)] [] = some (.ret [.c (.row 0)], [.row 54 23 (x :: xs).length (rowC dvarD (x :: xs))]) := by
 refine callW_runs (fn := Tryd.f72) (L := long72) (nt := 8) (n0 := 0) (T := tab) (rw' := [5]) (kA := keepA) Tryd.func72 rfl rfl rfl rfl rfl rfl rfl rfl rfl ?_
 refine Runs.seq ?_
 refine Runs.reg (by simp only [go_sem, seval, hl, Nat.zero_add, List.length_map, List.all_cons]; rfl) (by simp only [long72, go_sem, seval]; rfl) ?_
 refine Runs.seq ?_
 refine Runs.seq ?_
 refine Runs.reg (by simp only [go_sem, seval, hl, Nat.zero_add, List.length_map, List.all_cons]; rfl) (by simp only [long72, go_sem, seval]; rfl) ?_
 refine Runs.cond (t := 4) rfl (fun hc1 => ?_) (fun hc1 => ?_)
 · exact absurd hc1 (by first | decide)
 try simp only [N3] at hc1
 try simp only [hc1, C5] at h
 refine Runs.skip ?_
 refine Runs.seq ?_
 refine Runs.reg (by simp only [go_sem, seval, hl, Nat.zero_add, List.length_map, List.all_cons]; rfl) (by simp only [long72, go_sem, seval]; rfl) ?_
 refine Runs.ret ?_
 try cases h
 try dsimp only [outX]
 refine finK_keep (T := tab) (res := [.tmp 2]) rfl rfl rfl (by simp only [go_sem, seval, hl, Nat.zero_add, List.length_map, List.all_cons]; rfl) (by simp only [go_sem, seval, hl, Nat.zero_add, List.length_map, List.all_cons]; rfl) (by simp only [go_sem, seval, hl, Nat.zero_add, List.length_map, List.all_cons]; try rfl) (by simp only [go_sem, seval, hl, Nat.zero_add, List.length_map, List.all_cons]; try rfl)
theorem W67 {n : Nat} (is : ExpIH n) {m : MS} {s : Sc} {q0 : Ref} {r : Xr Ref} (h : refX (n + 1) s q0 m = some r) : callW ip 59 [pV, refV q0, scV s] [mBox m, mMap m] = some (outRow r) := by
 obtain ⟨rn, ri, rh⟩ := q0
 simp only [refX, refQ] at h
 rcases rn with _ | ⟨x_, xs_⟩
 · cases h
 rcases rh with _ | ⟨b_, bs_⟩
 · cases h
 dsimp only at h
 obtain ⟨hx_, h⟩ := capO_some h
 obtain ⟨hb_, h⟩ := capO_some h
 have w78 := W78 (x := x_) hx_
 have w79 := W79 (x := b_) hb_
 try simp only [slV, List.map_cons, strD] at w78
 try simp only [slV, List.map_cons, boD] at w79
 refine callW_runs (fn := Tryd.f59) (L := long59) (nt := 136) (n0 := 2) (T := tab) (rw' := []) (kA := keepA) Tryd.func59 rfl rfl rfl rfl rfl rfl rfl rfl rfl ?_
 refine Runs.seq ?_
 refine Runs.reg (by simp only [go_sem, seval, outRow, succ_ne0, pos_succ, runFork, one_le, take_len_map, rowC_app, Nat.mul_one, chunks_hd, Nat.le_refl, List.length_set]; rfl) (by simp only [long59, go_sem, seval]; rfl) ?_
 refine Runs.seq ?_
 refine Runs.seq ?_
 refine Runs.reg (by simp only [go_sem, seval, outRow, succ_ne0, pos_succ, runFork, one_le, take_len_map, rowC_app, Nat.mul_one, chunks_hd, Nat.le_refl, List.length_set]; rfl) (by simp only [long59, go_sem, seval]; rfl) ?_
 refine Runs.cond (t := 19) rfl (fun hc1 => ?_) (fun hc1 => ?_)
 · exact absurd hc1 (by first | decide)
 try simp only [N3] at hc1
 try simp only [hc1, C5] at h
 refine Runs.skip ?_
 refine Runs.seq ?_
 refine Runs.drw rfl (by simp only [go_sem, seval, outRow, succ_ne0, pos_succ, runFork, one_le, take_len_map, rowC_app, Nat.mul_one, chunks_hd, Nat.le_refl, List.length_set, w79, w78]; rfl) (by simp only [long59, go_sem, seval]; rfl) ?_
 refine Runs.seq ?_
 refine Runs.seq ?_
 refine Runs.reg (by simp only [go_sem, seval, outRow, succ_ne0, pos_succ, runFork, one_le, take_len_map, rowC_app, Nat.mul_one, chunks_hd, Nat.le_refl, List.length_set, w79, w78]; rfl) (by simp only [long59, go_sem, seval]; rfl) ?_
 refine Runs.block ?_
 obtain ⟨j2, h, hk2⟩ := bindX_some h
 obtain ⟨hL2, h⟩ := lenO_some h
 refine Runs.loop_rel (m := (ri).length) (fun mz_ en hp => ∃ (i : Nat) (k : List Ast) (M : MS), foldX (asX (astX n) s) (List.drop i (ri)) k M = some j2 ∧ mz_ + i = (ri).length ∧ en = [(0, pV), (5, .c (.ptr 2 0)), (6, .c (.ptr 3 0)), (7, .c (.ptr 4 0)), (29, slV astD ri), (30, iI (ri.length : Int)), (31, .c (.d (.int .i64 (i : Int))))] ∧ hp = (mBox M :: mMap M :: .box [.d (.fm (s.args.map entA)), .d (.fm (s.names.map entS)), .d (.fm (s.marks.map entS)), .d (.int .i64 s.deep)] :: _ :: _ :: _ :: .row 39 9 k.length (rowC astD k) :: _)) ?_ ⟨0, _, _, h, rfl, (by first | rfl | (simp only [go_sem, seval, outRow, succ_ne0, pos_succ, runFork, one_le, take_len_map, rowC_app, Nat.mul_one, chunks_hd, Nat.le_refl, List.length_set, w79, w78]; done) | (simp only [go_sem, seval, outRow, succ_ne0, pos_succ, runFork, one_le, take_len_map, rowC_app, Nat.mul_one, chunks_hd, Nat.le_refl, List.length_set, w79, w78]; rfl)), (by first | rfl | (simp only [go_sem, seval, outRow, succ_ne0, pos_succ, runFork, one_le, take_len_map, rowC_app, Nat.mul_one, chunks_hd, Nat.le_refl, List.length_set, w79, w78]; done) | (simp only [go_sem, seval, outRow, succ_ne0, pos_succ, runFork, one_le, take_len_map, rowC_app, Nat.mul_one, chunks_hd, Nat.le_refl, List.length_set, w79, w78]; rfl))⟩
 clear h
 rintro m2 en hp ⟨i2, k_, m_, h, hm2, rfl, rfl⟩
 refine Runs.seq ?_
 refine Runs.reg (by simp only [go_sem, seval, outRow, succ_ne0, pos_succ, runFork, one_le, take_len_map, rowC_app, Nat.mul_one, chunks_hd, Nat.le_refl, List.length_set, w79, w78]; rfl) (by simp only [long59, go_sem, seval]; rfl) ?_
 refine Runs.seq ?_
 refine Runs.cond (t := 32) rfl (fun hc3 => ?_) (fun hc3 => ?_)
 ·
  try simp only [N3] at hc3
  try simp only [hc3, C5] at h
  have hi2 := of_decide_eq_true hc3
  obtain ⟨x2, xs2, hx2⟩ := drop_ex (l := ri) (i := i2) (by omega)
  obtain ⟨ha2, hb2, hd2⟩ := drop_cons hx2
  rw [hx2] at h
  simp only [foldX, asX, wadd, wsub] at h
  obtain ⟨r2, h, g2⟩ := bindX_some h
  have hn2 := cast_nonneg i2
  have hw2 := wrap_succ (n := i2) (by omega)
  refine Runs.skip ?_
  refine Runs.seq ?_
  refine Runs.block ?_
  refine Runs.seq ?_
  refine Runs.reg (by simp only [go_sem, seval, outRow, succ_ne0, pos_succ, runFork, one_le, take_len_map, rowC_app, Nat.mul_one, chunks_hd, Nat.le_refl, List.length_set, w79, w78, ha2, hn2, hw2, hc3]; rfl) (by simp only [long59, go_sem, seval]; rfl) ?_
  obtain ⟨r4, h4, h⟩ := bindX_some h
  have w4 := is.e68 h4
  try simp only [scV, sc0, List.map_nil] at w4
  rcases r4 with ⟨e4, m4⟩ | ⟨c4, z4, m4⟩
  rotate_left
  ·
   try dsimp only [outX, outRow, outU] at w4
   subst h
   dsimp only at g2
   subst g2
   dsimp only at hk2
   subst hk2
   refine Runs.draw_pan rfl (by simp only [go_sem, seval, outRow, succ_ne0, pos_succ, runFork, one_le, take_len_map, rowC_app, Nat.mul_one, chunks_hd, Nat.le_refl, List.length_set, w79, w78, ha2, hn2, hw2, w4, hc3]; rfl) ?_
   exact finK_pan (by simp only [go_sem, seval, outRow, succ_ne0, pos_succ, runFork, one_le, take_len_map, rowC_app, Nat.mul_one, chunks_hd, Nat.le_refl, List.length_set, w79, w78, ha2, hn2, hw2, w4, hc3]; try rfl)
  try dsimp only [outX, outRow, outU] at w4
  dsimp only at h
  obtain ⟨y5, h5, h⟩ := some_bind h
  obtain ⟨le5, rfl⟩ := appP_some h5
  try simp only [List.length_set, List.length_map, List.length_append, List.length_cons, List.length_nil, seval] at le5
  try dsimp only at h
  refine Runs.drw rfl (by simp only [go_sem, seval, outRow, succ_ne0, pos_succ, runFork, one_le, take_len_map, rowC_app, Nat.mul_one, chunks_hd, Nat.le_refl, List.length_set, w79, w78, ha2, hn2, hw2, w4, le5, hc3]; rfl) (by simp only [long59, go_sem, seval]; rfl) ?_
  refine Runs.reg (by simp only [go_sem, seval, outRow, succ_ne0, pos_succ, runFork, one_le, take_len_map, rowC_app, Nat.mul_one, chunks_hd, Nat.le_refl, List.length_set, w79, w78, ha2, hn2, hw2, w4, le5, hc3]; rfl) (by simp only [long59, go_sem, seval]; rfl) ?_
  cases h
  dsimp only at g2
  rw [← hd2] at g2
  refine ⟨m2 - 1, by omega, _, _, by simp only [go_sem, seval, outRow, succ_ne0, pos_succ, runFork, one_le, take_len_map, rowC_app, Nat.mul_one, chunks_hd, Nat.le_refl, List.length_set, w79, w78, ha2, hn2, hw2, w4, le5]; try rfl, i2 + 1, _, _, g2, by omega, rfl, rfl⟩
 try simp only [N3] at hc3
 try simp only [hc3, C5] at h
 have hi2 := of_decide_eq_false hc3
 rw [List.drop_eq_nil_of_le (by omega)] at h
 simp only [foldX, asX, wadd, wsub] at h
 refine Runs.exit ?_
 cases h
 have h := hk2
 try dsimp only at h
 try simp only [hc3, cond_true, cond_false] at h
 refine Runs.seq ?_
 refine Runs.seq ?_
 rcases hl6 : lookP s.names x_ with _ | nm_
 ·
  simp only [hl6] at h
  try simp only [refA1] at h
  try simp only [hc3, cond_true, cond_false] at h
  refine Runs.drw rfl (by simp only [go_sem, seval, outRow, succ_ne0, pos_succ, runFork, one_le, take_len_map, rowC_app, Nat.mul_one, chunks_hd, Nat.le_refl, List.length_set, w79, w78, hl6, lookS, Option.map_none, hc3]; rfl) (by simp only [long59, go_sem, seval]; rfl) ?_
  refine Runs.seq ?_
  refine Runs.reg (by simp only [go_sem, seval, outRow, succ_ne0, pos_succ, runFork, one_le, take_len_map, rowC_app, Nat.mul_one, chunks_hd, Nat.le_refl, List.length_set, w79, w78, hl6, lookS, Option.map_none, hc3]; rfl) (by simp only [long59, go_sem, seval]; rfl) ?_
  refine Runs.cond (t := 55) rfl (fun hc7 => ?_) (fun hc7 => ?_)
  · exact absurd hc7 (by first | decide | (simp only [hc3]; decide))
  try simp only [N3] at hc7
  try simp only [hc7, C5] at h
  refine Runs.skip ?_
  refine Runs.seq ?_
  rcases hl8 : lookP s.args x_ with _ | a_
  ·
   simp only [hl8] at h
   try simp only [refA2, wsub] at h
   try simp only [hc3, cond_true, cond_false] at h
   refine Runs.drw rfl (by simp only [go_sem, seval, outRow, succ_ne0, pos_succ, runFork, one_le, take_len_map, rowC_app, Nat.mul_one, chunks_hd, Nat.le_refl, List.length_set, w79, w78, hl6, lookS, Option.map_none, hl8, lookA, hc3]; rfl) (by simp only [long59, go_sem, seval]; rfl) ?_
   refine Runs.seq ?_
   refine Runs.seq ?_
   refine Runs.reg (by simp only [go_sem, seval, outRow, succ_ne0, pos_succ, runFork, one_le, take_len_map, rowC_app, Nat.mul_one, chunks_hd, Nat.le_refl, List.length_set, w79, w78, hl6, lookS, Option.map_none, hl8, lookA, hc3]; rfl) (by simp only [long59, go_sem, seval]; rfl) ?_
   refine Runs.cond (t := 72) rfl (fun hc9 => ?_) (fun hc9 => ?_)
   rotate_left
   · exact absurd hc9 (by first | decide | (simp only [hc3]; decide))
   try simp only [N3] at hc9
   try simp only [hc9, C5] at h
   refine Runs.seq ?_
   refine Runs.reg (by simp only [go_sem, seval, outRow, succ_ne0, pos_succ, runFork, one_le, take_len_map, rowC_app, Nat.mul_one, chunks_hd, Nat.le_refl, List.length_set, w79, w78, hl6, lookS, Option.map_none, hl8, lookA, hc3]; rfl) (by simp only [long59, go_sem, seval]; rfl) ?_
   refine Runs.ret ?_
   try cases h
   try dsimp only [outRow]
   refine finK_keep (T := tab) (res := [.cell 6 36]) rfl rfl rfl (by simp only [go_sem, seval, outRow, succ_ne0, pos_succ, runFork, one_le, take_len_map, rowC_app, Nat.mul_one, chunks_hd, Nat.le_refl, List.length_set, w79, w78, hl6, lookS, Option.map_none, hl8, lookA, hc3]; rfl) (by simp only [go_sem, seval, outRow, succ_ne0, pos_succ, runFork, one_le, take_len_map, rowC_app, Nat.mul_one, chunks_hd, Nat.le_refl, List.length_set, w79, w78, hl6, lookS, Option.map_none, hl8, lookA, hc3]; rfl) (by simp only [go_sem, seval, outRow, succ_ne0, pos_succ, runFork, one_le, take_len_map, rowC_app, Nat.mul_one, chunks_hd, Nat.le_refl, List.length_set, w79, w78, hl6, lookS, Option.map_none, hl8, lookA, hc3]; try rfl) (by simp only [go_sem, seval, outRow, succ_ne0, pos_succ, runFork, one_le, take_len_map, rowC_app, Nat.mul_one, chunks_hd, Nat.le_refl, List.length_set, w79, w78, hl6, lookS, Option.map_none, hl8, lookA, hc3]; try rfl)
  ·
   simp only [hl8] at h
   try simp only [refA2, wsub] at h
   try simp only [hc3, cond_true, cond_false] at h
   refine Runs.drw rfl (by simp only [go_sem, seval, outRow, succ_ne0, pos_succ, runFork, one_le, take_len_map, rowC_app, Nat.mul_one, chunks_hd, Nat.le_refl, List.length_set, w79, w78, hl6, lookS, Option.map_none, hl8, lookA, Option.map_some, hc3]; rfl) (by simp only [long59, go_sem, seval]; rfl) ?_
   refine Runs.seq ?_
   refine Runs.seq ?_
   refine Runs.reg (by simp only [go_sem, seval, outRow, succ_ne0, pos_succ, runFork, one_le, take_len_map, rowC_app, Nat.mul_one, chunks_hd, Nat.le_refl, List.length_set, w79, w78, hl6, lookS, Option.map_none, hl8, lookA, Option.map_some, hc3]; rfl) (by simp only [long59, go_sem, seval]; rfl) ?_
   refine Runs.cond (t := 72) rfl (fun hc10 => ?_) (fun hc10 => ?_)
   · exact absurd hc10 (by first | decide | (simp only [hc3]; decide))
   try simp only [N3] at hc10
   try simp only [hc10, C5] at h
   refine Runs.skip ?_
   refine Runs.seq ?_
   refine Runs.seq ?_
   refine Runs.reg (by simp only [go_sem, seval, outRow, succ_ne0, pos_succ, runFork, one_le, take_len_map, rowC_app, Nat.mul_one, chunks_hd, Nat.le_refl, List.length_set, w79, w78, hl6, lookS, Option.map_none, hl8, lookA, Option.map_some, hc3]; rfl) (by simp only [long59, go_sem, seval]; rfl) ?_
   refine Runs.cond (t := 76) rfl (fun hc11 => ?_) (fun hc11 => ?_)
   ·
    try simp only [N3] at hc11
    try simp only [hc11, C5] at h
    cases h
    refine Runs.region_pan (by simp only [go_sem, seval, outRow, succ_ne0, pos_succ, runFork, one_le, take_len_map, rowC_app, Nat.mul_one, chunks_hd, Nat.le_refl, List.length_set, w79, w78, hl6, lookS, Option.map_none, hl8, lookA, Option.map_some, W41, hc3, hc11]; rfl) ?_
    exact finK_pan (by simp only [go_sem, seval, outRow, succ_ne0, pos_succ, runFork, one_le, take_len_map, rowC_app, Nat.mul_one, chunks_hd, Nat.le_refl, List.length_set, w79, w78, hl6, lookS, Option.map_none, hl8, lookA, Option.map_some, W41, hc3, hc11]; try rfl)
   try simp only [N3] at hc11
   try simp only [hc11, C5] at h
   refine Runs.skip ?_
   refine Runs.seq ?_
   obtain ⟨r12, h12, h⟩ := bindX_some h
   have w12 := is.e67 h12
   try simp only [scV, sc0, List.map_nil] at w12
   rcases r12 with ⟨r12, m12⟩ | ⟨c12, z12, m12⟩
   rotate_left
   ·
    try dsimp only [outX, outRow, outU] at w12
    subst h
    refine Runs.region_pan (by simp only [go_sem, seval, outRow, succ_ne0, pos_succ, runFork, one_le, take_len_map, rowC_app, Nat.mul_one, chunks_hd, Nat.le_refl, List.length_set, w79, w78, hl6, lookS, Option.map_none, hl8, lookA, Option.map_some, w12, hc3, hc11]; rfl) ?_
    exact finK_pan (by simp only [go_sem, seval, outRow, succ_ne0, pos_succ, runFork, one_le, take_len_map, rowC_app, Nat.mul_one, chunks_hd, Nat.le_refl, List.length_set, w79, w78, hl6, lookS, Option.map_none, hl8, lookA, Option.map_some, w12, hc3, hc11]; try rfl)
   try dsimp only [outX, outRow, outU] at w12
   dsimp only at h
   refine Runs.reg (by simp only [go_sem, seval, outRow, succ_ne0, pos_succ, runFork, one_le, take_len_map, rowC_app, Nat.mul_one, chunks_hd, Nat.le_refl, List.length_set, w79, w78, hl6, lookS, Option.map_none, hl8, lookA, Option.map_some, w12, hc3, hc11]; rfl) (by simp only [long59, go_sem, seval]; rfl) ?_
   refine Runs.seq ?_
   rcases k_ with _ | ⟨i0_, is_⟩
   · cases h
   simp only [refM, refN, wsub] at h
   refine Runs.reg (by simp only [go_sem, seval, outRow, succ_ne0, pos_succ, runFork, one_le, take_len_map, rowC_app, Nat.mul_one, chunks_hd, Nat.le_refl, List.length_set, w79, w78, hl6, lookS, Option.map_none, hl8, lookA, Option.map_some, hc3, hc11]; rfl) (by simp only [long59, go_sem, seval]; rfl) ?_
   refine Runs.seq ?_
   refine Runs.seq ?_
   refine Runs.reg (by simp only [go_sem, seval, outRow, succ_ne0, pos_succ, runFork, one_le, take_len_map, rowC_app, Nat.mul_one, chunks_hd, Nat.le_refl, List.length_set, w79, w78, hl6, lookS, Option.map_none, hl8, lookA, Option.map_some, hc3, hc11]; rfl) (by simp only [long59, go_sem, seval]; rfl) ?_
   refine Runs.cond (t := 94) rfl (fun hc13 => ?_) (fun hc13 => ?_)
   ·
    try simp only [N3] at hc13
    try simp only [hc13, C5] at h
    refine Runs.seq ?_
    refine Runs.seq ?_
    obtain ⟨hl_, hhl_, h⟩ := some_bind h
    obtain ⟨gel_, atl_⟩ := getP_some hhl_
    have ltl_ := idx_lt gel_ atl_
    have gbl_ := get_bo atl_
    try dsimp only at h
    refine Runs.reg (by simp only [go_sem, seval, outRow, succ_ne0, pos_succ, runFork, one_le, take_len_map, rowC_app, Nat.mul_one, chunks_hd, Nat.le_refl, List.length_set, gel_, ltl_, gbl_, w79, w78, hl6, lookS, Option.map_none, hl8, lookA, Option.map_some, hc3, hc11, hc13]; rfl) (by simp only [long59, go_sem, seval]; rfl) ?_
    refine Runs.cond (t := 99) rfl (fun hc14 => ?_) (fun hc14 => ?_)
    ·
     try simp only [N3] at hc14
     try simp only [hc14, C5] at h
     cases h
     refine Runs.region_pan (by simp only [go_sem, seval, outRow, succ_ne0, pos_succ, runFork, one_le, take_len_map, rowC_app, Nat.mul_one, chunks_hd, Nat.le_refl, List.length_set, w79, w78, hl6, lookS, Option.map_none, hl8, lookA, Option.map_some, W41, hc3, hc11, hc13, hc14]; rfl) ?_
     exact finK_pan (by simp only [go_sem, seval, outRow, succ_ne0, pos_succ, runFork, one_le, take_len_map, rowC_app, Nat.mul_one, chunks_hd, Nat.le_refl, List.length_set, w79, w78, hl6, lookS, Option.map_none, hl8, lookA, Option.map_some, W41, hc3, hc11, hc13, hc14]; try rfl)
    try simp only [N3] at hc14
    try simp only [hc14, C5] at h
    refine Runs.skip ?_
    obtain ⟨bh_, hbh_, h⟩ := some_bind h
    obtain ⟨s1_, s2_, rfl⟩ := setP_some hbh_
    obtain ⟨bi_, hbi_, h⟩ := some_bind h
    obtain ⟨s3_, s4_, rfl⟩ := setP_some hbi_
    have s5_ := int_lt s1_ s2_
    have s6_ := int_lt s3_ s4_
    try dsimp only at h
    refine Runs.drw rfl (by simp only [go_sem, seval, outRow, succ_ne0, pos_succ, runFork, one_le, take_len_map, rowC_app, Nat.mul_one, chunks_hd, Nat.le_refl, List.length_set, s1_, s5_, s6_, lt1 s2_, mul9 s4_, spl_bo s2_, spl_ast s4_, rowC_len boD_len, rowC_len astD_len, w79, w78, hl6, lookS, Option.map_none, hl8, lookA, Option.map_some, hc3, hc11, hc13, hc14]; rfl) (by simp only [long59, go_sem, seval]; rfl) ?_
    refine Runs.seq ?_
    obtain ⟨y15, h15, h⟩ := some_bind h
    obtain ⟨le15, rfl⟩ := appP_some h15
    try simp only [List.length_set, List.length_map, List.length_append, List.length_cons, List.length_nil, seval] at le15
    try dsimp only at h
    obtain ⟨y16, h16, h⟩ := some_bind h
    obtain ⟨le16, rfl⟩ := appP_some h16
    try simp only [List.length_set, List.length_map, List.length_append, List.length_cons, List.length_nil, seval] at le16
    try dsimp only at h
    obtain ⟨y17, h17, h⟩ := some_bind h
    obtain ⟨le17, rfl⟩ := appP_some h17
    try simp only [List.length_set, List.length_map, List.length_append, List.length_cons, List.length_nil, seval] at le17
    try dsimp only at h
    refine Runs.drw rfl (by simp only [go_sem, seval, outRow, succ_ne0, pos_succ, runFork, one_le, take_len_map, rowC_app, Nat.mul_one, chunks_hd, Nat.le_refl, List.length_set, w79, w78, hl6, lookS, Option.map_none, hl8, lookA, Option.map_some, le15, le16, le17, hc3, hc11, hc13, hc14]; rfl) (by simp only [long59, go_sem, seval]; rfl) ?_
    refine Runs.ret ?_
    try cases h
    try dsimp only [outRow]
    refine finK_keep (T := tab) (res := [.cell 6 36]) rfl rfl rfl (by simp only [go_sem, seval, outRow, succ_ne0, pos_succ, runFork, one_le, take_len_map, rowC_app, Nat.mul_one, chunks_hd, Nat.le_refl, List.length_set, w79, w78, hl6, lookS, Option.map_none, hl8, lookA, Option.map_some, le15, le16, le17, hc3, hc11, hc13, hc14]; rfl) (by simp only [go_sem, seval, outRow, succ_ne0, pos_succ, runFork, one_le, take_len_map, rowC_app, Nat.mul_one, chunks_hd, Nat.le_refl, List.length_set, w79, w78, hl6, lookS, Option.map_none, hl8, lookA, Option.map_some, le15, le16, le17, hc3, hc11, hc13, hc14]; rfl) (by simp only [go_sem, seval, outRow, succ_ne0, pos_succ, runFork, one_le, take_len_map, rowC_app, Nat.mul_one, chunks_hd, Nat.le_refl, List.length_set, w79, w78, hl6, lookS, Option.map_none, hl8, lookA, Option.map_some, le15, le16, le17, hc3, hc11, hc13, hc14]; try rfl) (by simp only [go_sem, seval, outRow, succ_ne0, pos_succ, runFork, one_le, take_len_map, rowC_app, Nat.mul_one, chunks_hd, Nat.le_refl, List.length_set, w79, w78, hl6, lookS, Option.map_none, hl8, lookA, Option.map_some, le15, le16, le17, hc3, hc11, hc13, hc14]; try rfl)
   try simp only [N3] at hc13
   try simp only [hc13, C5] at h
   refine Runs.skip ?_
   refine Runs.seq ?_
   obtain ⟨y18, h18, h⟩ := some_bind h
   obtain ⟨le18, rfl⟩ := appP_some h18
   try simp only [List.length_set, List.length_map, List.length_append, List.length_cons, List.length_nil, seval] at le18
   try dsimp only at h
   obtain ⟨y19, h19, h⟩ := some_bind h
   obtain ⟨le19, rfl⟩ := appP_some h19
   try simp only [List.length_set, List.length_map, List.length_append, List.length_cons, List.length_nil, seval] at le19
   try dsimp only at h
   obtain ⟨y20, h20, h⟩ := some_bind h
   obtain ⟨le20, rfl⟩ := appP_some h20
   try simp only [List.length_set, List.length_map, List.length_append, List.length_cons, List.length_nil, seval] at le20
   try dsimp only at h
   refine Runs.drw rfl (by simp only [go_sem, seval, outRow, succ_ne0, pos_succ, runFork, one_le, take_len_map, rowC_app, Nat.mul_one, chunks_hd, Nat.le_refl, List.length_set, w79, w78, hl6, lookS, Option.map_none, hl8, lookA, Option.map_some, le18, le19, le20, hc3, hc11, hc13]; rfl) (by simp only [long59, go_sem, seval]; rfl) ?_
   refine Runs.ret ?_
   try cases h
   try dsimp only [outRow]
   refine finK_keep (T := tab) (res := [.cell 6 36]) rfl rfl rfl (by simp only [go_sem, seval, outRow, succ_ne0, pos_succ, runFork, one_le, take_len_map, rowC_app, Nat.mul_one, chunks_hd, Nat.le_refl, List.length_set, w79, w78, hl6, lookS, Option.map_none, hl8, lookA, Option.map_some, le18, le19, le20, hc3, hc11, hc13]; rfl) (by simp only [go_sem, seval, outRow, succ_ne0, pos_succ, runFork, one_le, take_len_map, rowC_app, Nat.mul_one, chunks_hd, Nat.le_refl, List.length_set, w79, w78, hl6, lookS, Option.map_none, hl8, lookA, Option.map_some, le18, le19, le20, hc3, hc11, hc13]; rfl) (by simp only [go_sem, seval, outRow, succ_ne0, pos_succ, runFork, one_le, take_len_map, rowC_app, Nat.mul_one, chunks_hd, Nat.le_refl, List.length_set, w79, w78, hl6, lookS, Option.map_none, hl8, lookA, Option.map_some, le18, le19, le20, hc3, hc11, hc13]; try rfl) (by simp only [go_sem, seval, outRow, succ_ne0, pos_succ, runFork, one_le, take_len_map, rowC_app, Nat.mul_one, chunks_hd, Nat.le_refl, List.length_set, w79, w78, hl6, lookS, Option.map_none, hl8, lookA, Option.map_some, le18, le19, le20, hc3, hc11, hc13]; try rfl)
 ·
  simp only [hl6] at h
  try simp only [refA1] at h
  try simp only [hc3, cond_true, cond_false] at h
  refine Runs.drw rfl (by simp only [go_sem, seval, outRow, succ_ne0, pos_succ, runFork, one_le, take_len_map, rowC_app, Nat.mul_one, chunks_hd, Nat.le_refl, List.length_set, w79, w78, hl6, lookS, Option.map_some, hc3]; rfl) (by simp only [long59, go_sem, seval]; rfl) ?_
  refine Runs.seq ?_
  refine Runs.reg (by simp only [go_sem, seval, outRow, succ_ne0, pos_succ, runFork, one_le, take_len_map, rowC_app, Nat.mul_one, chunks_hd, Nat.le_refl, List.length_set, w79, w78, hl6, lookS, Option.map_some, hc3]; rfl) (by simp only [long59, go_sem, seval]; rfl) ?_
  refine Runs.cond (t := 55) rfl (fun hc21 => ?_) (fun hc21 => ?_)
  rotate_left
  · exact absurd hc21 (by first | decide | (simp only [hc3]; decide))
  try simp only [N3] at hc21
  try simp only [hc21, C5] at h
  refine Runs.seq ?_
  refine Runs.reg (by simp only [go_sem, seval, outRow, succ_ne0, pos_succ, runFork, one_le, take_len_map, rowC_app, Nat.mul_one, chunks_hd, Nat.le_refl, List.length_set, w79, w78, hl6, lookS, Option.map_some, hc3]; rfl) (by simp only [long59, go_sem, seval]; rfl) ?_
  refine Runs.seq ?_
  refine Runs.reg (by simp only [go_sem, seval, outRow, succ_ne0, pos_succ, runFork, one_le, take_len_map, rowC_app, Nat.mul_one, chunks_hd, Nat.le_refl, List.length_set, w79, w78, hl6, lookS, Option.map_some, hc3]; rfl) (by simp only [long59, go_sem, seval]; rfl) ?_
  refine Runs.ret ?_
  try cases h
  try dsimp only [outRow]
  refine finK_keep (T := tab) (res := [.cell 6 36]) rfl rfl rfl (by simp only [go_sem, seval, outRow, succ_ne0, pos_succ, runFork, one_le, take_len_map, rowC_app, Nat.mul_one, chunks_hd, Nat.le_refl, List.length_set, w79, w78, hl6, lookS, Option.map_some, hc3]; rfl) (by simp only [go_sem, seval, outRow, succ_ne0, pos_succ, runFork, one_le, take_len_map, rowC_app, Nat.mul_one, chunks_hd, Nat.le_refl, List.length_set, w79, w78, hl6, lookS, Option.map_some, hc3]; rfl) (by simp only [go_sem, seval, outRow, succ_ne0, pos_succ, runFork, one_le, take_len_map, rowC_app, Nat.mul_one, chunks_hd, Nat.le_refl, List.length_set, w79, w78, hl6, lookS, Option.map_some, hc3]; try rfl) (by simp only [go_sem, seval, outRow, succ_ne0, pos_succ, runFork, one_le, take_len_map, rowC_app, Nat.mul_one, chunks_hd, Nat.le_refl, List.length_set, w79, w78, hl6, lookS, Option.map_some, hc3]; try rfl)
theorem W71 {n : Nat} (is : ExpIH n) {m : MS} {s : Sc} {d : Decl} {r : Xr Decl} (h : declX (astX n) s d m = some r) : callW ip 63 [pV, declV d, scV s] [mBox m, mMap m] = some (outX (fun d => [declV d]) r) := by
 obtain ⟨v_, vs_, hv_, hvl_, h⟩ := declX_drop h
 have w80 := W80 (x := v_) (xs := vs_) (by rw [hv_] at hvl_; simp at hvl_; omega)
 rw [← hv_] at w80
 try simp only [slV] at w80
 refine callW_runs (fn := Tryd.f63) (L := long63) (nt := 70) (n0 := 2) (T := tab) (rw' := []) (kA := keepA) Tryd.func63 rfl rfl rfl rfl rfl rfl rfl rfl rfl ?_
 refine Runs.seq ?_
 refine Runs.reg (by simp only [go_sem, seval, outX, packV, zeroV]; rfl) (by simp only [long63, go_sem, seval]; rfl) ?_
 refine Runs.seq ?_
 refine Runs.reg (by simp only [go_sem, seval, outX, packV, zeroV, w80]; rfl) (by simp only [long63, go_sem, seval]; rfl) ?_
 refine Runs.seq ?_
 refine Runs.seq ?_
 refine Runs.reg (by simp only [go_sem, seval, outX, packV, zeroV]; rfl) (by simp only [long63, go_sem, seval]; rfl) ?_
 refine Runs.block ?_
 obtain ⟨j1, h, hk1⟩ := bindX_some h
 obtain ⟨hL1, h⟩ := lenO_some h
 refine Runs.loop_rel (m := (d.vars).length) (fun mz_ en hp => ∃ (i : Nat) (k : List DVar) (M : MS) (hkl : k.length = i), foldX (dvX (astX n) s) (List.drop i (d.vars)) k M = some j1 ∧ mz_ + i = (d.vars).length ∧ en = [(0, pV), (4, .c (.ptr 2 0)), (5, .c (.ptr 3 0)), (6, .c (.ptr 4 0)), (17, iI (d.vars.length : Int)), (18, .c (.d (.int .i64 (i : Int))))] ∧ hp = [mBox M, mMap M, .box [.d (.int .i64 d.type), .d (.str d.named), .row 5, .d (.int .i64 d.pos)], .box [.d (.fm (s.args.map entA)), .d (.fm (s.names.map entS)), .d (.fm (s.marks.map entS)), .d (.int .i64 s.deep)], .box [.d (.int .i64 0), .d (.str []), .nilS, .d (.int .i64 0)], .row 54 23 d.vars.length (rowC dvarD k ++ rowC dvarD (List.drop i d.vars))]) ?_ ⟨0, _, _, rfl, h, rfl, (by first | rfl | (simp only [go_sem, seval, outX, packV, zeroV]; done) | (simp only [go_sem, seval, outX, packV, zeroV]; rfl)), (by first | rfl | (simp only [go_sem, seval, outX, packV, zeroV]; done) | (simp only [go_sem, seval, outX, packV, zeroV]; rfl))⟩
 clear h
 rintro m1 en hp ⟨i1, k_, m_, hkl_, h, hm1, rfl, rfl⟩
 refine Runs.seq ?_
 refine Runs.reg (by simp only [go_sem, seval, outX, packV, zeroV]; rfl) (by simp only [long63, go_sem, seval]; rfl) ?_
 refine Runs.seq ?_
 refine Runs.cond (t := 19) rfl (fun hc2 => ?_) (fun hc2 => ?_)
 ·
  try simp only [N3] at hc2
  try simp only [hc2, C5] at h
  have hi1 := of_decide_eq_true hc2
  obtain ⟨x1, xs1, hx1⟩ := drop_ex (l := d.vars) (i := i1) (by omega)
  obtain ⟨ha1, hb1, hd1⟩ := drop_cons hx1
  rw [hx1] at h
  simp only [foldX, dvX, wadd, wsub] at h
  obtain ⟨r1, h, g1⟩ := bindX_some h
  have hA_ : (rowC dvarD k_).length = i1 * 23 := by rw [rowC_len dvarD_len, hkl_]
  rw [hx1, rowC_cons]
  generalize hAA_ : rowC dvarD k_ = A_ at hA_ ⊢
  have leQ0_ : (i1 * 23 + 1 ≤ A_.length + ((rowC dvarD xs1).length + 1 + 1 + 1 + 1 + 1 + 1 + 1 + 1 + 1 + 1 + 1 + 1 + 1 + 1 + 1 + 1 + 1 + 1 + 1 + 1 + 1 + 1 + 1)) = True := by simp only [eq_iff_iff, iff_true]; omega
  have leQ2_ : (i1 * 23 + 2 + 9 ≤ A_.length + ((rowC dvarD xs1).length + 1 + 1 + 1 + 1 + 1 + 1 + 1 + 1 + 1 + 1 + 1 + 1 + 1 + 1 + 1 + 1 + 1 + 1 + 1 + 1 + 1 + 1 + 1)) = True := by simp only [eq_iff_iff, iff_true]; omega
  have leQ12_ : (i1 * 23 + 12 + 9 ≤ A_.length + ((rowC dvarD xs1).length + 1 + 1 + 1 + 1 + 1 + 1 + 1 + 1 + 1 + 1 + 1 + 1 + 1 + 1 + 1 + 1 + 1 + 1 + 1 + 1 + 1 + 1 + 1)) = True := by simp only [eq_iff_iff, iff_true]; omega
  have hn1 := cast_nonneg i1
  have hw1 := wrap_succ (n := i1) (by omega)
  refine Runs.skip ?_
  refine Runs.seq ?_
  refine Runs.block ?_
  refine Runs.seq ?_
  refine Runs.reg (by simp only [go_sem, seval, outX, packV, zeroV, ha1, hn1, hw1, hi1, hd1, getA hA_, getA0 hA_, dropA2 hA_, dropA hA_, dropA0 hA_, takeA hA_, takeA0 hA_, leQ0_, leQ2_, leQ12_, List.append_assoc, hc2]; rfl) (by simp only [long63, go_sem, seval]; rfl) ?_
  refine Runs.seq ?_
  refine Runs.reg (by simp only [go_sem, seval, outX, packV, zeroV, ha1, hn1, hw1, hi1, hd1, getA hA_, getA0 hA_, dropA2 hA_, dropA hA_, dropA0 hA_, takeA hA_, takeA0 hA_, leQ0_, leQ2_, leQ12_, List.append_assoc, hc2]; rfl) (by simp only [long63, go_sem, seval]; rfl) ?_
  refine Runs.seq ?_
  refine Runs.seq ?_
  rcases hl3 : lookP s.names x1.name with _ | nm_
  ·
   simp only [hl3] at h
   try simp only [Option.getD_some, Option.getD_none] at h
   try simp only [hc2, cond_true, cond_false] at h
   refine Runs.drw rfl (by simp only [go_sem, seval, outX, packV, zeroV, ha1, hn1, hw1, hi1, hd1, getA hA_, getA0 hA_, dropA2 hA_, dropA hA_, dropA0 hA_, takeA hA_, takeA0 hA_, leQ0_, leQ2_, leQ12_, List.append_assoc, hl3, lookS, Option.map_none, hc2]; rfl) (by simp only [long63, go_sem, seval]; rfl) ?_
   refine Runs.seq ?_
   refine Runs.reg (by simp only [go_sem, seval, outX, packV, zeroV, ha1, hn1, hw1, hi1, hd1, getA hA_, getA0 hA_, dropA2 hA_, dropA hA_, dropA0 hA_, takeA hA_, takeA0 hA_, leQ0_, leQ2_, leQ12_, List.append_assoc, hl3, lookS, Option.map_none, hc2]; rfl) (by simp only [long63, go_sem, seval]; rfl) ?_
   refine Runs.cond (t := 35) rfl (fun hc4 => ?_) (fun hc4 => ?_)
   · exact absurd hc4 (by first | decide | (simp only [hc2]; decide))
   try simp only [N3] at hc4
   try simp only [hc4, C5] at h
   refine Runs.skip ?_
   obtain ⟨r5, h5, h⟩ := bindX_some h
   have w5 := is.e68 h5
   try simp only [scV, sc0, List.map_nil] at w5
   rcases r5 with ⟨e5, m5⟩ | ⟨c5, z5, m5⟩
   rotate_left
   ·
    try dsimp only [outX, outRow, outU] at w5
    subst h
    dsimp only at g1
    subst g1
    dsimp only at hk1
    subst hk1
    refine Runs.draw_pan rfl (by simp only [go_sem, seval, outX, packV, zeroV, ha1, hn1, hw1, hi1, hd1, getA hA_, getA0 hA_, dropA2 hA_, dropA hA_, dropA0 hA_, takeA hA_, takeA0 hA_, leQ0_, leQ2_, leQ12_, List.append_assoc, hl3, lookS, Option.map_none, w5, hc2]; rfl) ?_
    exact finK_pan (by simp only [go_sem, seval, outX, packV, zeroV, ha1, hn1, hw1, hi1, hd1, getA hA_, getA0 hA_, dropA2 hA_, dropA hA_, dropA0 hA_, takeA hA_, takeA0 hA_, leQ0_, leQ2_, leQ12_, List.append_assoc, hl3, lookS, Option.map_none, w5, hc2]; try rfl)
   try dsimp only [outX, outRow, outU] at w5
   dsimp only at h
   obtain ⟨r6, h6, h⟩ := bindX_some h
   have w6 := is.e68 h6
   try simp only [scV, sc0, List.map_nil] at w6
   rcases r6 with ⟨e6, m6⟩ | ⟨c6, z6, m6⟩
   rotate_left
   ·
    try dsimp only [outX, outRow, outU] at w6
    subst h
    dsimp only at g1
    subst g1
    dsimp only at hk1
    subst hk1
    refine Runs.draw_pan rfl (by simp only [go_sem, seval, outX, packV, zeroV, ha1, hn1, hw1, hi1, hd1, getA hA_, getA0 hA_, dropA2 hA_, dropA hA_, dropA0 hA_, takeA hA_, takeA0 hA_, leQ0_, leQ2_, leQ12_, List.append_assoc, hl3, lookS, Option.map_none, w5, w6, hc2]; rfl) ?_
    exact finK_pan (by simp only [go_sem, seval, outX, packV, zeroV, ha1, hn1, hw1, hi1, hd1, getA hA_, getA0 hA_, dropA2 hA_, dropA hA_, dropA0 hA_, takeA hA_, takeA0 hA_, leQ0_, leQ2_, leQ12_, List.append_assoc, hl3, lookS, Option.map_none, w5, w6, hc2]; try rfl)
   try dsimp only [outX, outRow, outU] at w6
   dsimp only at h
   refine Runs.drw rfl (by simp only [go_sem, seval, outX, packV, zeroV, ha1, hn1, hw1, hi1, hd1, getA hA_, getA0 hA_, dropA2 hA_, dropA hA_, dropA0 hA_, takeA hA_, takeA0 hA_, leQ0_, leQ2_, leQ12_, List.append_assoc, hl3, lookS, Option.map_none, w5, w6, hc2]; rfl) (by simp only [long63, go_sem, seval]; rfl) ?_
   refine Runs.reg (by simp only [go_sem, seval, outX, packV, zeroV, ha1, hn1, hw1, hi1, hd1, getA hA_, getA0 hA_, dropA2 hA_, dropA hA_, dropA0 hA_, takeA hA_, takeA0 hA_, leQ0_, leQ2_, leQ12_, List.append_assoc, hl3, lookS, Option.map_none, w5, w6, hc2]; rfl) (by simp only [long63, go_sem, seval]; rfl) ?_
   cases h
   dsimp only at g1
   rw [← hd1] at g1
   subst hAA_
   refine ⟨m1 - 1, by omega, _, _, by simp only [go_sem, seval, outX, packV, zeroV, ha1, hn1, hw1, hi1, hd1, getA hA_, getA0 hA_, dropA2 hA_, dropA hA_, dropA0 hA_, takeA hA_, takeA0 hA_, leQ0_, leQ2_, leQ12_, List.append_assoc, hl3, lookS, Option.map_none, w5, w6]; try rfl, i1 + 1, _, _, (by simp [hkl_]), g1, by omega, rfl, rfl⟩
  ·
   simp only [hl3] at h
   try simp only [Option.getD_some, Option.getD_none] at h
   try simp only [hc2, cond_true, cond_false] at h
   refine Runs.drw rfl (by simp only [go_sem, seval, outX, packV, zeroV, ha1, hn1, hw1, hi1, hd1, getA hA_, getA0 hA_, dropA2 hA_, dropA hA_, dropA0 hA_, takeA hA_, takeA0 hA_, leQ0_, leQ2_, leQ12_, List.append_assoc, hl3, lookS, Option.map_some, hc2]; rfl) (by simp only [long63, go_sem, seval]; rfl) ?_
   refine Runs.seq ?_
   refine Runs.reg (by simp only [go_sem, seval, outX, packV, zeroV, ha1, hn1, hw1, hi1, hd1, getA hA_, getA0 hA_, dropA2 hA_, dropA hA_, dropA0 hA_, takeA hA_, takeA0 hA_, leQ0_, leQ2_, leQ12_, List.append_assoc, hl3, lookS, Option.map_some, hc2]; rfl) (by simp only [long63, go_sem, seval]; rfl) ?_
   refine Runs.cond (t := 35) rfl (fun hc7 => ?_) (fun hc7 => ?_)
   rotate_left
   · exact absurd hc7 (by first | decide | (simp only [hc2]; decide))
   try simp only [N3] at hc7
   try simp only [hc7, C5] at h
   refine Runs.reg (by simp only [go_sem, seval, outX, packV, zeroV, ha1, hn1, hw1, hi1, hd1, getA hA_, getA0 hA_, dropA2 hA_, dropA hA_, dropA0 hA_, takeA hA_, takeA0 hA_, leQ0_, leQ2_, leQ12_, List.append_assoc, hl3, lookS, Option.map_some, hc2]; rfl) (by simp only [long63, go_sem, seval]; rfl) ?_
   obtain ⟨r8, h8, h⟩ := bindX_some h
   have w8 := is.e68 h8
   try simp only [scV, sc0, List.map_nil] at w8
   rcases r8 with ⟨e8, m8⟩ | ⟨c8, z8, m8⟩
   rotate_left
   ·
    try dsimp only [outX, outRow, outU] at w8
    subst h
    dsimp only at g1
    subst g1
    dsimp only at hk1
    subst hk1
    refine Runs.draw_pan rfl (by simp only [go_sem, seval, outX, packV, zeroV, ha1, hn1, hw1, hi1, hd1, getA hA_, getA0 hA_, dropA2 hA_, dropA hA_, dropA0 hA_, takeA hA_, takeA0 hA_, leQ0_, leQ2_, leQ12_, List.append_assoc, hl3, lookS, Option.map_some, w8, hc2]; rfl) ?_
    exact finK_pan (by simp only [go_sem, seval, outX, packV, zeroV, ha1, hn1, hw1, hi1, hd1, getA hA_, getA0 hA_, dropA2 hA_, dropA hA_, dropA0 hA_, takeA hA_, takeA0 hA_, leQ0_, leQ2_, leQ12_, List.append_assoc, hl3, lookS, Option.map_some, w8, hc2]; try rfl)
   try dsimp only [outX, outRow, outU] at w8
   dsimp only at h
   obtain ⟨r9, h9, h⟩ := bindX_some h
   have w9 := is.e68 h9
   try simp only [scV, sc0, List.map_nil] at w9
   rcases r9 with ⟨e9, m9⟩ | ⟨c9, z9, m9⟩
   rotate_left
   ·
    try dsimp only [outX, outRow, outU] at w9
    subst h
    dsimp only at g1
    subst g1
    dsimp only at hk1
    subst hk1
    refine Runs.draw_pan rfl (by simp only [go_sem, seval, outX, packV, zeroV, ha1, hn1, hw1, hi1, hd1, getA hA_, getA0 hA_, dropA2 hA_, dropA hA_, dropA0 hA_, takeA hA_, takeA0 hA_, leQ0_, leQ2_, leQ12_, List.append_assoc, hl3, lookS, Option.map_some, w8, w9, hc2]; rfl) ?_
    exact finK_pan (by simp only [go_sem, seval, outX, packV, zeroV, ha1, hn1, hw1, hi1, hd1, getA hA_, getA0 hA_, dropA2 hA_, dropA hA_, dropA0 hA_, takeA hA_, takeA0 hA_, leQ0_, leQ2_, leQ12_, List.append_assoc, hl3, lookS, Option.map_some, w8, w9, hc2]; try rfl)
   try dsimp only [outX, outRow, outU] at w9
   dsimp only at h
   refine Runs.drw rfl (by simp only [go_sem, seval, outX, packV, zeroV, ha1, hn1, hw1, hi1, hd1, getA hA_, getA0 hA_, dropA2 hA_, dropA hA_, dropA0 hA_, takeA hA_, takeA0 hA_, leQ0_, leQ2_, leQ12_, List.append_assoc, hl3, lookS, Option.map_some, w8, w9, hc2]; rfl) (by simp only [long63, go_sem, seval]; rfl) ?_
   refine Runs.reg (by simp only [go_sem, seval, outX, packV, zeroV, ha1, hn1, hw1, hi1, hd1, getA hA_, getA0 hA_, dropA2 hA_, dropA hA_, dropA0 hA_, takeA hA_, takeA0 hA_, leQ0_, leQ2_, leQ12_, List.append_assoc, hl3, lookS, Option.map_some, w8, w9, hc2]; rfl) (by simp only [long63, go_sem, seval]; rfl) ?_
   cases h
   dsimp only at g1
   rw [← hd1] at g1
   subst hAA_
   refine ⟨m1 - 1, by omega, _, _, by simp only [go_sem, seval, outX, packV, zeroV, ha1, hn1, hw1, hi1, hd1, getA hA_, getA0 hA_, dropA2 hA_, dropA hA_, dropA0 hA_, takeA hA_, takeA0 hA_, leQ0_, leQ2_, leQ12_, List.append_assoc, hl3, lookS, Option.map_some, w8, w9]; try rfl, i1 + 1, _, _, (by simp [hkl_]), g1, by omega, rfl, rfl⟩
 try simp only [N3] at hc2
 try simp only [hc2, C5] at h
 have hi1 := of_decide_eq_false hc2
 rw [List.drop_eq_nil_of_le (by omega)] at h
 simp only [foldX, dvX, wadd, wsub] at h
 refine Runs.exit ?_
 cases h
 have hdn_ : List.drop i1 d.vars = [] := List.drop_eq_nil_of_le (by omega)
 have hln_ : d.vars.length = k_.length := by omega
 have h := hk1
 try dsimp only at h
 try simp only [hc2, cond_true, cond_false] at h
 refine Runs.seq ?_
 refine Runs.seq ?_
 refine Runs.reg (by simp only [go_sem, seval, outX, packV, zeroV, hdn_, hln_, List.flatMap_nil, List.append_nil, hc2]; rfl) (by simp only [long63, go_sem, seval]; rfl) ?_
 refine Runs.cond (t := 63) rfl (fun hc10 => ?_) (fun hc10 => ?_)
 ·
  try simp only [N3] at hc10
  try simp only [hc10, C5] at h
  refine Runs.reg (by simp only [go_sem, seval, outX, packV, zeroV, hdn_, hln_, List.flatMap_nil, List.append_nil, hc2, hc10]; rfl) (by simp only [long63, go_sem, seval]; rfl) ?_
  refine Runs.seq ?_
  refine Runs.reg (by simp only [go_sem, seval, outX, packV, zeroV, hdn_, hln_, List.flatMap_nil, List.append_nil, hc2, hc10]; rfl) (by simp only [long63, go_sem, seval]; rfl) ?_
  refine Runs.ret ?_
  try cases h
  try dsimp only [outX]
  first
  | rfl
  | (exact fk (res := [.cell 6 42]) rfl rfl rfl (by simp only [fin1, go_sem, seval, outX, packV, zeroV, hdn_, hln_, List.flatMap_nil, List.append_nil, hc2, hc10]; try rfl))
 try simp only [N3] at hc10
 try simp only [hc10, C5] at h
 refine Runs.skip ?_
 refine Runs.seq ?_
 refine Runs.reg (by simp only [go_sem, seval, outX, packV, zeroV, hdn_, hln_, List.flatMap_nil, List.append_nil, hc2, hc10]; rfl) (by simp only [long63, go_sem, seval]; rfl) ?_
 refine Runs.ret ?_
 try cases h
 try dsimp only [outX]
 first
 | rfl
 | (exact fk (res := [.cell 6 42]) rfl rfl rfl (by simp only [fin1, go_sem, seval, outX, packV, zeroV, hdn_, hln_, List.flatMap_nil, List.append_nil, hc2, hc10]; try rfl))
end Go.Proofs.YtmkacifjegnehaaDoor
