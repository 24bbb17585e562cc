/-
  THE TYPES THAT THE CLAIM's FUNCTIONS USE, as a table, held against the program by a computed check. Written by mktab.py.
-/
import Derived.Test.YtmkacifjegnehaaDoorAb11
import Derived.Test.YtmkacifjegnehaaDoorChecked
import Derived.KernelRfl
namespace Go.Proofs.YtmkacifjegnehaaDoor
open Go Go.Proofs.YtmkacifjegnehaaDoor.Ab
def tab : Nat → Option TI
  | 2 => some ⟨.int .i64, 1, 8, [.d (.int .i64 0)]⟩
  | 3 => some ⟨.int .i64, 1, 8, [.d (.int .i64 0)]⟩
  | 4 => some ⟨.bool, 1, 1, [.d (.bo false)]⟩
  | 5 => some ⟨.int .u8, 1, 1, [.d (.int .u8 0)]⟩
  | 9 => some ⟨.str, 1, 16, [.d (.str [])]⟩
  | 145 => some ⟨.int .u32, 1, 4, [.d (.int .u32 0)]⟩
  | 137 => some ⟨.int .u64, 1, 8, [.d (.int .u64 0)]⟩
  | 24 => some ⟨.int .i64, 1, 8, [.d (.int .i64 0)]⟩
  | 23 => some ⟨.slice 46, 1, 24, [.nilS]⟩
  | 26 => some ⟨.struct [(0, 1), (1, 1)], 2, 16, [.d (.int .i64 0), .d (.int .i64 0)]⟩
  | 32 => some ⟨.slice 9, 1, 24, [.nilS]⟩
  | 33 => some ⟨.slice 39, 1, 24, [.nilS]⟩
  | 34 => some ⟨.slice 4, 1, 24, [.nilS]⟩
  | 36 => some ⟨.struct [(0, 1), (1, 1), (2, 1)], 3, 72, [.nilS, .nilS, .nilS]⟩
  | 37 => some ⟨.slice 122, 1, 24, [.nilS]⟩
  | 39 => some ⟨.struct [(0, 1), (1, 1), (2, 1), (3, 1), (4, 3), (7, 1), (8, 1)], 9, 168, [.d (.int .i64 0), .d (.int .i64 0), .d (.str []), .d (.str []), .nilS, .nilS, .nilS, .nilS, .nilS]⟩
  | 40 => some ⟨.slice 54, 1, 24, [.nilS]⟩
  | 42 => some ⟨.struct [(0, 1), (1, 1), (2, 1), (3, 1)], 4, 56, [.d (.int .i64 0), .d (.str []), .nilS, .d (.int .i64 0)]⟩
  | 43 => some ⟨.slice 42, 1, 24, [.nilS]⟩
  | 44 => some ⟨.slice 50, 1, 24, [.nilS]⟩
  | 46 => some ⟨.struct [(0, 1), (1, 1), (2, 1), (3, 1), (4, 1), (5, 1), (6, 9), (15, 4), (19, 1), (20, 1)], 21, 352, [.d (.int .i64 0), .d (.int .i64 0), .d (.str []), .d (.str []), .nilS, .d (.bo false), .d (.int .i64 0), .d (.int .i64 0), .d (.str []), .d (.str []), .nilS, .nilS, .nilS, .nilS, .nilS, .d (.int .i64 0), .d (.str []), .nilS, .d (.int .i64 0), .nilS, .nilS]⟩
  | 48 => some ⟨.slice 44, 1, 24, [.nilS]⟩
  | 50 => some ⟨.struct [(0, 1), (1, 1), (2, 1), (3, 1), (4, 1), (5, 1), (6, 1), (7, 1), (8, 3), (11, 9), (20, 1), (21, 1), (22, 4), (26, 1), (27, 1)], 28, 456, [.d (.int .i64 0), .d (.int .i64 0), .d (.str []), .d (.str []), .d (.int .i64 0), .d (.bo false), .d (.bo false), .d (.bo false), .nilS, .nilS, .nilS, .d (.int .i64 0), .d (.int .i64 0), .d (.str []), .d (.str []), .nilS, .nilS, .nilS, .nilS, .nilS, .nilS, .nilS, .d (.int .i64 0), .d (.str []), .nilS, .d (.int .i64 0), .nilS, .nilS]⟩
  | 52 => some ⟨.slice 3, 1, 24, [.nilS]⟩
  | 54 => some ⟨.struct [(0, 1), (1, 1), (2, 9), (11, 1), (12, 9), (21, 1), (22, 1)], 23, 400, [.d (.str []), .d (.bo false), .d (.int .i64 0), .d (.int .i64 0), .d (.str []), .d (.str []), .nilS, .nilS, .nilS, .nilS, .nilS, .d (.bo false), .d (.int .i64 0), .d (.int .i64 0), .d (.str []), .d (.str []), .nilS, .nilS, .nilS, .nilS, .nilS, .d (.bo false), .nilS]⟩
  | 55 => some ⟨.slice 79, 1, 24, [.nilS]⟩
  | 60 => some ⟨.struct [(0, 1), (1, 1), (2, 1), (3, 2)], 5, 64, [.d (.str []), .nilS, .d (.int .i64 0), .d (.int .i64 0), .d (.int .i64 0)]⟩
  | 65 => some ⟨.map 9 46, 1, 8, [.d (.fm [])]⟩
  | 67 => some ⟨.struct [(0, 1), (1, 1), (2, 1), (3, 1)], 4, 32, [.d (.fm []), .d (.int .i64 0), .d (.int .i64 0), .d (.int .i64 0)]⟩
  | 70 => some ⟨.map 9 39, 1, 8, [.d (.fm [])]⟩
  | 71 => some ⟨.map 9 9, 1, 8, [.d (.fm [])]⟩
  | 73 => some ⟨.struct [(0, 1), (1, 1), (2, 1), (3, 1)], 4, 32, [.d (.fm []), .d (.fm []), .d (.fm []), .d (.int .i64 0)]⟩
  | 79 => some ⟨.struct [(0, 1), (1, 1), (2, 1), (3, 1)], 4, 40, [.d (.int .i64 0), .d (.str []), .d (.int .i64 0), .d (.int .i64 0)]⟩
  | 122 => some ⟨.struct [(0, 1), (1, 1), (2, 9)], 11, 176, [.d (.bo false), .d (.bo false), .d (.int .i64 0), .d (.int .i64 0), .d (.str []), .d (.str []), .nilS, .nilS, .nilS, .nilS, .nilS]⟩
  | 118 => some ⟨.slice 5, 1, 24, [.nilS]⟩
  | 30 => some ⟨.map 9 3, 1, 8, [.d (.fm [])]⟩
  | _ => none
theorem eqi (d : Nat) (t : TypeId) (h : Tryd.prog.underlying t = some (.int .i64)) (a b : Int) (w : World) : (Op.equalIn (d + 1) t (.int .i64 a) (.int .i64 b)).run Tryd.prog w = .ok (a == b) w := by
  unfold Op.equalIn
  simp [run_underlying h]
theorem eqs26 (d : Nat) (a b a' b' : Int) (w : World) : (Op.equalIn (d + 2) 26 (.agg #[.int .i64 a, .int .i64 b]) (.agg #[.int .i64 a', .int .i64 b'])).run Tryd.prog w = .ok (a == a' && b == b') w := by
  unfold Op.equalIn
  simp [run_underlying Tryd.underlying26, part, Tryd.isAgg24, Tryd.isAgg3, eqi d 24 Tryd.underlying24, eqi d 3 Tryd.underlying3]
  by_cases h1 : a = a' <;> by_cases h2 : b = b' <;> simp [h1, h2]
theorem eq26 : EqFact Tryd.prog 26 := by
  intro xo yo a b a' b' w
  have h : (eqGuard .eql 26 xo yo (.agg #[.int .i64 a, .int .i64 b]) (.agg #[.int .i64 a', .int .i64 b'])).run Tryd.prog w = .ok () w := by
    unfold eqGuard
    simp
  simp only [Sem.run_bind, h, Result.andThen_ok]
  have h2 : (Op.equal 26 (.agg #[.int .i64 a, .int .i64 b]) (.agg #[.int .i64 a', .int .i64 b'])).run Tryd.prog w = .ok (a == a' && b == b') w := eqs26 9998 a b a' b' w
  unfold binOp
  simp [h2]
theorem tab_ok : Tok Tryd.prog tab := by
  intro t i h
  unfold tab at h
  split at h
  · injection h with h; subst h; exact chk_ok (by kernel_rfl) (fun h => by cases h)
  · injection h with h; subst h; exact chk_ok (by kernel_rfl) (fun h => by cases h)
  · injection h with h; subst h; exact chk_ok (by kernel_rfl) (fun h => by cases h)
  · injection h with h; subst h; exact chk_ok (by kernel_rfl) (fun h => by cases h)
  · injection h with h; subst h; exact chk_ok (by kernel_rfl) (fun h => by cases h)
  · injection h with h; subst h; exact chk_ok (by kernel_rfl) (fun h => by cases h)
  · injection h with h; subst h; exact chk_ok (by kernel_rfl) (fun h => by cases h)
  · injection h with h; subst h; exact chk_ok (by kernel_rfl) (fun h => by cases h)
  · injection h with h; subst h; exact chk_ok (by kernel_rfl) (fun h => by cases h)
  · injection h with h; subst h; exact chk_ok (by kernel_rfl) (fun _ => eq26)
  · injection h with h; subst h; exact chk_ok (by kernel_rfl) (fun h => by cases h)
  · injection h with h; subst h; exact chk_ok (by kernel_rfl) (fun h => by cases h)
  · injection h with h; subst h; exact chk_ok (by kernel_rfl) (fun h => by cases h)
  · injection h with h; subst h; exact chk_ok (by kernel_rfl) (fun h => by cases h)
  · injection h with h; subst h; exact chk_ok (by kernel_rfl) (fun h => by cases h)
  · injection h with h; subst h; exact chk_ok (by kernel_rfl) (fun h => by cases h)
  · injection h with h; subst h; exact chk_ok (by kernel_rfl) (fun h => by cases h)
  · injection h with h; subst h; exact chk_ok (by kernel_rfl) (fun h => by cases h)
  · injection h with h; subst h; exact chk_ok (by kernel_rfl) (fun h => by cases h)
  · injection h with h; subst h; exact chk_ok (by kernel_rfl) (fun h => by cases h)
  · injection h with h; subst h; exact chk_ok (by kernel_rfl) (fun h => by cases h)
  · injection h with h; subst h; exact chk_ok (by kernel_rfl) (fun h => by cases h)
  · injection h with h; subst h; exact chk_ok (by kernel_rfl) (fun h => by cases h)
  · injection h with h; subst h; exact chk_ok (by kernel_rfl) (fun h => by cases h)
  · injection h with h; subst h; exact chk_ok (by kernel_rfl) (fun h => by cases h)
  · injection h with h; subst h; exact chk_ok (by kernel_rfl) (fun h => by cases h)
  · injection h with h; subst h; exact chk_ok (by kernel_rfl) (fun h => by cases h)
  · injection h with h; subst h; exact chk_ok (by kernel_rfl) (fun h => by cases h)
  · injection h with h; subst h; exact chk_ok (by kernel_rfl) (fun h => by cases h)
  · injection h with h; subst h; exact chk_ok (by kernel_rfl) (fun h => by cases h)
  · injection h with h; subst h; exact chk_ok (by kernel_rfl) (fun h => by cases h)
  · injection h with h; subst h; exact chk_ok (by kernel_rfl) (fun h => by cases h)
  · injection h with h; subst h; exact chk_ok (by kernel_rfl) (fun h => by cases h)
  · injection h with h; subst h; exact chk_ok (by kernel_rfl) (fun h => by cases h)
  · injection h with h; subst h; exact chk_ok (by kernel_rfl) (fun h => by cases h)
  · injection h with h; subst h; exact chk_ok (by kernel_rfl) (fun h => by cases h)
  · cases h
theorem follows : Tryd.prog.follows .mixedOrders = true := by kernel_rfl
end Go.Proofs.YtmkacifjegnehaaDoor
