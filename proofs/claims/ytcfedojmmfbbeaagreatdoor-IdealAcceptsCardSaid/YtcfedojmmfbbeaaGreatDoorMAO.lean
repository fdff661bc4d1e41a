/-
  Part MAO of the proof's ground: X25.
-/
import Derived.Test.YtcfedojmmfbbeaaGreatDoorMAN
/-
  IdealAccepts: the example that every law of chapter 45 checks first holds; reckoned by the kernel (checking and compiling the example's program are cut out).
-/
set_option linter.all false
namespace Go.Proofs.YtcfedojmmfbbeaaGreatDoor
open Go.Mesh Go Go.RowKit
set_option linter.all false
set_option maxRecDepth 100000
/-! ### What the package-level variables hold -/
mutual
def dc : DataW Unit → List AV
  | .lit (.int k n) => [.int k n]
  | .lit (.string b) => [.str (b.map UInt8.toNat)]
  | .lit (.bool b) => [.bool b]
  | .agg ds => dcs ds
  | _ => []
def dcs : List (DataW Unit) → List AV
  | [] => []
  | d :: ds => dc d ++ dcs ds
end
def els : DataW Unit → List AV
  | .slice ds _ => dcs ds
  | _ => []
def kwN : Nat := lenL (els Rows.laid_refmesh_lexer_keywords)
def glB : List (Nat × AO) := [(0, AO.ro (dc Rows.laid_refmesh_checker_codes) 131), (2, .ro (dc Rows.laid_refmesh_syntax_forms) 255), (10, .ro [.slS 13 kwN kwN] 64), (13, .roS 13 (els Rows.laid_refmesh_lexer_keywords))]
/-! ### The example's program, as it lies in memory -/
def exB : List (Nat × AO) := [(33, .cells [.int .i64 3, .int .i64 0, .int .i64 0, .str [97], .bool false, .lit (.slice none 0 0), .int .i64 0, .int .i64 0, .int .i64 1, .str [], .bool false, .lit (.slice none 0 0)] 98), (35, .cells [.str [97]] 9),
  (36, .cells [.int .i64 2, .int .i64 0, .int .i64 0, .str [], .bool false, .lit (.slice none 0 0), .int .i64 3, .int .i64 0, .int .i64 0, .str [97], .bool false, .lit (.slice none 0 0)] 98), (37, .cells [.int .i64 10, .int .i64 0, .int .i64 0, .str [], .bool false, .sl 33 0 2 2 .exact] 98),
  (38, .cells [.int .i64 2, .str [120], .sl 36 0 2 2 .exact, .lit (.slice none 0 0), .lit (.slice none 0 0), .int .i64 6, .str [], .sl 37 0 1 1 .exact, .lit (.slice none 0 0), .lit (.slice none 0 0)] 101), (40, .cells [.str [120]] 9), (41, .cells [.str [103, 111], .sl 35 0 1 1 .exact, .sl 38 0 2 2 .exact] 103), (42, .cells [.str [65], .bool true, .sl 40 0 1 1 .exact, .sl 41 0 1 1 .exact] 106)]
def c21 : Cut := ⟨[.agg [.sl 42 0 1 1 .exact]], 50, glB ++ exB, .lit (.slice none 0 0), 208, []⟩
def c22 : Cut := ⟨[.agg [.sl 42 0 1 1 .exact]], 210, glB ++ exB, .tup [.agg [.sl 473 0 1 1 .whole], .int .i64 0], 474, [(373, .row [.str [120]] 9 1 373), (468, .row [.int .i64 3, .int .i64 0, .int .i64 0, .int .i64 9, .int .i64 0, .int .i64 0, .int .i64 3, .int .i64 0, .int .i64 0, .int .i64 0, .int .i64 1, .int .i64 0, .int .i64 16, .int .i64 0, .int .i64 0, .int .i64 22, .int .i64 0, .int .i64 0, .int .i64 25, .int .i64 0, .int .i64 0] 77 3 468), (471, .row [.str [103, 111], .int .i64 1, .int .i64 1, .sl 468 0 7 7 .whole, .lit (.slice none 0 0)] 70 5 471), (473, .row [.str [65], .bool true, .sl 373 0 1 1 .whole, .sl 471 0 1 1 .whole] 67 4 473)]⟩
theorem c21_ok : c21.ok Tryz.prog 311 168 (cutM []) 60 21 = true := by
  unfold Cut.ok; rw [← runFZ_eq]; decide +kernel
theorem c22_ok : c22.ok Tryz.prog 311 168 (cutM []) 60 22 = true := by
  unfold Cut.ok; rw [← runFZ_eq]; decide +kernel
theorem m0_ok : MOk Tryz.prog (cutM []) := cutM_ok (fun _ h => by cases h)
theorem m_ok : MOk Tryz.prog (cutM [(21, c21), (22, c22)]) := cutM_ok (fun p h => by
  rcases List.mem_cons.1 h with rfl | h
  · exact cut_ok env m0_ok c21_ok
  · rcases List.mem_cons.1 h with rfl | h
    · exact cut_ok env m0_ok c22_ok
    · cases h)
def s0 : St := ⟨.lf, 0, 30, addB glB .lf, []⟩
end Go.Proofs.YtcfedojmmfbbeaaGreatDoor
