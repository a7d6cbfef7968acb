/-
  FACTS ABOUT THE TYPES that the operations ask for, each reckoned by the kernel.
-/
import Derived.Test.YtfjeopaaplnoaaaProg
import Derived.Test.YtfjeopaaplnoaaaAvU
import Derived.KernelRfl
namespace Go.Proofs.Ytfjeopaaplnoaaa
open Go Go.RowKit Av

theorem hm : Try.prog.follows .mixedOrders = true := by kernel_rfl
theorem lay_25 : lay Try.prog 25 = some (true, 5) := by kernel_rfl
theorem lay_27 : lay Try.prog 27 = some (true, 2) := by kernel_rfl
theorem lay_29 : lay Try.prog 29 = some (true, 2) := by kernel_rfl
theorem azero_27 : azero Try.prog 27 = some [.sc (.int .i64 0), .sc (.int .i64 0)] := by kernel_rfl
theorem afoff_29_0 : afoff Try.prog 29 0 = some 0 := by kernel_rfl
theorem lay_3 : lay Try.prog 3 = some (false, 1) := by kernel_rfl
theorem afoff_29_1 : afoff Try.prog 29 1 = some 1 := by kernel_rfl
theorem aplaces_27 : aplaces Try.prog 27 = some [(0, 1), (1, 1)] := by kernel_rfl
theorem aggEqw_27 (x0 x1 y0 y1 : Int) : aggEqw Try.prog 27 [.sc (.int .i64 x0), .sc (.int .i64 x1)] [.sc (.int .i64 y0), .sc (.int .i64 y1)] = some ((x0 == y0) && ((x1 == y1) && (true))) := by kernel_rfl
theorem afoff_27_0 : afoff Try.prog 27 0 = some 0 := by kernel_rfl
theorem afoff_27_1 : afoff Try.prog 27 1 = some 1 := by kernel_rfl
theorem afoff_47_0 : afoff Try.prog 47 0 = some 0 := by kernel_rfl
theorem lay_45 : lay Try.prog 45 = some (true, 4) := by kernel_rfl
theorem afoff_47_1 : afoff Try.prog 47 1 = some 4 := by kernel_rfl
theorem azero_45 : azero Try.prog 45 = some [.sc (.int .i64 0), .sc (.int .i64 0), .sc (.int .i64 0), .sc (.int .i64 0)] := by kernel_rfl
theorem kindOf_48 : kindOf Try.prog 48 = .slice := by kernel_rfl
theorem afoff_45_0 : afoff Try.prog 45 0 = some 0 := by kernel_rfl
theorem afoff_23_1 : afoff Try.prog 23 1 = some 1 := by kernel_rfl
theorem afoff_23_0 : afoff Try.prog 23 0 = some 0 := by kernel_rfl
theorem afoff_45_1 : afoff Try.prog 45 1 = some 2 := by kernel_rfl
theorem azero_23 : azero Try.prog 23 = some [.sc (.int .i64 0), .sc (.int .i64 0)] := by kernel_rfl
theorem aplaces_23 : aplaces Try.prog 23 = some [(0, 1), (1, 1)] := by kernel_rfl
theorem aplaces_45 : aplaces Try.prog 45 = some [(0, 2), (2, 2)] := by kernel_rfl
theorem aelem_48 : aelem Try.prog 48 = some 2 := by kernel_rfl
theorem lay_57 : lay Try.prog 57 = some (true, 4) := by kernel_rfl
theorem lay_63 : lay Try.prog 63 = some (true, 7) := by kernel_rfl
theorem afoff_63_0 : afoff Try.prog 63 0 = some 0 := by kernel_rfl
theorem lay_58 : lay Try.prog 58 = some (false, 1) := by kernel_rfl
theorem azero_60 : azero Try.prog 60 = some [.sc (.slice none 0 0), .sc (.int .i64 0), .sc (.int .i64 0), .sc (.int .i64 0), .sc (.int .i64 0)] := by kernel_rfl
theorem lay_60 : lay Try.prog 60 = some (true, 5) := by kernel_rfl
theorem afoff_63_1 : afoff Try.prog 63 1 = some 1 := by kernel_rfl
theorem aplaces_60 : aplaces Try.prog 60 = some [(0, 1), (1, 2), (3, 1), (4, 1)] := by kernel_rfl
theorem kindOf_55 : kindOf Try.prog 55 = .slice := by kernel_rfl
theorem kindOf_81 : kindOf Try.prog 81 = .slice := by kernel_rfl
theorem aelem_81 : aelem Try.prog 81 = some 1 := by kernel_rfl
theorem lay_55 : lay Try.prog 55 = some (false, 1) := by kernel_rfl
theorem afoff_95_0 : afoff Try.prog 95 0 = some 0 := by kernel_rfl
theorem afoff_95_1 : afoff Try.prog 95 1 = some 1 := by kernel_rfl
theorem azero_95 : azero Try.prog 95 = some [.sc (.slice none 0 0), .sc (.int .i64 0)] := by kernel_rfl
theorem aplaces_95 : aplaces Try.prog 95 = some [(0, 1), (1, 1)] := by kernel_rfl
theorem aelem_55 : aelem Try.prog 55 = some 1 := by kernel_rfl
theorem kindOf_58 : kindOf Try.prog 58 = .slice := by kernel_rfl
theorem kindOf_61 : kindOf Try.prog 61 = .slice := by kernel_rfl
theorem aggEqw_45 (x0 x1 x2 x3 y0 y1 y2 y3 : Int) : aggEqw Try.prog 45 [.sc (.int .i64 x0), .sc (.int .i64 x1), .sc (.int .i64 x2), .sc (.int .i64 x3)] [.sc (.int .i64 y0), .sc (.int .i64 y1), .sc (.int .i64 y2), .sc (.int .i64 y3)] = some (((x0 == y0) && ((x1 == y1) && (true))) && (((x2 == y2) && ((x3 == y3) && (true))) && (true))) := by kernel_rfl
theorem afoff_63_2 : afoff Try.prog 63 2 = some 6 := by kernel_rfl
theorem lay_61 : lay Try.prog 61 = some (false, 1) := by kernel_rfl
theorem lay_23 : lay Try.prog 23 = some (true, 2) := by kernel_rfl
theorem azero_63 : azero Try.prog 63 = some [.sc (.slice none 0 0), .sc (.slice none 0 0), .sc (.int .i64 0), .sc (.int .i64 0), .sc (.int .i64 0), .sc (.int .i64 0), .sc (.slice none 0 0)] := by kernel_rfl
theorem aplaces_63 : aplaces Try.prog 63 = some [(0, 1), (1, 5), (6, 1)] := by kernel_rfl
theorem afoff_60_2 : afoff Try.prog 60 2 = some 3 := by kernel_rfl
theorem afoff_25_2 : afoff Try.prog 25 2 = some 2 := by kernel_rfl
theorem aelem_58 : aelem Try.prog 58 = some 2 := by kernel_rfl
theorem afoff_60_1 : afoff Try.prog 60 1 = some 1 := by kernel_rfl
theorem afoff_60_3 : afoff Try.prog 60 3 = some 4 := by kernel_rfl
theorem aelem_61 : aelem Try.prog 61 = some 4 := by kernel_rfl
theorem lay_114 : lay Try.prog 114 = some (true, 5) := by kernel_rfl
theorem azero_116 : azero Try.prog 116 = some [.sc (.int .i64 0), .sc (.int .i64 0)] := by kernel_rfl
theorem lay_116 : lay Try.prog 116 = some (true, 2) := by kernel_rfl
theorem aplaces_116 : aplaces Try.prog 116 = some [(0, 1), (1, 1)] := by kernel_rfl
theorem aggEqw_116 (x0 x1 y0 y1 : Int) : aggEqw Try.prog 116 [.sc (.int .i64 x0), .sc (.int .i64 x1)] [.sc (.int .i64 y0), .sc (.int .i64 y1)] = some ((x0 == y0) && ((x1 == y1) && (true))) := by kernel_rfl
theorem afoff_114_4 : afoff Try.prog 114 4 = some 4 := by kernel_rfl
theorem azero_114 : azero Try.prog 114 = some [.sc (.int .i64 0), .sc (.int .i64 0), .sc (.int .i64 0), .sc (.int .i64 0), .sc (.int .i64 0)] := by kernel_rfl
theorem afoff_139_0 : afoff Try.prog 139 0 = some 0 := by kernel_rfl
theorem aggEqw_23 (x0 x1 y0 y1 : Int) : aggEqw Try.prog 23 [.sc (.int .i64 x0), .sc (.int .i64 x1)] [.sc (.int .i64 y0), .sc (.int .i64 y1)] = some ((x0 == y0) && ((x1 == y1) && (true))) := by kernel_rfl
theorem afoff_139_1 : afoff Try.prog 139 1 = some 1 := by kernel_rfl
theorem lay_137 : lay Try.prog 137 = some (true, 7) := by kernel_rfl
theorem afoff_137_1 : afoff Try.prog 137 1 = some 4 := by kernel_rfl
theorem afoff_57_1 : afoff Try.prog 57 1 = some 1 := by kernel_rfl
theorem afoff_57_3 : afoff Try.prog 57 3 = some 3 := by kernel_rfl
theorem afoff_137_2 : afoff Try.prog 137 2 = some 5 := by kernel_rfl
theorem azero_137 : azero Try.prog 137 = some [.sc (.int .i64 0), .sc (.int .i64 0), .sc (.int .i64 0), .sc (.int .i64 0), .sc (.int .i64 0), .sc (.int .i64 0), .sc (.int .i64 0)] := by kernel_rfl
theorem azero_57 : azero Try.prog 57 = some [.sc (.int .i64 0), .sc (.slice none 0 0), .sc (.int .i64 0), .sc (.int .i64 0)] := by kernel_rfl
theorem afoff_57_2 : afoff Try.prog 57 2 = some 2 := by kernel_rfl
theorem afoff_137_0 : afoff Try.prog 137 0 = some 0 := by kernel_rfl
theorem aslc_61 : aslc Try.prog 61 = some 4 := by kernel_rfl
theorem azero_29 : azero Try.prog 29 = some [.sc (.int .i64 0), .sc (.int .i64 0)] := by kernel_rfl
theorem aplaces_29 : aplaces Try.prog 29 = some [(0, 1), (1, 1)] := by kernel_rfl
theorem aslc_55 : aslc Try.prog 55 = some 1 := by kernel_rfl
theorem aslc_58 : aslc Try.prog 58 = some 2 := by kernel_rfl
theorem aslc_208 : aslc Try.prog 208 = some 1 := by kernel_rfl
theorem azero_160 : azero Try.prog 160 = some [.sc (.int .i64 0), .sc (.int .i64 0), .sc (.int .i64 0), .sc (.int .i64 0), .sc (.int .i64 0)] := by kernel_rfl
theorem aplaces_160 : aplaces Try.prog 160 = some [(0, 5)] := by kernel_rfl
theorem afoff_25_3 : afoff Try.prog 25 3 = some 4 := by kernel_rfl
theorem afoff_25_0 : afoff Try.prog 25 0 = some 0 := by kernel_rfl
theorem afoff_25_1 : afoff Try.prog 25 1 = some 1 := by kernel_rfl
theorem afoff_60_0 : afoff Try.prog 60 0 = some 0 := by kernel_rfl
theorem azero_168 : azero Try.prog 168 = some [.sc (.int .i64 0), .sc (.int .i64 0), .sc (.int .i64 0), .sc (.int .i64 0), .sc (.int .i64 0), .sc (.int .i64 0), .sc (.slice none 0 0), .sc (.int .i64 0), .sc (.int .i64 0)] := by kernel_rfl
theorem lay_168 : lay Try.prog 168 = some (true, 9) := by kernel_rfl
theorem azero_173 : azero Try.prog 173 = some [.sc (.pointer none)] := by kernel_rfl
theorem azero_175 : azero Try.prog 175 = some [.sc (.int .i64 0), .sc (.int .i64 0)] := by kernel_rfl
theorem aplaces_175 : aplaces Try.prog 175 = some [(0, 1), (1, 1)] := by kernel_rfl
theorem aarr_175 : aarr Try.prog 175 = some (2, false, 1) := by kernel_rfl
theorem afoff_168_0 : afoff Try.prog 168 0 = some 0 := by kernel_rfl
theorem lay_160 : lay Try.prog 160 = some (true, 5) := by kernel_rfl
theorem lay_173 : lay Try.prog 173 = some (false, 1) := by kernel_rfl
theorem kindOf_173 : kindOf Try.prog 173 = .ptr := by kernel_rfl
theorem aapp_58 : aapp Try.prog 58 = some (27, 2, 16) := by kernel_rfl
theorem aapp_55 : aapp Try.prog 55 = some (3, 1, 8) := by kernel_rfl
theorem afoff_57_0 : afoff Try.prog 57 0 = some 0 := by kernel_rfl
theorem afield_27_0 : afield Try.prog 27 0 = some (false, 1, 0) := by kernel_rfl
theorem afield_27_1 : afield Try.prog 27 1 = some (false, 1, 1) := by kernel_rfl
theorem aapp_61 : aapp Try.prog 61 = some (45, 4, 32) := by kernel_rfl
theorem afoff_116_0 : afoff Try.prog 116 0 = some 0 := by kernel_rfl
theorem afoff_116_1 : afoff Try.prog 116 1 = some 1 := by kernel_rfl
theorem azero_3 : azero Try.prog 3 = some [.sc (.int .i64 0)] := by kernel_rfl
theorem afoff_114_0 : afoff Try.prog 114 0 = some 0 := by kernel_rfl
theorem afoff_114_1 : afoff Try.prog 114 1 = some 1 := by kernel_rfl
theorem afoff_114_2 : afoff Try.prog 114 2 = some 2 := by kernel_rfl
theorem afoff_114_3 : afoff Try.prog 114 3 = some 3 := by kernel_rfl
theorem afoff_131_0 : afoff Try.prog 131 0 = some 0 := by kernel_rfl
theorem lay_129 : lay Try.prog 129 = some (true, 2) := by kernel_rfl
theorem afoff_131_1 : afoff Try.prog 131 1 = some 2 := by kernel_rfl
theorem azero_131 : azero Try.prog 131 = some [.sc (.int .i64 0), .sc (.slice none 0 0), .sc (.int .i64 0), .sc (.slice none 0 0)] := by kernel_rfl
theorem lay_131 : lay Try.prog 131 = some (true, 4) := by kernel_rfl
theorem aplaces_131 : aplaces Try.prog 131 = some [(0, 2), (2, 2)] := by kernel_rfl
theorem afoff_168_1 : afoff Try.prog 168 1 = some 5 := by kernel_rfl
theorem kindOf_206 : kindOf Try.prog 206 = .slice := by kernel_rfl
theorem aelem_206 : aelem Try.prog 206 = some 2 := by kernel_rfl
theorem azero_25 : azero Try.prog 25 = some [.sc (.int .i64 0), .sc (.int .i64 0), .sc (.int .i64 0), .sc (.int .i64 0), .sc (.int .i64 0)] := by kernel_rfl
theorem aplaces_25 : aplaces Try.prog 25 = some [(0, 1), (1, 1), (2, 2), (4, 1)] := by kernel_rfl
theorem aplaces_57 : aplaces Try.prog 57 = some [(0, 1), (1, 1), (2, 1), (3, 1)] := by kernel_rfl
theorem kindOf_208 : kindOf Try.prog 208 = .slice := by kernel_rfl
theorem aelem_208 : aelem Try.prog 208 = some 1 := by kernel_rfl
theorem lay_31 : lay Try.prog 31 = some (false, 1) := by kernel_rfl
theorem afoff_160_0 : afoff Try.prog 160 0 = some 0 := by kernel_rfl
theorem aplaces_168 : aplaces Try.prog 168 = some [(0, 5), (5, 4)] := by kernel_rfl
theorem azero_96 : azero Try.prog 96 = some [.sc .nilFunc] := by kernel_rfl
theorem lay_96 : lay Try.prog 96 = some (false, 1) := by kernel_rfl
theorem azero_55 : azero Try.prog 55 = some [.sc (.slice none 0 0)] := by kernel_rfl
theorem azero_81 : azero Try.prog 81 = some [.sc (.slice none 0 0)] := by kernel_rfl
theorem lay_81 : lay Try.prog 81 = some (false, 1) := by kernel_rfl
theorem aslc_81 : aslc Try.prog 81 = some 1 := by kernel_rfl
theorem aapp_81 : aapp Try.prog 81 = some (55, 1, 24) := by kernel_rfl
theorem azero_4 : azero Try.prog 4 = some [.sc (.bool false)] := by kernel_rfl
theorem lay_4 : lay Try.prog 4 = some (false, 1) := by kernel_rfl
theorem azero_217 : azero Try.prog 217 = some [.sc (.int .i64 0), .sc (.int .i64 0), .sc (.int .i64 0), .sc (.int .i64 0)] := by kernel_rfl
theorem aplaces_217 : aplaces Try.prog 217 = some [(0, 1), (1, 1), (2, 1), (3, 1)] := by kernel_rfl
theorem aarr_217 : aarr Try.prog 217 = some (4, false, 1) := by kernel_rfl
theorem afield_129_0 : afield Try.prog 129 0 = some (false, 1, 0) := by kernel_rfl
theorem azero_129 : azero Try.prog 129 = some [.sc (.int .i64 0), .sc (.slice none 0 0)] := by kernel_rfl
theorem afoff_129_1 : afoff Try.prog 129 1 = some 1 := by kernel_rfl
theorem afoff_129_0 : afoff Try.prog 129 0 = some 0 := by kernel_rfl
theorem azero_61 : azero Try.prog 61 = some [.sc (.slice none 0 0)] := by kernel_rfl
theorem aslc_206 : aslc Try.prog 206 = some 2 := by kernel_rfl
theorem aapp_206 : aapp Try.prog 206 = some (23, 2, 16) := by kernel_rfl
theorem aplaces_129 : aplaces Try.prog 129 = some [(0, 1), (1, 1)] := by kernel_rfl
theorem afield_129_1 : afield Try.prog 129 1 = some (false, 1, 1) := by kernel_rfl

end Go.Proofs.Ytfjeopaaplnoaaa
