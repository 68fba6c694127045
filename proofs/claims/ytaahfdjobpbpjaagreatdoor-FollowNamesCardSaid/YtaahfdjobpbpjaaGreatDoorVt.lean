/- The tables of the machine for this seat, and that they are the program's. Written by wip/bin/vmt.py. -/
import Derived.Test.YtaahfdjobpbpjaaGreatDoorVu
import Derived.Test.YtaahfdjobpbpjaaGreatDoorProg
import Derived.KernelRfl
set_option linter.unusedVariables false
set_option linter.unusedSectionVars false
set_option maxRecDepth 100000
namespace Go.Proofs.YtaahfdjobpbpjaaGreatDoor
noncomputable def rl (l : List (Nat × V)) : List V := List.rec [] (fun e _ ih => Nat.rec ih (fun _ jh => e.2 :: jh) e.1) l
noncomputable def vt1 : TI := ⟨.fn, 1, 8, (some (.nf)), false⟩
theorem vt1_ok : TIok Tryz.prog 1 vt1 := tiok_of (e := false) (by kernel_rfl)
noncomputable def vt2 : TI := ⟨.int .i64, 1, 8, (some (.i .i64 (.ofNat 0))), true⟩
theorem vt2_ok : TIok Tryz.prog 2 vt2 := tiok_of (e := true) (by kernel_rfl)
noncomputable def vt3 : TI := ⟨.int .i64, 1, 8, (some (.i .i64 (.ofNat 0))), true⟩
theorem vt3_ok : TIok Tryz.prog 3 vt3 := tiok_of (e := true) (by kernel_rfl)
noncomputable def vt4 : TI := ⟨.bool, 1, 1, (some (.b false)), true⟩
theorem vt4_ok : TIok Tryz.prog 4 vt4 := tiok_of (e := true) (by kernel_rfl)
noncomputable def vt5 : TI := ⟨.int .u8, 1, 1, (some (.i .u8 (.ofNat 0))), true⟩
theorem vt5_ok : TIok Tryz.prog 5 vt5 := tiok_of (e := true) (by kernel_rfl)
noncomputable def vt6 : TI := ⟨.int .u8, 1, 1, (some (.i .u8 (.ofNat 0))), true⟩
theorem vt6_ok : TIok Tryz.prog 6 vt6 := tiok_of (e := true) (by kernel_rfl)
noncomputable def vt7 : TI := ⟨.st [(0, 2), (1, 3), (2, 4), (3, 6)], 4, 24, (some (.agg [.i .i64 (.ofNat 0), .i .i64 (.ofNat 0), .b false, .i .u8 (.ofNat 0)])), false⟩
theorem vt7_ok : TIok Tryz.prog 7 vt7 := tiok_of (e := false) (by kernel_rfl)
noncomputable def vt8 : TI := ⟨.st [(0, 2), (1, 3), (2, 4), (3, 6)], 4, 24, (some (.agg [.i .i64 (.ofNat 0), .i .i64 (.ofNat 0), .b false, .i .u8 (.ofNat 0)])), false⟩
theorem vt8_ok : TIok Tryz.prog 8 vt8 := tiok_of (e := false) (by kernel_rfl)
noncomputable def vt9 : TI := ⟨.str, 1, 16, (some (.s [])), true⟩
theorem vt9_ok : TIok Tryz.prog 9 vt9 := tiok_of (e := true) (by kernel_rfl)
noncomputable def vt10 : TI := ⟨.str, 1, 16, (some (.s [])), true⟩
theorem vt10_ok : TIok Tryz.prog 10 vt10 := tiok_of (e := true) (by kernel_rfl)
noncomputable def vt11 : TI := ⟨.str, 1, 16, (some (.s [])), true⟩
theorem vt11_ok : TIok Tryz.prog 11 vt11 := tiok_of (e := true) (by kernel_rfl)
noncomputable def vt12 : TI := ⟨.int .u64, 1, 8, (some (.i .u64 (.ofNat 0))), true⟩
theorem vt12_ok : TIok Tryz.prog 12 vt12 := tiok_of (e := true) (by kernel_rfl)
noncomputable def vt13 : TI := ⟨.st [(0, 9), (1, 12)], 2, 24, (some (.agg [.s [], .i .u64 (.ofNat 0)])), false⟩
theorem vt13_ok : TIok Tryz.prog 13 vt13 := tiok_of (e := false) (by kernel_rfl)
noncomputable def vt14 : TI := ⟨.st [(0, 9), (1, 12)], 2, 24, (some (.agg [.s [], .i .u64 (.ofNat 0)])), false⟩
theorem vt14_ok : TIok Tryz.prog 14 vt14 := tiok_of (e := false) (by kernel_rfl)
noncomputable def vt15 : TI := ⟨.ptr 365, 1, 8, (some (.p none)), true⟩
theorem vt15_ok : TIok Tryz.prog 15 vt15 := tiok_of (e := true) (by kernel_rfl)
noncomputable def vt16 : TI := ⟨.ptr 368, 1, 8, (some (.p none)), true⟩
theorem vt16_ok : TIok Tryz.prog 16 vt16 := tiok_of (e := true) (by kernel_rfl)
noncomputable def vt17 : TI := ⟨.ptr 377, 1, 8, (some (.p none)), true⟩
theorem vt17_ok : TIok Tryz.prog 17 vt17 := tiok_of (e := true) (by kernel_rfl)
noncomputable def vt18 : TI := ⟨.st [(0, 17)], 1, 8, (some (.agg [.p none])), false⟩
theorem vt18_ok : TIok Tryz.prog 18 vt18 := tiok_of (e := false) (by kernel_rfl)
noncomputable def vt19 : TI := ⟨.st [(0, 17)], 1, 8, (some (.agg [.p none])), false⟩
theorem vt19_ok : TIok Tryz.prog 19 vt19 := tiok_of (e := false) (by kernel_rfl)
noncomputable def vt20 : TI := ⟨.ifc, 1, 16, (some (.ni)), true⟩
theorem vt20_ok : TIok Tryz.prog 20 vt20 := tiok_of (e := true) (by kernel_rfl)
noncomputable def vt21 : TI := ⟨.int .i32, 1, 4, (some (.i .i32 (.ofNat 0))), true⟩
theorem vt21_ok : TIok Tryz.prog 21 vt21 := tiok_of (e := true) (by kernel_rfl)
noncomputable def vt22 : TI := ⟨.ptr 52, 1, 8, (some (.p none)), true⟩
theorem vt22_ok : TIok Tryz.prog 22 vt22 := tiok_of (e := true) (by kernel_rfl)
noncomputable def vt23 : TI := ⟨.int .i64, 1, 8, (some (.i .i64 (.ofNat 0))), true⟩
theorem vt23_ok : TIok Tryz.prog 23 vt23 := tiok_of (e := true) (by kernel_rfl)
noncomputable def vt25 : TI := ⟨.fn, 1, 8, (some (.nf)), false⟩
theorem vt25_ok : TIok Tryz.prog 25 vt25 := tiok_of (e := false) (by kernel_rfl)
noncomputable def vt26 : TI := ⟨.sl 5, 1, 24, (some (.sl none 0 0 false)), false⟩
theorem vt26_ok : TIok Tryz.prog 26 vt26 := tiok_of (e := false) (by kernel_rfl)
noncomputable def vt28 : TI := ⟨.fn, 1, 8, (some (.nf)), false⟩
theorem vt28_ok : TIok Tryz.prog 28 vt28 := tiok_of (e := false) (by kernel_rfl)
noncomputable def vt30 : TI := ⟨.fn, 1, 8, (some (.nf)), false⟩
theorem vt30_ok : TIok Tryz.prog 30 vt30 := tiok_of (e := false) (by kernel_rfl)
noncomputable def vt31 : TI := ⟨.arr 32 5, 32, 32, (some (.agg (rl [(32, .i .u8 (.ofNat 0))]))), true⟩
theorem vt31_ok : TIok Tryz.prog 31 vt31 := tiok_of (e := true) (by kernel_rfl)
noncomputable def vt32 : TI := ⟨.arr 32 5, 32, 32, (some (.agg (rl [(32, .i .u8 (.ofNat 0))]))), true⟩
theorem vt32_ok : TIok Tryz.prog 32 vt32 := tiok_of (e := true) (by kernel_rfl)
noncomputable def vt33 : TI := ⟨.st [(0, 2), (1, 2), (2, 32), (34, 32)], 66, 80, (some (.agg (rl [(2, .i .i64 (.ofNat 0)), (64, .i .u8 (.ofNat 0))]))), true⟩
theorem vt33_ok : TIok Tryz.prog 33 vt33 := tiok_of (e := true) (by kernel_rfl)
noncomputable def vt34 : TI := ⟨.st [(0, 2), (1, 2), (2, 32), (34, 32)], 66, 80, (some (.agg (rl [(2, .i .i64 (.ofNat 0)), (64, .i .u8 (.ofNat 0))]))), true⟩
theorem vt34_ok : TIok Tryz.prog 34 vt34 := tiok_of (e := true) (by kernel_rfl)
noncomputable def vt35 : TI := ⟨.fn, 1, 8, (some (.nf)), false⟩
theorem vt35_ok : TIok Tryz.prog 35 vt35 := tiok_of (e := false) (by kernel_rfl)
noncomputable def vt36 : TI := ⟨.sl 62, 1, 24, (some (.sl none 0 0 false)), false⟩
theorem vt36_ok : TIok Tryz.prog 36 vt36 := tiok_of (e := false) (by kernel_rfl)
noncomputable def vt37 : TI := ⟨.fn, 1, 8, (some (.nf)), false⟩
theorem vt37_ok : TIok Tryz.prog 37 vt37 := tiok_of (e := false) (by kernel_rfl)
noncomputable def vt38 : TI := ⟨.fn, 1, 8, (some (.nf)), false⟩
theorem vt38_ok : TIok Tryz.prog 38 vt38 := tiok_of (e := false) (by kernel_rfl)
noncomputable def vt39 : TI := ⟨.st [(0, 2), (1, 32)], 33, 40, (some (.agg (rl [(1, .i .i64 (.ofNat 0)), (32, .i .u8 (.ofNat 0))]))), true⟩
theorem vt39_ok : TIok Tryz.prog 39 vt39 := tiok_of (e := true) (by kernel_rfl)
noncomputable def vt40 : TI := ⟨.st [(0, 2), (1, 32)], 33, 40, (some (.agg (rl [(1, .i .i64 (.ofNat 0)), (32, .i .u8 (.ofNat 0))]))), true⟩
theorem vt40_ok : TIok Tryz.prog 40 vt40 := tiok_of (e := true) (by kernel_rfl)
noncomputable def vt41 : TI := ⟨.fn, 1, 8, (some (.nf)), false⟩
theorem vt41_ok : TIok Tryz.prog 41 vt41 := tiok_of (e := false) (by kernel_rfl)
noncomputable def vt42 : TI := ⟨.st [(0, 3), (1, 34), (67, 34), (133, 23), (134, 3)], 135, 184, (some (.agg (rl [(3, .i .i64 (.ofNat 0)), (64, .i .u8 (.ofNat 0)), (2, .i .i64 (.ofNat 0)), (64, .i .u8 (.ofNat 0)), (2, .i .i64 (.ofNat 0))]))), true⟩
theorem vt42_ok : TIok Tryz.prog 42 vt42 := tiok_of (e := true) (by kernel_rfl)
noncomputable def vt43 : TI := ⟨.st [(0, 3), (1, 34), (67, 34), (133, 23), (134, 3)], 135, 184, (some (.agg (rl [(3, .i .i64 (.ofNat 0)), (64, .i .u8 (.ofNat 0)), (2, .i .i64 (.ofNat 0)), (64, .i .u8 (.ofNat 0)), (2, .i .i64 (.ofNat 0))]))), true⟩
theorem vt43_ok : TIok Tryz.prog 43 vt43 := tiok_of (e := true) (by kernel_rfl)
noncomputable def vt44 : TI := ⟨.fn, 1, 8, (some (.nf)), false⟩
theorem vt44_ok : TIok Tryz.prog 44 vt44 := tiok_of (e := false) (by kernel_rfl)
noncomputable def vt46 : TI := ⟨.fn, 1, 8, (some (.nf)), false⟩
theorem vt46_ok : TIok Tryz.prog 46 vt46 := tiok_of (e := false) (by kernel_rfl)
noncomputable def vt47 : TI := ⟨.sl 57, 1, 24, (some (.sl none 0 0 false)), false⟩
theorem vt47_ok : TIok Tryz.prog 47 vt47 := tiok_of (e := false) (by kernel_rfl)
noncomputable def vt49 : TI := ⟨.fn, 1, 8, (some (.nf)), false⟩
theorem vt49_ok : TIok Tryz.prog 49 vt49 := tiok_of (e := false) (by kernel_rfl)
noncomputable def vt50 : TI := ⟨.ptr 168, 1, 8, (some (.p none)), true⟩
theorem vt50_ok : TIok Tryz.prog 50 vt50 := tiok_of (e := true) (by kernel_rfl)
noncomputable def vt51 : TI := ⟨.st [(0, 50), (1, 36), (2, 34)], 68, 112, (some (.agg (rl [(1, .p none), (1, .sl none 0 0 false), (2, .i .i64 (.ofNat 0)), (64, .i .u8 (.ofNat 0))]))), false⟩
theorem vt51_ok : TIok Tryz.prog 51 vt51 := tiok_of (e := false) (by kernel_rfl)
noncomputable def vt52 : TI := ⟨.st [(0, 50), (1, 36), (2, 34)], 68, 112, (some (.agg (rl [(1, .p none), (1, .sl none 0 0 false), (2, .i .i64 (.ofNat 0)), (64, .i .u8 (.ofNat 0))]))), false⟩
theorem vt52_ok : TIok Tryz.prog 52 vt52 := tiok_of (e := false) (by kernel_rfl)
noncomputable def vt53 : TI := ⟨.sl 128, 1, 24, (some (.sl none 0 0 false)), false⟩
theorem vt53_ok : TIok Tryz.prog 53 vt53 := tiok_of (e := false) (by kernel_rfl)
noncomputable def vt54 : TI := ⟨.st [(0, 3), (1, 2), (2, 2), (3, 32), (35, 32), (67, 53)], 68, 112, (some (.agg (rl [(3, .i .i64 (.ofNat 0)), (64, .i .u8 (.ofNat 0)), (1, .sl none 0 0 false)]))), false⟩
theorem vt54_ok : TIok Tryz.prog 54 vt54 := tiok_of (e := false) (by kernel_rfl)
noncomputable def vt55 : TI := ⟨.st [(0, 3), (1, 2), (2, 2), (3, 32), (35, 32), (67, 53)], 68, 112, (some (.agg (rl [(3, .i .i64 (.ofNat 0)), (64, .i .u8 (.ofNat 0)), (1, .sl none 0 0 false)]))), false⟩
theorem vt55_ok : TIok Tryz.prog 55 vt55 := tiok_of (e := false) (by kernel_rfl)
noncomputable def vt56 : TI := ⟨.st [(0, 55), (68, 32), (100, 3), (101, 3)], 102, 160, (some (.agg (rl [(3, .i .i64 (.ofNat 0)), (64, .i .u8 (.ofNat 0)), (1, .sl none 0 0 false), (32, .i .u8 (.ofNat 0)), (2, .i .i64 (.ofNat 0))]))), false⟩
theorem vt56_ok : TIok Tryz.prog 56 vt56 := tiok_of (e := false) (by kernel_rfl)
noncomputable def vt57 : TI := ⟨.st [(0, 55), (68, 32), (100, 3), (101, 3)], 102, 160, (some (.agg (rl [(3, .i .i64 (.ofNat 0)), (64, .i .u8 (.ofNat 0)), (1, .sl none 0 0 false), (32, .i .u8 (.ofNat 0)), (2, .i .i64 (.ofNat 0))]))), false⟩
theorem vt57_ok : TIok Tryz.prog 57 vt57 := tiok_of (e := false) (by kernel_rfl)
noncomputable def vt58 : TI := ⟨.fn, 1, 8, (some (.nf)), false⟩
theorem vt58_ok : TIok Tryz.prog 58 vt58 := tiok_of (e := false) (by kernel_rfl)
noncomputable def vt59 : TI := ⟨.fn, 1, 8, (some (.nf)), false⟩
theorem vt59_ok : TIok Tryz.prog 59 vt59 := tiok_of (e := false) (by kernel_rfl)
noncomputable def vt60 : TI := ⟨.fn, 1, 8, (some (.nf)), false⟩
theorem vt60_ok : TIok Tryz.prog 60 vt60 := tiok_of (e := false) (by kernel_rfl)
noncomputable def vt61 : TI := ⟨.st [(0, 26), (1, 26)], 2, 48, (some (.agg [.sl none 0 0 false, .sl none 0 0 false])), false⟩
theorem vt61_ok : TIok Tryz.prog 61 vt61 := tiok_of (e := false) (by kernel_rfl)
noncomputable def vt62 : TI := ⟨.st [(0, 26), (1, 26)], 2, 48, (some (.agg [.sl none 0 0 false, .sl none 0 0 false])), false⟩
theorem vt62_ok : TIok Tryz.prog 62 vt62 := tiok_of (e := false) (by kernel_rfl)
noncomputable def vt63 : TI := ⟨.fn, 1, 8, (some (.nf)), false⟩
theorem vt63_ok : TIok Tryz.prog 63 vt63 := tiok_of (e := false) (by kernel_rfl)
noncomputable def vt64 : TI := ⟨.fn, 1, 8, (some (.nf)), false⟩
theorem vt64_ok : TIok Tryz.prog 64 vt64 := tiok_of (e := false) (by kernel_rfl)
noncomputable def vt66 : TI := ⟨.fn, 1, 8, (some (.nf)), false⟩
theorem vt66_ok : TIok Tryz.prog 66 vt66 := tiok_of (e := false) (by kernel_rfl)
noncomputable def vt67 : TI := ⟨.fn, 1, 8, (some (.nf)), false⟩
theorem vt67_ok : TIok Tryz.prog 67 vt67 := tiok_of (e := false) (by kernel_rfl)
noncomputable def vt68 : TI := ⟨.ptr 76, 1, 8, (some (.p none)), true⟩
theorem vt68_ok : TIok Tryz.prog 68 vt68 := tiok_of (e := true) (by kernel_rfl)
noncomputable def vt70 : TI := ⟨.fn, 1, 8, (some (.nf)), false⟩
theorem vt70_ok : TIok Tryz.prog 70 vt70 := tiok_of (e := false) (by kernel_rfl)
noncomputable def vt71 : TI := ⟨.st [(0, 3), (1, 3), (2, 26)], 3, 40, (some (.agg [.i .i64 (.ofNat 0), .i .i64 (.ofNat 0), .sl none 0 0 false])), false⟩
theorem vt71_ok : TIok Tryz.prog 71 vt71 := tiok_of (e := false) (by kernel_rfl)
noncomputable def vt72 : TI := ⟨.st [(0, 3), (1, 3), (2, 26)], 3, 40, (some (.agg [.i .i64 (.ofNat 0), .i .i64 (.ofNat 0), .sl none 0 0 false])), false⟩
theorem vt72_ok : TIok Tryz.prog 72 vt72 := tiok_of (e := false) (by kernel_rfl)
noncomputable def vt73 : TI := ⟨.fn, 1, 8, (some (.nf)), false⟩
theorem vt73_ok : TIok Tryz.prog 73 vt73 := tiok_of (e := false) (by kernel_rfl)
noncomputable def vt74 : TI := ⟨.sl 245, 1, 24, (some (.sl none 0 0 false)), false⟩
theorem vt74_ok : TIok Tryz.prog 74 vt74 := tiok_of (e := false) (by kernel_rfl)
noncomputable def vt75 : TI := ⟨.st [(0, 3), (1, 3), (2, 26), (3, 74), (4, 74), (5, 74)], 6, 112, (some (.agg [.i .i64 (.ofNat 0), .i .i64 (.ofNat 0), .sl none 0 0 false, .sl none 0 0 false, .sl none 0 0 false, .sl none 0 0 false])), false⟩
theorem vt75_ok : TIok Tryz.prog 75 vt75 := tiok_of (e := false) (by kernel_rfl)
noncomputable def vt76 : TI := ⟨.st [(0, 3), (1, 3), (2, 26), (3, 74), (4, 74), (5, 74)], 6, 112, (some (.agg [.i .i64 (.ofNat 0), .i .i64 (.ofNat 0), .sl none 0 0 false, .sl none 0 0 false, .sl none 0 0 false, .sl none 0 0 false])), false⟩
theorem vt76_ok : TIok Tryz.prog 76 vt76 := tiok_of (e := false) (by kernel_rfl)
noncomputable def vt77 : TI := ⟨.ifc, 1, 16, (some (.ni)), false⟩
theorem vt77_ok : TIok Tryz.prog 77 vt77 := tiok_of (e := false) (by kernel_rfl)
noncomputable def vt78 : TI := ⟨.ifc, 1, 16, (some (.ni)), false⟩
theorem vt78_ok : TIok Tryz.prog 78 vt78 := tiok_of (e := false) (by kernel_rfl)
noncomputable def vt79 : TI := ⟨.fn, 1, 8, (some (.nf)), false⟩
theorem vt79_ok : TIok Tryz.prog 79 vt79 := tiok_of (e := false) (by kernel_rfl)
noncomputable def vt80 : TI := ⟨.ptr 84, 1, 8, (some (.p none)), true⟩
theorem vt80_ok : TIok Tryz.prog 80 vt80 := tiok_of (e := true) (by kernel_rfl)
noncomputable def vt81 : TI := ⟨.fn, 1, 8, (some (.nf)), false⟩
theorem vt81_ok : TIok Tryz.prog 81 vt81 := tiok_of (e := false) (by kernel_rfl)
noncomputable def vt82 : TI := ⟨.ptr 80, 1, 8, (some (.p none)), true⟩
theorem vt82_ok : TIok Tryz.prog 82 vt82 := tiok_of (e := true) (by kernel_rfl)
noncomputable def vt83 : TI := ⟨.st [(0, 3), (1, 78)], 2, 24, (some (.agg [.i .i64 (.ofNat 0), .ni])), false⟩
theorem vt83_ok : TIok Tryz.prog 83 vt83 := tiok_of (e := false) (by kernel_rfl)
noncomputable def vt84 : TI := ⟨.st [(0, 3), (1, 78)], 2, 24, (some (.agg [.i .i64 (.ofNat 0), .ni])), false⟩
theorem vt84_ok : TIok Tryz.prog 84 vt84 := tiok_of (e := false) (by kernel_rfl)
noncomputable def vt85 : TI := ⟨.fn, 1, 8, (some (.nf)), false⟩
theorem vt85_ok : TIok Tryz.prog 85 vt85 := tiok_of (e := false) (by kernel_rfl)
noncomputable def vt86 : TI := ⟨.fn, 1, 8, (some (.nf)), false⟩
theorem vt86_ok : TIok Tryz.prog 86 vt86 := tiok_of (e := false) (by kernel_rfl)
noncomputable def vt87 : TI := ⟨.sl 55, 1, 24, (some (.sl none 0 0 false)), false⟩
theorem vt87_ok : TIok Tryz.prog 87 vt87 := tiok_of (e := false) (by kernel_rfl)
noncomputable def vt89 : TI := ⟨.fn, 1, 8, (some (.nf)), false⟩
theorem vt89_ok : TIok Tryz.prog 89 vt89 := tiok_of (e := false) (by kernel_rfl)
noncomputable def vt90 : TI := ⟨.fn, 1, 8, (some (.nf)), false⟩
theorem vt90_ok : TIok Tryz.prog 90 vt90 := tiok_of (e := false) (by kernel_rfl)
noncomputable def vt91 : TI := ⟨.st [(0, 3), (1, 3), (2, 26)], 3, 40, (some (.agg [.i .i64 (.ofNat 0), .i .i64 (.ofNat 0), .sl none 0 0 false])), false⟩
theorem vt91_ok : TIok Tryz.prog 91 vt91 := tiok_of (e := false) (by kernel_rfl)
noncomputable def vt93 : TI := ⟨.fn, 1, 8, (some (.nf)), false⟩
theorem vt93_ok : TIok Tryz.prog 93 vt93 := tiok_of (e := false) (by kernel_rfl)
noncomputable def vt95 : TI := ⟨.fn, 1, 8, (some (.nf)), false⟩
theorem vt95_ok : TIok Tryz.prog 95 vt95 := tiok_of (e := false) (by kernel_rfl)
noncomputable def vt97 : TI := ⟨.fn, 1, 8, (some (.nf)), false⟩
theorem vt97_ok : TIok Tryz.prog 97 vt97 := tiok_of (e := false) (by kernel_rfl)
noncomputable def vt98 : TI := ⟨.fn, 1, 8, (some (.nf)), false⟩
theorem vt98_ok : TIok Tryz.prog 98 vt98 := tiok_of (e := false) (by kernel_rfl)
noncomputable def vt99 : TI := ⟨.int .u64, 1, 8, (some (.i .u64 (.ofNat 0))), true⟩
theorem vt99_ok : TIok Tryz.prog 99 vt99 := tiok_of (e := true) (by kernel_rfl)
noncomputable def vt100 : TI := ⟨.sl 231, 1, 24, (some (.sl none 0 0 false)), false⟩
theorem vt100_ok : TIok Tryz.prog 100 vt100 := tiok_of (e := false) (by kernel_rfl)
noncomputable def vt102 : TI := ⟨.fn, 1, 8, (some (.nf)), false⟩
theorem vt102_ok : TIok Tryz.prog 102 vt102 := tiok_of (e := false) (by kernel_rfl)
noncomputable def vt103 : TI := ⟨.fn, 1, 8, (some (.nf)), false⟩
theorem vt103_ok : TIok Tryz.prog 103 vt103 := tiok_of (e := false) (by kernel_rfl)
noncomputable def vt105 : TI := ⟨.fn, 1, 8, (some (.nf)), false⟩
theorem vt105_ok : TIok Tryz.prog 105 vt105 := tiok_of (e := false) (by kernel_rfl)
noncomputable def vt107 : TI := ⟨.fn, 1, 8, (some (.nf)), false⟩
theorem vt107_ok : TIok Tryz.prog 107 vt107 := tiok_of (e := false) (by kernel_rfl)
noncomputable def vt108 : TI := ⟨.usf, 1, 8, (some (.p none)), true⟩
theorem vt108_ok : TIok Tryz.prog 108 vt108 := tiok_of (e := true) (by kernel_rfl)
noncomputable def vt109 : TI := ⟨.int .u64, 1, 8, (some (.i .u64 (.ofNat 0))), true⟩
theorem vt109_ok : TIok Tryz.prog 109 vt109 := tiok_of (e := true) (by kernel_rfl)
noncomputable def vt110 : TI := ⟨.st [(0, 17), (1, 108), (2, 109)], 3, 24, (some (.agg [.p none, .p none, .i .u64 (.ofNat 0)])), false⟩
theorem vt110_ok : TIok Tryz.prog 110 vt110 := tiok_of (e := false) (by kernel_rfl)
noncomputable def vt111 : TI := ⟨.st [(0, 17), (1, 108), (2, 109)], 3, 24, (some (.agg [.p none, .p none, .i .u64 (.ofNat 0)])), false⟩
theorem vt111_ok : TIok Tryz.prog 111 vt111 := tiok_of (e := false) (by kernel_rfl)
noncomputable def vt112 : TI := ⟨.fn, 1, 8, (some (.nf)), false⟩
theorem vt112_ok : TIok Tryz.prog 112 vt112 := tiok_of (e := false) (by kernel_rfl)
noncomputable def vt113 : TI := ⟨.ifc, 1, 16, (some (.ni)), false⟩
theorem vt113_ok : TIok Tryz.prog 113 vt113 := tiok_of (e := false) (by kernel_rfl)
noncomputable def vt114 : TI := ⟨.ifc, 1, 16, (some (.ni)), false⟩
theorem vt114_ok : TIok Tryz.prog 114 vt114 := tiok_of (e := false) (by kernel_rfl)
noncomputable def vt115 : TI := ⟨.fn, 1, 8, (some (.nf)), false⟩
theorem vt115_ok : TIok Tryz.prog 115 vt115 := tiok_of (e := false) (by kernel_rfl)
noncomputable def vt116 : TI := ⟨.int .u8, 1, 1, (some (.i .u8 (.ofNat 0))), true⟩
theorem vt116_ok : TIok Tryz.prog 116 vt116 := tiok_of (e := true) (by kernel_rfl)
noncomputable def vt117 : TI := ⟨.fn, 1, 8, (some (.nf)), false⟩
theorem vt117_ok : TIok Tryz.prog 117 vt117 := tiok_of (e := false) (by kernel_rfl)
noncomputable def vt118 : TI := ⟨.fn, 1, 8, (some (.nf)), false⟩
theorem vt118_ok : TIok Tryz.prog 118 vt118 := tiok_of (e := false) (by kernel_rfl)
noncomputable def vt119 : TI := ⟨.fn, 1, 8, (some (.nf)), false⟩
theorem vt119_ok : TIok Tryz.prog 119 vt119 := tiok_of (e := false) (by kernel_rfl)
noncomputable def vt120 : TI := ⟨.fn, 1, 8, (some (.nf)), false⟩
theorem vt120_ok : TIok Tryz.prog 120 vt120 := tiok_of (e := false) (by kernel_rfl)
noncomputable def vt121 : TI := ⟨.fn, 1, 8, (some (.nf)), false⟩
theorem vt121_ok : TIok Tryz.prog 121 vt121 := tiok_of (e := false) (by kernel_rfl)
noncomputable def vt123 : TI := ⟨.fn, 1, 8, (some (.nf)), false⟩
theorem vt123_ok : TIok Tryz.prog 123 vt123 := tiok_of (e := false) (by kernel_rfl)
noncomputable def vt124 : TI := ⟨.fn, 1, 8, (some (.nf)), false⟩
theorem vt124_ok : TIok Tryz.prog 124 vt124 := tiok_of (e := false) (by kernel_rfl)
noncomputable def vt125 : TI := ⟨.fn, 1, 8, (some (.nf)), false⟩
theorem vt125_ok : TIok Tryz.prog 125 vt125 := tiok_of (e := false) (by kernel_rfl)
noncomputable def vt126 : TI := ⟨.fn, 1, 8, (some (.nf)), false⟩
theorem vt126_ok : TIok Tryz.prog 126 vt126 := tiok_of (e := false) (by kernel_rfl)
noncomputable def vt127 : TI := ⟨.st [(0, 26), (1, 26), (2, 4)], 3, 56, (some (.agg [.sl none 0 0 false, .sl none 0 0 false, .b false])), false⟩
theorem vt127_ok : TIok Tryz.prog 127 vt127 := tiok_of (e := false) (by kernel_rfl)
noncomputable def vt128 : TI := ⟨.st [(0, 26), (1, 26), (2, 4)], 3, 56, (some (.agg [.sl none 0 0 false, .sl none 0 0 false, .b false])), false⟩
theorem vt128_ok : TIok Tryz.prog 128 vt128 := tiok_of (e := false) (by kernel_rfl)
noncomputable def vt129 : TI := ⟨.fn, 1, 8, (some (.nf)), false⟩
theorem vt129_ok : TIok Tryz.prog 129 vt129 := tiok_of (e := false) (by kernel_rfl)
noncomputable def vt130 : TI := ⟨.fn, 1, 8, (some (.nf)), false⟩
theorem vt130_ok : TIok Tryz.prog 130 vt130 := tiok_of (e := false) (by kernel_rfl)
noncomputable def vt131 : TI := ⟨.fn, 1, 8, (some (.nf)), false⟩
theorem vt131_ok : TIok Tryz.prog 131 vt131 := tiok_of (e := false) (by kernel_rfl)
noncomputable def vt133 : TI := ⟨.fn, 1, 8, (some (.nf)), false⟩
theorem vt133_ok : TIok Tryz.prog 133 vt133 := tiok_of (e := false) (by kernel_rfl)
noncomputable def vt135 : TI := ⟨.fn, 1, 8, (some (.nf)), false⟩
theorem vt135_ok : TIok Tryz.prog 135 vt135 := tiok_of (e := false) (by kernel_rfl)
noncomputable def vt137 : TI := ⟨.fn, 1, 8, (some (.nf)), false⟩
theorem vt137_ok : TIok Tryz.prog 137 vt137 := tiok_of (e := false) (by kernel_rfl)
noncomputable def vt138 : TI := ⟨.fn, 1, 8, (some (.nf)), false⟩
theorem vt138_ok : TIok Tryz.prog 138 vt138 := tiok_of (e := false) (by kernel_rfl)
noncomputable def vt139 : TI := ⟨.fn, 1, 8, (some (.nf)), false⟩
theorem vt139_ok : TIok Tryz.prog 139 vt139 := tiok_of (e := false) (by kernel_rfl)
noncomputable def vt140 : TI := ⟨.st [(0, 3), (1, 2), (2, 3), (3, 4)], 4, 32, (some (.agg [.i .i64 (.ofNat 0), .i .i64 (.ofNat 0), .i .i64 (.ofNat 0), .b false])), true⟩
theorem vt140_ok : TIok Tryz.prog 140 vt140 := tiok_of (e := true) (by kernel_rfl)
noncomputable def vt141 : TI := ⟨.st [(0, 3), (1, 2), (2, 3), (3, 4)], 4, 32, (some (.agg [.i .i64 (.ofNat 0), .i .i64 (.ofNat 0), .i .i64 (.ofNat 0), .b false])), true⟩
theorem vt141_ok : TIok Tryz.prog 141 vt141 := tiok_of (e := true) (by kernel_rfl)
noncomputable def vt143 : TI := ⟨.fn, 1, 8, (some (.nf)), false⟩
theorem vt143_ok : TIok Tryz.prog 143 vt143 := tiok_of (e := false) (by kernel_rfl)
noncomputable def vt144 : TI := ⟨.fn, 1, 8, (some (.nf)), false⟩
theorem vt144_ok : TIok Tryz.prog 144 vt144 := tiok_of (e := false) (by kernel_rfl)
noncomputable def vt145 : TI := ⟨.ptr 218, 1, 8, (some (.p none)), true⟩
theorem vt145_ok : TIok Tryz.prog 145 vt145 := tiok_of (e := true) (by kernel_rfl)
noncomputable def vt146 : TI := ⟨.fn, 1, 8, (some (.nf)), false⟩
theorem vt146_ok : TIok Tryz.prog 146 vt146 := tiok_of (e := false) (by kernel_rfl)
noncomputable def vt147 : TI := ⟨.fn, 1, 8, (some (.nf)), false⟩
theorem vt147_ok : TIok Tryz.prog 147 vt147 := tiok_of (e := false) (by kernel_rfl)
noncomputable def vt148 : TI := ⟨.ptr 151, 1, 8, (some (.p none)), true⟩
theorem vt148_ok : TIok Tryz.prog 148 vt148 := tiok_of (e := true) (by kernel_rfl)
noncomputable def vt149 : TI := ⟨.map 9 160, 1, 8, (some (.m none)), false⟩
theorem vt149_ok : TIok Tryz.prog 149 vt149 := tiok_of (e := false) (by kernel_rfl)
noncomputable def vt150 : TI := ⟨.st [(0, 50), (1, 149), (2, 100)], 3, 40, (some (.agg [.p none, .m none, .sl none 0 0 false])), false⟩
theorem vt150_ok : TIok Tryz.prog 150 vt150 := tiok_of (e := false) (by kernel_rfl)
noncomputable def vt151 : TI := ⟨.st [(0, 50), (1, 149), (2, 100)], 3, 40, (some (.agg [.p none, .m none, .sl none 0 0 false])), false⟩
theorem vt151_ok : TIok Tryz.prog 151 vt151 := tiok_of (e := false) (by kernel_rfl)
noncomputable def vt152 : TI := ⟨.fn, 1, 8, (some (.nf)), false⟩
theorem vt152_ok : TIok Tryz.prog 152 vt152 := tiok_of (e := false) (by kernel_rfl)
noncomputable def vt153 : TI := ⟨.fn, 1, 8, (some (.nf)), false⟩
theorem vt153_ok : TIok Tryz.prog 153 vt153 := tiok_of (e := false) (by kernel_rfl)
noncomputable def vt154 : TI := ⟨.map 32 271, 1, 8, (some (.m none)), false⟩
theorem vt154_ok : TIok Tryz.prog 154 vt154 := tiok_of (e := false) (by kernel_rfl)
noncomputable def vt155 : TI := ⟨.map 9 4, 1, 8, (some (.m none)), false⟩
theorem vt155_ok : TIok Tryz.prog 155 vt155 := tiok_of (e := false) (by kernel_rfl)
noncomputable def vt156 : TI := ⟨.st [(0, 154), (1, 155)], 2, 16, (some (.agg [.m none, .m none])), false⟩
theorem vt156_ok : TIok Tryz.prog 156 vt156 := tiok_of (e := false) (by kernel_rfl)
noncomputable def vt157 : TI := ⟨.st [(0, 154), (1, 155)], 2, 16, (some (.agg [.m none, .m none])), false⟩
theorem vt157_ok : TIok Tryz.prog 157 vt157 := tiok_of (e := false) (by kernel_rfl)
noncomputable def vt158 : TI := ⟨.fn, 1, 8, (some (.nf)), false⟩
theorem vt158_ok : TIok Tryz.prog 158 vt158 := tiok_of (e := false) (by kernel_rfl)
noncomputable def vt159 : TI := ⟨.map 9 32, 1, 8, (some (.m none)), false⟩
theorem vt159_ok : TIok Tryz.prog 159 vt159 := tiok_of (e := false) (by kernel_rfl)
noncomputable def vt160 : TI := ⟨.st [], 0, 0, (some (.agg [])), true⟩
theorem vt160_ok : TIok Tryz.prog 160 vt160 := tiok_of (e := true) (by kernel_rfl)
noncomputable def vt161 : TI := ⟨.st [], 0, 0, (some (.agg [])), true⟩
theorem vt161_ok : TIok Tryz.prog 161 vt161 := tiok_of (e := true) (by kernel_rfl)
noncomputable def vt162 : TI := ⟨.int .u32, 1, 4, (some (.i .u32 (.ofNat 0))), true⟩
theorem vt162_ok : TIok Tryz.prog 162 vt162 := tiok_of (e := true) (by kernel_rfl)
noncomputable def vt163 : TI := ⟨.st [(0, 21), (1, 162)], 2, 8, (some (.agg [.i .i32 (.ofNat 0), .i .u32 (.ofNat 0)])), false⟩
theorem vt163_ok : TIok Tryz.prog 163 vt163 := tiok_of (e := false) (by kernel_rfl)
noncomputable def vt164 : TI := ⟨.st [(0, 21), (1, 162)], 2, 8, (some (.agg [.i .i32 (.ofNat 0), .i .u32 (.ofNat 0)])), false⟩
theorem vt164_ok : TIok Tryz.prog 164 vt164 := tiok_of (e := false) (by kernel_rfl)
noncomputable def vt165 : TI := ⟨.st [(0, 161), (0, 164)], 2, 8, (some (.agg [.i .i32 (.ofNat 0), .i .u32 (.ofNat 0)])), false⟩
theorem vt165_ok : TIok Tryz.prog 165 vt165 := tiok_of (e := false) (by kernel_rfl)
noncomputable def vt166 : TI := ⟨.st [(0, 161), (0, 164)], 2, 8, (some (.agg [.i .i32 (.ofNat 0), .i .u32 (.ofNat 0)])), false⟩
theorem vt166_ok : TIok Tryz.prog 166 vt166 := tiok_of (e := false) (by kernel_rfl)
noncomputable def vt167 : TI := ⟨.st [(0, 3), (1, 3), (2, 26), (3, 166), (5, 157), (7, 157), (9, 159)], 10, 88, (some (.agg (rl [(2, .i .i64 (.ofNat 0)), (1, .sl none 0 0 false), (1, .i .i32 (.ofNat 0)), (1, .i .u32 (.ofNat 0)), (5, .m none)]))), false⟩
theorem vt167_ok : TIok Tryz.prog 167 vt167 := tiok_of (e := false) (by kernel_rfl)
noncomputable def vt168 : TI := ⟨.st [(0, 3), (1, 3), (2, 26), (3, 166), (5, 157), (7, 157), (9, 159)], 10, 88, (some (.agg (rl [(2, .i .i64 (.ofNat 0)), (1, .sl none 0 0 false), (1, .i .i32 (.ofNat 0)), (1, .i .u32 (.ofNat 0)), (5, .m none)]))), false⟩
theorem vt168_ok : TIok Tryz.prog 168 vt168 := tiok_of (e := false) (by kernel_rfl)
noncomputable def vt169 : TI := ⟨.ptr 233, 1, 8, (some (.p none)), true⟩
theorem vt169_ok : TIok Tryz.prog 169 vt169 := tiok_of (e := true) (by kernel_rfl)
noncomputable def vt171 : TI := ⟨.fn, 1, 8, (some (.nf)), false⟩
theorem vt171_ok : TIok Tryz.prog 171 vt171 := tiok_of (e := false) (by kernel_rfl)
noncomputable def vt172 : TI := ⟨.st [(0, 17)], 1, 8, (some (.agg [.p none])), false⟩
theorem vt172_ok : TIok Tryz.prog 172 vt172 := tiok_of (e := false) (by kernel_rfl)
noncomputable def vt173 : TI := ⟨.st [(0, 17)], 1, 8, (some (.agg [.p none])), false⟩
theorem vt173_ok : TIok Tryz.prog 173 vt173 := tiok_of (e := false) (by kernel_rfl)
noncomputable def vt174 : TI := ⟨.ptr 381, 1, 8, (some (.p none)), true⟩
theorem vt174_ok : TIok Tryz.prog 174 vt174 := tiok_of (e := true) (by kernel_rfl)
noncomputable def vt175 : TI := ⟨.fn, 1, 8, (some (.nf)), false⟩
theorem vt175_ok : TIok Tryz.prog 175 vt175 := tiok_of (e := false) (by kernel_rfl)
noncomputable def vt176 : TI := ⟨.fn, 1, 8, (some (.nf)), false⟩
theorem vt176_ok : TIok Tryz.prog 176 vt176 := tiok_of (e := false) (by kernel_rfl)
noncomputable def vt177 : TI := ⟨.ifc, 1, 16, (some (.ni)), false⟩
theorem vt177_ok : TIok Tryz.prog 177 vt177 := tiok_of (e := false) (by kernel_rfl)
noncomputable def vt179 : TI := ⟨.fn, 1, 8, (some (.nf)), false⟩
theorem vt179_ok : TIok Tryz.prog 179 vt179 := tiok_of (e := false) (by kernel_rfl)
noncomputable def vt180 : TI := ⟨.ifc, 1, 16, (some (.ni)), false⟩
theorem vt180_ok : TIok Tryz.prog 180 vt180 := tiok_of (e := false) (by kernel_rfl)
noncomputable def vt181 : TI := ⟨.fn, 1, 8, (some (.nf)), false⟩
theorem vt181_ok : TIok Tryz.prog 181 vt181 := tiok_of (e := false) (by kernel_rfl)
noncomputable def vt182 : TI := ⟨.ifc, 1, 16, (some (.ni)), false⟩
theorem vt182_ok : TIok Tryz.prog 182 vt182 := tiok_of (e := false) (by kernel_rfl)
noncomputable def vt183 : TI := ⟨.sl 78, 1, 24, (some (.sl none 0 0 false)), false⟩
theorem vt183_ok : TIok Tryz.prog 183 vt183 := tiok_of (e := false) (by kernel_rfl)
noncomputable def vt184 : TI := ⟨.fn, 1, 8, (some (.nf)), false⟩
theorem vt184_ok : TIok Tryz.prog 184 vt184 := tiok_of (e := false) (by kernel_rfl)
noncomputable def vt185 : TI := ⟨.ifc, 1, 16, (some (.ni)), false⟩
theorem vt185_ok : TIok Tryz.prog 185 vt185 := tiok_of (e := false) (by kernel_rfl)
noncomputable def vt187 : TI := ⟨.fn, 1, 8, (some (.nf)), false⟩
theorem vt187_ok : TIok Tryz.prog 187 vt187 := tiok_of (e := false) (by kernel_rfl)
noncomputable def vt188 : TI := ⟨.fn, 1, 8, (some (.nf)), false⟩
theorem vt188_ok : TIok Tryz.prog 188 vt188 := tiok_of (e := false) (by kernel_rfl)
noncomputable def vt189 : TI := ⟨.fn, 1, 8, (some (.nf)), false⟩
theorem vt189_ok : TIok Tryz.prog 189 vt189 := tiok_of (e := false) (by kernel_rfl)
noncomputable def vt190 : TI := ⟨.fn, 1, 8, (some (.nf)), false⟩
theorem vt190_ok : TIok Tryz.prog 190 vt190 := tiok_of (e := false) (by kernel_rfl)
noncomputable def vt191 : TI := ⟨.fn, 1, 8, (some (.nf)), false⟩
theorem vt191_ok : TIok Tryz.prog 191 vt191 := tiok_of (e := false) (by kernel_rfl)
noncomputable def vt192 : TI := ⟨.fn, 1, 8, (some (.nf)), false⟩
theorem vt192_ok : TIok Tryz.prog 192 vt192 := tiok_of (e := false) (by kernel_rfl)
noncomputable def vt193 : TI := ⟨.fn, 1, 8, (some (.nf)), false⟩
theorem vt193_ok : TIok Tryz.prog 193 vt193 := tiok_of (e := false) (by kernel_rfl)
noncomputable def vt195 : TI := ⟨.fn, 1, 8, (some (.nf)), false⟩
theorem vt195_ok : TIok Tryz.prog 195 vt195 := tiok_of (e := false) (by kernel_rfl)
noncomputable def vt196 : TI := ⟨.fn, 1, 8, (some (.nf)), false⟩
theorem vt196_ok : TIok Tryz.prog 196 vt196 := tiok_of (e := false) (by kernel_rfl)
noncomputable def vt197 : TI := ⟨.sl 199, 1, 24, (some (.sl none 0 0 false)), false⟩
theorem vt197_ok : TIok Tryz.prog 197 vt197 := tiok_of (e := false) (by kernel_rfl)
noncomputable def vt198 : TI := ⟨.st [(0, 4), (1, 26), (2, 197)], 3, 56, (some (.agg [.b false, .sl none 0 0 false, .sl none 0 0 false])), false⟩
theorem vt198_ok : TIok Tryz.prog 198 vt198 := tiok_of (e := false) (by kernel_rfl)
noncomputable def vt199 : TI := ⟨.st [(0, 4), (1, 26), (2, 197)], 3, 56, (some (.agg [.b false, .sl none 0 0 false, .sl none 0 0 false])), false⟩
theorem vt199_ok : TIok Tryz.prog 199 vt199 := tiok_of (e := false) (by kernel_rfl)
noncomputable def vt201 : TI := ⟨.fn, 1, 8, (some (.nf)), false⟩
theorem vt201_ok : TIok Tryz.prog 201 vt201 := tiok_of (e := false) (by kernel_rfl)
noncomputable def vt203 : TI := ⟨.fn, 1, 8, (some (.nf)), false⟩
theorem vt203_ok : TIok Tryz.prog 203 vt203 := tiok_of (e := false) (by kernel_rfl)
noncomputable def vt205 : TI := ⟨.fn, 1, 8, (some (.nf)), false⟩
theorem vt205_ok : TIok Tryz.prog 205 vt205 := tiok_of (e := false) (by kernel_rfl)
noncomputable def vt206 : TI := ⟨.fn, 1, 8, (some (.nf)), false⟩
theorem vt206_ok : TIok Tryz.prog 206 vt206 := tiok_of (e := false) (by kernel_rfl)
noncomputable def vt207 : TI := ⟨.fn, 1, 8, (some (.nf)), false⟩
theorem vt207_ok : TIok Tryz.prog 207 vt207 := tiok_of (e := false) (by kernel_rfl)
noncomputable def vt208 : TI := ⟨.fn, 1, 8, (some (.nf)), false⟩
theorem vt208_ok : TIok Tryz.prog 208 vt208 := tiok_of (e := false) (by kernel_rfl)
noncomputable def vt209 : TI := ⟨.fn, 1, 8, (some (.nf)), false⟩
theorem vt209_ok : TIok Tryz.prog 209 vt209 := tiok_of (e := false) (by kernel_rfl)
noncomputable def vt210 : TI := ⟨.fn, 1, 8, (some (.nf)), false⟩
theorem vt210_ok : TIok Tryz.prog 210 vt210 := tiok_of (e := false) (by kernel_rfl)
noncomputable def vt211 : TI := ⟨.arr 2 141, 8, 64, (some (.agg (rl [(3, .i .i64 (.ofNat 0)), (1, .b false), (3, .i .i64 (.ofNat 0)), (1, .b false)]))), true⟩
theorem vt211_ok : TIok Tryz.prog 211 vt211 := tiok_of (e := true) (by kernel_rfl)
noncomputable def vt212 : TI := ⟨.sl 214, 1, 24, (some (.sl none 0 0 false)), false⟩
theorem vt212_ok : TIok Tryz.prog 212 vt212 := tiok_of (e := false) (by kernel_rfl)
noncomputable def vt213 : TI := ⟨.st [(0, 26), (1, 26)], 2, 48, (some (.agg [.sl none 0 0 false, .sl none 0 0 false])), false⟩
theorem vt213_ok : TIok Tryz.prog 213 vt213 := tiok_of (e := false) (by kernel_rfl)
noncomputable def vt214 : TI := ⟨.st [(0, 26), (1, 26)], 2, 48, (some (.agg [.sl none 0 0 false, .sl none 0 0 false])), false⟩
theorem vt214_ok : TIok Tryz.prog 214 vt214 := tiok_of (e := false) (by kernel_rfl)
noncomputable def vt215 : TI := ⟨.fn, 1, 8, (some (.nf)), false⟩
theorem vt215_ok : TIok Tryz.prog 215 vt215 := tiok_of (e := false) (by kernel_rfl)
noncomputable def vt216 : TI := ⟨.arr 16 145, 16, 128, (some (.agg (rl [(16, .p none)]))), true⟩
theorem vt216_ok : TIok Tryz.prog 216 vt216 := tiok_of (e := true) (by kernel_rfl)
noncomputable def vt217 : TI := ⟨.st [(0, 26), (1, 26), (2, 216), (18, 4)], 19, 184, (some (.agg (rl [(2, .sl none 0 0 false), (16, .p none), (1, .b false)]))), false⟩
theorem vt217_ok : TIok Tryz.prog 217 vt217 := tiok_of (e := false) (by kernel_rfl)
noncomputable def vt218 : TI := ⟨.st [(0, 26), (1, 26), (2, 216), (18, 4)], 19, 184, (some (.agg (rl [(2, .sl none 0 0 false), (16, .p none), (1, .b false)]))), false⟩
theorem vt218_ok : TIok Tryz.prog 218 vt218 := tiok_of (e := false) (by kernel_rfl)
noncomputable def vt219 : TI := ⟨.fn, 1, 8, (some (.nf)), false⟩
theorem vt219_ok : TIok Tryz.prog 219 vt219 := tiok_of (e := false) (by kernel_rfl)
noncomputable def vt220 : TI := ⟨.st [(0, 3), (1, 32), (33, 26)], 34, 64, (some (.agg (rl [(1, .i .i64 (.ofNat 0)), (32, .i .u8 (.ofNat 0)), (1, .sl none 0 0 false)]))), false⟩
theorem vt220_ok : TIok Tryz.prog 220 vt220 := tiok_of (e := false) (by kernel_rfl)
noncomputable def vt221 : TI := ⟨.st [(0, 3), (1, 32), (33, 26)], 34, 64, (some (.agg (rl [(1, .i .i64 (.ofNat 0)), (32, .i .u8 (.ofNat 0)), (1, .sl none 0 0 false)]))), false⟩
theorem vt221_ok : TIok Tryz.prog 221 vt221 := tiok_of (e := false) (by kernel_rfl)
noncomputable def vt222 : TI := ⟨.arr 16 221, 544, 1024, (some (.agg (rl [(1, .i .i64 (.ofNat 0)), (32, .i .u8 (.ofNat 0)), (1, .sl none 0 0 false), (1, .i .i64 (.ofNat 0)), (32, .i .u8 (.ofNat 0)), (1, .sl none 0 0 false), (1, .i .i64 (.ofNat 0)), (32, .i .u8 (.ofNat 0)), (1, .sl none 0 0 false), (1, .i .i64 (.ofNat 0)), (32, .i .u8 (.ofNat 0)), (1, .sl none 0 0 false), (1, .i .i64 (.ofNat 0)), (32, .i .u8 (.ofNat 0)), (1, .sl none 0 0 false), (1, .i .i64 (.ofNat 0)), (32, .i .u8 (.ofNat 0)), (1, .sl none 0 0 false), (1, .i .i64 (.ofNat 0)), (32, .i .u8 (.ofNat 0)), (1, .sl none 0 0 false), (1, .i .i64 (.ofNat 0)), (32, .i .u8 (.ofNat 0)), (1, .sl none 0 0 false), (1, .i .i64 (.ofNat 0)), (32, .i .u8 (.ofNat 0)), (1, .sl none 0 0 false), (1, .i .i64 (.ofNat 0)), (32, .i .u8 (.ofNat 0)), (1, .sl none 0 0 false), (1, .i .i64 (.ofNat 0)), (32, .i .u8 (.ofNat 0)), (1, .sl none 0 0 false), (1, .i .i64 (.ofNat 0)), (32, .i .u8 (.ofNat 0)), (1, .sl none 0 0 false), (1, .i .i64 (.ofNat 0)), (32, .i .u8 (.ofNat 0)), (1, .sl none 0 0 false), (1, .i .i64 (.ofNat 0)), (32, .i .u8 (.ofNat 0)), (1, .sl none 0 0 false), (1, .i .i64 (.ofNat 0)), (32, .i .u8 (.ofNat 0)), (1, .sl none 0 0 false), (1, .i .i64 (.ofNat 0)), (32, .i .u8 (.ofNat 0)), (1, .sl none 0 0 false)]))), false⟩
theorem vt222_ok : TIok Tryz.prog 222 vt222 := tiok_of (e := false) (by kernel_rfl)
noncomputable def vt223 : TI := ⟨.st [(0, 3), (1, 26), (2, 26), (3, 4), (4, 221), (38, 222)], 582, 1152, (some (.agg (rl [(1, .i .i64 (.ofNat 0)), (2, .sl none 0 0 false), (1, .b false), (1, .i .i64 (.ofNat 0)), (32, .i .u8 (.ofNat 0)), (1, .sl none 0 0 false), (1, .i .i64 (.ofNat 0)), (32, .i .u8 (.ofNat 0)), (1, .sl none 0 0 false), (1, .i .i64 (.ofNat 0)), (32, .i .u8 (.ofNat 0)), (1, .sl none 0 0 false), (1, .i .i64 (.ofNat 0)), (32, .i .u8 (.ofNat 0)), (1, .sl none 0 0 false), (1, .i .i64 (.ofNat 0)), (32, .i .u8 (.ofNat 0)), (1, .sl none 0 0 false), (1, .i .i64 (.ofNat 0)), (32, .i .u8 (.ofNat 0)), (1, .sl none 0 0 false), (1, .i .i64 (.ofNat 0)), (32, .i .u8 (.ofNat 0)), (1, .sl none 0 0 false), (1, .i .i64 (.ofNat 0)), (32, .i .u8 (.ofNat 0)), (1, .sl none 0 0 false), (1, .i .i64 (.ofNat 0)), (32, .i .u8 (.ofNat 0)), (1, .sl none 0 0 false), (1, .i .i64 (.ofNat 0)), (32, .i .u8 (.ofNat 0)), (1, .sl none 0 0 false), (1, .i .i64 (.ofNat 0)), (32, .i .u8 (.ofNat 0)), (1, .sl none 0 0 false), (1, .i .i64 (.ofNat 0)), (32, .i .u8 (.ofNat 0)), (1, .sl none 0 0 false), (1, .i .i64 (.ofNat 0)), (32, .i .u8 (.ofNat 0)), (1, .sl none 0 0 false), (1, .i .i64 (.ofNat 0)), (32, .i .u8 (.ofNat 0)), (1, .sl none 0 0 false), (1, .i .i64 (.ofNat 0)), (32, .i .u8 (.ofNat 0)), (1, .sl none 0 0 false), (1, .i .i64 (.ofNat 0)), (32, .i .u8 (.ofNat 0)), (1, .sl none 0 0 false), (1, .i .i64 (.ofNat 0)), (32, .i .u8 (.ofNat 0)), (1, .sl none 0 0 false)]))), false⟩
theorem vt223_ok : TIok Tryz.prog 223 vt223 := tiok_of (e := false) (by kernel_rfl)
noncomputable def vt224 : TI := ⟨.st [(0, 3), (1, 26), (2, 26), (3, 4), (4, 221), (38, 222)], 582, 1152, (some (.agg (rl [(1, .i .i64 (.ofNat 0)), (2, .sl none 0 0 false), (1, .b false), (1, .i .i64 (.ofNat 0)), (32, .i .u8 (.ofNat 0)), (1, .sl none 0 0 false), (1, .i .i64 (.ofNat 0)), (32, .i .u8 (.ofNat 0)), (1, .sl none 0 0 false), (1, .i .i64 (.ofNat 0)), (32, .i .u8 (.ofNat 0)), (1, .sl none 0 0 false), (1, .i .i64 (.ofNat 0)), (32, .i .u8 (.ofNat 0)), (1, .sl none 0 0 false), (1, .i .i64 (.ofNat 0)), (32, .i .u8 (.ofNat 0)), (1, .sl none 0 0 false), (1, .i .i64 (.ofNat 0)), (32, .i .u8 (.ofNat 0)), (1, .sl none 0 0 false), (1, .i .i64 (.ofNat 0)), (32, .i .u8 (.ofNat 0)), (1, .sl none 0 0 false), (1, .i .i64 (.ofNat 0)), (32, .i .u8 (.ofNat 0)), (1, .sl none 0 0 false), (1, .i .i64 (.ofNat 0)), (32, .i .u8 (.ofNat 0)), (1, .sl none 0 0 false), (1, .i .i64 (.ofNat 0)), (32, .i .u8 (.ofNat 0)), (1, .sl none 0 0 false), (1, .i .i64 (.ofNat 0)), (32, .i .u8 (.ofNat 0)), (1, .sl none 0 0 false), (1, .i .i64 (.ofNat 0)), (32, .i .u8 (.ofNat 0)), (1, .sl none 0 0 false), (1, .i .i64 (.ofNat 0)), (32, .i .u8 (.ofNat 0)), (1, .sl none 0 0 false), (1, .i .i64 (.ofNat 0)), (32, .i .u8 (.ofNat 0)), (1, .sl none 0 0 false), (1, .i .i64 (.ofNat 0)), (32, .i .u8 (.ofNat 0)), (1, .sl none 0 0 false), (1, .i .i64 (.ofNat 0)), (32, .i .u8 (.ofNat 0)), (1, .sl none 0 0 false), (1, .i .i64 (.ofNat 0)), (32, .i .u8 (.ofNat 0)), (1, .sl none 0 0 false)]))), false⟩
theorem vt224_ok : TIok Tryz.prog 224 vt224 := tiok_of (e := false) (by kernel_rfl)
noncomputable def vt225 : TI := ⟨.fn, 1, 8, (some (.nf)), false⟩
theorem vt225_ok : TIok Tryz.prog 225 vt225 := tiok_of (e := false) (by kernel_rfl)
noncomputable def vt226 : TI := ⟨.fn, 1, 8, (some (.nf)), false⟩
theorem vt226_ok : TIok Tryz.prog 226 vt226 := tiok_of (e := false) (by kernel_rfl)
noncomputable def vt227 : TI := ⟨.fn, 1, 8, (some (.nf)), false⟩
theorem vt227_ok : TIok Tryz.prog 227 vt227 := tiok_of (e := false) (by kernel_rfl)
noncomputable def vt228 : TI := ⟨.fn, 1, 8, (some (.nf)), false⟩
theorem vt228_ok : TIok Tryz.prog 228 vt228 := tiok_of (e := false) (by kernel_rfl)
noncomputable def vt230 : TI := ⟨.st [(0, 32), (32, 26)], 33, 56, (some (.agg (rl [(32, .i .u8 (.ofNat 0)), (1, .sl none 0 0 false)]))), false⟩
theorem vt230_ok : TIok Tryz.prog 230 vt230 := tiok_of (e := false) (by kernel_rfl)
noncomputable def vt231 : TI := ⟨.st [(0, 32), (32, 26)], 33, 56, (some (.agg (rl [(32, .i .u8 (.ofNat 0)), (1, .sl none 0 0 false)]))), false⟩
theorem vt231_ok : TIok Tryz.prog 231 vt231 := tiok_of (e := false) (by kernel_rfl)
noncomputable def vt232 : TI := ⟨.st [(0, 3), (1, 100), (2, 3), (3, 3), (4, 3)], 5, 56, (some (.agg [.i .i64 (.ofNat 0), .sl none 0 0 false, .i .i64 (.ofNat 0), .i .i64 (.ofNat 0), .i .i64 (.ofNat 0)])), false⟩
theorem vt232_ok : TIok Tryz.prog 232 vt232 := tiok_of (e := false) (by kernel_rfl)
noncomputable def vt233 : TI := ⟨.st [(0, 3), (1, 100), (2, 3), (3, 3), (4, 3)], 5, 56, (some (.agg [.i .i64 (.ofNat 0), .sl none 0 0 false, .i .i64 (.ofNat 0), .i .i64 (.ofNat 0), .i .i64 (.ofNat 0)])), false⟩
theorem vt233_ok : TIok Tryz.prog 233 vt233 := tiok_of (e := false) (by kernel_rfl)
noncomputable def vt234 : TI := ⟨.fn, 1, 8, (some (.nf)), false⟩
theorem vt234_ok : TIok Tryz.prog 234 vt234 := tiok_of (e := false) (by kernel_rfl)
noncomputable def vt235 : TI := ⟨.sl 237, 1, 24, (some (.sl none 0 0 false)), false⟩
theorem vt235_ok : TIok Tryz.prog 235 vt235 := tiok_of (e := false) (by kernel_rfl)
noncomputable def vt236 : TI := ⟨.st [(0, 26), (1, 26)], 2, 48, (some (.agg [.sl none 0 0 false, .sl none 0 0 false])), false⟩
theorem vt236_ok : TIok Tryz.prog 236 vt236 := tiok_of (e := false) (by kernel_rfl)
noncomputable def vt237 : TI := ⟨.st [(0, 26), (1, 26)], 2, 48, (some (.agg [.sl none 0 0 false, .sl none 0 0 false])), false⟩
theorem vt237_ok : TIok Tryz.prog 237 vt237 := tiok_of (e := false) (by kernel_rfl)
noncomputable def vt239 : TI := ⟨.fn, 1, 8, (some (.nf)), false⟩
theorem vt239_ok : TIok Tryz.prog 239 vt239 := tiok_of (e := false) (by kernel_rfl)
noncomputable def vt240 : TI := ⟨.fn, 1, 8, (some (.nf)), false⟩
theorem vt240_ok : TIok Tryz.prog 240 vt240 := tiok_of (e := false) (by kernel_rfl)
noncomputable def vt241 : TI := ⟨.fn, 1, 8, (some (.nf)), false⟩
theorem vt241_ok : TIok Tryz.prog 241 vt241 := tiok_of (e := false) (by kernel_rfl)
noncomputable def vt242 : TI := ⟨.fn, 1, 8, (some (.nf)), false⟩
theorem vt242_ok : TIok Tryz.prog 242 vt242 := tiok_of (e := false) (by kernel_rfl)
noncomputable def vt243 : TI := ⟨.fn, 1, 8, (some (.nf)), false⟩
theorem vt243_ok : TIok Tryz.prog 243 vt243 := tiok_of (e := false) (by kernel_rfl)
noncomputable def vt244 : TI := ⟨.st [(0, 26), (1, 32)], 33, 56, (some (.agg (rl [(1, .sl none 0 0 false), (32, .i .u8 (.ofNat 0))]))), false⟩
theorem vt244_ok : TIok Tryz.prog 244 vt244 := tiok_of (e := false) (by kernel_rfl)
noncomputable def vt245 : TI := ⟨.st [(0, 26), (1, 32)], 33, 56, (some (.agg (rl [(1, .sl none 0 0 false), (32, .i .u8 (.ofNat 0))]))), false⟩
theorem vt245_ok : TIok Tryz.prog 245 vt245 := tiok_of (e := false) (by kernel_rfl)
noncomputable def vt246 : TI := ⟨.fn, 1, 8, (some (.nf)), false⟩
theorem vt246_ok : TIok Tryz.prog 246 vt246 := tiok_of (e := false) (by kernel_rfl)
noncomputable def vt247 : TI := ⟨.fn, 1, 8, (some (.nf)), false⟩
theorem vt247_ok : TIok Tryz.prog 247 vt247 := tiok_of (e := false) (by kernel_rfl)
noncomputable def vt248 : TI := ⟨.fn, 1, 8, (some (.nf)), false⟩
theorem vt248_ok : TIok Tryz.prog 248 vt248 := tiok_of (e := false) (by kernel_rfl)
noncomputable def vt249 : TI := ⟨.st [(0, 3), (1, 23)], 2, 16, (some (.agg [.i .i64 (.ofNat 0), .i .i64 (.ofNat 0)])), true⟩
theorem vt249_ok : TIok Tryz.prog 249 vt249 := tiok_of (e := true) (by kernel_rfl)
noncomputable def vt250 : TI := ⟨.st [(0, 3), (1, 23)], 2, 16, (some (.agg [.i .i64 (.ofNat 0), .i .i64 (.ofNat 0)])), true⟩
theorem vt250_ok : TIok Tryz.prog 250 vt250 := tiok_of (e := true) (by kernel_rfl)
noncomputable def vt252 : TI := ⟨.fn, 1, 8, (some (.nf)), false⟩
theorem vt252_ok : TIok Tryz.prog 252 vt252 := tiok_of (e := false) (by kernel_rfl)
noncomputable def vt253 : TI := ⟨.int .u64, 1, 8, (some (.i .u64 (.ofNat 0))), true⟩
theorem vt253_ok : TIok Tryz.prog 253 vt253 := tiok_of (e := true) (by kernel_rfl)
noncomputable def vt254 : TI := ⟨.fn, 1, 8, (some (.nf)), false⟩
theorem vt254_ok : TIok Tryz.prog 254 vt254 := tiok_of (e := false) (by kernel_rfl)
noncomputable def vt256 : TI := ⟨.fn, 1, 8, (some (.nf)), false⟩
theorem vt256_ok : TIok Tryz.prog 256 vt256 := tiok_of (e := false) (by kernel_rfl)
noncomputable def vt257 : TI := ⟨.fn, 1, 8, (some (.nf)), false⟩
theorem vt257_ok : TIok Tryz.prog 257 vt257 := tiok_of (e := false) (by kernel_rfl)
noncomputable def vt258 : TI := ⟨.fn, 1, 8, (some (.nf)), false⟩
theorem vt258_ok : TIok Tryz.prog 258 vt258 := tiok_of (e := false) (by kernel_rfl)
noncomputable def vt259 : TI := ⟨.fn, 1, 8, (some (.nf)), false⟩
theorem vt259_ok : TIok Tryz.prog 259 vt259 := tiok_of (e := false) (by kernel_rfl)
noncomputable def vt260 : TI := ⟨.fn, 1, 8, (some (.nf)), false⟩
theorem vt260_ok : TIok Tryz.prog 260 vt260 := tiok_of (e := false) (by kernel_rfl)
noncomputable def vt261 : TI := ⟨.fn, 1, 8, (some (.nf)), false⟩
theorem vt261_ok : TIok Tryz.prog 261 vt261 := tiok_of (e := false) (by kernel_rfl)
noncomputable def vt262 : TI := ⟨.ptr 166, 1, 8, (some (.p none)), true⟩
theorem vt262_ok : TIok Tryz.prog 262 vt262 := tiok_of (e := true) (by kernel_rfl)
noncomputable def vt263 : TI := ⟨.fn, 1, 8, (some (.nf)), false⟩
theorem vt263_ok : TIok Tryz.prog 263 vt263 := tiok_of (e := false) (by kernel_rfl)
noncomputable def vt264 : TI := ⟨.fn, 1, 8, (some (.nf)), false⟩
theorem vt264_ok : TIok Tryz.prog 264 vt264 := tiok_of (e := false) (by kernel_rfl)
noncomputable def vt265 : TI := ⟨.fn, 1, 8, (some (.nf)), false⟩
theorem vt265_ok : TIok Tryz.prog 265 vt265 := tiok_of (e := false) (by kernel_rfl)
noncomputable def vt266 : TI := ⟨.sl 26, 1, 24, (some (.sl none 0 0 false)), false⟩
theorem vt266_ok : TIok Tryz.prog 266 vt266 := tiok_of (e := false) (by kernel_rfl)
noncomputable def vt267 : TI := ⟨.ptr 303, 1, 8, (some (.p none)), true⟩
theorem vt267_ok : TIok Tryz.prog 267 vt267 := tiok_of (e := true) (by kernel_rfl)
noncomputable def vt268 : TI := ⟨.fn, 1, 8, (some (.nf)), false⟩
theorem vt268_ok : TIok Tryz.prog 268 vt268 := tiok_of (e := false) (by kernel_rfl)
noncomputable def vt269 : TI := ⟨.fn, 1, 8, (some (.nf)), false⟩
theorem vt269_ok : TIok Tryz.prog 269 vt269 := tiok_of (e := false) (by kernel_rfl)
noncomputable def vt270 : TI := ⟨.ptr 157, 1, 8, (some (.p none)), true⟩
theorem vt270_ok : TIok Tryz.prog 270 vt270 := tiok_of (e := true) (by kernel_rfl)
noncomputable def vt271 : TI := ⟨.sl 9, 1, 24, (some (.sl none 0 0 false)), false⟩
theorem vt271_ok : TIok Tryz.prog 271 vt271 := tiok_of (e := false) (by kernel_rfl)
noncomputable def vt272 : TI := ⟨.fn, 1, 8, (some (.nf)), false⟩
theorem vt272_ok : TIok Tryz.prog 272 vt272 := tiok_of (e := false) (by kernel_rfl)
noncomputable def vt273 : TI := ⟨.fn, 1, 8, (some (.nf)), false⟩
theorem vt273_ok : TIok Tryz.prog 273 vt273 := tiok_of (e := false) (by kernel_rfl)
noncomputable def vt274 : TI := ⟨.fn, 1, 8, (some (.nf)), false⟩
theorem vt274_ok : TIok Tryz.prog 274 vt274 := tiok_of (e := false) (by kernel_rfl)
noncomputable def vt275 : TI := ⟨.fn, 1, 8, (some (.nf)), false⟩
theorem vt275_ok : TIok Tryz.prog 275 vt275 := tiok_of (e := false) (by kernel_rfl)
noncomputable def vt276 : TI := ⟨.fn, 1, 8, (some (.nf)), false⟩
theorem vt276_ok : TIok Tryz.prog 276 vt276 := tiok_of (e := false) (by kernel_rfl)
noncomputable def vt277 : TI := ⟨.fn, 1, 8, (some (.nf)), false⟩
theorem vt277_ok : TIok Tryz.prog 277 vt277 := tiok_of (e := false) (by kernel_rfl)
noncomputable def vt278 : TI := ⟨.fn, 1, 8, (some (.nf)), false⟩
theorem vt278_ok : TIok Tryz.prog 278 vt278 := tiok_of (e := false) (by kernel_rfl)
noncomputable def vt279 : TI := ⟨.arr 8 162, 8, 32, (some (.agg (rl [(8, .i .u32 (.ofNat 0))]))), true⟩
theorem vt279_ok : TIok Tryz.prog 279 vt279 := tiok_of (e := true) (by kernel_rfl)
noncomputable def vt280 : TI := ⟨.fn, 1, 8, (some (.nf)), false⟩
theorem vt280_ok : TIok Tryz.prog 280 vt280 := tiok_of (e := false) (by kernel_rfl)
noncomputable def vt281 : TI := ⟨.fn, 1, 8, (some (.nf)), false⟩
theorem vt281_ok : TIok Tryz.prog 281 vt281 := tiok_of (e := false) (by kernel_rfl)
noncomputable def vt282 : TI := ⟨.ptr 284, 1, 8, (some (.p none)), true⟩
theorem vt282_ok : TIok Tryz.prog 282 vt282 := tiok_of (e := true) (by kernel_rfl)
noncomputable def vt283 : TI := ⟨.st [(0, 26), (1, 3)], 2, 32, (some (.agg [.sl none 0 0 false, .i .i64 (.ofNat 0)])), false⟩
theorem vt283_ok : TIok Tryz.prog 283 vt283 := tiok_of (e := false) (by kernel_rfl)
noncomputable def vt284 : TI := ⟨.st [(0, 26), (1, 3)], 2, 32, (some (.agg [.sl none 0 0 false, .i .i64 (.ofNat 0)])), false⟩
theorem vt284_ok : TIok Tryz.prog 284 vt284 := tiok_of (e := false) (by kernel_rfl)
noncomputable def vt285 : TI := ⟨.fn, 1, 8, (some (.nf)), false⟩
theorem vt285_ok : TIok Tryz.prog 285 vt285 := tiok_of (e := false) (by kernel_rfl)
noncomputable def vt286 : TI := ⟨.fn, 1, 8, (some (.nf)), false⟩
theorem vt286_ok : TIok Tryz.prog 286 vt286 := tiok_of (e := false) (by kernel_rfl)
noncomputable def vt287 : TI := ⟨.fn, 1, 8, (some (.nf)), false⟩
theorem vt287_ok : TIok Tryz.prog 287 vt287 := tiok_of (e := false) (by kernel_rfl)
noncomputable def vt288 : TI := ⟨.ptr 320, 1, 8, (some (.p none)), true⟩
theorem vt288_ok : TIok Tryz.prog 288 vt288 := tiok_of (e := true) (by kernel_rfl)
noncomputable def vt289 : TI := ⟨.fn, 1, 8, (some (.nf)), false⟩
theorem vt289_ok : TIok Tryz.prog 289 vt289 := tiok_of (e := false) (by kernel_rfl)
noncomputable def vt290 : TI := ⟨.ptr 164, 1, 8, (some (.p none)), true⟩
theorem vt290_ok : TIok Tryz.prog 290 vt290 := tiok_of (e := true) (by kernel_rfl)
noncomputable def vt291 : TI := ⟨.fn, 1, 8, (some (.nf)), false⟩
theorem vt291_ok : TIok Tryz.prog 291 vt291 := tiok_of (e := false) (by kernel_rfl)
noncomputable def vt292 : TI := ⟨.ptr 21, 1, 8, (some (.p none)), true⟩
theorem vt292_ok : TIok Tryz.prog 292 vt292 := tiok_of (e := true) (by kernel_rfl)
noncomputable def vt293 : TI := ⟨.fn, 1, 8, (some (.nf)), false⟩
theorem vt293_ok : TIok Tryz.prog 293 vt293 := tiok_of (e := false) (by kernel_rfl)
noncomputable def vt294 : TI := ⟨.fn, 1, 8, (some (.nf)), false⟩
theorem vt294_ok : TIok Tryz.prog 294 vt294 := tiok_of (e := false) (by kernel_rfl)
noncomputable def vt295 : TI := ⟨.fn, 1, 8, (some (.nf)), false⟩
theorem vt295_ok : TIok Tryz.prog 295 vt295 := tiok_of (e := false) (by kernel_rfl)
noncomputable def vt296 : TI := ⟨.fn, 1, 8, (some (.nf)), false⟩
theorem vt296_ok : TIok Tryz.prog 296 vt296 := tiok_of (e := false) (by kernel_rfl)
noncomputable def vt297 : TI := ⟨.fn, 1, 8, (some (.nf)), false⟩
theorem vt297_ok : TIok Tryz.prog 297 vt297 := tiok_of (e := false) (by kernel_rfl)
noncomputable def vt298 : TI := ⟨.fn, 1, 8, (some (.nf)), false⟩
theorem vt298_ok : TIok Tryz.prog 298 vt298 := tiok_of (e := false) (by kernel_rfl)
noncomputable def vt299 : TI := ⟨.fn, 1, 8, (some (.nf)), false⟩
theorem vt299_ok : TIok Tryz.prog 299 vt299 := tiok_of (e := false) (by kernel_rfl)
noncomputable def vt300 : TI := ⟨.fn, 1, 8, (some (.nf)), false⟩
theorem vt300_ok : TIok Tryz.prog 300 vt300 := tiok_of (e := false) (by kernel_rfl)
noncomputable def vt301 : TI := ⟨.arr 64 5, 64, 64, (some (.agg (rl [(64, .i .u8 (.ofNat 0))]))), true⟩
theorem vt301_ok : TIok Tryz.prog 301 vt301 := tiok_of (e := true) (by kernel_rfl)
noncomputable def vt302 : TI := ⟨.st [(0, 279), (8, 301), (72, 3), (73, 2)], 74, 112, (some (.agg (rl [(8, .i .u32 (.ofNat 0)), (64, .i .u8 (.ofNat 0)), (2, .i .i64 (.ofNat 0))]))), true⟩
theorem vt302_ok : TIok Tryz.prog 302 vt302 := tiok_of (e := true) (by kernel_rfl)
noncomputable def vt303 : TI := ⟨.st [(0, 279), (8, 301), (72, 3), (73, 2)], 74, 112, (some (.agg (rl [(8, .i .u32 (.ofNat 0)), (64, .i .u8 (.ofNat 0)), (2, .i .i64 (.ofNat 0))]))), true⟩
theorem vt303_ok : TIok Tryz.prog 303 vt303 := tiok_of (e := true) (by kernel_rfl)
noncomputable def vt304 : TI := ⟨.fn, 1, 8, (some (.nf)), false⟩
theorem vt304_ok : TIok Tryz.prog 304 vt304 := tiok_of (e := false) (by kernel_rfl)
noncomputable def vt305 : TI := ⟨.ptr 301, 1, 8, (some (.p none)), true⟩
theorem vt305_ok : TIok Tryz.prog 305 vt305 := tiok_of (e := true) (by kernel_rfl)
noncomputable def vt306 : TI := ⟨.arr 8 5, 8, 8, (some (.agg (rl [(8, .i .u8 (.ofNat 0))]))), true⟩
theorem vt306_ok : TIok Tryz.prog 306 vt306 := tiok_of (e := true) (by kernel_rfl)
noncomputable def vt307 : TI := ⟨.fn, 1, 8, (some (.nf)), false⟩
theorem vt307_ok : TIok Tryz.prog 307 vt307 := tiok_of (e := false) (by kernel_rfl)
noncomputable def vt308 : TI := ⟨.fn, 1, 8, (some (.nf)), false⟩
theorem vt308_ok : TIok Tryz.prog 308 vt308 := tiok_of (e := false) (by kernel_rfl)
noncomputable def vt309 : TI := ⟨.fn, 1, 8, (some (.nf)), false⟩
theorem vt309_ok : TIok Tryz.prog 309 vt309 := tiok_of (e := false) (by kernel_rfl)
noncomputable def vt310 : TI := ⟨.fn, 1, 8, (some (.nf)), false⟩
theorem vt310_ok : TIok Tryz.prog 310 vt310 := tiok_of (e := false) (by kernel_rfl)
noncomputable def vt311 : TI := ⟨.fn, 1, 8, (some (.nf)), false⟩
theorem vt311_ok : TIok Tryz.prog 311 vt311 := tiok_of (e := false) (by kernel_rfl)
noncomputable def vt312 : TI := ⟨.sl 3, 1, 24, (some (.sl none 0 0 false)), false⟩
theorem vt312_ok : TIok Tryz.prog 312 vt312 := tiok_of (e := false) (by kernel_rfl)
noncomputable def vt313 : TI := ⟨.arr 64 162, 64, 256, (some (.agg (rl [(64, .i .u32 (.ofNat 0))]))), true⟩
theorem vt313_ok : TIok Tryz.prog 313 vt313 := tiok_of (e := true) (by kernel_rfl)
noncomputable def vt314 : TI := ⟨.fn, 1, 8, (some (.nf)), false⟩
theorem vt314_ok : TIok Tryz.prog 314 vt314 := tiok_of (e := false) (by kernel_rfl)
noncomputable def vt315 : TI := ⟨.fn, 1, 8, (some (.nf)), false⟩
theorem vt315_ok : TIok Tryz.prog 315 vt315 := tiok_of (e := false) (by kernel_rfl)
noncomputable def vt316 : TI := ⟨.fn, 1, 8, (some (.nf)), false⟩
theorem vt316_ok : TIok Tryz.prog 316 vt316 := tiok_of (e := false) (by kernel_rfl)
noncomputable def vt317 : TI := ⟨.fn, 1, 8, (some (.nf)), false⟩
theorem vt317_ok : TIok Tryz.prog 317 vt317 := tiok_of (e := false) (by kernel_rfl)
noncomputable def vt318 : TI := ⟨.fn, 1, 8, (some (.nf)), false⟩
theorem vt318_ok : TIok Tryz.prog 318 vt318 := tiok_of (e := false) (by kernel_rfl)
noncomputable def vt319 : TI := ⟨.st [(0, 267), (1, 301)], 65, 72, (some (.agg (rl [(1, .p none), (64, .i .u8 (.ofNat 0))]))), true⟩
theorem vt319_ok : TIok Tryz.prog 319 vt319 := tiok_of (e := true) (by kernel_rfl)
noncomputable def vt320 : TI := ⟨.st [(0, 267), (1, 301)], 65, 72, (some (.agg (rl [(1, .p none), (64, .i .u8 (.ofNat 0))]))), true⟩
theorem vt320_ok : TIok Tryz.prog 320 vt320 := tiok_of (e := true) (by kernel_rfl)
noncomputable def vt321 : TI := ⟨.fn, 1, 8, (some (.nf)), false⟩
theorem vt321_ok : TIok Tryz.prog 321 vt321 := tiok_of (e := false) (by kernel_rfl)
noncomputable def vt322 : TI := ⟨.fn, 1, 8, (some (.nf)), false⟩
theorem vt322_ok : TIok Tryz.prog 322 vt322 := tiok_of (e := false) (by kernel_rfl)
noncomputable def vt323 : TI := ⟨.fn, 1, 8, (some (.nf)), false⟩
theorem vt323_ok : TIok Tryz.prog 323 vt323 := tiok_of (e := false) (by kernel_rfl)
noncomputable def vt324 : TI := ⟨.ptr 162, 1, 8, (some (.p none)), true⟩
theorem vt324_ok : TIok Tryz.prog 324 vt324 := tiok_of (e := true) (by kernel_rfl)
noncomputable def vt326 : TI := ⟨.fn, 1, 8, (some (.nf)), false⟩
theorem vt326_ok : TIok Tryz.prog 326 vt326 := tiok_of (e := false) (by kernel_rfl)
noncomputable def vt327 : TI := ⟨.fn, 1, 8, (some (.nf)), false⟩
theorem vt327_ok : TIok Tryz.prog 327 vt327 := tiok_of (e := false) (by kernel_rfl)
noncomputable def vt328 : TI := ⟨.fn, 1, 8, (some (.nf)), false⟩
theorem vt328_ok : TIok Tryz.prog 328 vt328 := tiok_of (e := false) (by kernel_rfl)
noncomputable def vt329 : TI := ⟨.int .i64, 1, 8, (some (.i .i64 (.ofNat 0))), true⟩
theorem vt329_ok : TIok Tryz.prog 329 vt329 := tiok_of (e := true) (by kernel_rfl)
noncomputable def vt331 : TI := ⟨.fn, 1, 8, (some (.nf)), false⟩
theorem vt331_ok : TIok Tryz.prog 331 vt331 := tiok_of (e := false) (by kernel_rfl)
noncomputable def vt332 : TI := ⟨.fn, 1, 8, (some (.nf)), false⟩
theorem vt332_ok : TIok Tryz.prog 332 vt332 := tiok_of (e := false) (by kernel_rfl)
noncomputable def vt333 : TI := ⟨.fn, 1, 8, (some (.nf)), false⟩
theorem vt333_ok : TIok Tryz.prog 333 vt333 := tiok_of (e := false) (by kernel_rfl)
noncomputable def vt334 : TI := ⟨.fn, 1, 8, (some (.nf)), false⟩
theorem vt334_ok : TIok Tryz.prog 334 vt334 := tiok_of (e := false) (by kernel_rfl)
noncomputable def vt335 : TI := ⟨.fn, 1, 8, (some (.nf)), false⟩
theorem vt335_ok : TIok Tryz.prog 335 vt335 := tiok_of (e := false) (by kernel_rfl)
noncomputable def vt336 : TI := ⟨.fn, 1, 8, (some (.nf)), false⟩
theorem vt336_ok : TIok Tryz.prog 336 vt336 := tiok_of (e := false) (by kernel_rfl)
noncomputable def vt337 : TI := ⟨.fn, 1, 8, (some (.nf)), false⟩
theorem vt337_ok : TIok Tryz.prog 337 vt337 := tiok_of (e := false) (by kernel_rfl)
noncomputable def vt338 : TI := ⟨.fn, 1, 8, (some (.nf)), false⟩
theorem vt338_ok : TIok Tryz.prog 338 vt338 := tiok_of (e := false) (by kernel_rfl)
noncomputable def vt340 : TI := ⟨.fn, 1, 8, (some (.nf)), false⟩
theorem vt340_ok : TIok Tryz.prog 340 vt340 := tiok_of (e := false) (by kernel_rfl)
noncomputable def vt341 : TI := ⟨.fn, 1, 8, (some (.nf)), false⟩
theorem vt341_ok : TIok Tryz.prog 341 vt341 := tiok_of (e := false) (by kernel_rfl)
noncomputable def vt342 : TI := ⟨.int .u64, 1, 8, (some (.i .u64 (.ofNat 0))), true⟩
theorem vt342_ok : TIok Tryz.prog 342 vt342 := tiok_of (e := true) (by kernel_rfl)
noncomputable def vt343 : TI := ⟨.fn, 1, 8, (some (.nf)), false⟩
theorem vt343_ok : TIok Tryz.prog 343 vt343 := tiok_of (e := false) (by kernel_rfl)
noncomputable def vt344 : TI := ⟨.fn, 1, 8, (some (.nf)), false⟩
theorem vt344_ok : TIok Tryz.prog 344 vt344 := tiok_of (e := false) (by kernel_rfl)
noncomputable def vt345 : TI := ⟨.fn, 1, 8, (some (.nf)), false⟩
theorem vt345_ok : TIok Tryz.prog 345 vt345 := tiok_of (e := false) (by kernel_rfl)
noncomputable def vt346 : TI := ⟨.ptr 3, 1, 8, (some (.p none)), true⟩
theorem vt346_ok : TIok Tryz.prog 346 vt346 := tiok_of (e := true) (by kernel_rfl)
noncomputable def vt347 : TI := ⟨.fn, 1, 8, (some (.nf)), false⟩
theorem vt347_ok : TIok Tryz.prog 347 vt347 := tiok_of (e := false) (by kernel_rfl)
noncomputable def vt348 : TI := ⟨.fn, 1, 8, (some (.nf)), false⟩
theorem vt348_ok : TIok Tryz.prog 348 vt348 := tiok_of (e := false) (by kernel_rfl)
noncomputable def vt349 : TI := ⟨.fn, 1, 8, (some (.nf)), false⟩
theorem vt349_ok : TIok Tryz.prog 349 vt349 := tiok_of (e := false) (by kernel_rfl)
noncomputable def vt351 : TI := ⟨.fn, 1, 8, (some (.nf)), false⟩
theorem vt351_ok : TIok Tryz.prog 351 vt351 := tiok_of (e := false) (by kernel_rfl)
noncomputable def vt353 : TI := ⟨.fn, 1, 8, (some (.nf)), false⟩
theorem vt353_ok : TIok Tryz.prog 353 vt353 := tiok_of (e := false) (by kernel_rfl)
noncomputable def vt354 : TI := ⟨.ptr 342, 1, 8, (some (.p none)), true⟩
theorem vt354_ok : TIok Tryz.prog 354 vt354 := tiok_of (e := true) (by kernel_rfl)
noncomputable def vt356 : TI := ⟨.fn, 1, 8, (some (.nf)), false⟩
theorem vt356_ok : TIok Tryz.prog 356 vt356 := tiok_of (e := false) (by kernel_rfl)
noncomputable def vt358 : TI := ⟨.fn, 1, 8, (some (.nf)), false⟩
theorem vt358_ok : TIok Tryz.prog 358 vt358 := tiok_of (e := false) (by kernel_rfl)
noncomputable def vt359 : TI := ⟨.fn, 1, 8, (some (.nf)), false⟩
theorem vt359_ok : TIok Tryz.prog 359 vt359 := tiok_of (e := false) (by kernel_rfl)
noncomputable def vt361 : TI := ⟨.fn, 1, 8, (some (.nf)), false⟩
theorem vt361_ok : TIok Tryz.prog 361 vt361 := tiok_of (e := false) (by kernel_rfl)
noncomputable def vt362 : TI := ⟨.ptr 384, 1, 8, (some (.p none)), true⟩
theorem vt362_ok : TIok Tryz.prog 362 vt362 := tiok_of (e := true) (by kernel_rfl)
noncomputable def vt363 : TI := ⟨.fn, 1, 8, (some (.nf)), false⟩
theorem vt363_ok : TIok Tryz.prog 363 vt363 := tiok_of (e := false) (by kernel_rfl)
noncomputable def vt364 : TI := ⟨.st [(0, 17), (1, 17), (2, 17), (3, 9)], 4, 40, (some (.agg [.p none, .p none, .p none, .s []])), false⟩
theorem vt364_ok : TIok Tryz.prog 364 vt364 := tiok_of (e := false) (by kernel_rfl)
noncomputable def vt365 : TI := ⟨.st [(0, 17), (1, 17), (2, 17), (3, 9)], 4, 40, (some (.agg [.p none, .p none, .p none, .s []])), false⟩
theorem vt365_ok : TIok Tryz.prog 365 vt365 := tiok_of (e := false) (by kernel_rfl)
noncomputable def vt366 : TI := ⟨.arr 0 16, 0, 0, (some (.agg [])), true⟩
theorem vt366_ok : TIok Tryz.prog 366 vt366 := tiok_of (e := true) (by kernel_rfl)
noncomputable def vt367 : TI := ⟨.st [(0, 366)], 0, 0, (some (.agg [])), false⟩
theorem vt367_ok : TIok Tryz.prog 367 vt367 := tiok_of (e := false) (by kernel_rfl)
noncomputable def vt368 : TI := ⟨.st [(0, 366)], 0, 0, (some (.agg [])), false⟩
theorem vt368_ok : TIok Tryz.prog 368 vt368 := tiok_of (e := false) (by kernel_rfl)
noncomputable def vt369 : TI := ⟨.fn, 1, 8, (some (.nf)), false⟩
theorem vt369_ok : TIok Tryz.prog 369 vt369 := tiok_of (e := false) (by kernel_rfl)
noncomputable def vt370 : TI := ⟨.fn, 1, 8, (some (.nf)), false⟩
theorem vt370_ok : TIok Tryz.prog 370 vt370 := tiok_of (e := false) (by kernel_rfl)
noncomputable def vt371 : TI := ⟨.int .u8, 1, 1, (some (.i .u8 (.ofNat 0))), true⟩
theorem vt371_ok : TIok Tryz.prog 371 vt371 := tiok_of (e := true) (by kernel_rfl)
noncomputable def vt372 : TI := ⟨.fn, 1, 8, (some (.nf)), false⟩
theorem vt372_ok : TIok Tryz.prog 372 vt372 := tiok_of (e := false) (by kernel_rfl)
noncomputable def vt373 : TI := ⟨.ptr 5, 1, 8, (some (.p none)), true⟩
theorem vt373_ok : TIok Tryz.prog 373 vt373 := tiok_of (e := true) (by kernel_rfl)
noncomputable def vt374 : TI := ⟨.int .i32, 1, 4, (some (.i .i32 (.ofNat 0))), true⟩
theorem vt374_ok : TIok Tryz.prog 374 vt374 := tiok_of (e := true) (by kernel_rfl)
noncomputable def vt375 : TI := ⟨.int .i32, 1, 4, (some (.i .i32 (.ofNat 0))), true⟩
theorem vt375_ok : TIok Tryz.prog 375 vt375 := tiok_of (e := true) (by kernel_rfl)
noncomputable def vt376 : TI := ⟨.st [(0, 12), (1, 12), (2, 162), (3, 371), (4, 5), (5, 5), (6, 116), (7, 372), (8, 373), (9, 374), (10, 375)], 11, 48, (some (.agg (rl [(2, .i .u64 (.ofNat 0)), (1, .i .u32 (.ofNat 0)), (4, .i .u8 (.ofNat 0)), (1, .nf), (1, .p none), (2, .i .i32 (.ofNat 0))]))), false⟩
theorem vt376_ok : TIok Tryz.prog 376 vt376 := tiok_of (e := false) (by kernel_rfl)
noncomputable def vt377 : TI := ⟨.st [(0, 12), (1, 12), (2, 162), (3, 371), (4, 5), (5, 5), (6, 116), (7, 372), (8, 373), (9, 374), (10, 375)], 11, 48, (some (.agg (rl [(2, .i .u64 (.ofNat 0)), (1, .i .u32 (.ofNat 0)), (4, .i .u8 (.ofNat 0)), (1, .nf), (1, .p none), (2, .i .i32 (.ofNat 0))]))), false⟩
theorem vt377_ok : TIok Tryz.prog 377 vt377 := tiok_of (e := false) (by kernel_rfl)
noncomputable def vt378 : TI := ⟨.fn, 1, 8, (some (.nf)), false⟩
theorem vt378_ok : TIok Tryz.prog 378 vt378 := tiok_of (e := false) (by kernel_rfl)
noncomputable def vt379 : TI := ⟨.fn, 1, 8, (some (.nf)), false⟩
theorem vt379_ok : TIok Tryz.prog 379 vt379 := tiok_of (e := false) (by kernel_rfl)
noncomputable def vt380 : TI := ⟨.st [(0, 9), (1, 116)], 2, 24, (some (.agg [.s [], .i .u8 (.ofNat 0)])), false⟩
theorem vt380_ok : TIok Tryz.prog 380 vt380 := tiok_of (e := false) (by kernel_rfl)
noncomputable def vt381 : TI := ⟨.st [(0, 9), (1, 116)], 2, 24, (some (.agg [.s [], .i .u8 (.ofNat 0)])), false⟩
theorem vt381_ok : TIok Tryz.prog 381 vt381 := tiok_of (e := false) (by kernel_rfl)
noncomputable def vt382 : TI := ⟨.fn, 1, 8, (some (.nf)), false⟩
theorem vt382_ok : TIok Tryz.prog 382 vt382 := tiok_of (e := false) (by kernel_rfl)
noncomputable def vt383 : TI := ⟨.st [(0, 9)], 1, 16, (some (.agg [.s []])), true⟩
theorem vt383_ok : TIok Tryz.prog 383 vt383 := tiok_of (e := true) (by kernel_rfl)
noncomputable def vt384 : TI := ⟨.st [(0, 9)], 1, 16, (some (.agg [.s []])), true⟩
theorem vt384_ok : TIok Tryz.prog 384 vt384 := tiok_of (e := true) (by kernel_rfl)
noncomputable def vt385 : TI := ⟨.ptr 390, 1, 8, (some (.p none)), true⟩
theorem vt385_ok : TIok Tryz.prog 385 vt385 := tiok_of (e := true) (by kernel_rfl)
noncomputable def vt386 : TI := ⟨.sl 392, 1, 24, (some (.sl none 0 0 false)), false⟩
theorem vt386_ok : TIok Tryz.prog 386 vt386 := tiok_of (e := false) (by kernel_rfl)
noncomputable def vt387 : TI := ⟨.fn, 1, 8, (some (.nf)), false⟩
theorem vt387_ok : TIok Tryz.prog 387 vt387 := tiok_of (e := false) (by kernel_rfl)
noncomputable def vt388 : TI := ⟨.int .u16, 1, 2, (some (.i .u16 (.ofNat 0))), true⟩
theorem vt388_ok : TIok Tryz.prog 388 vt388 := tiok_of (e := true) (by kernel_rfl)
noncomputable def vt389 : TI := ⟨.st [(0, 374), (1, 388), (2, 388), (3, 162), (4, 162)], 5, 16, (some (.agg [.i .i32 (.ofNat 0), .i .u16 (.ofNat 0), .i .u16 (.ofNat 0), .i .u32 (.ofNat 0), .i .u32 (.ofNat 0)])), false⟩
theorem vt389_ok : TIok Tryz.prog 389 vt389 := tiok_of (e := false) (by kernel_rfl)
noncomputable def vt390 : TI := ⟨.st [(0, 374), (1, 388), (2, 388), (3, 162), (4, 162)], 5, 16, (some (.agg [.i .i32 (.ofNat 0), .i .u16 (.ofNat 0), .i .u16 (.ofNat 0), .i .u32 (.ofNat 0), .i .u32 (.ofNat 0)])), false⟩
theorem vt390_ok : TIok Tryz.prog 390 vt390 := tiok_of (e := false) (by kernel_rfl)
noncomputable def vt391 : TI := ⟨.st [(0, 26), (1, 26)], 2, 48, (some (.agg [.sl none 0 0 false, .sl none 0 0 false])), false⟩
theorem vt391_ok : TIok Tryz.prog 391 vt391 := tiok_of (e := false) (by kernel_rfl)
noncomputable def vt392 : TI := ⟨.st [(0, 26), (1, 26)], 2, 48, (some (.agg [.sl none 0 0 false, .sl none 0 0 false])), false⟩
theorem vt392_ok : TIok Tryz.prog 392 vt392 := tiok_of (e := false) (by kernel_rfl)
noncomputable def vt393 : TI := ⟨.sl 396, 1, 24, (some (.sl none 0 0 false)), false⟩
theorem vt393_ok : TIok Tryz.prog 393 vt393 := tiok_of (e := false) (by kernel_rfl)
noncomputable def vt394 : TI := ⟨.int .i32, 1, 4, (some (.i .i32 (.ofNat 0))), true⟩
theorem vt394_ok : TIok Tryz.prog 394 vt394 := tiok_of (e := true) (by kernel_rfl)
noncomputable def vt395 : TI := ⟨.st [(0, 374), (1, 375), (2, 394), (3, 394)], 4, 16, (some (.agg [.i .i32 (.ofNat 0), .i .i32 (.ofNat 0), .i .i32 (.ofNat 0), .i .i32 (.ofNat 0)])), false⟩
theorem vt395_ok : TIok Tryz.prog 395 vt395 := tiok_of (e := false) (by kernel_rfl)
noncomputable def vt396 : TI := ⟨.st [(0, 374), (1, 375), (2, 394), (3, 394)], 4, 16, (some (.agg [.i .i32 (.ofNat 0), .i .i32 (.ofNat 0), .i .i32 (.ofNat 0), .i .i32 (.ofNat 0)])), false⟩
theorem vt396_ok : TIok Tryz.prog 396 vt396 := tiok_of (e := false) (by kernel_rfl)
noncomputable def vt397 : TI := ⟨.fn, 1, 8, (some (.nf)), false⟩
theorem vt397_ok : TIok Tryz.prog 397 vt397 := tiok_of (e := false) (by kernel_rfl)
noncomputable def vt398 : TI := ⟨.ptr 78, 1, 8, (some (.p none)), true⟩
theorem vt398_ok : TIok Tryz.prog 398 vt398 := tiok_of (e := true) (by kernel_rfl)
theorem vf0_ok : FnOk Tryz.prog 0 Tryz.f0 := fnok_of Tryz.func0 (by kernel_rfl)
theorem vf1_ok : FnOk Tryz.prog 1 Tryz.f1 := fnok_of Tryz.func1 (by kernel_rfl)
theorem vf2_ok : FnOk Tryz.prog 2 Tryz.f2 := fnok_of Tryz.func2 (by kernel_rfl)
theorem vf3_ok : FnOk Tryz.prog 3 Tryz.f3 := fnok_of Tryz.func3 (by kernel_rfl)
theorem vf4_ok : FnOk Tryz.prog 4 Tryz.f4 := fnok_of Tryz.func4 (by kernel_rfl)
theorem vf5_ok : FnOk Tryz.prog 5 Tryz.f5 := fnok_of Tryz.func5 (by kernel_rfl)
theorem vf6_ok : FnOk Tryz.prog 6 Tryz.f6 := fnok_of Tryz.func6 (by kernel_rfl)
theorem vf7_ok : FnOk Tryz.prog 7 Tryz.f7 := fnok_of Tryz.func7 (by kernel_rfl)
theorem vf8_ok : FnOk Tryz.prog 8 Tryz.f8 := fnok_of Tryz.func8 (by kernel_rfl)
theorem vf9_ok : FnOk Tryz.prog 9 Tryz.f9 := fnok_of Tryz.func9 (by kernel_rfl)
theorem vf10_ok : FnOk Tryz.prog 10 Tryz.f10 := fnok_of Tryz.func10 (by kernel_rfl)
theorem vf11_ok : FnOk Tryz.prog 11 Tryz.f11 := fnok_of Tryz.func11 (by kernel_rfl)
theorem vf12_ok : FnOk Tryz.prog 12 Tryz.f12 := fnok_of Tryz.func12 (by kernel_rfl)
theorem vf13_ok : FnOk Tryz.prog 13 Tryz.f13 := fnok_of Tryz.func13 (by kernel_rfl)
theorem vf14_ok : FnOk Tryz.prog 14 Tryz.f14 := fnok_of Tryz.func14 (by kernel_rfl)
theorem vf15_ok : FnOk Tryz.prog 15 Tryz.f15 := fnok_of Tryz.func15 (by kernel_rfl)
theorem vf16_ok : FnOk Tryz.prog 16 Tryz.f16 := fnok_of Tryz.func16 (by kernel_rfl)
theorem vf17_ok : FnOk Tryz.prog 17 Tryz.f17 := fnok_of Tryz.func17 (by kernel_rfl)
theorem vf18_ok : FnOk Tryz.prog 18 Tryz.f18 := fnok_of Tryz.func18 (by kernel_rfl)
theorem vf19_ok : FnOk Tryz.prog 19 Tryz.f19 := fnok_of Tryz.func19 (by kernel_rfl)
theorem vf20_ok : FnOk Tryz.prog 20 Tryz.f20 := fnok_of Tryz.func20 (by kernel_rfl)
theorem vf21_ok : FnOk Tryz.prog 21 Tryz.f21 := fnok_of Tryz.func21 (by kernel_rfl)
theorem vf22_ok : FnOk Tryz.prog 22 Tryz.f22 := fnok_of Tryz.func22 (by kernel_rfl)
theorem vf23_ok : FnOk Tryz.prog 23 Tryz.f23 := fnok_of Tryz.func23 (by kernel_rfl)
theorem vf24_ok : FnOk Tryz.prog 24 Tryz.f24 := fnok_of Tryz.func24 (by kernel_rfl)
theorem vf25_ok : FnOk Tryz.prog 25 Tryz.f25 := fnok_of Tryz.func25 (by kernel_rfl)
theorem vf26_ok : FnOk Tryz.prog 26 Tryz.f26 := fnok_of Tryz.func26 (by kernel_rfl)
theorem vf27_ok : FnOk Tryz.prog 27 Tryz.f27 := fnok_of Tryz.func27 (by kernel_rfl)
theorem vf28_ok : FnOk Tryz.prog 28 Tryz.f28 := fnok_of Tryz.func28 (by kernel_rfl)
theorem vf29_ok : FnOk Tryz.prog 29 Tryz.f29 := fnok_of Tryz.func29 (by kernel_rfl)
theorem vf30_ok : FnOk Tryz.prog 30 Tryz.f30 := fnok_of Tryz.func30 (by kernel_rfl)
theorem vf31_ok : FnOk Tryz.prog 31 Tryz.f31 := fnok_of Tryz.func31 (by kernel_rfl)
theorem vf32_ok : FnOk Tryz.prog 32 Tryz.f32 := fnok_of Tryz.func32 (by kernel_rfl)
theorem vf33_ok : FnOk Tryz.prog 33 Tryz.f33 := fnok_of Tryz.func33 (by kernel_rfl)
theorem vf34_ok : FnOk Tryz.prog 34 Tryz.f34 := fnok_of Tryz.func34 (by kernel_rfl)
theorem vf35_ok : FnOk Tryz.prog 35 Tryz.f35 := fnok_of Tryz.func35 (by kernel_rfl)
theorem vf36_ok : FnOk Tryz.prog 36 Tryz.f36 := fnok_of Tryz.func36 (by kernel_rfl)
theorem vf37_ok : FnOk Tryz.prog 37 Tryz.f37 := fnok_of Tryz.func37 (by kernel_rfl)
theorem vf38_ok : FnOk Tryz.prog 38 Tryz.f38 := fnok_of Tryz.func38 (by kernel_rfl)
theorem vf39_ok : FnOk Tryz.prog 39 Tryz.f39 := fnok_of Tryz.func39 (by kernel_rfl)
theorem vf40_ok : FnOk Tryz.prog 40 Tryz.f40 := fnok_of Tryz.func40 (by kernel_rfl)
theorem vf41_ok : FnOk Tryz.prog 41 Tryz.f41 := fnok_of Tryz.func41 (by kernel_rfl)
theorem vf42_ok : FnOk Tryz.prog 42 Tryz.f42 := fnok_of Tryz.func42 (by kernel_rfl)
theorem vf43_ok : FnOk Tryz.prog 43 Tryz.f43 := fnok_of Tryz.func43 (by kernel_rfl)
theorem vf44_ok : FnOk Tryz.prog 44 Tryz.f44 := fnok_of Tryz.func44 (by kernel_rfl)
theorem vf45_ok : FnOk Tryz.prog 45 Tryz.f45 := fnok_of Tryz.func45 (by kernel_rfl)
theorem vf46_ok : FnOk Tryz.prog 46 Tryz.f46 := fnok_of Tryz.func46 (by kernel_rfl)
theorem vf47_ok : FnOk Tryz.prog 47 Tryz.f47 := fnok_of Tryz.func47 (by kernel_rfl)
theorem vf48_ok : FnOk Tryz.prog 48 Tryz.f48 := fnok_of Tryz.func48 (by kernel_rfl)
theorem vf49_ok : FnOk Tryz.prog 49 Tryz.f49 := fnok_of Tryz.func49 (by kernel_rfl)
theorem vf50_ok : FnOk Tryz.prog 50 Tryz.f50 := fnok_of Tryz.func50 (by kernel_rfl)
theorem vf51_ok : FnOk Tryz.prog 51 Tryz.f51 := fnok_of Tryz.func51 (by kernel_rfl)
theorem vf52_ok : FnOk Tryz.prog 52 Tryz.f52 := fnok_of Tryz.func52 (by kernel_rfl)
theorem vf53_ok : FnOk Tryz.prog 53 Tryz.f53 := fnok_of Tryz.func53 (by kernel_rfl)
theorem vf54_ok : FnOk Tryz.prog 54 Tryz.f54 := fnok_of Tryz.func54 (by kernel_rfl)
theorem vf55_ok : FnOk Tryz.prog 55 Tryz.f55 := fnok_of Tryz.func55 (by kernel_rfl)
theorem vf56_ok : FnOk Tryz.prog 56 Tryz.f56 := fnok_of Tryz.func56 (by kernel_rfl)
theorem vf57_ok : FnOk Tryz.prog 57 Tryz.f57 := fnok_of Tryz.func57 (by kernel_rfl)
theorem vf58_ok : FnOk Tryz.prog 58 Tryz.f58 := fnok_of Tryz.func58 (by kernel_rfl)
theorem vf59_ok : FnOk Tryz.prog 59 Tryz.f59 := fnok_of Tryz.func59 (by kernel_rfl)
theorem vf60_ok : FnOk Tryz.prog 60 Tryz.f60 := fnok_of Tryz.func60 (by kernel_rfl)
theorem vf61_ok : FnOk Tryz.prog 61 Tryz.f61 := fnok_of Tryz.func61 (by kernel_rfl)
theorem vf62_ok : FnOk Tryz.prog 62 Tryz.f62 := fnok_of Tryz.func62 (by kernel_rfl)
theorem vf63_ok : FnOk Tryz.prog 63 Tryz.f63 := fnok_of Tryz.func63 (by kernel_rfl)
theorem vf64_ok : FnOk Tryz.prog 64 Tryz.f64 := fnok_of Tryz.func64 (by kernel_rfl)
theorem vf65_ok : FnOk Tryz.prog 65 Tryz.f65 := fnok_of Tryz.func65 (by kernel_rfl)
theorem vf66_ok : FnOk Tryz.prog 66 Tryz.f66 := fnok_of Tryz.func66 (by kernel_rfl)
theorem vf67_ok : FnOk Tryz.prog 67 Tryz.f67 := fnok_of Tryz.func67 (by kernel_rfl)
theorem vf68_ok : FnOk Tryz.prog 68 Tryz.f68 := fnok_of Tryz.func68 (by kernel_rfl)
theorem vf69_ok : FnOk Tryz.prog 69 Tryz.f69 := fnok_of Tryz.func69 (by kernel_rfl)
theorem vf70_ok : FnOk Tryz.prog 70 Tryz.f70 := fnok_of Tryz.func70 (by kernel_rfl)
theorem vf71_ok : FnOk Tryz.prog 71 Tryz.f71 := fnok_of Tryz.func71 (by kernel_rfl)
theorem vf72_ok : FnOk Tryz.prog 72 Tryz.f72 := fnok_of Tryz.func72 (by kernel_rfl)
theorem vf73_ok : FnOk Tryz.prog 73 Tryz.f73 := fnok_of Tryz.func73 (by kernel_rfl)
theorem vf74_ok : FnOk Tryz.prog 74 Tryz.f74 := fnok_of Tryz.func74 (by kernel_rfl)
theorem vf75_ok : FnOk Tryz.prog 75 Tryz.f75 := fnok_of Tryz.func75 (by kernel_rfl)
theorem vf76_ok : FnOk Tryz.prog 76 Tryz.f76 := fnok_of Tryz.func76 (by kernel_rfl)
theorem vf77_ok : FnOk Tryz.prog 77 Tryz.f77 := fnok_of Tryz.func77 (by kernel_rfl)
theorem vf78_ok : FnOk Tryz.prog 78 Tryz.f78 := fnok_of Tryz.func78 (by kernel_rfl)
theorem vf79_ok : FnOk Tryz.prog 79 Tryz.f79 := fnok_of Tryz.func79 (by kernel_rfl)
theorem vf80_ok : FnOk Tryz.prog 80 Tryz.f80 := fnok_of Tryz.func80 (by kernel_rfl)
theorem vf81_ok : FnOk Tryz.prog 81 Tryz.f81 := fnok_of Tryz.func81 (by kernel_rfl)
theorem vf82_ok : FnOk Tryz.prog 82 Tryz.f82 := fnok_of Tryz.func82 (by kernel_rfl)
theorem vf83_ok : FnOk Tryz.prog 83 Tryz.f83 := fnok_of Tryz.func83 (by kernel_rfl)
theorem vf84_ok : FnOk Tryz.prog 84 Tryz.f84 := fnok_of Tryz.func84 (by kernel_rfl)
theorem vf85_ok : FnOk Tryz.prog 85 Tryz.f85 := fnok_of Tryz.func85 (by kernel_rfl)
theorem vf86_ok : FnOk Tryz.prog 86 Tryz.f86 := fnok_of Tryz.func86 (by kernel_rfl)
theorem vf87_ok : FnOk Tryz.prog 87 Tryz.f87 := fnok_of Tryz.func87 (by kernel_rfl)
theorem vf88_ok : FnOk Tryz.prog 88 Tryz.f88 := fnok_of Tryz.func88 (by kernel_rfl)
theorem vf89_ok : FnOk Tryz.prog 89 Tryz.f89 := fnok_of Tryz.func89 (by kernel_rfl)
theorem vf90_ok : FnOk Tryz.prog 90 Tryz.f90 := fnok_of Tryz.func90 (by kernel_rfl)
theorem vf91_ok : FnOk Tryz.prog 91 Tryz.f91 := fnok_of Tryz.func91 (by kernel_rfl)
theorem vf92_ok : FnOk Tryz.prog 92 Tryz.f92 := fnok_of Tryz.func92 (by kernel_rfl)
theorem vf93_ok : FnOk Tryz.prog 93 Tryz.f93 := fnok_of Tryz.func93 (by kernel_rfl)
theorem vf94_ok : FnOk Tryz.prog 94 Tryz.f94 := fnok_of Tryz.func94 (by kernel_rfl)
theorem vf95_ok : FnOk Tryz.prog 95 Tryz.f95 := fnok_of Tryz.func95 (by kernel_rfl)
theorem vf96_ok : FnOk Tryz.prog 96 Tryz.f96 := fnok_of Tryz.func96 (by kernel_rfl)
theorem vf97_ok : FnOk Tryz.prog 97 Tryz.f97 := fnok_of Tryz.func97 (by kernel_rfl)
theorem vf98_ok : FnOk Tryz.prog 98 Tryz.f98 := fnok_of Tryz.func98 (by kernel_rfl)
theorem vf99_ok : FnOk Tryz.prog 99 Tryz.f99 := fnok_of Tryz.func99 (by kernel_rfl)
theorem vf100_ok : FnOk Tryz.prog 100 Tryz.f100 := fnok_of Tryz.func100 (by kernel_rfl)
theorem vf101_ok : FnOk Tryz.prog 101 Tryz.f101 := fnok_of Tryz.func101 (by kernel_rfl)
theorem vf102_ok : FnOk Tryz.prog 102 Tryz.f102 := fnok_of Tryz.func102 (by kernel_rfl)
theorem vf103_ok : FnOk Tryz.prog 103 Tryz.f103 := fnok_of Tryz.func103 (by kernel_rfl)
theorem vf104_ok : FnOk Tryz.prog 104 Tryz.f104 := fnok_of Tryz.func104 (by kernel_rfl)
theorem vf105_ok : FnOk Tryz.prog 105 Tryz.f105 := fnok_of Tryz.func105 (by kernel_rfl)
theorem vf106_ok : FnOk Tryz.prog 106 Tryz.f106 := fnok_of Tryz.func106 (by kernel_rfl)
theorem vf107_ok : FnOk Tryz.prog 107 Tryz.f107 := fnok_of Tryz.func107 (by kernel_rfl)
theorem vf108_ok : FnOk Tryz.prog 108 Tryz.f108 := fnok_of Tryz.func108 (by kernel_rfl)
theorem vf109_ok : FnOk Tryz.prog 109 Tryz.f109 := fnok_of Tryz.func109 (by kernel_rfl)
theorem vf110_ok : FnOk Tryz.prog 110 Tryz.f110 := fnok_of Tryz.func110 (by kernel_rfl)
theorem vf111_ok : FnOk Tryz.prog 111 Tryz.f111 := fnok_of Tryz.func111 (by kernel_rfl)
theorem vf112_ok : FnOk Tryz.prog 112 Tryz.f112 := fnok_of Tryz.func112 (by kernel_rfl)
theorem vf113_ok : FnOk Tryz.prog 113 Tryz.f113 := fnok_of Tryz.func113 (by kernel_rfl)
theorem vf114_ok : FnOk Tryz.prog 114 Tryz.f114 := fnok_of Tryz.func114 (by kernel_rfl)
theorem vf115_ok : FnOk Tryz.prog 115 Tryz.f115 := fnok_of Tryz.func115 (by kernel_rfl)
theorem vf116_ok : FnOk Tryz.prog 116 Tryz.f116 := fnok_of Tryz.func116 (by kernel_rfl)
theorem vf117_ok : FnOk Tryz.prog 117 Tryz.f117 := fnok_of Tryz.func117 (by kernel_rfl)
theorem vf118_ok : FnOk Tryz.prog 118 Tryz.f118 := fnok_of Tryz.func118 (by kernel_rfl)
theorem vf119_ok : FnOk Tryz.prog 119 Tryz.f119 := fnok_of Tryz.func119 (by kernel_rfl)
theorem vf120_ok : FnOk Tryz.prog 120 Tryz.f120 := fnok_of Tryz.func120 (by kernel_rfl)
theorem vf121_ok : FnOk Tryz.prog 121 Tryz.f121 := fnok_of Tryz.func121 (by kernel_rfl)
theorem vf122_ok : FnOk Tryz.prog 122 Tryz.f122 := fnok_of Tryz.func122 (by kernel_rfl)
theorem vf123_ok : FnOk Tryz.prog 123 Tryz.f123 := fnok_of Tryz.func123 (by kernel_rfl)
theorem vf124_ok : FnOk Tryz.prog 124 Tryz.f124 := fnok_of Tryz.func124 (by kernel_rfl)
theorem vf125_ok : FnOk Tryz.prog 125 Tryz.f125 := fnok_of Tryz.func125 (by kernel_rfl)
theorem vf126_ok : FnOk Tryz.prog 126 Tryz.f126 := fnok_of Tryz.func126 (by kernel_rfl)
theorem vf127_ok : FnOk Tryz.prog 127 Tryz.f127 := fnok_of Tryz.func127 (by kernel_rfl)
theorem vf128_ok : FnOk Tryz.prog 128 Tryz.f128 := fnok_of Tryz.func128 (by kernel_rfl)
theorem vf129_ok : FnOk Tryz.prog 129 Tryz.f129 := fnok_of Tryz.func129 (by kernel_rfl)
theorem vf130_ok : FnOk Tryz.prog 130 Tryz.f130 := fnok_of Tryz.func130 (by kernel_rfl)
theorem vf131_ok : FnOk Tryz.prog 131 Tryz.f131 := fnok_of Tryz.func131 (by kernel_rfl)
theorem vf132_ok : FnOk Tryz.prog 132 Tryz.f132 := fnok_of Tryz.func132 (by kernel_rfl)
theorem vf133_ok : FnOk Tryz.prog 133 Tryz.f133 := fnok_of Tryz.func133 (by kernel_rfl)
theorem vf134_ok : FnOk Tryz.prog 134 Tryz.f134 := fnok_of Tryz.func134 (by kernel_rfl)
theorem vf135_ok : FnOk Tryz.prog 135 Tryz.f135 := fnok_of Tryz.func135 (by kernel_rfl)
theorem vf136_ok : FnOk Tryz.prog 136 Tryz.f136 := fnok_of Tryz.func136 (by kernel_rfl)
theorem vf137_ok : FnOk Tryz.prog 137 Tryz.f137 := fnok_of Tryz.func137 (by kernel_rfl)
theorem vf138_ok : FnOk Tryz.prog 138 Tryz.f138 := fnok_of Tryz.func138 (by kernel_rfl)
theorem vf139_ok : FnOk Tryz.prog 139 Tryz.f139 := fnok_of Tryz.func139 (by kernel_rfl)
theorem vf140_ok : FnOk Tryz.prog 140 Tryz.f140 := fnok_of Tryz.func140 (by kernel_rfl)
theorem vf141_ok : FnOk Tryz.prog 141 Tryz.f141 := fnok_of Tryz.func141 (by kernel_rfl)
theorem vf142_ok : FnOk Tryz.prog 142 Tryz.f142 := fnok_of Tryz.func142 (by kernel_rfl)
theorem vf143_ok : FnOk Tryz.prog 143 Tryz.f143 := fnok_of Tryz.func143 (by kernel_rfl)
theorem vf144_ok : FnOk Tryz.prog 144 Tryz.f144 := fnok_of Tryz.func144 (by kernel_rfl)
theorem vf145_ok : FnOk Tryz.prog 145 Tryz.f145 := fnok_of Tryz.func145 (by kernel_rfl)
theorem vf146_ok : FnOk Tryz.prog 146 Tryz.f146 := fnok_of Tryz.func146 (by kernel_rfl)
theorem vf147_ok : FnOk Tryz.prog 147 Tryz.f147 := fnok_of Tryz.func147 (by kernel_rfl)
theorem vf148_ok : FnOk Tryz.prog 148 Tryz.f148 := fnok_of Tryz.func148 (by kernel_rfl)
theorem vf149_ok : FnOk Tryz.prog 149 Tryz.f149 := fnok_of Tryz.func149 (by kernel_rfl)
theorem vf150_ok : FnOk Tryz.prog 150 Tryz.f150 := fnok_of Tryz.func150 (by kernel_rfl)
theorem vf151_ok : FnOk Tryz.prog 151 Tryz.f151 := fnok_of Tryz.func151 (by kernel_rfl)
theorem vf152_ok : FnOk Tryz.prog 152 Tryz.f152 := fnok_of Tryz.func152 (by kernel_rfl)
theorem vf153_ok : FnOk Tryz.prog 153 Tryz.f153 := fnok_of Tryz.func153 (by kernel_rfl)
theorem vf154_ok : FnOk Tryz.prog 154 Tryz.f154 := fnok_of Tryz.func154 (by kernel_rfl)
theorem vf155_ok : FnOk Tryz.prog 155 Tryz.f155 := fnok_of Tryz.func155 (by kernel_rfl)
theorem vf156_ok : FnOk Tryz.prog 156 Tryz.f156 := fnok_of Tryz.func156 (by kernel_rfl)
theorem vf157_ok : FnOk Tryz.prog 157 Tryz.f157 := fnok_of Tryz.func157 (by kernel_rfl)
theorem vf158_ok : FnOk Tryz.prog 158 Tryz.f158 := fnok_of Tryz.func158 (by kernel_rfl)
theorem vf159_ok : FnOk Tryz.prog 159 Tryz.f159 := fnok_of Tryz.func159 (by kernel_rfl)
theorem vf160_ok : FnOk Tryz.prog 160 Tryz.f160 := fnok_of Tryz.func160 (by kernel_rfl)
theorem vf161_ok : FnOk Tryz.prog 161 Tryz.f161 := fnok_of Tryz.func161 (by kernel_rfl)
theorem vf162_ok : FnOk Tryz.prog 162 Tryz.f162 := fnok_of Tryz.func162 (by kernel_rfl)
theorem vf163_ok : FnOk Tryz.prog 163 Tryz.f163 := fnok_of Tryz.func163 (by kernel_rfl)
theorem vf164_ok : FnOk Tryz.prog 164 Tryz.f164 := fnok_of Tryz.func164 (by kernel_rfl)
theorem vf165_ok : FnOk Tryz.prog 165 Tryz.f165 := fnok_of Tryz.func165 (by kernel_rfl)
theorem vf166_ok : FnOk Tryz.prog 166 Tryz.f166 := fnok_of Tryz.func166 (by kernel_rfl)
theorem vf167_ok : FnOk Tryz.prog 167 Tryz.f167 := fnok_of Tryz.func167 (by kernel_rfl)
theorem vf168_ok : FnOk Tryz.prog 168 Tryz.f168 := fnok_of Tryz.func168 (by kernel_rfl)
theorem vf169_ok : FnOk Tryz.prog 169 Tryz.f169 := fnok_of Tryz.func169 (by kernel_rfl)
theorem vf170_ok : FnOk Tryz.prog 170 Tryz.f170 := fnok_of Tryz.func170 (by kernel_rfl)
theorem vf171_ok : FnOk Tryz.prog 171 Tryz.f171 := fnok_of Tryz.func171 (by kernel_rfl)
theorem vf172_ok : FnOk Tryz.prog 172 Tryz.f172 := fnok_of Tryz.func172 (by kernel_rfl)
theorem vf173_ok : FnOk Tryz.prog 173 Tryz.f173 := fnok_of Tryz.func173 (by kernel_rfl)
theorem vf174_ok : FnOk Tryz.prog 174 Tryz.f174 := fnok_of Tryz.func174 (by kernel_rfl)
theorem vf175_ok : FnOk Tryz.prog 175 Tryz.f175 := fnok_of Tryz.func175 (by kernel_rfl)
theorem vf176_ok : FnOk Tryz.prog 176 Tryz.f176 := fnok_of Tryz.func176 (by kernel_rfl)
theorem vf177_ok : FnOk Tryz.prog 177 Tryz.f177 := fnok_of Tryz.func177 (by kernel_rfl)
theorem vf178_ok : FnOk Tryz.prog 178 Tryz.f178 := fnok_of Tryz.func178 (by kernel_rfl)
theorem vf179_ok : FnOk Tryz.prog 179 Tryz.f179 := fnok_of Tryz.func179 (by kernel_rfl)
theorem vf180_ok : FnOk Tryz.prog 180 Tryz.f180 := fnok_of Tryz.func180 (by kernel_rfl)
theorem vf181_ok : FnOk Tryz.prog 181 Tryz.f181 := fnok_of Tryz.func181 (by kernel_rfl)
theorem vf182_ok : FnOk Tryz.prog 182 Tryz.f182 := fnok_of Tryz.func182 (by kernel_rfl)
theorem vf183_ok : FnOk Tryz.prog 183 Tryz.f183 := fnok_of Tryz.func183 (by kernel_rfl)
theorem vf184_ok : FnOk Tryz.prog 184 Tryz.f184 := fnok_of Tryz.func184 (by kernel_rfl)
theorem vf185_ok : FnOk Tryz.prog 185 Tryz.f185 := fnok_of Tryz.func185 (by kernel_rfl)
theorem vf186_ok : FnOk Tryz.prog 186 Tryz.f186 := fnok_of Tryz.func186 (by kernel_rfl)
theorem vf187_ok : FnOk Tryz.prog 187 Tryz.f187 := fnok_of Tryz.func187 (by kernel_rfl)
theorem vf188_ok : FnOk Tryz.prog 188 Tryz.f188 := fnok_of Tryz.func188 (by kernel_rfl)
theorem vf189_ok : FnOk Tryz.prog 189 Tryz.f189 := fnok_of Tryz.func189 (by kernel_rfl)
theorem vf190_ok : FnOk Tryz.prog 190 Tryz.f190 := fnok_of Tryz.func190 (by kernel_rfl)
theorem vf191_ok : FnOk Tryz.prog 191 Tryz.f191 := fnok_of Tryz.func191 (by kernel_rfl)
theorem vf192_ok : FnOk Tryz.prog 192 Tryz.f192 := fnok_of Tryz.func192 (by kernel_rfl)
theorem vf193_ok : FnOk Tryz.prog 193 Tryz.f193 := fnok_of Tryz.func193 (by kernel_rfl)
theorem vf194_ok : FnOk Tryz.prog 194 Tryz.f194 := fnok_of Tryz.func194 (by kernel_rfl)
theorem vf195_ok : FnOk Tryz.prog 195 Tryz.f195 := fnok_of Tryz.func195 (by kernel_rfl)
theorem vf196_ok : FnOk Tryz.prog 196 Tryz.f196 := fnok_of Tryz.func196 (by kernel_rfl)
theorem vf197_ok : FnOk Tryz.prog 197 Tryz.f197 := fnok_of Tryz.func197 (by kernel_rfl)
theorem vf198_ok : FnOk Tryz.prog 198 Tryz.f198 := fnok_of Tryz.func198 (by kernel_rfl)
theorem vf199_ok : FnOk Tryz.prog 199 Tryz.f199 := fnok_of Tryz.func199 (by kernel_rfl)
theorem vf200_ok : FnOk Tryz.prog 200 Tryz.f200 := fnok_of Tryz.func200 (by kernel_rfl)
theorem vf201_ok : FnOk Tryz.prog 201 Tryz.f201 := fnok_of Tryz.func201 (by kernel_rfl)
theorem vf202_ok : FnOk Tryz.prog 202 Tryz.f202 := fnok_of Tryz.func202 (by kernel_rfl)
theorem vf203_ok : FnOk Tryz.prog 203 Tryz.f203 := fnok_of Tryz.func203 (by kernel_rfl)
theorem vf204_ok : FnOk Tryz.prog 204 Tryz.f204 := fnok_of Tryz.func204 (by kernel_rfl)
theorem vf205_ok : FnOk Tryz.prog 205 Tryz.f205 := fnok_of Tryz.func205 (by kernel_rfl)
theorem vf206_ok : FnOk Tryz.prog 206 Tryz.f206 := fnok_of Tryz.func206 (by kernel_rfl)
theorem vf207_ok : FnOk Tryz.prog 207 Tryz.f207 := fnok_of Tryz.func207 (by kernel_rfl)
theorem vf208_ok : FnOk Tryz.prog 208 Tryz.f208 := fnok_of Tryz.func208 (by kernel_rfl)
theorem vf209_ok : FnOk Tryz.prog 209 Tryz.f209 := fnok_of Tryz.func209 (by kernel_rfl)
theorem vf210_ok : FnOk Tryz.prog 210 Tryz.f210 := fnok_of Tryz.func210 (by kernel_rfl)
theorem vf211_ok : FnOk Tryz.prog 211 Tryz.f211 := fnok_of Tryz.func211 (by kernel_rfl)
theorem vf212_ok : FnOk Tryz.prog 212 Tryz.f212 := fnok_of Tryz.func212 (by kernel_rfl)
theorem vf213_ok : FnOk Tryz.prog 213 Tryz.f213 := fnok_of Tryz.func213 (by kernel_rfl)
theorem vf214_ok : FnOk Tryz.prog 214 Tryz.f214 := fnok_of Tryz.func214 (by kernel_rfl)
theorem vf215_ok : FnOk Tryz.prog 215 Tryz.f215 := fnok_of Tryz.func215 (by kernel_rfl)
theorem vf216_ok : FnOk Tryz.prog 216 Tryz.f216 := fnok_of Tryz.func216 (by kernel_rfl)
theorem vf217_ok : FnOk Tryz.prog 217 Tryz.f217 := fnok_of Tryz.func217 (by kernel_rfl)
theorem vf218_ok : FnOk Tryz.prog 218 Tryz.f218 := fnok_of Tryz.func218 (by kernel_rfl)
theorem vf219_ok : FnOk Tryz.prog 219 Tryz.f219 := fnok_of Tryz.func219 (by kernel_rfl)
theorem vf220_ok : FnOk Tryz.prog 220 Tryz.f220 := fnok_of Tryz.func220 (by kernel_rfl)
theorem vf221_ok : FnOk Tryz.prog 221 Tryz.f221 := fnok_of Tryz.func221 (by kernel_rfl)
theorem vf222_ok : FnOk Tryz.prog 222 Tryz.f222 := fnok_of Tryz.func222 (by kernel_rfl)
theorem vf223_ok : FnOk Tryz.prog 223 Tryz.f223 := fnok_of Tryz.func223 (by kernel_rfl)
theorem vf224_ok : FnOk Tryz.prog 224 Tryz.f224 := fnok_of Tryz.func224 (by kernel_rfl)
theorem vf225_ok : FnOk Tryz.prog 225 Tryz.f225 := fnok_of Tryz.func225 (by kernel_rfl)
theorem vf226_ok : FnOk Tryz.prog 226 Tryz.f226 := fnok_of Tryz.func226 (by kernel_rfl)
theorem vf227_ok : FnOk Tryz.prog 227 Tryz.f227 := fnok_of Tryz.func227 (by kernel_rfl)
theorem vf228_ok : FnOk Tryz.prog 228 Tryz.f228 := fnok_of Tryz.func228 (by kernel_rfl)
theorem vf229_ok : FnOk Tryz.prog 229 Tryz.f229 := fnok_of Tryz.func229 (by kernel_rfl)
theorem vf230_ok : FnOk Tryz.prog 230 Tryz.f230 := fnok_of Tryz.func230 (by kernel_rfl)
theorem vf231_ok : FnOk Tryz.prog 231 Tryz.f231 := fnok_of Tryz.func231 (by kernel_rfl)
theorem vf232_ok : FnOk Tryz.prog 232 Tryz.f232 := fnok_of Tryz.func232 (by kernel_rfl)
theorem vf233_ok : FnOk Tryz.prog 233 Tryz.f233 := fnok_of Tryz.func233 (by kernel_rfl)
theorem vf234_ok : FnOk Tryz.prog 234 Tryz.f234 := fnok_of Tryz.func234 (by kernel_rfl)
theorem vf235_ok : FnOk Tryz.prog 235 Tryz.f235 := fnok_of Tryz.func235 (by kernel_rfl)
theorem vf236_ok : FnOk Tryz.prog 236 Tryz.f236 := fnok_of Tryz.func236 (by kernel_rfl)
theorem vf237_ok : FnOk Tryz.prog 237 Tryz.f237 := fnok_of Tryz.func237 (by kernel_rfl)
theorem vf238_ok : FnOk Tryz.prog 238 Tryz.f238 := fnok_of Tryz.func238 (by kernel_rfl)
theorem vf239_ok : FnOk Tryz.prog 239 Tryz.f239 := fnok_of Tryz.func239 (by kernel_rfl)
theorem vf240_ok : FnOk Tryz.prog 240 Tryz.f240 := fnok_of Tryz.func240 (by kernel_rfl)
theorem vf241_ok : FnOk Tryz.prog 241 Tryz.f241 := fnok_of Tryz.func241 (by kernel_rfl)
theorem vf242_ok : FnOk Tryz.prog 242 Tryz.f242 := fnok_of Tryz.func242 (by kernel_rfl)
theorem vf243_ok : FnOk Tryz.prog 243 Tryz.f243 := fnok_of Tryz.func243 (by kernel_rfl)
theorem vf244_ok : FnOk Tryz.prog 244 Tryz.f244 := fnok_of Tryz.func244 (by kernel_rfl)
theorem vf245_ok : FnOk Tryz.prog 245 Tryz.f245 := fnok_of Tryz.func245 (by kernel_rfl)
theorem vf246_ok : FnOk Tryz.prog 246 Tryz.f246 := fnok_of Tryz.func246 (by kernel_rfl)
theorem vf247_ok : FnOk Tryz.prog 247 Tryz.f247 := fnok_of Tryz.func247 (by kernel_rfl)
theorem vf248_ok : FnOk Tryz.prog 248 Tryz.f248 := fnok_of Tryz.func248 (by kernel_rfl)
theorem vf249_ok : FnOk Tryz.prog 249 Tryz.f249 := fnok_of Tryz.func249 (by kernel_rfl)
theorem vf250_ok : FnOk Tryz.prog 250 Tryz.f250 := fnok_of Tryz.func250 (by kernel_rfl)
theorem vf251_ok : FnOk Tryz.prog 251 Tryz.f251 := fnok_of Tryz.func251 (by kernel_rfl)
theorem vf252_ok : FnOk Tryz.prog 252 Tryz.f252 := fnok_of Tryz.func252 (by kernel_rfl)
theorem vf253_ok : FnOk Tryz.prog 253 Tryz.f253 := fnok_of Tryz.func253 (by kernel_rfl)
theorem vf254_ok : FnOk Tryz.prog 254 Tryz.f254 := fnok_of Tryz.func254 (by kernel_rfl)
theorem vf255_ok : FnOk Tryz.prog 255 Tryz.f255 := fnok_of Tryz.func255 (by kernel_rfl)
theorem vf256_ok : FnOk Tryz.prog 256 Tryz.f256 := fnok_of Tryz.func256 (by kernel_rfl)
theorem vf257_ok : FnOk Tryz.prog 257 Tryz.f257 := fnok_of Tryz.func257 (by kernel_rfl)
theorem vf258_ok : FnOk Tryz.prog 258 Tryz.f258 := fnok_of Tryz.func258 (by kernel_rfl)
theorem vf259_ok : FnOk Tryz.prog 259 Tryz.f259 := fnok_of Tryz.func259 (by kernel_rfl)
theorem vf260_ok : FnOk Tryz.prog 260 Tryz.f260 := fnok_of Tryz.func260 (by kernel_rfl)
theorem vf261_ok : FnOk Tryz.prog 261 Tryz.f261 := fnok_of Tryz.func261 (by kernel_rfl)
theorem vf262_ok : FnOk Tryz.prog 262 Tryz.f262 := fnok_of Tryz.func262 (by kernel_rfl)
theorem vf263_ok : FnOk Tryz.prog 263 Tryz.f263 := fnok_of Tryz.func263 (by kernel_rfl)
theorem vf264_ok : FnOk Tryz.prog 264 Tryz.f264 := fnok_of Tryz.func264 (by kernel_rfl)
theorem vf265_ok : FnOk Tryz.prog 265 Tryz.f265 := fnok_of Tryz.func265 (by kernel_rfl)
theorem vf266_ok : FnOk Tryz.prog 266 Tryz.f266 := fnok_of Tryz.func266 (by kernel_rfl)
theorem vf267_ok : FnOk Tryz.prog 267 Tryz.f267 := fnok_of Tryz.func267 (by kernel_rfl)
theorem vf268_ok : FnOk Tryz.prog 268 Tryz.f268 := fnok_of Tryz.func268 (by kernel_rfl)
theorem vf269_ok : FnOk Tryz.prog 269 Tryz.f269 := fnok_of Tryz.func269 (by kernel_rfl)
theorem vf270_ok : FnOk Tryz.prog 270 Tryz.f270 := fnok_of Tryz.func270 (by kernel_rfl)
theorem vf271_ok : FnOk Tryz.prog 271 Tryz.f271 := fnok_of Tryz.func271 (by kernel_rfl)
theorem vf272_ok : FnOk Tryz.prog 272 Tryz.f272 := fnok_of Tryz.func272 (by kernel_rfl)
theorem vf273_ok : FnOk Tryz.prog 273 Tryz.f273 := fnok_of Tryz.func273 (by kernel_rfl)
theorem vf274_ok : FnOk Tryz.prog 274 Tryz.f274 := fnok_of Tryz.func274 (by kernel_rfl)
theorem vf275_ok : FnOk Tryz.prog 275 Tryz.f275 := fnok_of Tryz.func275 (by kernel_rfl)
theorem vf276_ok : FnOk Tryz.prog 276 Tryz.f276 := fnok_of Tryz.func276 (by kernel_rfl)
theorem vm0_ok : MethOk Tryz.prog 8 ("Error", 226) := fun v w => by kernel_rfl
theorem vm1_ok : MethOk Tryz.prog 8 ("RuntimeError", 227) := fun v w => by kernel_rfl
theorem vm2_ok : MethOk Tryz.prog 10 ("Error", 228) := fun v w => by kernel_rfl
theorem vm3_ok : MethOk Tryz.prog 10 ("RuntimeError", 229) := fun v w => by kernel_rfl
theorem vm4_ok : MethOk Tryz.prog 11 ("Error", 230) := fun v w => by kernel_rfl
theorem vm5_ok : MethOk Tryz.prog 11 ("RuntimeError", 231) := fun v w => by kernel_rfl
theorem vm6_ok : MethOk Tryz.prog 14 ("Error", 232) := fun v w => by kernel_rfl
theorem vm7_ok : MethOk Tryz.prog 14 ("RuntimeError", 233) := fun v w => by kernel_rfl
theorem vm8_ok : MethOk Tryz.prog 15 ("Error", 234) := fun v w => by kernel_rfl
theorem vm9_ok : MethOk Tryz.prog 15 ("RuntimeError", 235) := fun v w => by kernel_rfl
theorem vm10_ok : MethOk Tryz.prog 16 ("Error", 236) := fun v w => by kernel_rfl
theorem vm11_ok : MethOk Tryz.prog 16 ("RuntimeError", 237) := fun v w => by kernel_rfl
theorem vm12_ok : MethOk Tryz.prog 17 ("Align", 238) := fun v w => by kernel_rfl
theorem vm13_ok : MethOk Tryz.prog 17 ("Elem", 239) := fun v w => by kernel_rfl
theorem vm14_ok : MethOk Tryz.prog 17 ("Kind", 240) := fun v w => by kernel_rfl
theorem vm15_ok : MethOk Tryz.prog 17 ("Size", 250) := fun v w => by kernel_rfl
theorem vm16_ok : MethOk Tryz.prog 19 ("Error", 241) := fun v w => by kernel_rfl
theorem vm17_ok : MethOk Tryz.prog 19 ("RuntimeError", 242) := fun v w => by kernel_rfl
theorem vm18_ok : MethOk Tryz.prog 22 ("Confirm", 10) := fun v w => by kernel_rfl
theorem vm19_ok : MethOk Tryz.prog 22 ("Entries", 9) := fun v w => by kernel_rfl
theorem vm20_ok : MethOk Tryz.prog 22 ("Get", 6) := fun v w => by kernel_rfl
theorem vm21_ok : MethOk Tryz.prog 22 ("Head", 8) := fun v w => by kernel_rfl
theorem vm22_ok : MethOk Tryz.prog 22 ("Take", 5) := fun v w => by kernel_rfl
theorem vm23_ok : MethOk Tryz.prog 22 ("cairn/follow.follow", 16) := fun v w => by kernel_rfl
theorem vm24_ok : MethOk Tryz.prog 50 ("Accept", 63) := fun v w => by kernel_rfl
theorem vm25_ok : MethOk Tryz.prog 50 ("Hash", 70) := fun v w => by kernel_rfl
theorem vm26_ok : MethOk Tryz.prog 50 ("Sound", 243) := fun v w => by kernel_rfl
theorem vm27_ok : MethOk Tryz.prog 50 ("cairn/digest.code", 93) := fun v w => by kernel_rfl
theorem vm28_ok : MethOk Tryz.prog 68 ("Code", 83) := fun v w => by kernel_rfl
theorem vm29_ok : MethOk Tryz.prog 68 ("Hash", 57) := fun v w => by kernel_rfl
theorem vm30_ok : MethOk Tryz.prog 68 ("Sound", 244) := fun v w => by kernel_rfl
theorem vm31_ok : MethOk Tryz.prog 80 ("Error", 245) := fun v w => by kernel_rfl
theorem vm32_ok : MethOk Tryz.prog 80 ("Unwrap", 246) := fun v w => by kernel_rfl
theorem vm33_ok : MethOk Tryz.prog 109 ("internal/reflectlite.mustBeAssignable", 247) := fun v w => by kernel_rfl
theorem vm34_ok : MethOk Tryz.prog 111 ("Elem", 74) := fun v w => by kernel_rfl
theorem vm35_ok : MethOk Tryz.prog 111 ("IsNil", 45) := fun v w => by kernel_rfl
theorem vm36_ok : MethOk Tryz.prog 111 ("Kind", 248) := fun v w => by kernel_rfl
theorem vm37_ok : MethOk Tryz.prog 111 ("Set", 75) := fun v w => by kernel_rfl
theorem vm38_ok : MethOk Tryz.prog 111 ("Type", 44) := fun v w => by kernel_rfl
theorem vm39_ok : MethOk Tryz.prog 116 ("String", 249) := fun v w => by kernel_rfl
theorem vm40_ok : MethOk Tryz.prog 141 ("cairn/journal.follows", 66) := fun v w => by kernel_rfl
theorem vm41_ok : MethOk Tryz.prog 148 ("cairn/shape.keep", 71) := fun v w => by kernel_rfl
theorem vm42_ok : MethOk Tryz.prog 148 ("cairn/shape.refer", 99) := fun v w => by kernel_rfl
theorem vm43_ok : MethOk Tryz.prog 148 ("cairn/shape.write", 69) := fun v w => by kernel_rfl
theorem vm44_ok : MethOk Tryz.prog 169 ("cairn/cairnref11.keep", 108) := fun v w => by kernel_rfl
theorem vm45_ok : MethOk Tryz.prog 169 ("cairn/cairnref11.node", 106) := fun v w => by kernel_rfl
theorem vm46_ok : MethOk Tryz.prog 169 ("cairn/cairnref11.ref", 138) := fun v w => by kernel_rfl
theorem vm47_ok : MethOk Tryz.prog 173 ("AssignableTo", 251) := fun v w => by kernel_rfl
theorem vm48_ok : MethOk Tryz.prog 173 ("Comparable", 252) := fun v w => by kernel_rfl
theorem vm49_ok : MethOk Tryz.prog 173 ("Elem", 253) := fun v w => by kernel_rfl
theorem vm50_ok : MethOk Tryz.prog 173 ("Implements", 254) := fun v w => by kernel_rfl
theorem vm51_ok : MethOk Tryz.prog 173 ("Name", 255) := fun v w => by kernel_rfl
theorem vm52_ok : MethOk Tryz.prog 173 ("PkgPath", 256) := fun v w => by kernel_rfl
theorem vm53_ok : MethOk Tryz.prog 173 ("String", 257) := fun v w => by kernel_rfl
theorem vm54_ok : MethOk Tryz.prog 173 ("internal/reflectlite.common", 258) := fun v w => by kernel_rfl
theorem vm55_ok : MethOk Tryz.prog 173 ("internal/reflectlite.uncommon", 259) := fun v w => by kernel_rfl
theorem vm56_ok : MethOk Tryz.prog 174 ("Error", 260) := fun v w => by kernel_rfl
theorem vm57_ok : MethOk Tryz.prog 199 ("Int", 86) := fun v w => by kernel_rfl
theorem vm58_ok : MethOk Tryz.prog 262 ("Lock", 94) := fun v w => by kernel_rfl
theorem vm59_ok : MethOk Tryz.prog 262 ("Unlock", 95) := fun v w => by kernel_rfl
theorem vm60_ok : MethOk Tryz.prog 267 ("Len", 261) := fun v w => by kernel_rfl
theorem vm61_ok : MethOk Tryz.prog 267 ("Sum", 133) := fun v w => by kernel_rfl
theorem vm62_ok : MethOk Tryz.prog 267 ("Write", 132) := fun v w => by kernel_rfl
theorem vm63_ok : MethOk Tryz.prog 267 ("cairn/sha.block", 171) := fun v w => by kernel_rfl
theorem vm64_ok : MethOk Tryz.prog 270 ("cairn/digest.note", 102) := fun v w => by kernel_rfl
theorem vm65_ok : MethOk Tryz.prog 270 ("cairn/digest.pairs", 262) := fun v w => by kernel_rfl
theorem vm66_ok : MethOk Tryz.prog 282 ("cairn/rlp.item", 149) := fun v w => by kernel_rfl
theorem vm67_ok : MethOk Tryz.prog 282 ("cairn/rlp.length", 184) := fun v w => by kernel_rfl
theorem vm68_ok : MethOk Tryz.prog 282 ("cairn/rlp.list", 185) := fun v w => by kernel_rfl
theorem vm69_ok : MethOk Tryz.prog 288 ("Code", 154) := fun v w => by kernel_rfl
theorem vm70_ok : MethOk Tryz.prog 288 ("Write", 153) := fun v w => by kernel_rfl
theorem vm71_ok : MethOk Tryz.prog 290 ("Lock", 126) := fun v w => by kernel_rfl
theorem vm72_ok : MethOk Tryz.prog 290 ("Unlock", 127) := fun v w => by kernel_rfl
theorem vm73_ok : MethOk Tryz.prog 290 ("internal/sync.lockSlow", 159) := fun v w => by kernel_rfl
theorem vm74_ok : MethOk Tryz.prog 290 ("internal/sync.unlockSlow", 162) := fun v w => by kernel_rfl
theorem vm75_ok : MethOk Tryz.prog 354 ("Next", 213) := fun v w => by kernel_rfl
theorem vm76_ok : MethOk Tryz.prog 362 ("Error", 263) := fun v w => by kernel_rfl
theorem vm77_ok : MethOk Tryz.prog 385 ("ExportedMethods", 264) := fun v w => by kernel_rfl
noncomputable def vT : Tr TI := .nd (.nd (.nd (.nd (.nd (.nd (.nd (.nd .lf (some vt127) (.nd .lf (some vt383) .lf)) (some vt63) (.nd (.nd .lf (some vt319) .lf) (some vt191) .lf)) (some vt31) (.nd (.nd (.nd .lf (some vt287) .lf) (some vt159) .lf) (some vt95) (.nd (.nd .lf (some vt351) .lf) (some vt223) .lf))) (some vt15) (.nd (.nd (.nd (.nd .lf (some vt271) .lf) (some vt143) .lf) (some vt79) (.nd (.nd .lf (some vt335) .lf) (some vt207) .lf)) (some vt47) (.nd (.nd (.nd .lf (some vt303) .lf) (some vt175) .lf) (some vt111) (.nd (.nd .lf (some vt367) .lf) (some vt239) .lf)))) (some vt7) (.nd (.nd (.nd (.nd (.nd .lf (some vt263) .lf) (some vt135) (.nd .lf (some vt391) .lf)) (some vt71) (.nd (.nd .lf (some vt327) .lf) (some vt199) .lf)) (some vt39) (.nd (.nd (.nd .lf (some vt295) .lf) (some vt167) .lf) (some vt103) (.nd (.nd .lf (some vt359) .lf) (some vt231) .lf))) (some vt23) (.nd (.nd (.nd (.nd .lf (some vt279) .lf) (some vt151) .lf) (some vt87) (.nd (.nd .lf (some vt343) .lf) (some vt215) .lf)) (some vt55) (.nd (.nd (.nd .lf (some vt311) .lf) (some vt183) .lf) (some vt119) (.nd (.nd .lf (some vt375) .lf) (some vt247) .lf))))) (some vt3) (.nd (.nd (.nd (.nd (.nd (.nd .lf (some vt259) .lf) (some vt131) (.nd .lf (some vt387) .lf)) (some vt67) (.nd (.nd .lf (some vt323) .lf) (some vt195) .lf)) (some vt35) (.nd (.nd (.nd .lf (some vt291) .lf) (some vt163) .lf) (some vt99) (.nd .lf (some vt227) .lf))) (some vt19) (.nd (.nd (.nd (.nd .lf (some vt275) .lf) (some vt147) .lf) (some vt83) (.nd .lf (some vt211) .lf)) (some vt51) (.nd (.nd (.nd .lf (some vt307) .lf) (some vt179) .lf) (some vt115) (.nd (.nd .lf (some vt371) .lf) (some vt243) .lf)))) (some vt11) (.nd (.nd (.nd (.nd (.nd .lf (some vt267) .lf) (some vt139) (.nd .lf (some vt395) .lf)) (some vt75) (.nd (.nd .lf (some vt331) .lf) (some vt203) .lf)) (some vt43) (.nd (.nd (.nd .lf (some vt299) .lf) (some vt171) .lf) (some vt107) (.nd (.nd .lf (some vt363) .lf) (some vt235) .lf))) none (.nd (.nd (.nd (.nd .lf (some vt283) .lf) (some vt155) .lf) (some vt91) (.nd (.nd .lf (some vt347) .lf) (some vt219) .lf)) (some vt59) (.nd (.nd (.nd .lf (some vt315) .lf) (some vt187) .lf) (some vt123) (.nd (.nd .lf (some vt379) .lf) none .lf)))))) (some vt1) (.nd (.nd (.nd (.nd (.nd (.nd (.nd .lf (some vt257) .lf) (some vt129) (.nd .lf (some vt385) .lf)) none (.nd (.nd .lf (some vt321) .lf) (some vt193) .lf)) (some vt33) (.nd (.nd (.nd .lf (some vt289) .lf) (some vt161) .lf) (some vt97) (.nd (.nd .lf (some vt353) .lf) (some vt225) .lf))) (some vt17) (.nd (.nd (.nd (.nd .lf (some vt273) .lf) (some vt145) .lf) (some vt81) (.nd (.nd .lf (some vt337) .lf) (some vt209) .lf)) (some vt49) (.nd (.nd (.nd .lf (some vt305) .lf) (some vt177) .lf) (some vt113) (.nd (.nd .lf (some vt369) .lf) (some vt241) .lf)))) (some vt9) (.nd (.nd (.nd (.nd (.nd .lf (some vt265) .lf) (some vt137) (.nd .lf (some vt393) .lf)) (some vt73) (.nd (.nd .lf (some vt329) .lf) (some vt201) .lf)) (some vt41) (.nd (.nd (.nd .lf (some vt297) .lf) (some vt169) .lf) (some vt105) (.nd (.nd .lf (some vt361) .lf) (some vt233) .lf))) (some vt25) (.nd (.nd (.nd (.nd .lf (some vt281) .lf) (some vt153) .lf) (some vt89) (.nd (.nd .lf (some vt345) .lf) (some vt217) .lf)) (some vt57) (.nd (.nd (.nd .lf (some vt313) .lf) (some vt185) .lf) (some vt121) (.nd (.nd .lf (some vt377) .lf) (some vt249) .lf))))) (some vt5) (.nd (.nd (.nd (.nd (.nd (.nd .lf (some vt261) .lf) (some vt133) (.nd .lf (some vt389) .lf)) none (.nd .lf (some vt197) .lf)) (some vt37) (.nd (.nd (.nd .lf (some vt293) .lf) (some vt165) .lf) none .lf)) (some vt21) (.nd (.nd (.nd (.nd .lf (some vt277) .lf) (some vt149) .lf) (some vt85) (.nd (.nd .lf (some vt341) .lf) (some vt213) .lf)) (some vt53) (.nd (.nd (.nd .lf (some vt309) .lf) (some vt181) .lf) (some vt117) (.nd (.nd .lf (some vt373) .lf) (some vt245) .lf)))) (some vt13) (.nd (.nd (.nd (.nd (.nd .lf (some vt269) .lf) (some vt141) (.nd .lf (some vt397) .lf)) (some vt77) (.nd (.nd .lf (some vt333) .lf) (some vt205) .lf)) none (.nd (.nd (.nd .lf (some vt301) .lf) (some vt173) .lf) (some vt109) (.nd (.nd .lf (some vt365) .lf) (some vt237) .lf))) none (.nd (.nd (.nd (.nd .lf (some vt285) .lf) (some vt157) .lf) (some vt93) (.nd (.nd .lf (some vt349) .lf) (some vt221) .lf)) (some vt61) (.nd (.nd (.nd .lf (some vt317) .lf) (some vt189) .lf) (some vt125) (.nd (.nd .lf (some vt381) .lf) (some vt253) .lf))))))) none (.nd (.nd (.nd (.nd (.nd (.nd (.nd (.nd .lf (some vt256) .lf) (some vt128) (.nd .lf (some vt384) .lf)) (some vt64) (.nd (.nd .lf (some vt320) .lf) (some vt192) .lf)) (some vt32) (.nd (.nd (.nd .lf (some vt288) .lf) (some vt160) .lf) none (.nd .lf (some vt224) .lf))) (some vt16) (.nd (.nd (.nd (.nd .lf (some vt272) .lf) (some vt144) .lf) (some vt80) (.nd (.nd .lf (some vt336) .lf) (some vt208) .lf)) none (.nd (.nd (.nd .lf (some vt304) .lf) (some vt176) .lf) (some vt112) (.nd (.nd .lf (some vt368) .lf) (some vt240) .lf)))) (some vt8) (.nd (.nd (.nd (.nd (.nd .lf (some vt264) .lf) none (.nd .lf (some vt392) .lf)) (some vt72) (.nd (.nd .lf (some vt328) .lf) none .lf)) (some vt40) (.nd (.nd (.nd .lf (some vt296) .lf) (some vt168) .lf) none (.nd .lf (some vt232) .lf))) none (.nd (.nd (.nd (.nd .lf (some vt280) .lf) (some vt152) .lf) none (.nd (.nd .lf (some vt344) .lf) (some vt216) .lf)) (some vt56) (.nd (.nd (.nd .lf (some vt312) .lf) (some vt184) .lf) (some vt120) (.nd (.nd .lf (some vt376) .lf) (some vt248) .lf))))) (some vt4) (.nd (.nd (.nd (.nd (.nd (.nd .lf (some vt260) .lf) none (.nd .lf (some vt388) .lf)) (some vt68) (.nd (.nd .lf (some vt324) .lf) (some vt196) .lf)) (some vt36) (.nd (.nd (.nd .lf (some vt292) .lf) (some vt164) .lf) (some vt100) (.nd (.nd .lf (some vt356) .lf) (some vt228) .lf))) (some vt20) (.nd (.nd (.nd (.nd .lf (some vt276) .lf) (some vt148) .lf) (some vt84) (.nd (.nd .lf (some vt340) .lf) (some vt212) .lf)) (some vt52) (.nd (.nd (.nd .lf (some vt308) .lf) (some vt180) .lf) (some vt116) (.nd (.nd .lf (some vt372) .lf) (some vt244) .lf)))) (some vt12) (.nd (.nd (.nd (.nd (.nd .lf (some vt268) .lf) (some vt140) (.nd .lf (some vt396) .lf)) (some vt76) (.nd (.nd .lf (some vt332) .lf) none .lf)) (some vt44) (.nd (.nd (.nd .lf (some vt300) .lf) (some vt172) .lf) (some vt108) (.nd (.nd .lf (some vt364) .lf) (some vt236) .lf))) (some vt28) (.nd (.nd (.nd (.nd .lf (some vt284) .lf) (some vt156) .lf) none (.nd (.nd .lf (some vt348) .lf) (some vt220) .lf)) (some vt60) (.nd (.nd (.nd .lf (some vt316) .lf) (some vt188) .lf) (some vt124) (.nd (.nd .lf (some vt380) .lf) (some vt252) .lf)))))) (some vt2) (.nd (.nd (.nd (.nd (.nd (.nd (.nd .lf (some vt258) .lf) (some vt130) (.nd .lf (some vt386) .lf)) (some vt66) (.nd (.nd .lf (some vt322) .lf) none .lf)) (some vt34) (.nd (.nd (.nd .lf (some vt290) .lf) (some vt162) .lf) (some vt98) (.nd (.nd .lf (some vt354) .lf) (some vt226) .lf))) (some vt18) (.nd (.nd (.nd (.nd .lf (some vt274) .lf) (some vt146) .lf) (some vt82) (.nd (.nd .lf (some vt338) .lf) (some vt210) .lf)) (some vt50) (.nd (.nd (.nd .lf (some vt306) .lf) none .lf) (some vt114) (.nd (.nd .lf (some vt370) .lf) (some vt242) .lf)))) (some vt10) (.nd (.nd (.nd (.nd (.nd .lf (some vt266) .lf) (some vt138) (.nd .lf (some vt394) .lf)) (some vt74) .lf) (some vt42) (.nd (.nd (.nd .lf (some vt298) .lf) none .lf) none (.nd (.nd .lf (some vt362) .lf) (some vt234) .lf))) (some vt26) (.nd (.nd (.nd (.nd .lf (some vt282) .lf) (some vt154) .lf) (some vt90) (.nd (.nd .lf (some vt346) .lf) (some vt218) .lf)) (some vt58) (.nd (.nd (.nd .lf (some vt314) .lf) none .lf) none (.nd (.nd .lf (some vt378) .lf) (some vt250) .lf))))) (some vt6) (.nd (.nd (.nd (.nd (.nd (.nd .lf (some vt262) .lf) none (.nd .lf (some vt390) .lf)) (some vt70) (.nd (.nd .lf (some vt326) .lf) (some vt198) .lf)) (some vt38) (.nd (.nd (.nd .lf (some vt294) .lf) (some vt166) .lf) (some vt102) (.nd (.nd .lf (some vt358) .lf) (some vt230) .lf))) (some vt22) (.nd (.nd (.nd (.nd .lf (some vt278) .lf) (some vt150) .lf) (some vt86) (.nd (.nd .lf (some vt342) .lf) (some vt214) .lf)) (some vt54) (.nd (.nd (.nd .lf (some vt310) .lf) (some vt182) .lf) (some vt118) (.nd (.nd .lf (some vt374) .lf) (some vt246) .lf)))) (some vt14) (.nd (.nd (.nd (.nd (.nd .lf (some vt270) .lf) none (.nd .lf (some vt398) .lf)) (some vt78) (.nd (.nd .lf (some vt334) .lf) (some vt206) .lf)) (some vt46) (.nd (.nd (.nd .lf (some vt302) .lf) (some vt174) .lf) (some vt110) (.nd (.nd .lf (some vt366) .lf) none .lf))) (some vt30) (.nd (.nd (.nd (.nd .lf (some vt286) .lf) (some vt158) .lf) none (.nd .lf (some vt222) .lf)) (some vt62) (.nd (.nd (.nd .lf (some vt318) .lf) (some vt190) .lf) (some vt126) (.nd (.nd .lf (some vt382) .lf) (some vt254) .lf)))))))
noncomputable def vF : Tr Func := .nd (.nd (.nd (.nd (.nd (.nd (.nd (.nd (.nd .lf (some Tryz.f255) .lf) (some Tryz.f127) .lf) (some Tryz.f63) (.nd .lf (some Tryz.f191) .lf)) (some Tryz.f31) (.nd (.nd .lf (some Tryz.f159) .lf) (some Tryz.f95) (.nd .lf (some Tryz.f223) .lf))) (some Tryz.f15) (.nd (.nd (.nd (.nd .lf (some Tryz.f271) .lf) (some Tryz.f143) .lf) (some Tryz.f79) (.nd .lf (some Tryz.f207) .lf)) (some Tryz.f47) (.nd (.nd .lf (some Tryz.f175) .lf) (some Tryz.f111) (.nd .lf (some Tryz.f239) .lf)))) (some Tryz.f7) (.nd (.nd (.nd (.nd (.nd .lf (some Tryz.f263) .lf) (some Tryz.f135) .lf) (some Tryz.f71) (.nd .lf (some Tryz.f199) .lf)) (some Tryz.f39) (.nd (.nd .lf (some Tryz.f167) .lf) (some Tryz.f103) (.nd .lf (some Tryz.f231) .lf))) (some Tryz.f23) (.nd (.nd (.nd .lf (some Tryz.f151) .lf) (some Tryz.f87) (.nd .lf (some Tryz.f215) .lf)) (some Tryz.f55) (.nd (.nd .lf (some Tryz.f183) .lf) (some Tryz.f119) (.nd .lf (some Tryz.f247) .lf))))) (some Tryz.f3) (.nd (.nd (.nd (.nd (.nd (.nd .lf (some Tryz.f259) .lf) (some Tryz.f131) .lf) (some Tryz.f67) (.nd .lf (some Tryz.f195) .lf)) (some Tryz.f35) (.nd (.nd .lf (some Tryz.f163) .lf) (some Tryz.f99) (.nd .lf (some Tryz.f227) .lf))) (some Tryz.f19) (.nd (.nd (.nd (.nd .lf (some Tryz.f275) .lf) (some Tryz.f147) .lf) (some Tryz.f83) (.nd .lf (some Tryz.f211) .lf)) (some Tryz.f51) (.nd (.nd .lf (some Tryz.f179) .lf) (some Tryz.f115) (.nd .lf (some Tryz.f243) .lf)))) (some Tryz.f11) (.nd (.nd (.nd (.nd (.nd .lf (some Tryz.f267) .lf) (some Tryz.f139) .lf) (some Tryz.f75) (.nd .lf (some Tryz.f203) .lf)) (some Tryz.f43) (.nd (.nd .lf (some Tryz.f171) .lf) (some Tryz.f107) (.nd .lf (some Tryz.f235) .lf))) (some Tryz.f27) (.nd (.nd (.nd .lf (some Tryz.f155) .lf) (some Tryz.f91) (.nd .lf (some Tryz.f219) .lf)) (some Tryz.f59) (.nd (.nd .lf (some Tryz.f187) .lf) (some Tryz.f123) (.nd .lf (some Tryz.f251) .lf)))))) (some Tryz.f1) (.nd (.nd (.nd (.nd (.nd (.nd (.nd .lf (some Tryz.f257) .lf) (some Tryz.f129) .lf) (some Tryz.f65) (.nd .lf (some Tryz.f193) .lf)) (some Tryz.f33) (.nd (.nd .lf (some Tryz.f161) .lf) (some Tryz.f97) (.nd .lf (some Tryz.f225) .lf))) (some Tryz.f17) (.nd (.nd (.nd (.nd .lf (some Tryz.f273) .lf) (some Tryz.f145) .lf) (some Tryz.f81) (.nd .lf (some Tryz.f209) .lf)) (some Tryz.f49) (.nd (.nd .lf (some Tryz.f177) .lf) (some Tryz.f113) (.nd .lf (some Tryz.f241) .lf)))) (some Tryz.f9) (.nd (.nd (.nd (.nd (.nd .lf (some Tryz.f265) .lf) (some Tryz.f137) .lf) (some Tryz.f73) (.nd .lf (some Tryz.f201) .lf)) (some Tryz.f41) (.nd (.nd .lf (some Tryz.f169) .lf) (some Tryz.f105) (.nd .lf (some Tryz.f233) .lf))) (some Tryz.f25) (.nd (.nd (.nd .lf (some Tryz.f153) .lf) (some Tryz.f89) (.nd .lf (some Tryz.f217) .lf)) (some Tryz.f57) (.nd (.nd .lf (some Tryz.f185) .lf) (some Tryz.f121) (.nd .lf (some Tryz.f249) .lf))))) (some Tryz.f5) (.nd (.nd (.nd (.nd (.nd (.nd .lf (some Tryz.f261) .lf) (some Tryz.f133) .lf) (some Tryz.f69) (.nd .lf (some Tryz.f197) .lf)) (some Tryz.f37) (.nd (.nd .lf (some Tryz.f165) .lf) (some Tryz.f101) (.nd .lf (some Tryz.f229) .lf))) (some Tryz.f21) (.nd (.nd (.nd .lf (some Tryz.f149) .lf) (some Tryz.f85) (.nd .lf (some Tryz.f213) .lf)) (some Tryz.f53) (.nd (.nd .lf (some Tryz.f181) .lf) (some Tryz.f117) (.nd .lf (some Tryz.f245) .lf)))) (some Tryz.f13) (.nd (.nd (.nd (.nd (.nd .lf (some Tryz.f269) .lf) (some Tryz.f141) .lf) (some Tryz.f77) (.nd .lf (some Tryz.f205) .lf)) (some Tryz.f45) (.nd (.nd .lf (some Tryz.f173) .lf) (some Tryz.f109) (.nd .lf (some Tryz.f237) .lf))) (some Tryz.f29) (.nd (.nd (.nd .lf (some Tryz.f157) .lf) (some Tryz.f93) (.nd .lf (some Tryz.f221) .lf)) (some Tryz.f61) (.nd (.nd .lf (some Tryz.f189) .lf) (some Tryz.f125) (.nd .lf (some Tryz.f253) .lf))))))) (some Tryz.f0) (.nd (.nd (.nd (.nd (.nd (.nd (.nd (.nd .lf (some Tryz.f256) .lf) (some Tryz.f128) .lf) (some Tryz.f64) (.nd .lf (some Tryz.f192) .lf)) (some Tryz.f32) (.nd (.nd .lf (some Tryz.f160) .lf) (some Tryz.f96) (.nd .lf (some Tryz.f224) .lf))) (some Tryz.f16) (.nd (.nd (.nd (.nd .lf (some Tryz.f272) .lf) (some Tryz.f144) .lf) (some Tryz.f80) (.nd .lf (some Tryz.f208) .lf)) (some Tryz.f48) (.nd (.nd .lf (some Tryz.f176) .lf) (some Tryz.f112) (.nd .lf (some Tryz.f240) .lf)))) (some Tryz.f8) (.nd (.nd (.nd (.nd (.nd .lf (some Tryz.f264) .lf) (some Tryz.f136) .lf) (some Tryz.f72) (.nd .lf (some Tryz.f200) .lf)) (some Tryz.f40) (.nd (.nd .lf (some Tryz.f168) .lf) (some Tryz.f104) (.nd .lf (some Tryz.f232) .lf))) (some Tryz.f24) (.nd (.nd (.nd .lf (some Tryz.f152) .lf) (some Tryz.f88) (.nd .lf (some Tryz.f216) .lf)) (some Tryz.f56) (.nd (.nd .lf (some Tryz.f184) .lf) (some Tryz.f120) (.nd .lf (some Tryz.f248) .lf))))) (some Tryz.f4) (.nd (.nd (.nd (.nd (.nd (.nd .lf (some Tryz.f260) .lf) (some Tryz.f132) .lf) (some Tryz.f68) (.nd .lf (some Tryz.f196) .lf)) (some Tryz.f36) (.nd (.nd .lf (some Tryz.f164) .lf) (some Tryz.f100) (.nd .lf (some Tryz.f228) .lf))) (some Tryz.f20) (.nd (.nd (.nd (.nd .lf (some Tryz.f276) .lf) (some Tryz.f148) .lf) (some Tryz.f84) (.nd .lf (some Tryz.f212) .lf)) (some Tryz.f52) (.nd (.nd .lf (some Tryz.f180) .lf) (some Tryz.f116) (.nd .lf (some Tryz.f244) .lf)))) (some Tryz.f12) (.nd (.nd (.nd (.nd (.nd .lf (some Tryz.f268) .lf) (some Tryz.f140) .lf) (some Tryz.f76) (.nd .lf (some Tryz.f204) .lf)) (some Tryz.f44) (.nd (.nd .lf (some Tryz.f172) .lf) (some Tryz.f108) (.nd .lf (some Tryz.f236) .lf))) (some Tryz.f28) (.nd (.nd (.nd .lf (some Tryz.f156) .lf) (some Tryz.f92) (.nd .lf (some Tryz.f220) .lf)) (some Tryz.f60) (.nd (.nd .lf (some Tryz.f188) .lf) (some Tryz.f124) (.nd .lf (some Tryz.f252) .lf)))))) (some Tryz.f2) (.nd (.nd (.nd (.nd (.nd (.nd (.nd .lf (some Tryz.f258) .lf) (some Tryz.f130) .lf) (some Tryz.f66) (.nd .lf (some Tryz.f194) .lf)) (some Tryz.f34) (.nd (.nd .lf (some Tryz.f162) .lf) (some Tryz.f98) (.nd .lf (some Tryz.f226) .lf))) (some Tryz.f18) (.nd (.nd (.nd (.nd .lf (some Tryz.f274) .lf) (some Tryz.f146) .lf) (some Tryz.f82) (.nd .lf (some Tryz.f210) .lf)) (some Tryz.f50) (.nd (.nd .lf (some Tryz.f178) .lf) (some Tryz.f114) (.nd .lf (some Tryz.f242) .lf)))) (some Tryz.f10) (.nd (.nd (.nd (.nd (.nd .lf (some Tryz.f266) .lf) (some Tryz.f138) .lf) (some Tryz.f74) (.nd .lf (some Tryz.f202) .lf)) (some Tryz.f42) (.nd (.nd .lf (some Tryz.f170) .lf) (some Tryz.f106) (.nd .lf (some Tryz.f234) .lf))) (some Tryz.f26) (.nd (.nd (.nd .lf (some Tryz.f154) .lf) (some Tryz.f90) (.nd .lf (some Tryz.f218) .lf)) (some Tryz.f58) (.nd (.nd .lf (some Tryz.f186) .lf) (some Tryz.f122) (.nd .lf (some Tryz.f250) .lf))))) (some Tryz.f6) (.nd (.nd (.nd (.nd (.nd (.nd .lf (some Tryz.f262) .lf) (some Tryz.f134) .lf) (some Tryz.f70) (.nd .lf (some Tryz.f198) .lf)) (some Tryz.f38) (.nd (.nd .lf (some Tryz.f166) .lf) (some Tryz.f102) (.nd .lf (some Tryz.f230) .lf))) (some Tryz.f22) (.nd (.nd (.nd .lf (some Tryz.f150) .lf) (some Tryz.f86) (.nd .lf (some Tryz.f214) .lf)) (some Tryz.f54) (.nd (.nd .lf (some Tryz.f182) .lf) (some Tryz.f118) (.nd .lf (some Tryz.f246) .lf)))) (some Tryz.f14) (.nd (.nd (.nd (.nd (.nd .lf (some Tryz.f270) .lf) (some Tryz.f142) .lf) (some Tryz.f78) (.nd .lf (some Tryz.f206) .lf)) (some Tryz.f46) (.nd (.nd .lf (some Tryz.f174) .lf) (some Tryz.f110) (.nd .lf (some Tryz.f238) .lf))) (some Tryz.f30) (.nd (.nd (.nd .lf (some Tryz.f158) .lf) (some Tryz.f94) (.nd .lf (some Tryz.f222) .lf)) (some Tryz.f62) (.nd (.nd .lf (some Tryz.f190) .lf) (some Tryz.f126) (.nd .lf (some Tryz.f254) .lf)))))))
noncomputable def vM : Tr (List (String × Nat)) := .nd (.nd (.nd (.nd (.nd .lf (some [("Error", 234), ("RuntimeError", 235)]) (.nd .lf none (.nd .lf (some [("Elem", 74), ("IsNil", 45), ("Kind", 248), ("Set", 75), ("Type", 44)]) .lf))) none (.nd (.nd (.nd .lf none (.nd .lf (some [("Int", 86)]) .lf)) none .lf) none .lf)) none (.nd (.nd .lf (some [("Error", 241), ("RuntimeError", 242)]) .lf) (some [("Error", 230), ("RuntimeError", 231)]) (.nd (.nd (.nd (.nd (.nd .lf (some [("Len", 261), ("Sum", 133), ("Write", 132), ("cairn/sha.block", 171)]) .lf) none .lf) none .lf) none .lf) none .lf))) none (.nd (.nd (.nd (.nd (.nd (.nd .lf none (.nd .lf (some [("ExportedMethods", 264)]) .lf)) none .lf) none .lf) (some [("Align", 238), ("Elem", 239), ("Kind", 240), ("Size", 250)]) .lf) none (.nd (.nd .lf none (.nd (.nd .lf (some [("cairn/cairnref11.keep", 108), ("cairn/cairnref11.node", 106), ("cairn/cairnref11.ref", 138)]) .lf) none .lf)) none .lf)) none (.nd .lf none (.nd (.nd (.nd (.nd .lf (some [("cairn/journal.follows", 66)]) .lf) none .lf) none (.nd (.nd .lf (some [("AssignableTo", 251), ("Comparable", 252), ("Elem", 253), ("Implements", 254), ("Name", 255), ("PkgPath", 256), ("String", 257), ("internal/reflectlite.common", 258), ("internal/reflectlite.uncommon", 259)]) .lf) (some [("internal/reflectlite.mustBeAssignable", 247)]) .lf)) none .lf)))) none (.nd (.nd (.nd (.nd (.nd .lf none (.nd (.nd (.nd .lf (some [("Code", 154), ("Write", 153)]) .lf) none .lf) none .lf)) (some [("Error", 236), ("RuntimeError", 237)]) (.nd (.nd .lf (some [("Error", 245), ("Unwrap", 246)]) .lf) none .lf)) (some [("Error", 226), ("RuntimeError", 227)]) .lf) none (.nd (.nd (.nd (.nd .lf (some [("Code", 83), ("Hash", 57), ("Sound", 244)]) .lf) none .lf) none (.nd (.nd (.nd .lf (some [("cairn/shape.keep", 71), ("cairn/shape.refer", 99), ("cairn/shape.write", 69)]) .lf) none .lf) none (.nd .lf (some [("String", 249)]) .lf))) none .lf)) none (.nd (.nd (.nd (.nd .lf none (.nd (.nd (.nd .lf (some [("Lock", 126), ("Unlock", 127), ("internal/sync.lockSlow", 159), ("internal/sync.unlockSlow", 162)]) .lf) none .lf) none (.nd (.nd .lf (some [("Next", 213)]) .lf) none .lf))) none (.nd .lf (some [("Accept", 63), ("Hash", 70), ("Sound", 243), ("cairn/digest.code", 93)]) .lf)) (some [("Error", 228), ("RuntimeError", 229)]) (.nd (.nd .lf none (.nd .lf none (.nd (.nd .lf (some [("Error", 263)]) .lf) none .lf))) none (.nd (.nd (.nd (.nd .lf (some [("cairn/rlp.item", 149), ("cairn/rlp.length", 184), ("cairn/rlp.list", 185)]) .lf) none .lf) none .lf) none .lf))) none (.nd (.nd (.nd (.nd (.nd (.nd .lf (some [("Lock", 94), ("Unlock", 95)]) .lf) none .lf) none .lf) none .lf) (some [("Confirm", 10), ("Entries", 9), ("Get", 6), ("Head", 8), ("Take", 5), ("cairn/follow.follow", 16)]) .lf) (some [("Error", 232), ("RuntimeError", 233)]) (.nd (.nd (.nd (.nd (.nd .lf (some [("cairn/digest.note", 102), ("cairn/digest.pairs", 262)]) .lf) none .lf) none .lf) none (.nd (.nd .lf (some [("Error", 260)]) .lf) none .lf)) none .lf))))
noncomputable def vC : Cx := ⟨vT, vF, mTab vM⟩
theorem vT_ok : vT.All (TIok Tryz.prog) 1 0 := all_nd all_none (all_nd (all_some vt1_ok) (all_nd (all_some vt3_ok) (all_nd (all_some vt7_ok) (all_nd (all_some vt15_ok) (all_nd (all_some vt31_ok) (all_nd (all_some vt63_ok) (all_nd (all_some vt127_ok) all_lf (all_nd (all_some vt383_ok) all_lf all_lf)) (all_nd (all_some vt191_ok) (all_nd (all_some vt319_ok) all_lf all_lf) all_lf)) (all_nd (all_some vt95_ok) (all_nd (all_some vt159_ok) (all_nd (all_some vt287_ok) all_lf all_lf) all_lf) (all_nd (all_some vt223_ok) (all_nd (all_some vt351_ok) all_lf all_lf) all_lf))) (all_nd (all_some vt47_ok) (all_nd (all_some vt79_ok) (all_nd (all_some vt143_ok) (all_nd (all_some vt271_ok) all_lf all_lf) all_lf) (all_nd (all_some vt207_ok) (all_nd (all_some vt335_ok) all_lf all_lf) all_lf)) (all_nd (all_some vt111_ok) (all_nd (all_some vt175_ok) (all_nd (all_some vt303_ok) all_lf all_lf) all_lf) (all_nd (all_some vt239_ok) (all_nd (all_some vt367_ok) all_lf all_lf) all_lf)))) (all_nd (all_some vt23_ok) (all_nd (all_some vt39_ok) (all_nd (all_some vt71_ok) (all_nd (all_some vt135_ok) (all_nd (all_some vt263_ok) all_lf all_lf) (all_nd (all_some vt391_ok) all_lf all_lf)) (all_nd (all_some vt199_ok) (all_nd (all_some vt327_ok) all_lf all_lf) all_lf)) (all_nd (all_some vt103_ok) (all_nd (all_some vt167_ok) (all_nd (all_some vt295_ok) all_lf all_lf) all_lf) (all_nd (all_some vt231_ok) (all_nd (all_some vt359_ok) all_lf all_lf) all_lf))) (all_nd (all_some vt55_ok) (all_nd (all_some vt87_ok) (all_nd (all_some vt151_ok) (all_nd (all_some vt279_ok) all_lf all_lf) all_lf) (all_nd (all_some vt215_ok) (all_nd (all_some vt343_ok) all_lf all_lf) all_lf)) (all_nd (all_some vt119_ok) (all_nd (all_some vt183_ok) (all_nd (all_some vt311_ok) all_lf all_lf) all_lf) (all_nd (all_some vt247_ok) (all_nd (all_some vt375_ok) all_lf all_lf) all_lf))))) (all_nd (all_some vt11_ok) (all_nd (all_some vt19_ok) (all_nd (all_some vt35_ok) (all_nd (all_some vt67_ok) (all_nd (all_some vt131_ok) (all_nd (all_some vt259_ok) all_lf all_lf) (all_nd (all_some vt387_ok) all_lf all_lf)) (all_nd (all_some vt195_ok) (all_nd (all_some vt323_ok) all_lf all_lf) all_lf)) (all_nd (all_some vt99_ok) (all_nd (all_some vt163_ok) (all_nd (all_some vt291_ok) all_lf all_lf) all_lf) (all_nd (all_some vt227_ok) all_lf all_lf))) (all_nd (all_some vt51_ok) (all_nd (all_some vt83_ok) (all_nd (all_some vt147_ok) (all_nd (all_some vt275_ok) all_lf all_lf) all_lf) (all_nd (all_some vt211_ok) all_lf all_lf)) (all_nd (all_some vt115_ok) (all_nd (all_some vt179_ok) (all_nd (all_some vt307_ok) all_lf all_lf) all_lf) (all_nd (all_some vt243_ok) (all_nd (all_some vt371_ok) all_lf all_lf) all_lf)))) (all_nd all_none (all_nd (all_some vt43_ok) (all_nd (all_some vt75_ok) (all_nd (all_some vt139_ok) (all_nd (all_some vt267_ok) all_lf all_lf) (all_nd (all_some vt395_ok) all_lf all_lf)) (all_nd (all_some vt203_ok) (all_nd (all_some vt331_ok) all_lf all_lf) all_lf)) (all_nd (all_some vt107_ok) (all_nd (all_some vt171_ok) (all_nd (all_some vt299_ok) all_lf all_lf) all_lf) (all_nd (all_some vt235_ok) (all_nd (all_some vt363_ok) all_lf all_lf) all_lf))) (all_nd (all_some vt59_ok) (all_nd (all_some vt91_ok) (all_nd (all_some vt155_ok) (all_nd (all_some vt283_ok) all_lf all_lf) all_lf) (all_nd (all_some vt219_ok) (all_nd (all_some vt347_ok) all_lf all_lf) all_lf)) (all_nd (all_some vt123_ok) (all_nd (all_some vt187_ok) (all_nd (all_some vt315_ok) all_lf all_lf) all_lf) (all_nd all_none (all_nd (all_some vt379_ok) all_lf all_lf) all_lf)))))) (all_nd (all_some vt5_ok) (all_nd (all_some vt9_ok) (all_nd (all_some vt17_ok) (all_nd (all_some vt33_ok) (all_nd all_none (all_nd (all_some vt129_ok) (all_nd (all_some vt257_ok) all_lf all_lf) (all_nd (all_some vt385_ok) all_lf all_lf)) (all_nd (all_some vt193_ok) (all_nd (all_some vt321_ok) all_lf all_lf) all_lf)) (all_nd (all_some vt97_ok) (all_nd (all_some vt161_ok) (all_nd (all_some vt289_ok) all_lf all_lf) all_lf) (all_nd (all_some vt225_ok) (all_nd (all_some vt353_ok) all_lf all_lf) all_lf))) (all_nd (all_some vt49_ok) (all_nd (all_some vt81_ok) (all_nd (all_some vt145_ok) (all_nd (all_some vt273_ok) all_lf all_lf) all_lf) (all_nd (all_some vt209_ok) (all_nd (all_some vt337_ok) all_lf all_lf) all_lf)) (all_nd (all_some vt113_ok) (all_nd (all_some vt177_ok) (all_nd (all_some vt305_ok) all_lf all_lf) all_lf) (all_nd (all_some vt241_ok) (all_nd (all_some vt369_ok) all_lf all_lf) all_lf)))) (all_nd (all_some vt25_ok) (all_nd (all_some vt41_ok) (all_nd (all_some vt73_ok) (all_nd (all_some vt137_ok) (all_nd (all_some vt265_ok) all_lf all_lf) (all_nd (all_some vt393_ok) all_lf all_lf)) (all_nd (all_some vt201_ok) (all_nd (all_some vt329_ok) all_lf all_lf) all_lf)) (all_nd (all_some vt105_ok) (all_nd (all_some vt169_ok) (all_nd (all_some vt297_ok) all_lf all_lf) all_lf) (all_nd (all_some vt233_ok) (all_nd (all_some vt361_ok) all_lf all_lf) all_lf))) (all_nd (all_some vt57_ok) (all_nd (all_some vt89_ok) (all_nd (all_some vt153_ok) (all_nd (all_some vt281_ok) all_lf all_lf) all_lf) (all_nd (all_some vt217_ok) (all_nd (all_some vt345_ok) all_lf all_lf) all_lf)) (all_nd (all_some vt121_ok) (all_nd (all_some vt185_ok) (all_nd (all_some vt313_ok) all_lf all_lf) all_lf) (all_nd (all_some vt249_ok) (all_nd (all_some vt377_ok) all_lf all_lf) all_lf))))) (all_nd (all_some vt13_ok) (all_nd (all_some vt21_ok) (all_nd (all_some vt37_ok) (all_nd all_none (all_nd (all_some vt133_ok) (all_nd (all_some vt261_ok) all_lf all_lf) (all_nd (all_some vt389_ok) all_lf all_lf)) (all_nd (all_some vt197_ok) all_lf all_lf)) (all_nd all_none (all_nd (all_some vt165_ok) (all_nd (all_some vt293_ok) all_lf all_lf) all_lf) all_lf)) (all_nd (all_some vt53_ok) (all_nd (all_some vt85_ok) (all_nd (all_some vt149_ok) (all_nd (all_some vt277_ok) all_lf all_lf) all_lf) (all_nd (all_some vt213_ok) (all_nd (all_some vt341_ok) all_lf all_lf) all_lf)) (all_nd (all_some vt117_ok) (all_nd (all_some vt181_ok) (all_nd (all_some vt309_ok) all_lf all_lf) all_lf) (all_nd (all_some vt245_ok) (all_nd (all_some vt373_ok) all_lf all_lf) all_lf)))) (all_nd all_none (all_nd all_none (all_nd (all_some vt77_ok) (all_nd (all_some vt141_ok) (all_nd (all_some vt269_ok) all_lf all_lf) (all_nd (all_some vt397_ok) all_lf all_lf)) (all_nd (all_some vt205_ok) (all_nd (all_some vt333_ok) all_lf all_lf) all_lf)) (all_nd (all_some vt109_ok) (all_nd (all_some vt173_ok) (all_nd (all_some vt301_ok) all_lf all_lf) all_lf) (all_nd (all_some vt237_ok) (all_nd (all_some vt365_ok) all_lf all_lf) all_lf))) (all_nd (all_some vt61_ok) (all_nd (all_some vt93_ok) (all_nd (all_some vt157_ok) (all_nd (all_some vt285_ok) all_lf all_lf) all_lf) (all_nd (all_some vt221_ok) (all_nd (all_some vt349_ok) all_lf all_lf) all_lf)) (all_nd (all_some vt125_ok) (all_nd (all_some vt189_ok) (all_nd (all_some vt317_ok) all_lf all_lf) all_lf) (all_nd (all_some vt253_ok) (all_nd (all_some vt381_ok) all_lf all_lf) all_lf))))))) (all_nd (all_some vt2_ok) (all_nd (all_some vt4_ok) (all_nd (all_some vt8_ok) (all_nd (all_some vt16_ok) (all_nd (all_some vt32_ok) (all_nd (all_some vt64_ok) (all_nd (all_some vt128_ok) (all_nd (all_some vt256_ok) all_lf all_lf) (all_nd (all_some vt384_ok) all_lf all_lf)) (all_nd (all_some vt192_ok) (all_nd (all_some vt320_ok) all_lf all_lf) all_lf)) (all_nd all_none (all_nd (all_some vt160_ok) (all_nd (all_some vt288_ok) all_lf all_lf) all_lf) (all_nd (all_some vt224_ok) all_lf all_lf))) (all_nd all_none (all_nd (all_some vt80_ok) (all_nd (all_some vt144_ok) (all_nd (all_some vt272_ok) all_lf all_lf) all_lf) (all_nd (all_some vt208_ok) (all_nd (all_some vt336_ok) all_lf all_lf) all_lf)) (all_nd (all_some vt112_ok) (all_nd (all_some vt176_ok) (all_nd (all_some vt304_ok) all_lf all_lf) all_lf) (all_nd (all_some vt240_ok) (all_nd (all_some vt368_ok) all_lf all_lf) all_lf)))) (all_nd all_none (all_nd (all_some vt40_ok) (all_nd (all_some vt72_ok) (all_nd all_none (all_nd (all_some vt264_ok) all_lf all_lf) (all_nd (all_some vt392_ok) all_lf all_lf)) (all_nd all_none (all_nd (all_some vt328_ok) all_lf all_lf) all_lf)) (all_nd all_none (all_nd (all_some vt168_ok) (all_nd (all_some vt296_ok) all_lf all_lf) all_lf) (all_nd (all_some vt232_ok) all_lf all_lf))) (all_nd (all_some vt56_ok) (all_nd all_none (all_nd (all_some vt152_ok) (all_nd (all_some vt280_ok) all_lf all_lf) all_lf) (all_nd (all_some vt216_ok) (all_nd (all_some vt344_ok) all_lf all_lf) all_lf)) (all_nd (all_some vt120_ok) (all_nd (all_some vt184_ok) (all_nd (all_some vt312_ok) all_lf all_lf) all_lf) (all_nd (all_some vt248_ok) (all_nd (all_some vt376_ok) all_lf all_lf) all_lf))))) (all_nd (all_some vt12_ok) (all_nd (all_some vt20_ok) (all_nd (all_some vt36_ok) (all_nd (all_some vt68_ok) (all_nd all_none (all_nd (all_some vt260_ok) all_lf all_lf) (all_nd (all_some vt388_ok) all_lf all_lf)) (all_nd (all_some vt196_ok) (all_nd (all_some vt324_ok) all_lf all_lf) all_lf)) (all_nd (all_some vt100_ok) (all_nd (all_some vt164_ok) (all_nd (all_some vt292_ok) all_lf all_lf) all_lf) (all_nd (all_some vt228_ok) (all_nd (all_some vt356_ok) all_lf all_lf) all_lf))) (all_nd (all_some vt52_ok) (all_nd (all_some vt84_ok) (all_nd (all_some vt148_ok) (all_nd (all_some vt276_ok) all_lf all_lf) all_lf) (all_nd (all_some vt212_ok) (all_nd (all_some vt340_ok) all_lf all_lf) all_lf)) (all_nd (all_some vt116_ok) (all_nd (all_some vt180_ok) (all_nd (all_some vt308_ok) all_lf all_lf) all_lf) (all_nd (all_some vt244_ok) (all_nd (all_some vt372_ok) all_lf all_lf) all_lf)))) (all_nd (all_some vt28_ok) (all_nd (all_some vt44_ok) (all_nd (all_some vt76_ok) (all_nd (all_some vt140_ok) (all_nd (all_some vt268_ok) all_lf all_lf) (all_nd (all_some vt396_ok) all_lf all_lf)) (all_nd all_none (all_nd (all_some vt332_ok) all_lf all_lf) all_lf)) (all_nd (all_some vt108_ok) (all_nd (all_some vt172_ok) (all_nd (all_some vt300_ok) all_lf all_lf) all_lf) (all_nd (all_some vt236_ok) (all_nd (all_some vt364_ok) all_lf all_lf) all_lf))) (all_nd (all_some vt60_ok) (all_nd all_none (all_nd (all_some vt156_ok) (all_nd (all_some vt284_ok) all_lf all_lf) all_lf) (all_nd (all_some vt220_ok) (all_nd (all_some vt348_ok) all_lf all_lf) all_lf)) (all_nd (all_some vt124_ok) (all_nd (all_some vt188_ok) (all_nd (all_some vt316_ok) all_lf all_lf) all_lf) (all_nd (all_some vt252_ok) (all_nd (all_some vt380_ok) all_lf all_lf) all_lf)))))) (all_nd (all_some vt6_ok) (all_nd (all_some vt10_ok) (all_nd (all_some vt18_ok) (all_nd (all_some vt34_ok) (all_nd (all_some vt66_ok) (all_nd (all_some vt130_ok) (all_nd (all_some vt258_ok) all_lf all_lf) (all_nd (all_some vt386_ok) all_lf all_lf)) (all_nd all_none (all_nd (all_some vt322_ok) all_lf all_lf) all_lf)) (all_nd (all_some vt98_ok) (all_nd (all_some vt162_ok) (all_nd (all_some vt290_ok) all_lf all_lf) all_lf) (all_nd (all_some vt226_ok) (all_nd (all_some vt354_ok) all_lf all_lf) all_lf))) (all_nd (all_some vt50_ok) (all_nd (all_some vt82_ok) (all_nd (all_some vt146_ok) (all_nd (all_some vt274_ok) all_lf all_lf) all_lf) (all_nd (all_some vt210_ok) (all_nd (all_some vt338_ok) all_lf all_lf) all_lf)) (all_nd (all_some vt114_ok) (all_nd all_none (all_nd (all_some vt306_ok) all_lf all_lf) all_lf) (all_nd (all_some vt242_ok) (all_nd (all_some vt370_ok) all_lf all_lf) all_lf)))) (all_nd (all_some vt26_ok) (all_nd (all_some vt42_ok) (all_nd (all_some vt74_ok) (all_nd (all_some vt138_ok) (all_nd (all_some vt266_ok) all_lf all_lf) (all_nd (all_some vt394_ok) all_lf all_lf)) all_lf) (all_nd all_none (all_nd all_none (all_nd (all_some vt298_ok) all_lf all_lf) all_lf) (all_nd (all_some vt234_ok) (all_nd (all_some vt362_ok) all_lf all_lf) all_lf))) (all_nd (all_some vt58_ok) (all_nd (all_some vt90_ok) (all_nd (all_some vt154_ok) (all_nd (all_some vt282_ok) all_lf all_lf) all_lf) (all_nd (all_some vt218_ok) (all_nd (all_some vt346_ok) all_lf all_lf) all_lf)) (all_nd all_none (all_nd all_none (all_nd (all_some vt314_ok) all_lf all_lf) all_lf) (all_nd (all_some vt250_ok) (all_nd (all_some vt378_ok) all_lf all_lf) all_lf))))) (all_nd (all_some vt14_ok) (all_nd (all_some vt22_ok) (all_nd (all_some vt38_ok) (all_nd (all_some vt70_ok) (all_nd all_none (all_nd (all_some vt262_ok) all_lf all_lf) (all_nd (all_some vt390_ok) all_lf all_lf)) (all_nd (all_some vt198_ok) (all_nd (all_some vt326_ok) all_lf all_lf) all_lf)) (all_nd (all_some vt102_ok) (all_nd (all_some vt166_ok) (all_nd (all_some vt294_ok) all_lf all_lf) all_lf) (all_nd (all_some vt230_ok) (all_nd (all_some vt358_ok) all_lf all_lf) all_lf))) (all_nd (all_some vt54_ok) (all_nd (all_some vt86_ok) (all_nd (all_some vt150_ok) (all_nd (all_some vt278_ok) all_lf all_lf) all_lf) (all_nd (all_some vt214_ok) (all_nd (all_some vt342_ok) all_lf all_lf) all_lf)) (all_nd (all_some vt118_ok) (all_nd (all_some vt182_ok) (all_nd (all_some vt310_ok) all_lf all_lf) all_lf) (all_nd (all_some vt246_ok) (all_nd (all_some vt374_ok) all_lf all_lf) all_lf)))) (all_nd (all_some vt30_ok) (all_nd (all_some vt46_ok) (all_nd (all_some vt78_ok) (all_nd all_none (all_nd (all_some vt270_ok) all_lf all_lf) (all_nd (all_some vt398_ok) all_lf all_lf)) (all_nd (all_some vt206_ok) (all_nd (all_some vt334_ok) all_lf all_lf) all_lf)) (all_nd (all_some vt110_ok) (all_nd (all_some vt174_ok) (all_nd (all_some vt302_ok) all_lf all_lf) all_lf) (all_nd all_none (all_nd (all_some vt366_ok) all_lf all_lf) all_lf))) (all_nd (all_some vt62_ok) (all_nd all_none (all_nd (all_some vt158_ok) (all_nd (all_some vt286_ok) all_lf all_lf) all_lf) (all_nd (all_some vt222_ok) all_lf all_lf)) (all_nd (all_some vt126_ok) (all_nd (all_some vt190_ok) (all_nd (all_some vt318_ok) all_lf all_lf) all_lf) (all_nd (all_some vt254_ok) (all_nd (all_some vt382_ok) all_lf all_lf) all_lf)))))))
theorem vF_ok : vF.All (FnOk Tryz.prog) 1 0 := all_nd (all_some vf0_ok) (all_nd (all_some vf1_ok) (all_nd (all_some vf3_ok) (all_nd (all_some vf7_ok) (all_nd (all_some vf15_ok) (all_nd (all_some vf31_ok) (all_nd (all_some vf63_ok) (all_nd (all_some vf127_ok) (all_nd (all_some vf255_ok) all_lf all_lf) all_lf) (all_nd (all_some vf191_ok) all_lf all_lf)) (all_nd (all_some vf95_ok) (all_nd (all_some vf159_ok) all_lf all_lf) (all_nd (all_some vf223_ok) all_lf all_lf))) (all_nd (all_some vf47_ok) (all_nd (all_some vf79_ok) (all_nd (all_some vf143_ok) (all_nd (all_some vf271_ok) all_lf all_lf) all_lf) (all_nd (all_some vf207_ok) all_lf all_lf)) (all_nd (all_some vf111_ok) (all_nd (all_some vf175_ok) all_lf all_lf) (all_nd (all_some vf239_ok) all_lf all_lf)))) (all_nd (all_some vf23_ok) (all_nd (all_some vf39_ok) (all_nd (all_some vf71_ok) (all_nd (all_some vf135_ok) (all_nd (all_some vf263_ok) all_lf all_lf) all_lf) (all_nd (all_some vf199_ok) all_lf all_lf)) (all_nd (all_some vf103_ok) (all_nd (all_some vf167_ok) all_lf all_lf) (all_nd (all_some vf231_ok) all_lf all_lf))) (all_nd (all_some vf55_ok) (all_nd (all_some vf87_ok) (all_nd (all_some vf151_ok) all_lf all_lf) (all_nd (all_some vf215_ok) all_lf all_lf)) (all_nd (all_some vf119_ok) (all_nd (all_some vf183_ok) all_lf all_lf) (all_nd (all_some vf247_ok) all_lf all_lf))))) (all_nd (all_some vf11_ok) (all_nd (all_some vf19_ok) (all_nd (all_some vf35_ok) (all_nd (all_some vf67_ok) (all_nd (all_some vf131_ok) (all_nd (all_some vf259_ok) all_lf all_lf) all_lf) (all_nd (all_some vf195_ok) all_lf all_lf)) (all_nd (all_some vf99_ok) (all_nd (all_some vf163_ok) all_lf all_lf) (all_nd (all_some vf227_ok) all_lf all_lf))) (all_nd (all_some vf51_ok) (all_nd (all_some vf83_ok) (all_nd (all_some vf147_ok) (all_nd (all_some vf275_ok) all_lf all_lf) all_lf) (all_nd (all_some vf211_ok) all_lf all_lf)) (all_nd (all_some vf115_ok) (all_nd (all_some vf179_ok) all_lf all_lf) (all_nd (all_some vf243_ok) all_lf all_lf)))) (all_nd (all_some vf27_ok) (all_nd (all_some vf43_ok) (all_nd (all_some vf75_ok) (all_nd (all_some vf139_ok) (all_nd (all_some vf267_ok) all_lf all_lf) all_lf) (all_nd (all_some vf203_ok) all_lf all_lf)) (all_nd (all_some vf107_ok) (all_nd (all_some vf171_ok) all_lf all_lf) (all_nd (all_some vf235_ok) all_lf all_lf))) (all_nd (all_some vf59_ok) (all_nd (all_some vf91_ok) (all_nd (all_some vf155_ok) all_lf all_lf) (all_nd (all_some vf219_ok) all_lf all_lf)) (all_nd (all_some vf123_ok) (all_nd (all_some vf187_ok) all_lf all_lf) (all_nd (all_some vf251_ok) all_lf all_lf)))))) (all_nd (all_some vf5_ok) (all_nd (all_some vf9_ok) (all_nd (all_some vf17_ok) (all_nd (all_some vf33_ok) (all_nd (all_some vf65_ok) (all_nd (all_some vf129_ok) (all_nd (all_some vf257_ok) all_lf all_lf) all_lf) (all_nd (all_some vf193_ok) all_lf all_lf)) (all_nd (all_some vf97_ok) (all_nd (all_some vf161_ok) all_lf all_lf) (all_nd (all_some vf225_ok) all_lf all_lf))) (all_nd (all_some vf49_ok) (all_nd (all_some vf81_ok) (all_nd (all_some vf145_ok) (all_nd (all_some vf273_ok) all_lf all_lf) all_lf) (all_nd (all_some vf209_ok) all_lf all_lf)) (all_nd (all_some vf113_ok) (all_nd (all_some vf177_ok) all_lf all_lf) (all_nd (all_some vf241_ok) all_lf all_lf)))) (all_nd (all_some vf25_ok) (all_nd (all_some vf41_ok) (all_nd (all_some vf73_ok) (all_nd (all_some vf137_ok) (all_nd (all_some vf265_ok) all_lf all_lf) all_lf) (all_nd (all_some vf201_ok) all_lf all_lf)) (all_nd (all_some vf105_ok) (all_nd (all_some vf169_ok) all_lf all_lf) (all_nd (all_some vf233_ok) all_lf all_lf))) (all_nd (all_some vf57_ok) (all_nd (all_some vf89_ok) (all_nd (all_some vf153_ok) all_lf all_lf) (all_nd (all_some vf217_ok) all_lf all_lf)) (all_nd (all_some vf121_ok) (all_nd (all_some vf185_ok) all_lf all_lf) (all_nd (all_some vf249_ok) all_lf all_lf))))) (all_nd (all_some vf13_ok) (all_nd (all_some vf21_ok) (all_nd (all_some vf37_ok) (all_nd (all_some vf69_ok) (all_nd (all_some vf133_ok) (all_nd (all_some vf261_ok) all_lf all_lf) all_lf) (all_nd (all_some vf197_ok) all_lf all_lf)) (all_nd (all_some vf101_ok) (all_nd (all_some vf165_ok) all_lf all_lf) (all_nd (all_some vf229_ok) all_lf all_lf))) (all_nd (all_some vf53_ok) (all_nd (all_some vf85_ok) (all_nd (all_some vf149_ok) all_lf all_lf) (all_nd (all_some vf213_ok) all_lf all_lf)) (all_nd (all_some vf117_ok) (all_nd (all_some vf181_ok) all_lf all_lf) (all_nd (all_some vf245_ok) all_lf all_lf)))) (all_nd (all_some vf29_ok) (all_nd (all_some vf45_ok) (all_nd (all_some vf77_ok) (all_nd (all_some vf141_ok) (all_nd (all_some vf269_ok) all_lf all_lf) all_lf) (all_nd (all_some vf205_ok) all_lf all_lf)) (all_nd (all_some vf109_ok) (all_nd (all_some vf173_ok) all_lf all_lf) (all_nd (all_some vf237_ok) all_lf all_lf))) (all_nd (all_some vf61_ok) (all_nd (all_some vf93_ok) (all_nd (all_some vf157_ok) all_lf all_lf) (all_nd (all_some vf221_ok) all_lf all_lf)) (all_nd (all_some vf125_ok) (all_nd (all_some vf189_ok) all_lf all_lf) (all_nd (all_some vf253_ok) all_lf all_lf))))))) (all_nd (all_some vf2_ok) (all_nd (all_some vf4_ok) (all_nd (all_some vf8_ok) (all_nd (all_some vf16_ok) (all_nd (all_some vf32_ok) (all_nd (all_some vf64_ok) (all_nd (all_some vf128_ok) (all_nd (all_some vf256_ok) all_lf all_lf) all_lf) (all_nd (all_some vf192_ok) all_lf all_lf)) (all_nd (all_some vf96_ok) (all_nd (all_some vf160_ok) all_lf all_lf) (all_nd (all_some vf224_ok) all_lf all_lf))) (all_nd (all_some vf48_ok) (all_nd (all_some vf80_ok) (all_nd (all_some vf144_ok) (all_nd (all_some vf272_ok) all_lf all_lf) all_lf) (all_nd (all_some vf208_ok) all_lf all_lf)) (all_nd (all_some vf112_ok) (all_nd (all_some vf176_ok) all_lf all_lf) (all_nd (all_some vf240_ok) all_lf all_lf)))) (all_nd (all_some vf24_ok) (all_nd (all_some vf40_ok) (all_nd (all_some vf72_ok) (all_nd (all_some vf136_ok) (all_nd (all_some vf264_ok) all_lf all_lf) all_lf) (all_nd (all_some vf200_ok) all_lf all_lf)) (all_nd (all_some vf104_ok) (all_nd (all_some vf168_ok) all_lf all_lf) (all_nd (all_some vf232_ok) all_lf all_lf))) (all_nd (all_some vf56_ok) (all_nd (all_some vf88_ok) (all_nd (all_some vf152_ok) all_lf all_lf) (all_nd (all_some vf216_ok) all_lf all_lf)) (all_nd (all_some vf120_ok) (all_nd (all_some vf184_ok) all_lf all_lf) (all_nd (all_some vf248_ok) all_lf all_lf))))) (all_nd (all_some vf12_ok) (all_nd (all_some vf20_ok) (all_nd (all_some vf36_ok) (all_nd (all_some vf68_ok) (all_nd (all_some vf132_ok) (all_nd (all_some vf260_ok) all_lf all_lf) all_lf) (all_nd (all_some vf196_ok) all_lf all_lf)) (all_nd (all_some vf100_ok) (all_nd (all_some vf164_ok) all_lf all_lf) (all_nd (all_some vf228_ok) all_lf all_lf))) (all_nd (all_some vf52_ok) (all_nd (all_some vf84_ok) (all_nd (all_some vf148_ok) (all_nd (all_some vf276_ok) all_lf all_lf) all_lf) (all_nd (all_some vf212_ok) all_lf all_lf)) (all_nd (all_some vf116_ok) (all_nd (all_some vf180_ok) all_lf all_lf) (all_nd (all_some vf244_ok) all_lf all_lf)))) (all_nd (all_some vf28_ok) (all_nd (all_some vf44_ok) (all_nd (all_some vf76_ok) (all_nd (all_some vf140_ok) (all_nd (all_some vf268_ok) all_lf all_lf) all_lf) (all_nd (all_some vf204_ok) all_lf all_lf)) (all_nd (all_some vf108_ok) (all_nd (all_some vf172_ok) all_lf all_lf) (all_nd (all_some vf236_ok) all_lf all_lf))) (all_nd (all_some vf60_ok) (all_nd (all_some vf92_ok) (all_nd (all_some vf156_ok) all_lf all_lf) (all_nd (all_some vf220_ok) all_lf all_lf)) (all_nd (all_some vf124_ok) (all_nd (all_some vf188_ok) all_lf all_lf) (all_nd (all_some vf252_ok) all_lf all_lf)))))) (all_nd (all_some vf6_ok) (all_nd (all_some vf10_ok) (all_nd (all_some vf18_ok) (all_nd (all_some vf34_ok) (all_nd (all_some vf66_ok) (all_nd (all_some vf130_ok) (all_nd (all_some vf258_ok) all_lf all_lf) all_lf) (all_nd (all_some vf194_ok) all_lf all_lf)) (all_nd (all_some vf98_ok) (all_nd (all_some vf162_ok) all_lf all_lf) (all_nd (all_some vf226_ok) all_lf all_lf))) (all_nd (all_some vf50_ok) (all_nd (all_some vf82_ok) (all_nd (all_some vf146_ok) (all_nd (all_some vf274_ok) all_lf all_lf) all_lf) (all_nd (all_some vf210_ok) all_lf all_lf)) (all_nd (all_some vf114_ok) (all_nd (all_some vf178_ok) all_lf all_lf) (all_nd (all_some vf242_ok) all_lf all_lf)))) (all_nd (all_some vf26_ok) (all_nd (all_some vf42_ok) (all_nd (all_some vf74_ok) (all_nd (all_some vf138_ok) (all_nd (all_some vf266_ok) all_lf all_lf) all_lf) (all_nd (all_some vf202_ok) all_lf all_lf)) (all_nd (all_some vf106_ok) (all_nd (all_some vf170_ok) all_lf all_lf) (all_nd (all_some vf234_ok) all_lf all_lf))) (all_nd (all_some vf58_ok) (all_nd (all_some vf90_ok) (all_nd (all_some vf154_ok) all_lf all_lf) (all_nd (all_some vf218_ok) all_lf all_lf)) (all_nd (all_some vf122_ok) (all_nd (all_some vf186_ok) all_lf all_lf) (all_nd (all_some vf250_ok) all_lf all_lf))))) (all_nd (all_some vf14_ok) (all_nd (all_some vf22_ok) (all_nd (all_some vf38_ok) (all_nd (all_some vf70_ok) (all_nd (all_some vf134_ok) (all_nd (all_some vf262_ok) all_lf all_lf) all_lf) (all_nd (all_some vf198_ok) all_lf all_lf)) (all_nd (all_some vf102_ok) (all_nd (all_some vf166_ok) all_lf all_lf) (all_nd (all_some vf230_ok) all_lf all_lf))) (all_nd (all_some vf54_ok) (all_nd (all_some vf86_ok) (all_nd (all_some vf150_ok) all_lf all_lf) (all_nd (all_some vf214_ok) all_lf all_lf)) (all_nd (all_some vf118_ok) (all_nd (all_some vf182_ok) all_lf all_lf) (all_nd (all_some vf246_ok) all_lf all_lf)))) (all_nd (all_some vf30_ok) (all_nd (all_some vf46_ok) (all_nd (all_some vf78_ok) (all_nd (all_some vf142_ok) (all_nd (all_some vf270_ok) all_lf all_lf) all_lf) (all_nd (all_some vf206_ok) all_lf all_lf)) (all_nd (all_some vf110_ok) (all_nd (all_some vf174_ok) all_lf all_lf) (all_nd (all_some vf238_ok) all_lf all_lf))) (all_nd (all_some vf62_ok) (all_nd (all_some vf94_ok) (all_nd (all_some vf158_ok) all_lf all_lf) (all_nd (all_some vf222_ok) all_lf all_lf)) (all_nd (all_some vf126_ok) (all_nd (all_some vf190_ok) all_lf all_lf) (all_nd (all_some vf254_ok) all_lf all_lf)))))))
theorem vM_ok : vM.All (MethsOk Tryz.prog) 1 0 := all_nd all_none (all_nd all_none (all_nd all_none (all_nd all_none (all_nd (all_some (meths_cons vm8_ok (meths_cons vm9_ok meths_nil))) all_lf (all_nd all_none all_lf (all_nd (all_some (meths_cons vm34_ok (meths_cons vm35_ok (meths_cons vm36_ok (meths_cons vm37_ok (meths_cons vm38_ok meths_nil)))))) all_lf all_lf))) (all_nd all_none (all_nd all_none (all_nd all_none all_lf (all_nd (all_some (meths_cons vm57_ok meths_nil)) all_lf all_lf)) all_lf) all_lf)) (all_nd (all_some (meths_cons vm4_ok (meths_cons vm5_ok meths_nil))) (all_nd (all_some (meths_cons vm16_ok (meths_cons vm17_ok meths_nil))) all_lf all_lf) (all_nd all_none (all_nd all_none (all_nd all_none (all_nd all_none (all_nd (all_some (meths_cons vm60_ok (meths_cons vm61_ok (meths_cons vm62_ok (meths_cons vm63_ok meths_nil))))) all_lf all_lf) all_lf) all_lf) all_lf) all_lf))) (all_nd all_none (all_nd all_none (all_nd (all_some (meths_cons vm12_ok (meths_cons vm13_ok (meths_cons vm14_ok (meths_cons vm15_ok meths_nil))))) (all_nd all_none (all_nd all_none (all_nd all_none all_lf (all_nd (all_some (meths_cons vm77_ok meths_nil)) all_lf all_lf)) all_lf) all_lf) all_lf) (all_nd all_none (all_nd all_none all_lf (all_nd all_none (all_nd (all_some (meths_cons vm44_ok (meths_cons vm45_ok (meths_cons vm46_ok meths_nil)))) all_lf all_lf) all_lf)) all_lf)) (all_nd all_none all_lf (all_nd all_none (all_nd all_none (all_nd all_none (all_nd (all_some (meths_cons vm40_ok meths_nil)) all_lf all_lf) all_lf) (all_nd (all_some (meths_cons vm33_ok meths_nil)) (all_nd (all_some (meths_cons vm47_ok (meths_cons vm48_ok (meths_cons vm49_ok (meths_cons vm50_ok (meths_cons vm51_ok (meths_cons vm52_ok (meths_cons vm53_ok (meths_cons vm54_ok (meths_cons vm55_ok meths_nil)))))))))) all_lf all_lf) all_lf)) all_lf)))) (all_nd all_none (all_nd all_none (all_nd (all_some (meths_cons vm0_ok (meths_cons vm1_ok meths_nil))) (all_nd (all_some (meths_cons vm10_ok (meths_cons vm11_ok meths_nil))) (all_nd all_none all_lf (all_nd all_none (all_nd all_none (all_nd (all_some (meths_cons vm69_ok (meths_cons vm70_ok meths_nil))) all_lf all_lf) all_lf) all_lf)) (all_nd all_none (all_nd (all_some (meths_cons vm31_ok (meths_cons vm32_ok meths_nil))) all_lf all_lf) all_lf)) all_lf) (all_nd all_none (all_nd all_none (all_nd all_none (all_nd (all_some (meths_cons vm28_ok (meths_cons vm29_ok (meths_cons vm30_ok meths_nil)))) all_lf all_lf) all_lf) (all_nd all_none (all_nd all_none (all_nd (all_some (meths_cons vm41_ok (meths_cons vm42_ok (meths_cons vm43_ok meths_nil)))) all_lf all_lf) all_lf) (all_nd (all_some (meths_cons vm39_ok meths_nil)) all_lf all_lf))) all_lf)) (all_nd all_none (all_nd (all_some (meths_cons vm2_ok (meths_cons vm3_ok meths_nil))) (all_nd all_none (all_nd all_none all_lf (all_nd all_none (all_nd all_none (all_nd (all_some (meths_cons vm71_ok (meths_cons vm72_ok (meths_cons vm73_ok (meths_cons vm74_ok meths_nil))))) all_lf all_lf) all_lf) (all_nd all_none (all_nd (all_some (meths_cons vm75_ok meths_nil)) all_lf all_lf) all_lf))) (all_nd (all_some (meths_cons vm24_ok (meths_cons vm25_ok (meths_cons vm26_ok (meths_cons vm27_ok meths_nil))))) all_lf all_lf)) (all_nd all_none (all_nd all_none all_lf (all_nd all_none all_lf (all_nd all_none (all_nd (all_some (meths_cons vm76_ok meths_nil)) all_lf all_lf) all_lf))) (all_nd all_none (all_nd all_none (all_nd all_none (all_nd (all_some (meths_cons vm66_ok (meths_cons vm67_ok (meths_cons vm68_ok meths_nil)))) all_lf all_lf) all_lf) all_lf) all_lf))) (all_nd (all_some (meths_cons vm6_ok (meths_cons vm7_ok meths_nil))) (all_nd (all_some (meths_cons vm18_ok (meths_cons vm19_ok (meths_cons vm20_ok (meths_cons vm21_ok (meths_cons vm22_ok (meths_cons vm23_ok meths_nil))))))) (all_nd all_none (all_nd all_none (all_nd all_none (all_nd (all_some (meths_cons vm58_ok (meths_cons vm59_ok meths_nil))) all_lf all_lf) all_lf) all_lf) all_lf) all_lf) (all_nd all_none (all_nd all_none (all_nd all_none (all_nd all_none (all_nd (all_some (meths_cons vm64_ok (meths_cons vm65_ok meths_nil))) all_lf all_lf) all_lf) all_lf) (all_nd all_none (all_nd (all_some (meths_cons vm56_ok meths_nil)) all_lf all_lf) all_lf)) all_lf))))
theorem vC_ok : COk Tryz.prog vC := cok_of vT_ok vF_ok vM_ok (by kernel_rfl)
theorem vcall_ok0 {ext : CallF} {extd : DefF} (he : CallOk Tryz.prog ext) (hd : DefOk Tryz.prog extd) (n : Nat) : CallOk Tryz.prog (vcall vC ext extd n) := vcall_ok vC_ok (callT_of vC_ok) he hd n
end Go.Proofs.YtaahfdjobpbpjaaGreatDoor
