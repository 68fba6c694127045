/- The tables of the machine for this seat, and that they are the program's. Written by wip/bin/vmt.py. -/
import Derived.Test.YtellecjibjalfaaGreatDoorVu
import Derived.Test.YtellecjibjalfaaGreatDoorProg
import Derived.KernelRfl
set_option linter.unusedVariables false
set_option linter.unusedSectionVars false
set_option maxRecDepth 100000
namespace Go.Proofs.YtellecjibjalfaaGreatDoor
noncomputable def rl (l : List (Nat × V)) : List V := List.rec [] (fun e _ ih => Nat.rec ih (fun _ jh => e.2 :: jh) e.1) l
noncomputable def vt1 : TI := ⟨.fn, 1, 8, (some (.nf)), false⟩
theorem vt1_ok : TIok Tryz.prog 1 vt1 := tiok_of (e := false) (by kernel_rfl)
noncomputable def vt2 : TI := ⟨.int .i64, 1, 8, (some (.i .i64 (.ofNat 0))), true⟩
theorem vt2_ok : TIok Tryz.prog 2 vt2 := tiok_of (e := true) (by kernel_rfl)
noncomputable def vt3 : TI := ⟨.int .i64, 1, 8, (some (.i .i64 (.ofNat 0))), true⟩
theorem vt3_ok : TIok Tryz.prog 3 vt3 := tiok_of (e := true) (by kernel_rfl)
noncomputable def vt4 : TI := ⟨.bool, 1, 1, (some (.b false)), true⟩
theorem vt4_ok : TIok Tryz.prog 4 vt4 := tiok_of (e := true) (by kernel_rfl)
noncomputable def vt5 : TI := ⟨.int .u8, 1, 1, (some (.i .u8 (.ofNat 0))), true⟩
theorem vt5_ok : TIok Tryz.prog 5 vt5 := tiok_of (e := true) (by kernel_rfl)
noncomputable def vt6 : TI := ⟨.int .u8, 1, 1, (some (.i .u8 (.ofNat 0))), true⟩
theorem vt6_ok : TIok Tryz.prog 6 vt6 := tiok_of (e := true) (by kernel_rfl)
noncomputable def vt7 : TI := ⟨.st [(0, 2), (1, 3), (2, 4), (3, 6)], 4, 24, (some (.agg [.i .i64 (.ofNat 0), .i .i64 (.ofNat 0), .b false, .i .u8 (.ofNat 0)])), false⟩
theorem vt7_ok : TIok Tryz.prog 7 vt7 := tiok_of (e := false) (by kernel_rfl)
noncomputable def vt8 : TI := ⟨.st [(0, 2), (1, 3), (2, 4), (3, 6)], 4, 24, (some (.agg [.i .i64 (.ofNat 0), .i .i64 (.ofNat 0), .b false, .i .u8 (.ofNat 0)])), false⟩
theorem vt8_ok : TIok Tryz.prog 8 vt8 := tiok_of (e := false) (by kernel_rfl)
noncomputable def vt9 : TI := ⟨.str, 1, 16, (some (.s [])), true⟩
theorem vt9_ok : TIok Tryz.prog 9 vt9 := tiok_of (e := true) (by kernel_rfl)
noncomputable def vt10 : TI := ⟨.str, 1, 16, (some (.s [])), true⟩
theorem vt10_ok : TIok Tryz.prog 10 vt10 := tiok_of (e := true) (by kernel_rfl)
noncomputable def vt11 : TI := ⟨.str, 1, 16, (some (.s [])), true⟩
theorem vt11_ok : TIok Tryz.prog 11 vt11 := tiok_of (e := true) (by kernel_rfl)
noncomputable def vt12 : TI := ⟨.int .u64, 1, 8, (some (.i .u64 (.ofNat 0))), true⟩
theorem vt12_ok : TIok Tryz.prog 12 vt12 := tiok_of (e := true) (by kernel_rfl)
noncomputable def vt13 : TI := ⟨.st [(0, 9), (1, 12)], 2, 24, (some (.agg [.s [], .i .u64 (.ofNat 0)])), false⟩
theorem vt13_ok : TIok Tryz.prog 13 vt13 := tiok_of (e := false) (by kernel_rfl)
noncomputable def vt14 : TI := ⟨.st [(0, 9), (1, 12)], 2, 24, (some (.agg [.s [], .i .u64 (.ofNat 0)])), false⟩
theorem vt14_ok : TIok Tryz.prog 14 vt14 := tiok_of (e := false) (by kernel_rfl)
noncomputable def vt15 : TI := ⟨.ptr 147, 1, 8, (some (.p none)), true⟩
theorem vt15_ok : TIok Tryz.prog 15 vt15 := tiok_of (e := true) (by kernel_rfl)
noncomputable def vt16 : TI := ⟨.ptr 150, 1, 8, (some (.p none)), true⟩
theorem vt16_ok : TIok Tryz.prog 16 vt16 := tiok_of (e := true) (by kernel_rfl)
noncomputable def vt17 : TI := ⟨.ptr 159, 1, 8, (some (.p none)), true⟩
theorem vt17_ok : TIok Tryz.prog 17 vt17 := tiok_of (e := true) (by kernel_rfl)
noncomputable def vt18 : TI := ⟨.st [(0, 17)], 1, 8, (some (.agg [.p none])), false⟩
theorem vt18_ok : TIok Tryz.prog 18 vt18 := tiok_of (e := false) (by kernel_rfl)
noncomputable def vt19 : TI := ⟨.st [(0, 17)], 1, 8, (some (.agg [.p none])), false⟩
theorem vt19_ok : TIok Tryz.prog 19 vt19 := tiok_of (e := false) (by kernel_rfl)
noncomputable def vt20 : TI := ⟨.ifc, 1, 16, (some (.ni)), true⟩
theorem vt20_ok : TIok Tryz.prog 20 vt20 := tiok_of (e := true) (by kernel_rfl)
noncomputable def vt21 : TI := ⟨.int .i32, 1, 4, (some (.i .i32 (.ofNat 0))), true⟩
theorem vt21_ok : TIok Tryz.prog 21 vt21 := tiok_of (e := true) (by kernel_rfl)
noncomputable def vt22 : TI := ⟨.ptr 53, 1, 8, (some (.p none)), true⟩
theorem vt22_ok : TIok Tryz.prog 22 vt22 := tiok_of (e := true) (by kernel_rfl)
noncomputable def vt23 : TI := ⟨.int .i64, 1, 8, (some (.i .i64 (.ofNat 0))), true⟩
theorem vt23_ok : TIok Tryz.prog 23 vt23 := tiok_of (e := true) (by kernel_rfl)
noncomputable def vt25 : TI := ⟨.fn, 1, 8, (some (.nf)), false⟩
theorem vt25_ok : TIok Tryz.prog 25 vt25 := tiok_of (e := false) (by kernel_rfl)
noncomputable def vt26 : TI := ⟨.sl 5, 1, 24, (some (.sl none 0 0 false)), false⟩
theorem vt26_ok : TIok Tryz.prog 26 vt26 := tiok_of (e := false) (by kernel_rfl)
noncomputable def vt27 : TI := ⟨.fn, 1, 8, (some (.nf)), false⟩
theorem vt27_ok : TIok Tryz.prog 27 vt27 := tiok_of (e := false) (by kernel_rfl)
noncomputable def vt29 : TI := ⟨.fn, 1, 8, (some (.nf)), false⟩
theorem vt29_ok : TIok Tryz.prog 29 vt29 := tiok_of (e := false) (by kernel_rfl)
noncomputable def vt30 : TI := ⟨.arr 32 5, 32, 32, (some (.agg (rl [(32, .i .u8 (.ofNat 0))]))), true⟩
theorem vt30_ok : TIok Tryz.prog 30 vt30 := tiok_of (e := true) (by kernel_rfl)
noncomputable def vt31 : TI := ⟨.arr 32 5, 32, 32, (some (.agg (rl [(32, .i .u8 (.ofNat 0))]))), true⟩
theorem vt31_ok : TIok Tryz.prog 31 vt31 := tiok_of (e := true) (by kernel_rfl)
noncomputable def vt32 : TI := ⟨.fn, 1, 8, (some (.nf)), false⟩
theorem vt32_ok : TIok Tryz.prog 32 vt32 := tiok_of (e := false) (by kernel_rfl)
noncomputable def vt33 : TI := ⟨.fn, 1, 8, (some (.nf)), false⟩
theorem vt33_ok : TIok Tryz.prog 33 vt33 := tiok_of (e := false) (by kernel_rfl)
noncomputable def vt34 : TI := ⟨.fn, 1, 8, (some (.nf)), false⟩
theorem vt34_ok : TIok Tryz.prog 34 vt34 := tiok_of (e := false) (by kernel_rfl)
noncomputable def vt35 : TI := ⟨.sl 74, 1, 24, (some (.sl none 0 0 false)), false⟩
theorem vt35_ok : TIok Tryz.prog 35 vt35 := tiok_of (e := false) (by kernel_rfl)
noncomputable def vt36 : TI := ⟨.fn, 1, 8, (some (.nf)), false⟩
theorem vt36_ok : TIok Tryz.prog 36 vt36 := tiok_of (e := false) (by kernel_rfl)
noncomputable def vt37 : TI := ⟨.sl 59, 1, 24, (some (.sl none 0 0 false)), false⟩
theorem vt37_ok : TIok Tryz.prog 37 vt37 := tiok_of (e := false) (by kernel_rfl)
noncomputable def vt38 : TI := ⟨.fn, 1, 8, (some (.nf)), false⟩
theorem vt38_ok : TIok Tryz.prog 38 vt38 := tiok_of (e := false) (by kernel_rfl)
noncomputable def vt39 : TI := ⟨.map 31 70, 1, 8, (some (.m none)), false⟩
theorem vt39_ok : TIok Tryz.prog 39 vt39 := tiok_of (e := false) (by kernel_rfl)
noncomputable def vt40 : TI := ⟨.map 9 4, 1, 8, (some (.m none)), false⟩
theorem vt40_ok : TIok Tryz.prog 40 vt40 := tiok_of (e := false) (by kernel_rfl)
noncomputable def vt41 : TI := ⟨.st [(0, 39), (1, 40)], 2, 16, (some (.agg [.m none, .m none])), false⟩
theorem vt41_ok : TIok Tryz.prog 41 vt41 := tiok_of (e := false) (by kernel_rfl)
noncomputable def vt42 : TI := ⟨.st [(0, 39), (1, 40)], 2, 16, (some (.agg [.m none, .m none])), false⟩
theorem vt42_ok : TIok Tryz.prog 42 vt42 := tiok_of (e := false) (by kernel_rfl)
noncomputable def vt43 : TI := ⟨.fn, 1, 8, (some (.nf)), false⟩
theorem vt43_ok : TIok Tryz.prog 43 vt43 := tiok_of (e := false) (by kernel_rfl)
noncomputable def vt44 : TI := ⟨.map 9 31, 1, 8, (some (.m none)), false⟩
theorem vt44_ok : TIok Tryz.prog 44 vt44 := tiok_of (e := false) (by kernel_rfl)
noncomputable def vt45 : TI := ⟨.st [], 0, 0, (some (.agg [])), true⟩
theorem vt45_ok : TIok Tryz.prog 45 vt45 := tiok_of (e := true) (by kernel_rfl)
noncomputable def vt46 : TI := ⟨.st [], 0, 0, (some (.agg [])), true⟩
theorem vt46_ok : TIok Tryz.prog 46 vt46 := tiok_of (e := true) (by kernel_rfl)
noncomputable def vt47 : TI := ⟨.int .u32, 1, 4, (some (.i .u32 (.ofNat 0))), true⟩
theorem vt47_ok : TIok Tryz.prog 47 vt47 := tiok_of (e := true) (by kernel_rfl)
noncomputable def vt48 : TI := ⟨.st [(0, 21), (1, 47)], 2, 8, (some (.agg [.i .i32 (.ofNat 0), .i .u32 (.ofNat 0)])), false⟩
theorem vt48_ok : TIok Tryz.prog 48 vt48 := tiok_of (e := false) (by kernel_rfl)
noncomputable def vt49 : TI := ⟨.st [(0, 21), (1, 47)], 2, 8, (some (.agg [.i .i32 (.ofNat 0), .i .u32 (.ofNat 0)])), false⟩
theorem vt49_ok : TIok Tryz.prog 49 vt49 := tiok_of (e := false) (by kernel_rfl)
noncomputable def vt50 : TI := ⟨.st [(0, 46), (0, 49)], 2, 8, (some (.agg [.i .i32 (.ofNat 0), .i .u32 (.ofNat 0)])), false⟩
theorem vt50_ok : TIok Tryz.prog 50 vt50 := tiok_of (e := false) (by kernel_rfl)
noncomputable def vt51 : TI := ⟨.st [(0, 46), (0, 49)], 2, 8, (some (.agg [.i .i32 (.ofNat 0), .i .u32 (.ofNat 0)])), false⟩
theorem vt51_ok : TIok Tryz.prog 51 vt51 := tiok_of (e := false) (by kernel_rfl)
noncomputable def vt52 : TI := ⟨.st [(0, 3), (1, 3), (2, 26), (3, 51), (5, 42), (7, 42), (9, 44)], 10, 88, (some (.agg (rl [(2, .i .i64 (.ofNat 0)), (1, .sl none 0 0 false), (1, .i .i32 (.ofNat 0)), (1, .i .u32 (.ofNat 0)), (5, .m none)]))), false⟩
theorem vt52_ok : TIok Tryz.prog 52 vt52 := tiok_of (e := false) (by kernel_rfl)
noncomputable def vt53 : TI := ⟨.st [(0, 3), (1, 3), (2, 26), (3, 51), (5, 42), (7, 42), (9, 44)], 10, 88, (some (.agg (rl [(2, .i .i64 (.ofNat 0)), (1, .sl none 0 0 false), (1, .i .i32 (.ofNat 0)), (1, .i .u32 (.ofNat 0)), (5, .m none)]))), false⟩
theorem vt53_ok : TIok Tryz.prog 53 vt53 := tiok_of (e := false) (by kernel_rfl)
noncomputable def vt54 : TI := ⟨.fn, 1, 8, (some (.nf)), false⟩
theorem vt54_ok : TIok Tryz.prog 54 vt54 := tiok_of (e := false) (by kernel_rfl)
noncomputable def vt55 : TI := ⟨.fn, 1, 8, (some (.nf)), false⟩
theorem vt55_ok : TIok Tryz.prog 55 vt55 := tiok_of (e := false) (by kernel_rfl)
noncomputable def vt56 : TI := ⟨.fn, 1, 8, (some (.nf)), false⟩
theorem vt56_ok : TIok Tryz.prog 56 vt56 := tiok_of (e := false) (by kernel_rfl)
noncomputable def vt57 : TI := ⟨.fn, 1, 8, (some (.nf)), false⟩
theorem vt57_ok : TIok Tryz.prog 57 vt57 := tiok_of (e := false) (by kernel_rfl)
noncomputable def vt58 : TI := ⟨.st [(0, 26), (1, 31)], 33, 56, (some (.agg (rl [(1, .sl none 0 0 false), (32, .i .u8 (.ofNat 0))]))), false⟩
theorem vt58_ok : TIok Tryz.prog 58 vt58 := tiok_of (e := false) (by kernel_rfl)
noncomputable def vt59 : TI := ⟨.st [(0, 26), (1, 31)], 33, 56, (some (.agg (rl [(1, .sl none 0 0 false), (32, .i .u8 (.ofNat 0))]))), false⟩
theorem vt59_ok : TIok Tryz.prog 59 vt59 := tiok_of (e := false) (by kernel_rfl)
noncomputable def vt60 : TI := ⟨.fn, 1, 8, (some (.nf)), false⟩
theorem vt60_ok : TIok Tryz.prog 60 vt60 := tiok_of (e := false) (by kernel_rfl)
noncomputable def vt61 : TI := ⟨.fn, 1, 8, (some (.nf)), false⟩
theorem vt61_ok : TIok Tryz.prog 61 vt61 := tiok_of (e := false) (by kernel_rfl)
noncomputable def vt62 : TI := ⟨.fn, 1, 8, (some (.nf)), false⟩
theorem vt62_ok : TIok Tryz.prog 62 vt62 := tiok_of (e := false) (by kernel_rfl)
noncomputable def vt63 : TI := ⟨.ptr 51, 1, 8, (some (.p none)), true⟩
theorem vt63_ok : TIok Tryz.prog 63 vt63 := tiok_of (e := true) (by kernel_rfl)
noncomputable def vt64 : TI := ⟨.sl 26, 1, 24, (some (.sl none 0 0 false)), false⟩
theorem vt64_ok : TIok Tryz.prog 64 vt64 := tiok_of (e := false) (by kernel_rfl)
noncomputable def vt65 : TI := ⟨.ptr 90, 1, 8, (some (.p none)), true⟩
theorem vt65_ok : TIok Tryz.prog 65 vt65 := tiok_of (e := true) (by kernel_rfl)
noncomputable def vt66 : TI := ⟨.fn, 1, 8, (some (.nf)), false⟩
theorem vt66_ok : TIok Tryz.prog 66 vt66 := tiok_of (e := false) (by kernel_rfl)
noncomputable def vt67 : TI := ⟨.fn, 1, 8, (some (.nf)), false⟩
theorem vt67_ok : TIok Tryz.prog 67 vt67 := tiok_of (e := false) (by kernel_rfl)
noncomputable def vt68 : TI := ⟨.fn, 1, 8, (some (.nf)), false⟩
theorem vt68_ok : TIok Tryz.prog 68 vt68 := tiok_of (e := false) (by kernel_rfl)
noncomputable def vt69 : TI := ⟨.ptr 42, 1, 8, (some (.p none)), true⟩
theorem vt69_ok : TIok Tryz.prog 69 vt69 := tiok_of (e := true) (by kernel_rfl)
noncomputable def vt70 : TI := ⟨.sl 9, 1, 24, (some (.sl none 0 0 false)), false⟩
theorem vt70_ok : TIok Tryz.prog 70 vt70 := tiok_of (e := false) (by kernel_rfl)
noncomputable def vt71 : TI := ⟨.fn, 1, 8, (some (.nf)), false⟩
theorem vt71_ok : TIok Tryz.prog 71 vt71 := tiok_of (e := false) (by kernel_rfl)
noncomputable def vt72 : TI := ⟨.fn, 1, 8, (some (.nf)), false⟩
theorem vt72_ok : TIok Tryz.prog 72 vt72 := tiok_of (e := false) (by kernel_rfl)
noncomputable def vt73 : TI := ⟨.st [(0, 26), (1, 26)], 2, 48, (some (.agg [.sl none 0 0 false, .sl none 0 0 false])), false⟩
theorem vt73_ok : TIok Tryz.prog 73 vt73 := tiok_of (e := false) (by kernel_rfl)
noncomputable def vt74 : TI := ⟨.st [(0, 26), (1, 26)], 2, 48, (some (.agg [.sl none 0 0 false, .sl none 0 0 false])), false⟩
theorem vt74_ok : TIok Tryz.prog 74 vt74 := tiok_of (e := false) (by kernel_rfl)
noncomputable def vt75 : TI := ⟨.fn, 1, 8, (some (.nf)), false⟩
theorem vt75_ok : TIok Tryz.prog 75 vt75 := tiok_of (e := false) (by kernel_rfl)
noncomputable def vt76 : TI := ⟨.fn, 1, 8, (some (.nf)), false⟩
theorem vt76_ok : TIok Tryz.prog 76 vt76 := tiok_of (e := false) (by kernel_rfl)
noncomputable def vt77 : TI := ⟨.fn, 1, 8, (some (.nf)), false⟩
theorem vt77_ok : TIok Tryz.prog 77 vt77 := tiok_of (e := false) (by kernel_rfl)
noncomputable def vt78 : TI := ⟨.fn, 1, 8, (some (.nf)), false⟩
theorem vt78_ok : TIok Tryz.prog 78 vt78 := tiok_of (e := false) (by kernel_rfl)
noncomputable def vt79 : TI := ⟨.int .u64, 1, 8, (some (.i .u64 (.ofNat 0))), true⟩
theorem vt79_ok : TIok Tryz.prog 79 vt79 := tiok_of (e := true) (by kernel_rfl)
noncomputable def vt80 : TI := ⟨.ptr 49, 1, 8, (some (.p none)), true⟩
theorem vt80_ok : TIok Tryz.prog 80 vt80 := tiok_of (e := true) (by kernel_rfl)
noncomputable def vt81 : TI := ⟨.fn, 1, 8, (some (.nf)), false⟩
theorem vt81_ok : TIok Tryz.prog 81 vt81 := tiok_of (e := false) (by kernel_rfl)
noncomputable def vt82 : TI := ⟨.ptr 21, 1, 8, (some (.p none)), true⟩
theorem vt82_ok : TIok Tryz.prog 82 vt82 := tiok_of (e := true) (by kernel_rfl)
noncomputable def vt83 : TI := ⟨.fn, 1, 8, (some (.nf)), false⟩
theorem vt83_ok : TIok Tryz.prog 83 vt83 := tiok_of (e := false) (by kernel_rfl)
noncomputable def vt84 : TI := ⟨.usf, 1, 8, (some (.p none)), true⟩
theorem vt84_ok : TIok Tryz.prog 84 vt84 := tiok_of (e := true) (by kernel_rfl)
noncomputable def vt85 : TI := ⟨.fn, 1, 8, (some (.nf)), false⟩
theorem vt85_ok : TIok Tryz.prog 85 vt85 := tiok_of (e := false) (by kernel_rfl)
noncomputable def vt86 : TI := ⟨.fn, 1, 8, (some (.nf)), false⟩
theorem vt86_ok : TIok Tryz.prog 86 vt86 := tiok_of (e := false) (by kernel_rfl)
noncomputable def vt87 : TI := ⟨.arr 8 47, 8, 32, (some (.agg (rl [(8, .i .u32 (.ofNat 0))]))), true⟩
theorem vt87_ok : TIok Tryz.prog 87 vt87 := tiok_of (e := true) (by kernel_rfl)
noncomputable def vt88 : TI := ⟨.arr 64 5, 64, 64, (some (.agg (rl [(64, .i .u8 (.ofNat 0))]))), true⟩
theorem vt88_ok : TIok Tryz.prog 88 vt88 := tiok_of (e := true) (by kernel_rfl)
noncomputable def vt89 : TI := ⟨.st [(0, 87), (8, 88), (72, 3), (73, 2)], 74, 112, (some (.agg (rl [(8, .i .u32 (.ofNat 0)), (64, .i .u8 (.ofNat 0)), (2, .i .i64 (.ofNat 0))]))), true⟩
theorem vt89_ok : TIok Tryz.prog 89 vt89 := tiok_of (e := true) (by kernel_rfl)
noncomputable def vt90 : TI := ⟨.st [(0, 87), (8, 88), (72, 3), (73, 2)], 74, 112, (some (.agg (rl [(8, .i .u32 (.ofNat 0)), (64, .i .u8 (.ofNat 0)), (2, .i .i64 (.ofNat 0))]))), true⟩
theorem vt90_ok : TIok Tryz.prog 90 vt90 := tiok_of (e := true) (by kernel_rfl)
noncomputable def vt91 : TI := ⟨.fn, 1, 8, (some (.nf)), false⟩
theorem vt91_ok : TIok Tryz.prog 91 vt91 := tiok_of (e := false) (by kernel_rfl)
noncomputable def vt92 : TI := ⟨.ptr 88, 1, 8, (some (.p none)), true⟩
theorem vt92_ok : TIok Tryz.prog 92 vt92 := tiok_of (e := true) (by kernel_rfl)
noncomputable def vt93 : TI := ⟨.int .u64, 1, 8, (some (.i .u64 (.ofNat 0))), true⟩
theorem vt93_ok : TIok Tryz.prog 93 vt93 := tiok_of (e := true) (by kernel_rfl)
noncomputable def vt94 : TI := ⟨.arr 8 5, 8, 8, (some (.agg (rl [(8, .i .u8 (.ofNat 0))]))), true⟩
theorem vt94_ok : TIok Tryz.prog 94 vt94 := tiok_of (e := true) (by kernel_rfl)
noncomputable def vt95 : TI := ⟨.fn, 1, 8, (some (.nf)), false⟩
theorem vt95_ok : TIok Tryz.prog 95 vt95 := tiok_of (e := false) (by kernel_rfl)
noncomputable def vt96 : TI := ⟨.ptr 124, 1, 8, (some (.p none)), true⟩
theorem vt96_ok : TIok Tryz.prog 96 vt96 := tiok_of (e := true) (by kernel_rfl)
noncomputable def vt97 : TI := ⟨.fn, 1, 8, (some (.nf)), false⟩
theorem vt97_ok : TIok Tryz.prog 97 vt97 := tiok_of (e := false) (by kernel_rfl)
noncomputable def vt98 : TI := ⟨.fn, 1, 8, (some (.nf)), false⟩
theorem vt98_ok : TIok Tryz.prog 98 vt98 := tiok_of (e := false) (by kernel_rfl)
noncomputable def vt99 : TI := ⟨.fn, 1, 8, (some (.nf)), false⟩
theorem vt99_ok : TIok Tryz.prog 99 vt99 := tiok_of (e := false) (by kernel_rfl)
noncomputable def vt100 : TI := ⟨.int .i64, 1, 8, (some (.i .i64 (.ofNat 0))), true⟩
theorem vt100_ok : TIok Tryz.prog 100 vt100 := tiok_of (e := true) (by kernel_rfl)
noncomputable def vt102 : TI := ⟨.fn, 1, 8, (some (.nf)), false⟩
theorem vt102_ok : TIok Tryz.prog 102 vt102 := tiok_of (e := false) (by kernel_rfl)
noncomputable def vt103 : TI := ⟨.fn, 1, 8, (some (.nf)), false⟩
theorem vt103_ok : TIok Tryz.prog 103 vt103 := tiok_of (e := false) (by kernel_rfl)
noncomputable def vt104 : TI := ⟨.fn, 1, 8, (some (.nf)), false⟩
theorem vt104_ok : TIok Tryz.prog 104 vt104 := tiok_of (e := false) (by kernel_rfl)
noncomputable def vt106 : TI := ⟨.fn, 1, 8, (some (.nf)), false⟩
theorem vt106_ok : TIok Tryz.prog 106 vt106 := tiok_of (e := false) (by kernel_rfl)
noncomputable def vt107 : TI := ⟨.fn, 1, 8, (some (.nf)), false⟩
theorem vt107_ok : TIok Tryz.prog 107 vt107 := tiok_of (e := false) (by kernel_rfl)
noncomputable def vt108 : TI := ⟨.fn, 1, 8, (some (.nf)), false⟩
theorem vt108_ok : TIok Tryz.prog 108 vt108 := tiok_of (e := false) (by kernel_rfl)
noncomputable def vt109 : TI := ⟨.fn, 1, 8, (some (.nf)), false⟩
theorem vt109_ok : TIok Tryz.prog 109 vt109 := tiok_of (e := false) (by kernel_rfl)
noncomputable def vt110 : TI := ⟨.fn, 1, 8, (some (.nf)), false⟩
theorem vt110_ok : TIok Tryz.prog 110 vt110 := tiok_of (e := false) (by kernel_rfl)
noncomputable def vt111 : TI := ⟨.fn, 1, 8, (some (.nf)), false⟩
theorem vt111_ok : TIok Tryz.prog 111 vt111 := tiok_of (e := false) (by kernel_rfl)
noncomputable def vt112 : TI := ⟨.fn, 1, 8, (some (.nf)), false⟩
theorem vt112_ok : TIok Tryz.prog 112 vt112 := tiok_of (e := false) (by kernel_rfl)
noncomputable def vt113 : TI := ⟨.ptr 47, 1, 8, (some (.p none)), true⟩
theorem vt113_ok : TIok Tryz.prog 113 vt113 := tiok_of (e := true) (by kernel_rfl)
noncomputable def vt114 : TI := ⟨.arr 64 47, 64, 256, (some (.agg (rl [(64, .i .u32 (.ofNat 0))]))), true⟩
theorem vt114_ok : TIok Tryz.prog 114 vt114 := tiok_of (e := true) (by kernel_rfl)
noncomputable def vt115 : TI := ⟨.fn, 1, 8, (some (.nf)), false⟩
theorem vt115_ok : TIok Tryz.prog 115 vt115 := tiok_of (e := false) (by kernel_rfl)
noncomputable def vt116 : TI := ⟨.fn, 1, 8, (some (.nf)), false⟩
theorem vt116_ok : TIok Tryz.prog 116 vt116 := tiok_of (e := false) (by kernel_rfl)
noncomputable def vt117 : TI := ⟨.fn, 1, 8, (some (.nf)), false⟩
theorem vt117_ok : TIok Tryz.prog 117 vt117 := tiok_of (e := false) (by kernel_rfl)
noncomputable def vt118 : TI := ⟨.fn, 1, 8, (some (.nf)), false⟩
theorem vt118_ok : TIok Tryz.prog 118 vt118 := tiok_of (e := false) (by kernel_rfl)
noncomputable def vt119 : TI := ⟨.fn, 1, 8, (some (.nf)), false⟩
theorem vt119_ok : TIok Tryz.prog 119 vt119 := tiok_of (e := false) (by kernel_rfl)
noncomputable def vt120 : TI := ⟨.fn, 1, 8, (some (.nf)), false⟩
theorem vt120_ok : TIok Tryz.prog 120 vt120 := tiok_of (e := false) (by kernel_rfl)
noncomputable def vt121 : TI := ⟨.fn, 1, 8, (some (.nf)), false⟩
theorem vt121_ok : TIok Tryz.prog 121 vt121 := tiok_of (e := false) (by kernel_rfl)
noncomputable def vt122 : TI := ⟨.fn, 1, 8, (some (.nf)), false⟩
theorem vt122_ok : TIok Tryz.prog 122 vt122 := tiok_of (e := false) (by kernel_rfl)
noncomputable def vt123 : TI := ⟨.st [(0, 65), (1, 88)], 65, 72, (some (.agg (rl [(1, .p none), (64, .i .u8 (.ofNat 0))]))), true⟩
theorem vt123_ok : TIok Tryz.prog 123 vt123 := tiok_of (e := true) (by kernel_rfl)
noncomputable def vt124 : TI := ⟨.st [(0, 65), (1, 88)], 65, 72, (some (.agg (rl [(1, .p none), (64, .i .u8 (.ofNat 0))]))), true⟩
theorem vt124_ok : TIok Tryz.prog 124 vt124 := tiok_of (e := true) (by kernel_rfl)
noncomputable def vt125 : TI := ⟨.fn, 1, 8, (some (.nf)), false⟩
theorem vt125_ok : TIok Tryz.prog 125 vt125 := tiok_of (e := false) (by kernel_rfl)
noncomputable def vt126 : TI := ⟨.fn, 1, 8, (some (.nf)), false⟩
theorem vt126_ok : TIok Tryz.prog 126 vt126 := tiok_of (e := false) (by kernel_rfl)
noncomputable def vt127 : TI := ⟨.fn, 1, 8, (some (.nf)), false⟩
theorem vt127_ok : TIok Tryz.prog 127 vt127 := tiok_of (e := false) (by kernel_rfl)
noncomputable def vt128 : TI := ⟨.fn, 1, 8, (some (.nf)), false⟩
theorem vt128_ok : TIok Tryz.prog 128 vt128 := tiok_of (e := false) (by kernel_rfl)
noncomputable def vt129 : TI := ⟨.fn, 1, 8, (some (.nf)), false⟩
theorem vt129_ok : TIok Tryz.prog 129 vt129 := tiok_of (e := false) (by kernel_rfl)
noncomputable def vt130 : TI := ⟨.int .u64, 1, 8, (some (.i .u64 (.ofNat 0))), true⟩
theorem vt130_ok : TIok Tryz.prog 130 vt130 := tiok_of (e := true) (by kernel_rfl)
noncomputable def vt131 : TI := ⟨.fn, 1, 8, (some (.nf)), false⟩
theorem vt131_ok : TIok Tryz.prog 131 vt131 := tiok_of (e := false) (by kernel_rfl)
noncomputable def vt132 : TI := ⟨.fn, 1, 8, (some (.nf)), false⟩
theorem vt132_ok : TIok Tryz.prog 132 vt132 := tiok_of (e := false) (by kernel_rfl)
noncomputable def vt133 : TI := ⟨.fn, 1, 8, (some (.nf)), false⟩
theorem vt133_ok : TIok Tryz.prog 133 vt133 := tiok_of (e := false) (by kernel_rfl)
noncomputable def vt134 : TI := ⟨.ptr 3, 1, 8, (some (.p none)), true⟩
theorem vt134_ok : TIok Tryz.prog 134 vt134 := tiok_of (e := true) (by kernel_rfl)
noncomputable def vt135 : TI := ⟨.fn, 1, 8, (some (.nf)), false⟩
theorem vt135_ok : TIok Tryz.prog 135 vt135 := tiok_of (e := false) (by kernel_rfl)
noncomputable def vt136 : TI := ⟨.fn, 1, 8, (some (.nf)), false⟩
theorem vt136_ok : TIok Tryz.prog 136 vt136 := tiok_of (e := false) (by kernel_rfl)
noncomputable def vt137 : TI := ⟨.fn, 1, 8, (some (.nf)), false⟩
theorem vt137_ok : TIok Tryz.prog 137 vt137 := tiok_of (e := false) (by kernel_rfl)
noncomputable def vt138 : TI := ⟨.fn, 1, 8, (some (.nf)), false⟩
theorem vt138_ok : TIok Tryz.prog 138 vt138 := tiok_of (e := false) (by kernel_rfl)
noncomputable def vt139 : TI := ⟨.fn, 1, 8, (some (.nf)), false⟩
theorem vt139_ok : TIok Tryz.prog 139 vt139 := tiok_of (e := false) (by kernel_rfl)
noncomputable def vt140 : TI := ⟨.fn, 1, 8, (some (.nf)), false⟩
theorem vt140_ok : TIok Tryz.prog 140 vt140 := tiok_of (e := false) (by kernel_rfl)
noncomputable def vt141 : TI := ⟨.ptr 130, 1, 8, (some (.p none)), true⟩
theorem vt141_ok : TIok Tryz.prog 141 vt141 := tiok_of (e := true) (by kernel_rfl)
noncomputable def vt142 : TI := ⟨.fn, 1, 8, (some (.nf)), false⟩
theorem vt142_ok : TIok Tryz.prog 142 vt142 := tiok_of (e := false) (by kernel_rfl)
noncomputable def vt143 : TI := ⟨.fn, 1, 8, (some (.nf)), false⟩
theorem vt143_ok : TIok Tryz.prog 143 vt143 := tiok_of (e := false) (by kernel_rfl)
noncomputable def vt144 : TI := ⟨.fn, 1, 8, (some (.nf)), false⟩
theorem vt144_ok : TIok Tryz.prog 144 vt144 := tiok_of (e := false) (by kernel_rfl)
noncomputable def vt145 : TI := ⟨.fn, 1, 8, (some (.nf)), false⟩
theorem vt145_ok : TIok Tryz.prog 145 vt145 := tiok_of (e := false) (by kernel_rfl)
noncomputable def vt146 : TI := ⟨.st [(0, 17), (1, 17), (2, 17), (3, 9)], 4, 40, (some (.agg [.p none, .p none, .p none, .s []])), false⟩
theorem vt146_ok : TIok Tryz.prog 146 vt146 := tiok_of (e := false) (by kernel_rfl)
noncomputable def vt147 : TI := ⟨.st [(0, 17), (1, 17), (2, 17), (3, 9)], 4, 40, (some (.agg [.p none, .p none, .p none, .s []])), false⟩
theorem vt147_ok : TIok Tryz.prog 147 vt147 := tiok_of (e := false) (by kernel_rfl)
noncomputable def vt148 : TI := ⟨.arr 0 16, 0, 0, (some (.agg [])), true⟩
theorem vt148_ok : TIok Tryz.prog 148 vt148 := tiok_of (e := true) (by kernel_rfl)
noncomputable def vt149 : TI := ⟨.st [(0, 148)], 0, 0, (some (.agg [])), false⟩
theorem vt149_ok : TIok Tryz.prog 149 vt149 := tiok_of (e := false) (by kernel_rfl)
noncomputable def vt150 : TI := ⟨.st [(0, 148)], 0, 0, (some (.agg [])), false⟩
theorem vt150_ok : TIok Tryz.prog 150 vt150 := tiok_of (e := false) (by kernel_rfl)
noncomputable def vt151 : TI := ⟨.fn, 1, 8, (some (.nf)), false⟩
theorem vt151_ok : TIok Tryz.prog 151 vt151 := tiok_of (e := false) (by kernel_rfl)
noncomputable def vt152 : TI := ⟨.int .u8, 1, 1, (some (.i .u8 (.ofNat 0))), true⟩
theorem vt152_ok : TIok Tryz.prog 152 vt152 := tiok_of (e := true) (by kernel_rfl)
noncomputable def vt153 : TI := ⟨.int .u8, 1, 1, (some (.i .u8 (.ofNat 0))), true⟩
theorem vt153_ok : TIok Tryz.prog 153 vt153 := tiok_of (e := true) (by kernel_rfl)
noncomputable def vt154 : TI := ⟨.fn, 1, 8, (some (.nf)), false⟩
theorem vt154_ok : TIok Tryz.prog 154 vt154 := tiok_of (e := false) (by kernel_rfl)
noncomputable def vt155 : TI := ⟨.ptr 5, 1, 8, (some (.p none)), true⟩
theorem vt155_ok : TIok Tryz.prog 155 vt155 := tiok_of (e := true) (by kernel_rfl)
noncomputable def vt156 : TI := ⟨.int .i32, 1, 4, (some (.i .i32 (.ofNat 0))), true⟩
theorem vt156_ok : TIok Tryz.prog 156 vt156 := tiok_of (e := true) (by kernel_rfl)
noncomputable def vt157 : TI := ⟨.int .i32, 1, 4, (some (.i .i32 (.ofNat 0))), true⟩
theorem vt157_ok : TIok Tryz.prog 157 vt157 := tiok_of (e := true) (by kernel_rfl)
noncomputable def vt158 : TI := ⟨.st [(0, 12), (1, 12), (2, 47), (3, 152), (4, 5), (5, 5), (6, 153), (7, 154), (8, 155), (9, 156), (10, 157)], 11, 48, (some (.agg (rl [(2, .i .u64 (.ofNat 0)), (1, .i .u32 (.ofNat 0)), (4, .i .u8 (.ofNat 0)), (1, .nf), (1, .p none), (2, .i .i32 (.ofNat 0))]))), false⟩
theorem vt158_ok : TIok Tryz.prog 158 vt158 := tiok_of (e := false) (by kernel_rfl)
noncomputable def vt159 : TI := ⟨.st [(0, 12), (1, 12), (2, 47), (3, 152), (4, 5), (5, 5), (6, 153), (7, 154), (8, 155), (9, 156), (10, 157)], 11, 48, (some (.agg (rl [(2, .i .u64 (.ofNat 0)), (1, .i .u32 (.ofNat 0)), (4, .i .u8 (.ofNat 0)), (1, .nf), (1, .p none), (2, .i .i32 (.ofNat 0))]))), false⟩
theorem vt159_ok : TIok Tryz.prog 159 vt159 := tiok_of (e := false) (by kernel_rfl)
theorem vf0_ok : FnOk Tryz.prog 0 Tryz.f0 := fnok_of Tryz.func0 (by kernel_rfl)
theorem vf1_ok : FnOk Tryz.prog 1 Tryz.f1 := fnok_of Tryz.func1 (by kernel_rfl)
theorem vf2_ok : FnOk Tryz.prog 2 Tryz.f2 := fnok_of Tryz.func2 (by kernel_rfl)
theorem vf3_ok : FnOk Tryz.prog 3 Tryz.f3 := fnok_of Tryz.func3 (by kernel_rfl)
theorem vf4_ok : FnOk Tryz.prog 4 Tryz.f4 := fnok_of Tryz.func4 (by kernel_rfl)
theorem vf5_ok : FnOk Tryz.prog 5 Tryz.f5 := fnok_of Tryz.func5 (by kernel_rfl)
theorem vf6_ok : FnOk Tryz.prog 6 Tryz.f6 := fnok_of Tryz.func6 (by kernel_rfl)
theorem vf7_ok : FnOk Tryz.prog 7 Tryz.f7 := fnok_of Tryz.func7 (by kernel_rfl)
theorem vf8_ok : FnOk Tryz.prog 8 Tryz.f8 := fnok_of Tryz.func8 (by kernel_rfl)
theorem vf9_ok : FnOk Tryz.prog 9 Tryz.f9 := fnok_of Tryz.func9 (by kernel_rfl)
theorem vf10_ok : FnOk Tryz.prog 10 Tryz.f10 := fnok_of Tryz.func10 (by kernel_rfl)
theorem vf11_ok : FnOk Tryz.prog 11 Tryz.f11 := fnok_of Tryz.func11 (by kernel_rfl)
theorem vf12_ok : FnOk Tryz.prog 12 Tryz.f12 := fnok_of Tryz.func12 (by kernel_rfl)
theorem vf13_ok : FnOk Tryz.prog 13 Tryz.f13 := fnok_of Tryz.func13 (by kernel_rfl)
theorem vf14_ok : FnOk Tryz.prog 14 Tryz.f14 := fnok_of Tryz.func14 (by kernel_rfl)
theorem vf15_ok : FnOk Tryz.prog 15 Tryz.f15 := fnok_of Tryz.func15 (by kernel_rfl)
theorem vf16_ok : FnOk Tryz.prog 16 Tryz.f16 := fnok_of Tryz.func16 (by kernel_rfl)
theorem vf17_ok : FnOk Tryz.prog 17 Tryz.f17 := fnok_of Tryz.func17 (by kernel_rfl)
theorem vf18_ok : FnOk Tryz.prog 18 Tryz.f18 := fnok_of Tryz.func18 (by kernel_rfl)
theorem vf19_ok : FnOk Tryz.prog 19 Tryz.f19 := fnok_of Tryz.func19 (by kernel_rfl)
theorem vf20_ok : FnOk Tryz.prog 20 Tryz.f20 := fnok_of Tryz.func20 (by kernel_rfl)
theorem vf21_ok : FnOk Tryz.prog 21 Tryz.f21 := fnok_of Tryz.func21 (by kernel_rfl)
theorem vf22_ok : FnOk Tryz.prog 22 Tryz.f22 := fnok_of Tryz.func22 (by kernel_rfl)
theorem vf23_ok : FnOk Tryz.prog 23 Tryz.f23 := fnok_of Tryz.func23 (by kernel_rfl)
theorem vf24_ok : FnOk Tryz.prog 24 Tryz.f24 := fnok_of Tryz.func24 (by kernel_rfl)
theorem vf25_ok : FnOk Tryz.prog 25 Tryz.f25 := fnok_of Tryz.func25 (by kernel_rfl)
theorem vf26_ok : FnOk Tryz.prog 26 Tryz.f26 := fnok_of Tryz.func26 (by kernel_rfl)
theorem vf27_ok : FnOk Tryz.prog 27 Tryz.f27 := fnok_of Tryz.func27 (by kernel_rfl)
theorem vf28_ok : FnOk Tryz.prog 28 Tryz.f28 := fnok_of Tryz.func28 (by kernel_rfl)
theorem vf29_ok : FnOk Tryz.prog 29 Tryz.f29 := fnok_of Tryz.func29 (by kernel_rfl)
theorem vf30_ok : FnOk Tryz.prog 30 Tryz.f30 := fnok_of Tryz.func30 (by kernel_rfl)
theorem vf31_ok : FnOk Tryz.prog 31 Tryz.f31 := fnok_of Tryz.func31 (by kernel_rfl)
theorem vf32_ok : FnOk Tryz.prog 32 Tryz.f32 := fnok_of Tryz.func32 (by kernel_rfl)
theorem vf33_ok : FnOk Tryz.prog 33 Tryz.f33 := fnok_of Tryz.func33 (by kernel_rfl)
theorem vf34_ok : FnOk Tryz.prog 34 Tryz.f34 := fnok_of Tryz.func34 (by kernel_rfl)
theorem vf35_ok : FnOk Tryz.prog 35 Tryz.f35 := fnok_of Tryz.func35 (by kernel_rfl)
theorem vf36_ok : FnOk Tryz.prog 36 Tryz.f36 := fnok_of Tryz.func36 (by kernel_rfl)
theorem vf37_ok : FnOk Tryz.prog 37 Tryz.f37 := fnok_of Tryz.func37 (by kernel_rfl)
theorem vf38_ok : FnOk Tryz.prog 38 Tryz.f38 := fnok_of Tryz.func38 (by kernel_rfl)
theorem vf39_ok : FnOk Tryz.prog 39 Tryz.f39 := fnok_of Tryz.func39 (by kernel_rfl)
theorem vf40_ok : FnOk Tryz.prog 40 Tryz.f40 := fnok_of Tryz.func40 (by kernel_rfl)
theorem vf41_ok : FnOk Tryz.prog 41 Tryz.f41 := fnok_of Tryz.func41 (by kernel_rfl)
theorem vf42_ok : FnOk Tryz.prog 42 Tryz.f42 := fnok_of Tryz.func42 (by kernel_rfl)
theorem vf43_ok : FnOk Tryz.prog 43 Tryz.f43 := fnok_of Tryz.func43 (by kernel_rfl)
theorem vf44_ok : FnOk Tryz.prog 44 Tryz.f44 := fnok_of Tryz.func44 (by kernel_rfl)
theorem vf45_ok : FnOk Tryz.prog 45 Tryz.f45 := fnok_of Tryz.func45 (by kernel_rfl)
theorem vf46_ok : FnOk Tryz.prog 46 Tryz.f46 := fnok_of Tryz.func46 (by kernel_rfl)
theorem vf47_ok : FnOk Tryz.prog 47 Tryz.f47 := fnok_of Tryz.func47 (by kernel_rfl)
theorem vf48_ok : FnOk Tryz.prog 48 Tryz.f48 := fnok_of Tryz.func48 (by kernel_rfl)
theorem vf49_ok : FnOk Tryz.prog 49 Tryz.f49 := fnok_of Tryz.func49 (by kernel_rfl)
theorem vf50_ok : FnOk Tryz.prog 50 Tryz.f50 := fnok_of Tryz.func50 (by kernel_rfl)
theorem vf51_ok : FnOk Tryz.prog 51 Tryz.f51 := fnok_of Tryz.func51 (by kernel_rfl)
theorem vf52_ok : FnOk Tryz.prog 52 Tryz.f52 := fnok_of Tryz.func52 (by kernel_rfl)
theorem vf53_ok : FnOk Tryz.prog 53 Tryz.f53 := fnok_of Tryz.func53 (by kernel_rfl)
theorem vf54_ok : FnOk Tryz.prog 54 Tryz.f54 := fnok_of Tryz.func54 (by kernel_rfl)
theorem vf55_ok : FnOk Tryz.prog 55 Tryz.f55 := fnok_of Tryz.func55 (by kernel_rfl)
theorem vf56_ok : FnOk Tryz.prog 56 Tryz.f56 := fnok_of Tryz.func56 (by kernel_rfl)
theorem vf57_ok : FnOk Tryz.prog 57 Tryz.f57 := fnok_of Tryz.func57 (by kernel_rfl)
theorem vf58_ok : FnOk Tryz.prog 58 Tryz.f58 := fnok_of Tryz.func58 (by kernel_rfl)
theorem vf59_ok : FnOk Tryz.prog 59 Tryz.f59 := fnok_of Tryz.func59 (by kernel_rfl)
theorem vf60_ok : FnOk Tryz.prog 60 Tryz.f60 := fnok_of Tryz.func60 (by kernel_rfl)
theorem vf61_ok : FnOk Tryz.prog 61 Tryz.f61 := fnok_of Tryz.func61 (by kernel_rfl)
theorem vf62_ok : FnOk Tryz.prog 62 Tryz.f62 := fnok_of Tryz.func62 (by kernel_rfl)
theorem vf63_ok : FnOk Tryz.prog 63 Tryz.f63 := fnok_of Tryz.func63 (by kernel_rfl)
theorem vf64_ok : FnOk Tryz.prog 64 Tryz.f64 := fnok_of Tryz.func64 (by kernel_rfl)
theorem vf65_ok : FnOk Tryz.prog 65 Tryz.f65 := fnok_of Tryz.func65 (by kernel_rfl)
theorem vf66_ok : FnOk Tryz.prog 66 Tryz.f66 := fnok_of Tryz.func66 (by kernel_rfl)
theorem vf67_ok : FnOk Tryz.prog 67 Tryz.f67 := fnok_of Tryz.func67 (by kernel_rfl)
theorem vf68_ok : FnOk Tryz.prog 68 Tryz.f68 := fnok_of Tryz.func68 (by kernel_rfl)
theorem vf69_ok : FnOk Tryz.prog 69 Tryz.f69 := fnok_of Tryz.func69 (by kernel_rfl)
theorem vf70_ok : FnOk Tryz.prog 70 Tryz.f70 := fnok_of Tryz.func70 (by kernel_rfl)
theorem vf71_ok : FnOk Tryz.prog 71 Tryz.f71 := fnok_of Tryz.func71 (by kernel_rfl)
theorem vf72_ok : FnOk Tryz.prog 72 Tryz.f72 := fnok_of Tryz.func72 (by kernel_rfl)
theorem vf73_ok : FnOk Tryz.prog 73 Tryz.f73 := fnok_of Tryz.func73 (by kernel_rfl)
theorem vf74_ok : FnOk Tryz.prog 74 Tryz.f74 := fnok_of Tryz.func74 (by kernel_rfl)
theorem vf75_ok : FnOk Tryz.prog 75 Tryz.f75 := fnok_of Tryz.func75 (by kernel_rfl)
theorem vf76_ok : FnOk Tryz.prog 76 Tryz.f76 := fnok_of Tryz.func76 (by kernel_rfl)
theorem vf77_ok : FnOk Tryz.prog 77 Tryz.f77 := fnok_of Tryz.func77 (by kernel_rfl)
theorem vf78_ok : FnOk Tryz.prog 78 Tryz.f78 := fnok_of Tryz.func78 (by kernel_rfl)
theorem vf79_ok : FnOk Tryz.prog 79 Tryz.f79 := fnok_of Tryz.func79 (by kernel_rfl)
theorem vf80_ok : FnOk Tryz.prog 80 Tryz.f80 := fnok_of Tryz.func80 (by kernel_rfl)
theorem vf81_ok : FnOk Tryz.prog 81 Tryz.f81 := fnok_of Tryz.func81 (by kernel_rfl)
theorem vf82_ok : FnOk Tryz.prog 82 Tryz.f82 := fnok_of Tryz.func82 (by kernel_rfl)
theorem vf83_ok : FnOk Tryz.prog 83 Tryz.f83 := fnok_of Tryz.func83 (by kernel_rfl)
theorem vf84_ok : FnOk Tryz.prog 84 Tryz.f84 := fnok_of Tryz.func84 (by kernel_rfl)
theorem vf85_ok : FnOk Tryz.prog 85 Tryz.f85 := fnok_of Tryz.func85 (by kernel_rfl)
theorem vf86_ok : FnOk Tryz.prog 86 Tryz.f86 := fnok_of Tryz.func86 (by kernel_rfl)
theorem vf87_ok : FnOk Tryz.prog 87 Tryz.f87 := fnok_of Tryz.func87 (by kernel_rfl)
theorem vf88_ok : FnOk Tryz.prog 88 Tryz.f88 := fnok_of Tryz.func88 (by kernel_rfl)
theorem vf89_ok : FnOk Tryz.prog 89 Tryz.f89 := fnok_of Tryz.func89 (by kernel_rfl)
theorem vf90_ok : FnOk Tryz.prog 90 Tryz.f90 := fnok_of Tryz.func90 (by kernel_rfl)
theorem vf91_ok : FnOk Tryz.prog 91 Tryz.f91 := fnok_of Tryz.func91 (by kernel_rfl)
theorem vf92_ok : FnOk Tryz.prog 92 Tryz.f92 := fnok_of Tryz.func92 (by kernel_rfl)
theorem vf93_ok : FnOk Tryz.prog 93 Tryz.f93 := fnok_of Tryz.func93 (by kernel_rfl)
theorem vf94_ok : FnOk Tryz.prog 94 Tryz.f94 := fnok_of Tryz.func94 (by kernel_rfl)
theorem vf95_ok : FnOk Tryz.prog 95 Tryz.f95 := fnok_of Tryz.func95 (by kernel_rfl)
theorem vf96_ok : FnOk Tryz.prog 96 Tryz.f96 := fnok_of Tryz.func96 (by kernel_rfl)
theorem vf97_ok : FnOk Tryz.prog 97 Tryz.f97 := fnok_of Tryz.func97 (by kernel_rfl)
theorem vf98_ok : FnOk Tryz.prog 98 Tryz.f98 := fnok_of Tryz.func98 (by kernel_rfl)
theorem vf99_ok : FnOk Tryz.prog 99 Tryz.f99 := fnok_of Tryz.func99 (by kernel_rfl)
theorem vf100_ok : FnOk Tryz.prog 100 Tryz.f100 := fnok_of Tryz.func100 (by kernel_rfl)
theorem vf101_ok : FnOk Tryz.prog 101 Tryz.f101 := fnok_of Tryz.func101 (by kernel_rfl)
theorem vf102_ok : FnOk Tryz.prog 102 Tryz.f102 := fnok_of Tryz.func102 (by kernel_rfl)
theorem vf103_ok : FnOk Tryz.prog 103 Tryz.f103 := fnok_of Tryz.func103 (by kernel_rfl)
theorem vf104_ok : FnOk Tryz.prog 104 Tryz.f104 := fnok_of Tryz.func104 (by kernel_rfl)
theorem vf105_ok : FnOk Tryz.prog 105 Tryz.f105 := fnok_of Tryz.func105 (by kernel_rfl)
theorem vf106_ok : FnOk Tryz.prog 106 Tryz.f106 := fnok_of Tryz.func106 (by kernel_rfl)
theorem vf107_ok : FnOk Tryz.prog 107 Tryz.f107 := fnok_of Tryz.func107 (by kernel_rfl)
theorem vf108_ok : FnOk Tryz.prog 108 Tryz.f108 := fnok_of Tryz.func108 (by kernel_rfl)
theorem vf109_ok : FnOk Tryz.prog 109 Tryz.f109 := fnok_of Tryz.func109 (by kernel_rfl)
theorem vf110_ok : FnOk Tryz.prog 110 Tryz.f110 := fnok_of Tryz.func110 (by kernel_rfl)
theorem vf111_ok : FnOk Tryz.prog 111 Tryz.f111 := fnok_of Tryz.func111 (by kernel_rfl)
theorem vf112_ok : FnOk Tryz.prog 112 Tryz.f112 := fnok_of Tryz.func112 (by kernel_rfl)
theorem vf113_ok : FnOk Tryz.prog 113 Tryz.f113 := fnok_of Tryz.func113 (by kernel_rfl)
theorem vf114_ok : FnOk Tryz.prog 114 Tryz.f114 := fnok_of Tryz.func114 (by kernel_rfl)
theorem vf115_ok : FnOk Tryz.prog 115 Tryz.f115 := fnok_of Tryz.func115 (by kernel_rfl)
theorem vf116_ok : FnOk Tryz.prog 116 Tryz.f116 := fnok_of Tryz.func116 (by kernel_rfl)
theorem vf117_ok : FnOk Tryz.prog 117 Tryz.f117 := fnok_of Tryz.func117 (by kernel_rfl)
theorem vf118_ok : FnOk Tryz.prog 118 Tryz.f118 := fnok_of Tryz.func118 (by kernel_rfl)
theorem vf119_ok : FnOk Tryz.prog 119 Tryz.f119 := fnok_of Tryz.func119 (by kernel_rfl)
theorem vf120_ok : FnOk Tryz.prog 120 Tryz.f120 := fnok_of Tryz.func120 (by kernel_rfl)
theorem vf121_ok : FnOk Tryz.prog 121 Tryz.f121 := fnok_of Tryz.func121 (by kernel_rfl)
theorem vf122_ok : FnOk Tryz.prog 122 Tryz.f122 := fnok_of Tryz.func122 (by kernel_rfl)
theorem vf123_ok : FnOk Tryz.prog 123 Tryz.f123 := fnok_of Tryz.func123 (by kernel_rfl)
theorem vf124_ok : FnOk Tryz.prog 124 Tryz.f124 := fnok_of Tryz.func124 (by kernel_rfl)
theorem vf125_ok : FnOk Tryz.prog 125 Tryz.f125 := fnok_of Tryz.func125 (by kernel_rfl)
theorem vf126_ok : FnOk Tryz.prog 126 Tryz.f126 := fnok_of Tryz.func126 (by kernel_rfl)
theorem vm0_ok : MethOk Tryz.prog 8 ("Error", 105) := fun v w => by kernel_rfl
theorem vm1_ok : MethOk Tryz.prog 8 ("RuntimeError", 106) := fun v w => by kernel_rfl
theorem vm2_ok : MethOk Tryz.prog 10 ("Error", 107) := fun v w => by kernel_rfl
theorem vm3_ok : MethOk Tryz.prog 10 ("RuntimeError", 108) := fun v w => by kernel_rfl
theorem vm4_ok : MethOk Tryz.prog 11 ("Error", 109) := fun v w => by kernel_rfl
theorem vm5_ok : MethOk Tryz.prog 11 ("RuntimeError", 110) := fun v w => by kernel_rfl
theorem vm6_ok : MethOk Tryz.prog 14 ("Error", 111) := fun v w => by kernel_rfl
theorem vm7_ok : MethOk Tryz.prog 14 ("RuntimeError", 112) := fun v w => by kernel_rfl
theorem vm8_ok : MethOk Tryz.prog 15 ("Error", 113) := fun v w => by kernel_rfl
theorem vm9_ok : MethOk Tryz.prog 15 ("RuntimeError", 114) := fun v w => by kernel_rfl
theorem vm10_ok : MethOk Tryz.prog 16 ("Error", 115) := fun v w => by kernel_rfl
theorem vm11_ok : MethOk Tryz.prog 16 ("RuntimeError", 116) := fun v w => by kernel_rfl
theorem vm12_ok : MethOk Tryz.prog 17 ("Align", 117) := fun v w => by kernel_rfl
theorem vm13_ok : MethOk Tryz.prog 19 ("Error", 118) := fun v w => by kernel_rfl
theorem vm14_ok : MethOk Tryz.prog 19 ("RuntimeError", 119) := fun v w => by kernel_rfl
theorem vm15_ok : MethOk Tryz.prog 22 ("Accept", 9) := fun v w => by kernel_rfl
theorem vm16_ok : MethOk Tryz.prog 22 ("Clashes", 11) := fun v w => by kernel_rfl
theorem vm17_ok : MethOk Tryz.prog 22 ("Code", 8) := fun v w => by kernel_rfl
theorem vm18_ok : MethOk Tryz.prog 22 ("Forgeries", 13) := fun v w => by kernel_rfl
theorem vm19_ok : MethOk Tryz.prog 22 ("Hash", 7) := fun v w => by kernel_rfl
theorem vm20_ok : MethOk Tryz.prog 22 ("Len", 6) := fun v w => by kernel_rfl
theorem vm21_ok : MethOk Tryz.prog 22 ("Sound", 10) := fun v w => by kernel_rfl
theorem vm22_ok : MethOk Tryz.prog 22 ("Twins", 12) := fun v w => by kernel_rfl
theorem vm23_ok : MethOk Tryz.prog 22 ("cairn/digest.code", 22) := fun v w => by kernel_rfl
theorem vm24_ok : MethOk Tryz.prog 63 ("Lock", 17) := fun v w => by kernel_rfl
theorem vm25_ok : MethOk Tryz.prog 63 ("Unlock", 18) := fun v w => by kernel_rfl
theorem vm26_ok : MethOk Tryz.prog 65 ("Len", 120) := fun v w => by kernel_rfl
theorem vm27_ok : MethOk Tryz.prog 65 ("Sum", 32) := fun v w => by kernel_rfl
theorem vm28_ok : MethOk Tryz.prog 65 ("Write", 31) := fun v w => by kernel_rfl
theorem vm29_ok : MethOk Tryz.prog 65 ("cairn/sha.block", 48) := fun v w => by kernel_rfl
theorem vm30_ok : MethOk Tryz.prog 69 ("cairn/digest.note", 21) := fun v w => by kernel_rfl
theorem vm31_ok : MethOk Tryz.prog 69 ("cairn/digest.pairs", 24) := fun v w => by kernel_rfl
theorem vm32_ok : MethOk Tryz.prog 80 ("Lock", 28) := fun v w => by kernel_rfl
theorem vm33_ok : MethOk Tryz.prog 80 ("Unlock", 29) := fun v w => by kernel_rfl
theorem vm34_ok : MethOk Tryz.prog 80 ("internal/sync.lockSlow", 44) := fun v w => by kernel_rfl
theorem vm35_ok : MethOk Tryz.prog 80 ("internal/sync.unlockSlow", 47) := fun v w => by kernel_rfl
theorem vm36_ok : MethOk Tryz.prog 96 ("Code", 52) := fun v w => by kernel_rfl
theorem vm37_ok : MethOk Tryz.prog 96 ("Write", 51) := fun v w => by kernel_rfl
theorem vm38_ok : MethOk Tryz.prog 141 ("Next", 92) := fun v w => by kernel_rfl
theorem vm39_ok : MethOk Tryz.prog 153 ("String", 121) := fun v w => by kernel_rfl
noncomputable def vT : Tr TI := .nd (.nd (.nd (.nd (.nd (.nd (.nd (.nd .lf (some vt127) .lf) (some vt63) .lf) (some vt31) (.nd (.nd .lf (some vt159) .lf) (some vt95) .lf)) (some vt15) (.nd (.nd (.nd .lf (some vt143) .lf) (some vt79) .lf) (some vt47) (.nd .lf (some vt111) .lf))) (some vt7) (.nd (.nd (.nd (.nd .lf (some vt135) .lf) (some vt71) .lf) (some vt39) (.nd .lf (some vt103) .lf)) (some vt23) (.nd (.nd (.nd .lf (some vt151) .lf) (some vt87) .lf) (some vt55) (.nd .lf (some vt119) .lf)))) (some vt3) (.nd (.nd (.nd (.nd (.nd .lf (some vt131) .lf) (some vt67) .lf) (some vt35) (.nd .lf (some vt99) .lf)) (some vt19) (.nd (.nd (.nd .lf (some vt147) .lf) (some vt83) .lf) (some vt51) (.nd .lf (some vt115) .lf))) (some vt11) (.nd (.nd (.nd (.nd .lf (some vt139) .lf) (some vt75) .lf) (some vt43) (.nd .lf (some vt107) .lf)) (some vt27) (.nd (.nd (.nd .lf (some vt155) .lf) (some vt91) .lf) (some vt59) (.nd .lf (some vt123) .lf))))) (some vt1) (.nd (.nd (.nd (.nd (.nd (.nd .lf (some vt129) .lf) (some vt65) .lf) (some vt33) (.nd .lf (some vt97) .lf)) (some vt17) (.nd (.nd (.nd .lf (some vt145) .lf) (some vt81) .lf) (some vt49) (.nd .lf (some vt113) .lf))) (some vt9) (.nd (.nd (.nd (.nd .lf (some vt137) .lf) (some vt73) .lf) (some vt41) .lf) (some vt25) (.nd (.nd (.nd .lf (some vt153) .lf) (some vt89) .lf) (some vt57) (.nd .lf (some vt121) .lf)))) (some vt5) (.nd (.nd (.nd (.nd (.nd .lf (some vt133) .lf) (some vt69) .lf) (some vt37) .lf) (some vt21) (.nd (.nd (.nd .lf (some vt149) .lf) (some vt85) .lf) (some vt53) (.nd .lf (some vt117) .lf))) (some vt13) (.nd (.nd (.nd (.nd .lf (some vt141) .lf) (some vt77) .lf) (some vt45) (.nd .lf (some vt109) .lf)) (some vt29) (.nd (.nd (.nd .lf (some vt157) .lf) (some vt93) .lf) (some vt61) (.nd .lf (some vt125) .lf)))))) none (.nd (.nd (.nd (.nd (.nd (.nd (.nd .lf (some vt128) .lf) (some vt64) .lf) (some vt32) (.nd .lf (some vt96) .lf)) (some vt16) (.nd (.nd (.nd .lf (some vt144) .lf) (some vt80) .lf) (some vt48) (.nd .lf (some vt112) .lf))) (some vt8) (.nd (.nd (.nd (.nd .lf (some vt136) .lf) (some vt72) .lf) (some vt40) (.nd .lf (some vt104) .lf)) none (.nd (.nd (.nd .lf (some vt152) .lf) (some vt88) .lf) (some vt56) (.nd .lf (some vt120) .lf)))) (some vt4) (.nd (.nd (.nd (.nd (.nd .lf (some vt132) .lf) (some vt68) .lf) (some vt36) (.nd .lf (some vt100) .lf)) (some vt20) (.nd (.nd (.nd .lf (some vt148) .lf) (some vt84) .lf) (some vt52) (.nd .lf (some vt116) .lf))) (some vt12) (.nd (.nd (.nd (.nd .lf (some vt140) .lf) (some vt76) .lf) (some vt44) (.nd .lf (some vt108) .lf)) none (.nd (.nd (.nd .lf (some vt156) .lf) (some vt92) .lf) (some vt60) (.nd .lf (some vt124) .lf))))) (some vt2) (.nd (.nd (.nd (.nd (.nd (.nd .lf (some vt130) .lf) (some vt66) .lf) (some vt34) (.nd .lf (some vt98) .lf)) (some vt18) (.nd (.nd (.nd .lf (some vt146) .lf) (some vt82) .lf) (some vt50) (.nd .lf (some vt114) .lf))) (some vt10) (.nd (.nd (.nd (.nd .lf (some vt138) .lf) (some vt74) .lf) (some vt42) (.nd .lf (some vt106) .lf)) (some vt26) (.nd (.nd (.nd .lf (some vt154) .lf) (some vt90) .lf) (some vt58) (.nd .lf (some vt122) .lf)))) (some vt6) (.nd (.nd (.nd (.nd (.nd .lf (some vt134) .lf) (some vt70) .lf) (some vt38) (.nd .lf (some vt102) .lf)) (some vt22) (.nd (.nd (.nd .lf (some vt150) .lf) (some vt86) .lf) (some vt54) (.nd .lf (some vt118) .lf))) (some vt14) (.nd (.nd (.nd (.nd .lf (some vt142) .lf) (some vt78) .lf) (some vt46) (.nd .lf (some vt110) .lf)) (some vt30) (.nd (.nd (.nd .lf (some vt158) .lf) (some vt94) .lf) (some vt62) (.nd .lf (some vt126) .lf))))))
noncomputable def vF : Tr Func := .nd (.nd (.nd (.nd (.nd (.nd (.nd .lf (some Tryz.f63) .lf) (some Tryz.f31) (.nd .lf (some Tryz.f95) .lf)) (some Tryz.f15) (.nd (.nd .lf (some Tryz.f79) .lf) (some Tryz.f47) (.nd .lf (some Tryz.f111) .lf))) (some Tryz.f7) (.nd (.nd (.nd .lf (some Tryz.f71) .lf) (some Tryz.f39) (.nd .lf (some Tryz.f103) .lf)) (some Tryz.f23) (.nd (.nd .lf (some Tryz.f87) .lf) (some Tryz.f55) (.nd .lf (some Tryz.f119) .lf)))) (some Tryz.f3) (.nd (.nd (.nd (.nd .lf (some Tryz.f67) .lf) (some Tryz.f35) (.nd .lf (some Tryz.f99) .lf)) (some Tryz.f19) (.nd (.nd .lf (some Tryz.f83) .lf) (some Tryz.f51) (.nd .lf (some Tryz.f115) .lf))) (some Tryz.f11) (.nd (.nd (.nd .lf (some Tryz.f75) .lf) (some Tryz.f43) (.nd .lf (some Tryz.f107) .lf)) (some Tryz.f27) (.nd (.nd .lf (some Tryz.f91) .lf) (some Tryz.f59) (.nd .lf (some Tryz.f123) .lf))))) (some Tryz.f1) (.nd (.nd (.nd (.nd (.nd .lf (some Tryz.f65) .lf) (some Tryz.f33) (.nd .lf (some Tryz.f97) .lf)) (some Tryz.f17) (.nd (.nd .lf (some Tryz.f81) .lf) (some Tryz.f49) (.nd .lf (some Tryz.f113) .lf))) (some Tryz.f9) (.nd (.nd (.nd .lf (some Tryz.f73) .lf) (some Tryz.f41) (.nd .lf (some Tryz.f105) .lf)) (some Tryz.f25) (.nd (.nd .lf (some Tryz.f89) .lf) (some Tryz.f57) (.nd .lf (some Tryz.f121) .lf)))) (some Tryz.f5) (.nd (.nd (.nd (.nd .lf (some Tryz.f69) .lf) (some Tryz.f37) (.nd .lf (some Tryz.f101) .lf)) (some Tryz.f21) (.nd (.nd .lf (some Tryz.f85) .lf) (some Tryz.f53) (.nd .lf (some Tryz.f117) .lf))) (some Tryz.f13) (.nd (.nd (.nd .lf (some Tryz.f77) .lf) (some Tryz.f45) (.nd .lf (some Tryz.f109) .lf)) (some Tryz.f29) (.nd (.nd .lf (some Tryz.f93) .lf) (some Tryz.f61) (.nd .lf (some Tryz.f125) .lf)))))) (some Tryz.f0) (.nd (.nd (.nd (.nd (.nd (.nd .lf (some Tryz.f64) .lf) (some Tryz.f32) (.nd .lf (some Tryz.f96) .lf)) (some Tryz.f16) (.nd (.nd .lf (some Tryz.f80) .lf) (some Tryz.f48) (.nd .lf (some Tryz.f112) .lf))) (some Tryz.f8) (.nd (.nd (.nd .lf (some Tryz.f72) .lf) (some Tryz.f40) (.nd .lf (some Tryz.f104) .lf)) (some Tryz.f24) (.nd (.nd .lf (some Tryz.f88) .lf) (some Tryz.f56) (.nd .lf (some Tryz.f120) .lf)))) (some Tryz.f4) (.nd (.nd (.nd (.nd .lf (some Tryz.f68) .lf) (some Tryz.f36) (.nd .lf (some Tryz.f100) .lf)) (some Tryz.f20) (.nd (.nd .lf (some Tryz.f84) .lf) (some Tryz.f52) (.nd .lf (some Tryz.f116) .lf))) (some Tryz.f12) (.nd (.nd (.nd .lf (some Tryz.f76) .lf) (some Tryz.f44) (.nd .lf (some Tryz.f108) .lf)) (some Tryz.f28) (.nd (.nd .lf (some Tryz.f92) .lf) (some Tryz.f60) (.nd .lf (some Tryz.f124) .lf))))) (some Tryz.f2) (.nd (.nd (.nd (.nd (.nd .lf (some Tryz.f66) .lf) (some Tryz.f34) (.nd .lf (some Tryz.f98) .lf)) (some Tryz.f18) (.nd (.nd .lf (some Tryz.f82) .lf) (some Tryz.f50) (.nd .lf (some Tryz.f114) .lf))) (some Tryz.f10) (.nd (.nd (.nd .lf (some Tryz.f74) .lf) (some Tryz.f42) (.nd .lf (some Tryz.f106) .lf)) (some Tryz.f26) (.nd (.nd .lf (some Tryz.f90) .lf) (some Tryz.f58) (.nd .lf (some Tryz.f122) .lf)))) (some Tryz.f6) (.nd (.nd (.nd (.nd .lf (some Tryz.f70) .lf) (some Tryz.f38) (.nd .lf (some Tryz.f102) .lf)) (some Tryz.f22) (.nd (.nd .lf (some Tryz.f86) .lf) (some Tryz.f54) (.nd .lf (some Tryz.f118) .lf))) (some Tryz.f14) (.nd (.nd (.nd .lf (some Tryz.f78) .lf) (some Tryz.f46) (.nd .lf (some Tryz.f110) .lf)) (some Tryz.f30) (.nd (.nd .lf (some Tryz.f94) .lf) (some Tryz.f62) (.nd .lf (some Tryz.f126) .lf))))))
noncomputable def vM : Tr (List (String × Nat)) := .nd (.nd (.nd (.nd (.nd (.nd (.nd .lf (some [("Lock", 17), ("Unlock", 18)]) .lf) none .lf) (some [("Error", 113), ("RuntimeError", 114)]) .lf) none .lf) none (.nd (.nd .lf (some [("Error", 118), ("RuntimeError", 119)]) .lf) (some [("Error", 109), ("RuntimeError", 110)]) .lf)) none (.nd (.nd (.nd (.nd (.nd .lf (some [("Len", 120), ("Sum", 32), ("Write", 31), ("cairn/sha.block", 48)]) .lf) none .lf) (some [("Align", 117)]) .lf) none (.nd .lf none (.nd (.nd (.nd .lf (some [("String", 121)]) .lf) none .lf) none .lf))) none (.nd (.nd (.nd (.nd .lf (some [("cairn/digest.note", 21), ("cairn/digest.pairs", 24)]) .lf) none .lf) none .lf) none (.nd (.nd (.nd (.nd .lf (some [("Next", 92)]) .lf) none .lf) none .lf) none .lf)))) none (.nd (.nd (.nd (.nd (.nd .lf none (.nd .lf (some [("Code", 52), ("Write", 51)]) .lf)) (some [("Error", 115), ("RuntimeError", 116)]) (.nd (.nd .lf (some [("Lock", 28), ("Unlock", 29), ("internal/sync.lockSlow", 44), ("internal/sync.unlockSlow", 47)]) .lf) none .lf)) (some [("Error", 105), ("RuntimeError", 106)]) .lf) none .lf) none (.nd (.nd .lf (some [("Error", 107), ("RuntimeError", 108)]) .lf) none (.nd (.nd .lf (some [("Accept", 9), ("Clashes", 11), ("Code", 8), ("Forgeries", 13), ("Hash", 7), ("Len", 6), ("Sound", 10), ("Twins", 12), ("cairn/digest.code", 22)]) .lf) (some [("Error", 111), ("RuntimeError", 112)]) .lf)))
noncomputable def vC : Cx := ⟨vT, vF, mTab vM⟩
theorem vT_ok : vT.All (TIok Tryz.prog) 1 0 := all_nd all_none (all_nd (all_some vt1_ok) (all_nd (all_some vt3_ok) (all_nd (all_some vt7_ok) (all_nd (all_some vt15_ok) (all_nd (all_some vt31_ok) (all_nd (all_some vt63_ok) (all_nd (all_some vt127_ok) all_lf all_lf) all_lf) (all_nd (all_some vt95_ok) (all_nd (all_some vt159_ok) all_lf all_lf) all_lf)) (all_nd (all_some vt47_ok) (all_nd (all_some vt79_ok) (all_nd (all_some vt143_ok) all_lf all_lf) all_lf) (all_nd (all_some vt111_ok) all_lf all_lf))) (all_nd (all_some vt23_ok) (all_nd (all_some vt39_ok) (all_nd (all_some vt71_ok) (all_nd (all_some vt135_ok) all_lf all_lf) all_lf) (all_nd (all_some vt103_ok) all_lf all_lf)) (all_nd (all_some vt55_ok) (all_nd (all_some vt87_ok) (all_nd (all_some vt151_ok) all_lf all_lf) all_lf) (all_nd (all_some vt119_ok) all_lf all_lf)))) (all_nd (all_some vt11_ok) (all_nd (all_some vt19_ok) (all_nd (all_some vt35_ok) (all_nd (all_some vt67_ok) (all_nd (all_some vt131_ok) all_lf all_lf) all_lf) (all_nd (all_some vt99_ok) all_lf all_lf)) (all_nd (all_some vt51_ok) (all_nd (all_some vt83_ok) (all_nd (all_some vt147_ok) all_lf all_lf) all_lf) (all_nd (all_some vt115_ok) all_lf all_lf))) (all_nd (all_some vt27_ok) (all_nd (all_some vt43_ok) (all_nd (all_some vt75_ok) (all_nd (all_some vt139_ok) all_lf all_lf) all_lf) (all_nd (all_some vt107_ok) all_lf all_lf)) (all_nd (all_some vt59_ok) (all_nd (all_some vt91_ok) (all_nd (all_some vt155_ok) all_lf all_lf) all_lf) (all_nd (all_some vt123_ok) all_lf all_lf))))) (all_nd (all_some vt5_ok) (all_nd (all_some vt9_ok) (all_nd (all_some vt17_ok) (all_nd (all_some vt33_ok) (all_nd (all_some vt65_ok) (all_nd (all_some vt129_ok) all_lf all_lf) all_lf) (all_nd (all_some vt97_ok) all_lf all_lf)) (all_nd (all_some vt49_ok) (all_nd (all_some vt81_ok) (all_nd (all_some vt145_ok) all_lf all_lf) all_lf) (all_nd (all_some vt113_ok) all_lf all_lf))) (all_nd (all_some vt25_ok) (all_nd (all_some vt41_ok) (all_nd (all_some vt73_ok) (all_nd (all_some vt137_ok) all_lf all_lf) all_lf) all_lf) (all_nd (all_some vt57_ok) (all_nd (all_some vt89_ok) (all_nd (all_some vt153_ok) all_lf all_lf) all_lf) (all_nd (all_some vt121_ok) all_lf all_lf)))) (all_nd (all_some vt13_ok) (all_nd (all_some vt21_ok) (all_nd (all_some vt37_ok) (all_nd (all_some vt69_ok) (all_nd (all_some vt133_ok) all_lf all_lf) all_lf) all_lf) (all_nd (all_some vt53_ok) (all_nd (all_some vt85_ok) (all_nd (all_some vt149_ok) all_lf all_lf) all_lf) (all_nd (all_some vt117_ok) all_lf all_lf))) (all_nd (all_some vt29_ok) (all_nd (all_some vt45_ok) (all_nd (all_some vt77_ok) (all_nd (all_some vt141_ok) all_lf all_lf) all_lf) (all_nd (all_some vt109_ok) all_lf all_lf)) (all_nd (all_some vt61_ok) (all_nd (all_some vt93_ok) (all_nd (all_some vt157_ok) all_lf all_lf) all_lf) (all_nd (all_some vt125_ok) all_lf all_lf)))))) (all_nd (all_some vt2_ok) (all_nd (all_some vt4_ok) (all_nd (all_some vt8_ok) (all_nd (all_some vt16_ok) (all_nd (all_some vt32_ok) (all_nd (all_some vt64_ok) (all_nd (all_some vt128_ok) all_lf all_lf) all_lf) (all_nd (all_some vt96_ok) all_lf all_lf)) (all_nd (all_some vt48_ok) (all_nd (all_some vt80_ok) (all_nd (all_some vt144_ok) all_lf all_lf) all_lf) (all_nd (all_some vt112_ok) all_lf all_lf))) (all_nd all_none (all_nd (all_some vt40_ok) (all_nd (all_some vt72_ok) (all_nd (all_some vt136_ok) all_lf all_lf) all_lf) (all_nd (all_some vt104_ok) all_lf all_lf)) (all_nd (all_some vt56_ok) (all_nd (all_some vt88_ok) (all_nd (all_some vt152_ok) all_lf all_lf) all_lf) (all_nd (all_some vt120_ok) all_lf all_lf)))) (all_nd (all_some vt12_ok) (all_nd (all_some vt20_ok) (all_nd (all_some vt36_ok) (all_nd (all_some vt68_ok) (all_nd (all_some vt132_ok) all_lf all_lf) all_lf) (all_nd (all_some vt100_ok) all_lf all_lf)) (all_nd (all_some vt52_ok) (all_nd (all_some vt84_ok) (all_nd (all_some vt148_ok) all_lf all_lf) all_lf) (all_nd (all_some vt116_ok) all_lf all_lf))) (all_nd all_none (all_nd (all_some vt44_ok) (all_nd (all_some vt76_ok) (all_nd (all_some vt140_ok) all_lf all_lf) all_lf) (all_nd (all_some vt108_ok) all_lf all_lf)) (all_nd (all_some vt60_ok) (all_nd (all_some vt92_ok) (all_nd (all_some vt156_ok) all_lf all_lf) all_lf) (all_nd (all_some vt124_ok) all_lf all_lf))))) (all_nd (all_some vt6_ok) (all_nd (all_some vt10_ok) (all_nd (all_some vt18_ok) (all_nd (all_some vt34_ok) (all_nd (all_some vt66_ok) (all_nd (all_some vt130_ok) all_lf all_lf) all_lf) (all_nd (all_some vt98_ok) all_lf all_lf)) (all_nd (all_some vt50_ok) (all_nd (all_some vt82_ok) (all_nd (all_some vt146_ok) all_lf all_lf) all_lf) (all_nd (all_some vt114_ok) all_lf all_lf))) (all_nd (all_some vt26_ok) (all_nd (all_some vt42_ok) (all_nd (all_some vt74_ok) (all_nd (all_some vt138_ok) all_lf all_lf) all_lf) (all_nd (all_some vt106_ok) all_lf all_lf)) (all_nd (all_some vt58_ok) (all_nd (all_some vt90_ok) (all_nd (all_some vt154_ok) all_lf all_lf) all_lf) (all_nd (all_some vt122_ok) all_lf all_lf)))) (all_nd (all_some vt14_ok) (all_nd (all_some vt22_ok) (all_nd (all_some vt38_ok) (all_nd (all_some vt70_ok) (all_nd (all_some vt134_ok) all_lf all_lf) all_lf) (all_nd (all_some vt102_ok) all_lf all_lf)) (all_nd (all_some vt54_ok) (all_nd (all_some vt86_ok) (all_nd (all_some vt150_ok) all_lf all_lf) all_lf) (all_nd (all_some vt118_ok) all_lf all_lf))) (all_nd (all_some vt30_ok) (all_nd (all_some vt46_ok) (all_nd (all_some vt78_ok) (all_nd (all_some vt142_ok) all_lf all_lf) all_lf) (all_nd (all_some vt110_ok) all_lf all_lf)) (all_nd (all_some vt62_ok) (all_nd (all_some vt94_ok) (all_nd (all_some vt158_ok) all_lf all_lf) all_lf) (all_nd (all_some vt126_ok) all_lf all_lf))))))
theorem vF_ok : vF.All (FnOk Tryz.prog) 1 0 := all_nd (all_some vf0_ok) (all_nd (all_some vf1_ok) (all_nd (all_some vf3_ok) (all_nd (all_some vf7_ok) (all_nd (all_some vf15_ok) (all_nd (all_some vf31_ok) (all_nd (all_some vf63_ok) all_lf all_lf) (all_nd (all_some vf95_ok) all_lf all_lf)) (all_nd (all_some vf47_ok) (all_nd (all_some vf79_ok) all_lf all_lf) (all_nd (all_some vf111_ok) all_lf all_lf))) (all_nd (all_some vf23_ok) (all_nd (all_some vf39_ok) (all_nd (all_some vf71_ok) all_lf all_lf) (all_nd (all_some vf103_ok) all_lf all_lf)) (all_nd (all_some vf55_ok) (all_nd (all_some vf87_ok) all_lf all_lf) (all_nd (all_some vf119_ok) all_lf all_lf)))) (all_nd (all_some vf11_ok) (all_nd (all_some vf19_ok) (all_nd (all_some vf35_ok) (all_nd (all_some vf67_ok) all_lf all_lf) (all_nd (all_some vf99_ok) all_lf all_lf)) (all_nd (all_some vf51_ok) (all_nd (all_some vf83_ok) all_lf all_lf) (all_nd (all_some vf115_ok) all_lf all_lf))) (all_nd (all_some vf27_ok) (all_nd (all_some vf43_ok) (all_nd (all_some vf75_ok) all_lf all_lf) (all_nd (all_some vf107_ok) all_lf all_lf)) (all_nd (all_some vf59_ok) (all_nd (all_some vf91_ok) all_lf all_lf) (all_nd (all_some vf123_ok) all_lf all_lf))))) (all_nd (all_some vf5_ok) (all_nd (all_some vf9_ok) (all_nd (all_some vf17_ok) (all_nd (all_some vf33_ok) (all_nd (all_some vf65_ok) all_lf all_lf) (all_nd (all_some vf97_ok) all_lf all_lf)) (all_nd (all_some vf49_ok) (all_nd (all_some vf81_ok) all_lf all_lf) (all_nd (all_some vf113_ok) all_lf all_lf))) (all_nd (all_some vf25_ok) (all_nd (all_some vf41_ok) (all_nd (all_some vf73_ok) all_lf all_lf) (all_nd (all_some vf105_ok) all_lf all_lf)) (all_nd (all_some vf57_ok) (all_nd (all_some vf89_ok) all_lf all_lf) (all_nd (all_some vf121_ok) all_lf all_lf)))) (all_nd (all_some vf13_ok) (all_nd (all_some vf21_ok) (all_nd (all_some vf37_ok) (all_nd (all_some vf69_ok) all_lf all_lf) (all_nd (all_some vf101_ok) all_lf all_lf)) (all_nd (all_some vf53_ok) (all_nd (all_some vf85_ok) all_lf all_lf) (all_nd (all_some vf117_ok) all_lf all_lf))) (all_nd (all_some vf29_ok) (all_nd (all_some vf45_ok) (all_nd (all_some vf77_ok) all_lf all_lf) (all_nd (all_some vf109_ok) all_lf all_lf)) (all_nd (all_some vf61_ok) (all_nd (all_some vf93_ok) all_lf all_lf) (all_nd (all_some vf125_ok) all_lf all_lf)))))) (all_nd (all_some vf2_ok) (all_nd (all_some vf4_ok) (all_nd (all_some vf8_ok) (all_nd (all_some vf16_ok) (all_nd (all_some vf32_ok) (all_nd (all_some vf64_ok) all_lf all_lf) (all_nd (all_some vf96_ok) all_lf all_lf)) (all_nd (all_some vf48_ok) (all_nd (all_some vf80_ok) all_lf all_lf) (all_nd (all_some vf112_ok) all_lf all_lf))) (all_nd (all_some vf24_ok) (all_nd (all_some vf40_ok) (all_nd (all_some vf72_ok) all_lf all_lf) (all_nd (all_some vf104_ok) all_lf all_lf)) (all_nd (all_some vf56_ok) (all_nd (all_some vf88_ok) all_lf all_lf) (all_nd (all_some vf120_ok) all_lf all_lf)))) (all_nd (all_some vf12_ok) (all_nd (all_some vf20_ok) (all_nd (all_some vf36_ok) (all_nd (all_some vf68_ok) all_lf all_lf) (all_nd (all_some vf100_ok) all_lf all_lf)) (all_nd (all_some vf52_ok) (all_nd (all_some vf84_ok) all_lf all_lf) (all_nd (all_some vf116_ok) all_lf all_lf))) (all_nd (all_some vf28_ok) (all_nd (all_some vf44_ok) (all_nd (all_some vf76_ok) all_lf all_lf) (all_nd (all_some vf108_ok) all_lf all_lf)) (all_nd (all_some vf60_ok) (all_nd (all_some vf92_ok) all_lf all_lf) (all_nd (all_some vf124_ok) all_lf all_lf))))) (all_nd (all_some vf6_ok) (all_nd (all_some vf10_ok) (all_nd (all_some vf18_ok) (all_nd (all_some vf34_ok) (all_nd (all_some vf66_ok) all_lf all_lf) (all_nd (all_some vf98_ok) all_lf all_lf)) (all_nd (all_some vf50_ok) (all_nd (all_some vf82_ok) all_lf all_lf) (all_nd (all_some vf114_ok) all_lf all_lf))) (all_nd (all_some vf26_ok) (all_nd (all_some vf42_ok) (all_nd (all_some vf74_ok) all_lf all_lf) (all_nd (all_some vf106_ok) all_lf all_lf)) (all_nd (all_some vf58_ok) (all_nd (all_some vf90_ok) all_lf all_lf) (all_nd (all_some vf122_ok) all_lf all_lf)))) (all_nd (all_some vf14_ok) (all_nd (all_some vf22_ok) (all_nd (all_some vf38_ok) (all_nd (all_some vf70_ok) all_lf all_lf) (all_nd (all_some vf102_ok) all_lf all_lf)) (all_nd (all_some vf54_ok) (all_nd (all_some vf86_ok) all_lf all_lf) (all_nd (all_some vf118_ok) all_lf all_lf))) (all_nd (all_some vf30_ok) (all_nd (all_some vf46_ok) (all_nd (all_some vf78_ok) all_lf all_lf) (all_nd (all_some vf110_ok) all_lf all_lf)) (all_nd (all_some vf62_ok) (all_nd (all_some vf94_ok) all_lf all_lf) (all_nd (all_some vf126_ok) all_lf all_lf))))))
theorem vM_ok : vM.All (MethsOk Tryz.prog) 1 0 := all_nd all_none (all_nd all_none (all_nd all_none (all_nd all_none (all_nd (all_some (meths_cons vm8_ok (meths_cons vm9_ok meths_nil))) (all_nd all_none (all_nd (all_some (meths_cons vm24_ok (meths_cons vm25_ok meths_nil))) all_lf all_lf) all_lf) all_lf) all_lf) (all_nd (all_some (meths_cons vm4_ok (meths_cons vm5_ok meths_nil))) (all_nd (all_some (meths_cons vm13_ok (meths_cons vm14_ok meths_nil))) all_lf all_lf) all_lf)) (all_nd all_none (all_nd all_none (all_nd (all_some (meths_cons vm12_ok meths_nil)) (all_nd all_none (all_nd (all_some (meths_cons vm26_ok (meths_cons vm27_ok (meths_cons vm28_ok (meths_cons vm29_ok meths_nil))))) all_lf all_lf) all_lf) all_lf) (all_nd all_none all_lf (all_nd all_none (all_nd all_none (all_nd (all_some (meths_cons vm39_ok meths_nil)) all_lf all_lf) all_lf) all_lf))) (all_nd all_none (all_nd all_none (all_nd all_none (all_nd (all_some (meths_cons vm30_ok (meths_cons vm31_ok meths_nil))) all_lf all_lf) all_lf) all_lf) (all_nd all_none (all_nd all_none (all_nd all_none (all_nd (all_some (meths_cons vm38_ok meths_nil)) all_lf all_lf) all_lf) all_lf) all_lf)))) (all_nd all_none (all_nd all_none (all_nd (all_some (meths_cons vm0_ok (meths_cons vm1_ok meths_nil))) (all_nd (all_some (meths_cons vm10_ok (meths_cons vm11_ok meths_nil))) (all_nd all_none all_lf (all_nd (all_some (meths_cons vm36_ok (meths_cons vm37_ok meths_nil))) all_lf all_lf)) (all_nd all_none (all_nd (all_some (meths_cons vm32_ok (meths_cons vm33_ok (meths_cons vm34_ok (meths_cons vm35_ok meths_nil))))) all_lf all_lf) all_lf)) all_lf) all_lf) (all_nd all_none (all_nd (all_some (meths_cons vm2_ok (meths_cons vm3_ok meths_nil))) all_lf all_lf) (all_nd (all_some (meths_cons vm6_ok (meths_cons vm7_ok meths_nil))) (all_nd (all_some (meths_cons vm15_ok (meths_cons vm16_ok (meths_cons vm17_ok (meths_cons vm18_ok (meths_cons vm19_ok (meths_cons vm20_ok (meths_cons vm21_ok (meths_cons vm22_ok (meths_cons vm23_ok meths_nil)))))))))) all_lf all_lf) all_lf)))
theorem vC_ok : COk Tryz.prog vC := cok_of vT_ok vF_ok vM_ok (by kernel_rfl)
theorem vcall_ok0 {ext : CallF} {extd : DefF} (he : CallOk Tryz.prog ext) (hd : DefOk Tryz.prog extd) (n : Nat) : CallOk Tryz.prog (vcall vC ext extd n) := vcall_ok vC_ok (callT_of vC_ok) he hd n
end Go.Proofs.YtellecjibjalfaaGreatDoor
