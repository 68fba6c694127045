/- What the machine's table of types tells, as instances. Written by wip/bin/vmt.py. -/
import Derived.Test.YtaahfdjobpbpjaaGreatDoorVt
import Derived.Test.YtaahfdjobpbpjaaGreatDoorWe
import Derived.KernelRfl
set_option linter.unusedVariables false
set_option maxRecDepth 100000
namespace Go.Proofs.YtaahfdjobpbpjaaGreatDoor
theorem wt1 : tiV vC 1 = some vt1 := by kernel_rfl
instance : TiV vC 1 vt1 := ⟨wt1⟩
instance : SizeV vC 1 1 := ⟨_, wt1, rfl⟩
instance : RowV vC 1 false := ⟨_, wt1, rfl⟩
instance : GrowV vC 1 := ⟨_, wt1, by kernel_rfl⟩
instance : ZeroV vC 1 (.nf) := ⟨_, wt1, rfl⟩
theorem wt2 : tiV vC 2 = some vt2 := by kernel_rfl
instance : TiV vC 2 vt2 := ⟨wt2⟩
instance : SizeV vC 2 1 := ⟨_, wt2, rfl⟩
instance : RowV vC 2 false := ⟨_, wt2, rfl⟩
instance : IntV vC 2 .i64 := ⟨_, wt2, rfl⟩
instance : GrowV vC 2 := ⟨_, wt2, by kernel_rfl⟩
instance : ZeroV vC 2 (.i .i64 (.ofNat 0)) := ⟨_, wt2, rfl⟩
theorem wt3 : tiV vC 3 = some vt3 := by kernel_rfl
instance : TiV vC 3 vt3 := ⟨wt3⟩
instance : SizeV vC 3 1 := ⟨_, wt3, rfl⟩
instance : RowV vC 3 false := ⟨_, wt3, rfl⟩
instance : IntV vC 3 .i64 := ⟨_, wt3, rfl⟩
instance : GrowV vC 3 := ⟨_, wt3, by kernel_rfl⟩
instance : ZeroV vC 3 (.i .i64 (.ofNat 0)) := ⟨_, wt3, rfl⟩
theorem wt4 : tiV vC 4 = some vt4 := by kernel_rfl
instance : TiV vC 4 vt4 := ⟨wt4⟩
instance : SizeV vC 4 1 := ⟨_, wt4, rfl⟩
instance : RowV vC 4 false := ⟨_, wt4, rfl⟩
instance : GrowV vC 4 := ⟨_, wt4, by kernel_rfl⟩
instance : ZeroV vC 4 (.b false) := ⟨_, wt4, rfl⟩
theorem wt5 : tiV vC 5 = some vt5 := by kernel_rfl
instance : TiV vC 5 vt5 := ⟨wt5⟩
instance : SizeV vC 5 1 := ⟨_, wt5, rfl⟩
instance : RowV vC 5 false := ⟨_, wt5, rfl⟩
instance : IntV vC 5 .u8 := ⟨_, wt5, rfl⟩
instance : GrowV vC 5 := ⟨_, wt5, by kernel_rfl⟩
instance : ZeroV vC 5 (.i .u8 (.ofNat 0)) := ⟨_, wt5, rfl⟩
theorem wt6 : tiV vC 6 = some vt6 := by kernel_rfl
instance : TiV vC 6 vt6 := ⟨wt6⟩
instance : SizeV vC 6 1 := ⟨_, wt6, rfl⟩
instance : RowV vC 6 false := ⟨_, wt6, rfl⟩
instance : IntV vC 6 .u8 := ⟨_, wt6, rfl⟩
instance : GrowV vC 6 := ⟨_, wt6, by kernel_rfl⟩
instance : ZeroV vC 6 (.i .u8 (.ofNat 0)) := ⟨_, wt6, rfl⟩
theorem wt7 : tiV vC 7 = some vt7 := by kernel_rfl
instance : TiV vC 7 vt7 := ⟨wt7⟩
instance : SizeV vC 7 4 := ⟨_, wt7, rfl⟩
instance : RowV vC 7 true := ⟨_, wt7, rfl⟩
instance : PlV vC 7 [(0, 1), (1, 1), (2, 1), (3, 1)] := ⟨by kernel_rfl⟩
instance : FieldV vC 7 0 0 2 := fieldV_of _ _ wt7 rfl rfl
instance : FieldV vC 7 1 1 3 := fieldV_of _ _ wt7 rfl rfl
instance : FieldV vC 7 2 2 4 := fieldV_of _ _ wt7 rfl rfl
instance : FieldV vC 7 3 3 6 := fieldV_of _ _ wt7 rfl rfl
instance : GrowV vC 7 := ⟨_, wt7, by kernel_rfl⟩
instance : ZeroV vC 7 (.agg [.i .i64 (.ofNat 0), .i .i64 (.ofNat 0), .b false, .i .u8 (.ofNat 0)]) := ⟨_, wt7, by kernel_rfl⟩
theorem wt8 : tiV vC 8 = some vt8 := by kernel_rfl
instance : TiV vC 8 vt8 := ⟨wt8⟩
instance : SizeV vC 8 4 := ⟨_, wt8, rfl⟩
instance : RowV vC 8 true := ⟨_, wt8, rfl⟩
instance : PlV vC 8 [(0, 1), (1, 1), (2, 1), (3, 1)] := ⟨by kernel_rfl⟩
instance : FieldV vC 8 0 0 2 := fieldV_of _ _ wt8 rfl rfl
instance : FieldV vC 8 1 1 3 := fieldV_of _ _ wt8 rfl rfl
instance : FieldV vC 8 2 2 4 := fieldV_of _ _ wt8 rfl rfl
instance : FieldV vC 8 3 3 6 := fieldV_of _ _ wt8 rfl rfl
instance : GrowV vC 8 := ⟨_, wt8, by kernel_rfl⟩
instance : ZeroV vC 8 (.agg [.i .i64 (.ofNat 0), .i .i64 (.ofNat 0), .b false, .i .u8 (.ofNat 0)]) := ⟨_, wt8, by kernel_rfl⟩
theorem wt9 : tiV vC 9 = some vt9 := by kernel_rfl
instance : TiV vC 9 vt9 := ⟨wt9⟩
instance : SizeV vC 9 1 := ⟨_, wt9, rfl⟩
instance : RowV vC 9 false := ⟨_, wt9, rfl⟩
instance : StrV vC 9 := ⟨_, wt9, rfl⟩
instance : GrowV vC 9 := ⟨_, wt9, by kernel_rfl⟩
instance : ZeroV vC 9 (.s []) := ⟨_, wt9, rfl⟩
theorem wt10 : tiV vC 10 = some vt10 := by kernel_rfl
instance : TiV vC 10 vt10 := ⟨wt10⟩
instance : SizeV vC 10 1 := ⟨_, wt10, rfl⟩
instance : RowV vC 10 false := ⟨_, wt10, rfl⟩
instance : StrV vC 10 := ⟨_, wt10, rfl⟩
instance : GrowV vC 10 := ⟨_, wt10, by kernel_rfl⟩
instance : ZeroV vC 10 (.s []) := ⟨_, wt10, rfl⟩
theorem wt11 : tiV vC 11 = some vt11 := by kernel_rfl
instance : TiV vC 11 vt11 := ⟨wt11⟩
instance : SizeV vC 11 1 := ⟨_, wt11, rfl⟩
instance : RowV vC 11 false := ⟨_, wt11, rfl⟩
instance : StrV vC 11 := ⟨_, wt11, rfl⟩
instance : GrowV vC 11 := ⟨_, wt11, by kernel_rfl⟩
instance : ZeroV vC 11 (.s []) := ⟨_, wt11, rfl⟩
theorem wt12 : tiV vC 12 = some vt12 := by kernel_rfl
instance : TiV vC 12 vt12 := ⟨wt12⟩
instance : SizeV vC 12 1 := ⟨_, wt12, rfl⟩
instance : RowV vC 12 false := ⟨_, wt12, rfl⟩
instance : IntV vC 12 .u64 := ⟨_, wt12, rfl⟩
instance : GrowV vC 12 := ⟨_, wt12, by kernel_rfl⟩
instance : ZeroV vC 12 (.i .u64 (.ofNat 0)) := ⟨_, wt12, rfl⟩
theorem wt13 : tiV vC 13 = some vt13 := by kernel_rfl
instance : TiV vC 13 vt13 := ⟨wt13⟩
instance : SizeV vC 13 2 := ⟨_, wt13, rfl⟩
instance : RowV vC 13 true := ⟨_, wt13, rfl⟩
instance : PlV vC 13 [(0, 1), (1, 1)] := ⟨by kernel_rfl⟩
instance : FieldV vC 13 0 0 9 := fieldV_of _ _ wt13 rfl rfl
instance : FieldV vC 13 1 1 12 := fieldV_of _ _ wt13 rfl rfl
instance : GrowV vC 13 := ⟨_, wt13, by kernel_rfl⟩
instance : ZeroV vC 13 (.agg [.s [], .i .u64 (.ofNat 0)]) := ⟨_, wt13, by kernel_rfl⟩
theorem wt15 : tiV vC 15 = some vt15 := by kernel_rfl
instance : TiV vC 15 vt15 := ⟨wt15⟩
instance : SizeV vC 15 1 := ⟨_, wt15, rfl⟩
instance : RowV vC 15 false := ⟨_, wt15, rfl⟩
instance : GrowV vC 15 := ⟨_, wt15, by kernel_rfl⟩
instance : ZeroV vC 15 (.p none) := ⟨_, wt15, rfl⟩
theorem wt16 : tiV vC 16 = some vt16 := by kernel_rfl
instance : TiV vC 16 vt16 := ⟨wt16⟩
instance : SizeV vC 16 1 := ⟨_, wt16, rfl⟩
instance : RowV vC 16 false := ⟨_, wt16, rfl⟩
instance : GrowV vC 16 := ⟨_, wt16, by kernel_rfl⟩
instance : ZeroV vC 16 (.p none) := ⟨_, wt16, rfl⟩
theorem wt17 : tiV vC 17 = some vt17 := by kernel_rfl
instance : TiV vC 17 vt17 := ⟨wt17⟩
instance : SizeV vC 17 1 := ⟨_, wt17, rfl⟩
instance : RowV vC 17 false := ⟨_, wt17, rfl⟩
instance : GrowV vC 17 := ⟨_, wt17, by kernel_rfl⟩
instance : ZeroV vC 17 (.p none) := ⟨_, wt17, rfl⟩
theorem wt18 : tiV vC 18 = some vt18 := by kernel_rfl
instance : TiV vC 18 vt18 := ⟨wt18⟩
instance : SizeV vC 18 1 := ⟨_, wt18, rfl⟩
instance : RowV vC 18 true := ⟨_, wt18, rfl⟩
instance : PlV vC 18 [(0, 1)] := ⟨by kernel_rfl⟩
instance : FieldV vC 18 0 0 17 := fieldV_of _ _ wt18 rfl rfl
instance : GrowV vC 18 := ⟨_, wt18, by kernel_rfl⟩
instance : ZeroV vC 18 (.agg [.p none]) := ⟨_, wt18, by kernel_rfl⟩
theorem wt19 : tiV vC 19 = some vt19 := by kernel_rfl
instance : TiV vC 19 vt19 := ⟨wt19⟩
instance : SizeV vC 19 1 := ⟨_, wt19, rfl⟩
instance : RowV vC 19 true := ⟨_, wt19, rfl⟩
instance : PlV vC 19 [(0, 1)] := ⟨by kernel_rfl⟩
instance : FieldV vC 19 0 0 17 := fieldV_of _ _ wt19 rfl rfl
instance : GrowV vC 19 := ⟨_, wt19, by kernel_rfl⟩
instance : ZeroV vC 19 (.agg [.p none]) := ⟨_, wt19, by kernel_rfl⟩
theorem wt21 : tiV vC 21 = some vt21 := by kernel_rfl
instance : TiV vC 21 vt21 := ⟨wt21⟩
instance : SizeV vC 21 1 := ⟨_, wt21, rfl⟩
instance : RowV vC 21 false := ⟨_, wt21, rfl⟩
instance : IntV vC 21 .i32 := ⟨_, wt21, rfl⟩
instance : GrowV vC 21 := ⟨_, wt21, by kernel_rfl⟩
instance : ZeroV vC 21 (.i .i32 (.ofNat 0)) := ⟨_, wt21, rfl⟩
theorem wt22 : tiV vC 22 = some vt22 := by kernel_rfl
instance : TiV vC 22 vt22 := ⟨wt22⟩
instance : SizeV vC 22 1 := ⟨_, wt22, rfl⟩
instance : RowV vC 22 false := ⟨_, wt22, rfl⟩
instance : GrowV vC 22 := ⟨_, wt22, by kernel_rfl⟩
instance : ZeroV vC 22 (.p none) := ⟨_, wt22, rfl⟩
theorem wt25 : tiV vC 25 = some vt25 := by kernel_rfl
instance : TiV vC 25 vt25 := ⟨wt25⟩
instance : SizeV vC 25 1 := ⟨_, wt25, rfl⟩
instance : RowV vC 25 false := ⟨_, wt25, rfl⟩
instance : GrowV vC 25 := ⟨_, wt25, by kernel_rfl⟩
instance : ZeroV vC 25 (.nf) := ⟨_, wt25, rfl⟩
theorem wt26 : tiV vC 26 = some vt26 := by kernel_rfl
instance : TiV vC 26 vt26 := ⟨wt26⟩
instance : SizeV vC 26 1 := ⟨_, wt26, rfl⟩
instance : RowV vC 26 false := ⟨_, wt26, rfl⟩
instance : SliceV vC 26 5 := ⟨_, wt26, rfl⟩
instance : GrowV vC 26 := ⟨_, wt26, by kernel_rfl⟩
instance : ZeroV vC 26 (.sl none 0 0 false) := ⟨_, wt26, rfl⟩
theorem wt32 : tiV vC 32 = some vt32 := by kernel_rfl
instance : TiV vC 32 vt32 := ⟨wt32⟩
instance : SizeV vC 32 32 := ⟨_, wt32, rfl⟩
instance : RowV vC 32 true := ⟨_, wt32, rfl⟩
instance : ArrV vC 32 32 5 := ⟨_, wt32, rfl⟩
instance : GrowV vC 32 := ⟨_, wt32, by kernel_rfl⟩
instance : ZeroV vC 32 (.agg (List.replicate 32 (.i .u8 (.ofNat 0)))) := ⟨_, wt32, by kernel_rfl⟩
theorem wt34 : tiV vC 34 = some vt34 := by kernel_rfl
instance : TiV vC 34 vt34 := ⟨wt34⟩
instance : SizeV vC 34 66 := ⟨_, wt34, rfl⟩
instance : RowV vC 34 true := ⟨_, wt34, rfl⟩
instance : PlV vC 34 [(0, 1), (1, 1), (2, 32), (34, 32)] := ⟨by kernel_rfl⟩
instance : FieldV vC 34 0 0 2 := fieldV_of _ _ wt34 rfl rfl
instance : FieldV vC 34 1 1 2 := fieldV_of _ _ wt34 rfl rfl
instance : FieldV vC 34 2 2 32 := fieldV_of _ _ wt34 rfl rfl
instance : FieldV vC 34 3 34 32 := fieldV_of _ _ wt34 rfl rfl
instance : GrowV vC 34 := ⟨_, wt34, by kernel_rfl⟩
theorem wt36 : tiV vC 36 = some vt36 := by kernel_rfl
instance : TiV vC 36 vt36 := ⟨wt36⟩
instance : SizeV vC 36 1 := ⟨_, wt36, rfl⟩
instance : RowV vC 36 false := ⟨_, wt36, rfl⟩
instance : SliceV vC 36 62 := ⟨_, wt36, rfl⟩
instance : GrowV vC 36 := ⟨_, wt36, by kernel_rfl⟩
instance : ZeroV vC 36 (.sl none 0 0 false) := ⟨_, wt36, rfl⟩
theorem wt44 : tiV vC 44 = some vt44 := by kernel_rfl
instance : TiV vC 44 vt44 := ⟨wt44⟩
instance : SizeV vC 44 1 := ⟨_, wt44, rfl⟩
instance : RowV vC 44 false := ⟨_, wt44, rfl⟩
instance : GrowV vC 44 := ⟨_, wt44, by kernel_rfl⟩
instance : ZeroV vC 44 (.nf) := ⟨_, wt44, rfl⟩
theorem wt49 : tiV vC 49 = some vt49 := by kernel_rfl
instance : TiV vC 49 vt49 := ⟨wt49⟩
instance : SizeV vC 49 1 := ⟨_, wt49, rfl⟩
instance : RowV vC 49 false := ⟨_, wt49, rfl⟩
instance : GrowV vC 49 := ⟨_, wt49, by kernel_rfl⟩
instance : ZeroV vC 49 (.nf) := ⟨_, wt49, rfl⟩
theorem wt50 : tiV vC 50 = some vt50 := by kernel_rfl
instance : TiV vC 50 vt50 := ⟨wt50⟩
instance : SizeV vC 50 1 := ⟨_, wt50, rfl⟩
instance : RowV vC 50 false := ⟨_, wt50, rfl⟩
instance : GrowV vC 50 := ⟨_, wt50, by kernel_rfl⟩
instance : ZeroV vC 50 (.p none) := ⟨_, wt50, rfl⟩
theorem wt52 : tiV vC 52 = some vt52 := by kernel_rfl
instance : TiV vC 52 vt52 := ⟨wt52⟩
instance : SizeV vC 52 68 := ⟨_, wt52, rfl⟩
instance : RowV vC 52 true := ⟨_, wt52, rfl⟩
instance : PlV vC 52 [(0, 1), (1, 1), (2, 66)] := ⟨by kernel_rfl⟩
instance : FieldV vC 52 0 0 50 := fieldV_of _ _ wt52 rfl rfl
instance : FieldV vC 52 1 1 36 := fieldV_of _ _ wt52 rfl rfl
instance : FieldV vC 52 2 2 34 := fieldV_of _ _ wt52 rfl rfl
instance : GrowV vC 52 := ⟨_, wt52, by kernel_rfl⟩
theorem wt53 : tiV vC 53 = some vt53 := by kernel_rfl
instance : TiV vC 53 vt53 := ⟨wt53⟩
instance : SizeV vC 53 1 := ⟨_, wt53, rfl⟩
instance : RowV vC 53 false := ⟨_, wt53, rfl⟩
instance : SliceV vC 53 128 := ⟨_, wt53, rfl⟩
instance : GrowV vC 53 := ⟨_, wt53, by kernel_rfl⟩
instance : ZeroV vC 53 (.sl none 0 0 false) := ⟨_, wt53, rfl⟩
theorem wt58 : tiV vC 58 = some vt58 := by kernel_rfl
instance : TiV vC 58 vt58 := ⟨wt58⟩
instance : SizeV vC 58 1 := ⟨_, wt58, rfl⟩
instance : RowV vC 58 false := ⟨_, wt58, rfl⟩
instance : GrowV vC 58 := ⟨_, wt58, by kernel_rfl⟩
instance : ZeroV vC 58 (.nf) := ⟨_, wt58, rfl⟩
theorem wt59 : tiV vC 59 = some vt59 := by kernel_rfl
instance : TiV vC 59 vt59 := ⟨wt59⟩
instance : SizeV vC 59 1 := ⟨_, wt59, rfl⟩
instance : RowV vC 59 false := ⟨_, wt59, rfl⟩
instance : GrowV vC 59 := ⟨_, wt59, by kernel_rfl⟩
instance : ZeroV vC 59 (.nf) := ⟨_, wt59, rfl⟩
theorem wt62 : tiV vC 62 = some vt62 := by kernel_rfl
instance : TiV vC 62 vt62 := ⟨wt62⟩
instance : SizeV vC 62 2 := ⟨_, wt62, rfl⟩
instance : RowV vC 62 true := ⟨_, wt62, rfl⟩
instance : PlV vC 62 [(0, 1), (1, 1)] := ⟨by kernel_rfl⟩
instance : FieldV vC 62 0 0 26 := fieldV_of _ _ wt62 rfl rfl
instance : FieldV vC 62 1 1 26 := fieldV_of _ _ wt62 rfl rfl
instance : GrowV vC 62 := ⟨_, wt62, by kernel_rfl⟩
instance : ZeroV vC 62 (.agg [.sl none 0 0 false, .sl none 0 0 false]) := ⟨_, wt62, by kernel_rfl⟩
theorem wt64 : tiV vC 64 = some vt64 := by kernel_rfl
instance : TiV vC 64 vt64 := ⟨wt64⟩
instance : SizeV vC 64 1 := ⟨_, wt64, rfl⟩
instance : RowV vC 64 false := ⟨_, wt64, rfl⟩
instance : GrowV vC 64 := ⟨_, wt64, by kernel_rfl⟩
instance : ZeroV vC 64 (.nf) := ⟨_, wt64, rfl⟩
theorem wt66 : tiV vC 66 = some vt66 := by kernel_rfl
instance : TiV vC 66 vt66 := ⟨wt66⟩
instance : SizeV vC 66 1 := ⟨_, wt66, rfl⟩
instance : RowV vC 66 false := ⟨_, wt66, rfl⟩
instance : GrowV vC 66 := ⟨_, wt66, by kernel_rfl⟩
instance : ZeroV vC 66 (.nf) := ⟨_, wt66, rfl⟩
theorem wt99 : tiV vC 99 = some vt99 := by kernel_rfl
instance : TiV vC 99 vt99 := ⟨wt99⟩
instance : SizeV vC 99 1 := ⟨_, wt99, rfl⟩
instance : RowV vC 99 false := ⟨_, wt99, rfl⟩
instance : IntV vC 99 .u64 := ⟨_, wt99, rfl⟩
instance : GrowV vC 99 := ⟨_, wt99, by kernel_rfl⟩
instance : ZeroV vC 99 (.i .u64 (.ofNat 0)) := ⟨_, wt99, rfl⟩
theorem wt116 : tiV vC 116 = some vt116 := by kernel_rfl
instance : TiV vC 116 vt116 := ⟨wt116⟩
instance : SizeV vC 116 1 := ⟨_, wt116, rfl⟩
instance : RowV vC 116 false := ⟨_, wt116, rfl⟩
instance : IntV vC 116 .u8 := ⟨_, wt116, rfl⟩
instance : GrowV vC 116 := ⟨_, wt116, by kernel_rfl⟩
instance : ZeroV vC 116 (.i .u8 (.ofNat 0)) := ⟨_, wt116, rfl⟩
theorem wt128 : tiV vC 128 = some vt128 := by kernel_rfl
instance : TiV vC 128 vt128 := ⟨wt128⟩
instance : SizeV vC 128 3 := ⟨_, wt128, rfl⟩
instance : RowV vC 128 true := ⟨_, wt128, rfl⟩
instance : PlV vC 128 [(0, 1), (1, 1), (2, 1)] := ⟨by kernel_rfl⟩
instance : FieldV vC 128 0 0 26 := fieldV_of _ _ wt128 rfl rfl
instance : FieldV vC 128 1 1 26 := fieldV_of _ _ wt128 rfl rfl
instance : FieldV vC 128 2 2 4 := fieldV_of _ _ wt128 rfl rfl
instance : GrowV vC 128 := ⟨_, wt128, by kernel_rfl⟩
instance : ZeroV vC 128 (.agg [.sl none 0 0 false, .sl none 0 0 false, .b false]) := ⟨_, wt128, by kernel_rfl⟩
theorem wt154 : tiV vC 154 = some vt154 := by kernel_rfl
instance : TiV vC 154 vt154 := ⟨wt154⟩
instance : SizeV vC 154 1 := ⟨_, wt154, rfl⟩
instance : RowV vC 154 false := ⟨_, wt154, rfl⟩
instance : GrowV vC 154 := ⟨_, wt154, by kernel_rfl⟩
instance : ZeroV vC 154 (.m none) := ⟨_, wt154, rfl⟩
theorem wt155 : tiV vC 155 = some vt155 := by kernel_rfl
instance : TiV vC 155 vt155 := ⟨wt155⟩
instance : SizeV vC 155 1 := ⟨_, wt155, rfl⟩
instance : RowV vC 155 false := ⟨_, wt155, rfl⟩
instance : GrowV vC 155 := ⟨_, wt155, by kernel_rfl⟩
instance : ZeroV vC 155 (.m none) := ⟨_, wt155, rfl⟩
theorem wt157 : tiV vC 157 = some vt157 := by kernel_rfl
instance : TiV vC 157 vt157 := ⟨wt157⟩
instance : SizeV vC 157 2 := ⟨_, wt157, rfl⟩
instance : RowV vC 157 true := ⟨_, wt157, rfl⟩
instance : PlV vC 157 [(0, 1), (1, 1)] := ⟨by kernel_rfl⟩
instance : FieldV vC 157 0 0 154 := fieldV_of _ _ wt157 rfl rfl
instance : FieldV vC 157 1 1 155 := fieldV_of _ _ wt157 rfl rfl
instance : GrowV vC 157 := ⟨_, wt157, by kernel_rfl⟩
instance : ZeroV vC 157 (.agg [.m none, .m none]) := ⟨_, wt157, by kernel_rfl⟩
theorem wt159 : tiV vC 159 = some vt159 := by kernel_rfl
instance : TiV vC 159 vt159 := ⟨wt159⟩
instance : SizeV vC 159 1 := ⟨_, wt159, rfl⟩
instance : RowV vC 159 false := ⟨_, wt159, rfl⟩
instance : GrowV vC 159 := ⟨_, wt159, by kernel_rfl⟩
instance : ZeroV vC 159 (.m none) := ⟨_, wt159, rfl⟩
theorem wt161 : tiV vC 161 = some vt161 := by kernel_rfl
instance : TiV vC 161 vt161 := ⟨wt161⟩
instance : SizeV vC 161 0 := ⟨_, wt161, rfl⟩
instance : RowV vC 161 true := ⟨_, wt161, rfl⟩
instance : PlV vC 161 [] := ⟨by kernel_rfl⟩
instance : ZeroV vC 161 (.agg []) := ⟨_, wt161, by kernel_rfl⟩
theorem wt162 : tiV vC 162 = some vt162 := by kernel_rfl
instance : TiV vC 162 vt162 := ⟨wt162⟩
instance : SizeV vC 162 1 := ⟨_, wt162, rfl⟩
instance : RowV vC 162 false := ⟨_, wt162, rfl⟩
instance : IntV vC 162 .u32 := ⟨_, wt162, rfl⟩
instance : GrowV vC 162 := ⟨_, wt162, by kernel_rfl⟩
instance : ZeroV vC 162 (.i .u32 (.ofNat 0)) := ⟨_, wt162, rfl⟩
theorem wt164 : tiV vC 164 = some vt164 := by kernel_rfl
instance : TiV vC 164 vt164 := ⟨wt164⟩
instance : SizeV vC 164 2 := ⟨_, wt164, rfl⟩
instance : RowV vC 164 true := ⟨_, wt164, rfl⟩
instance : PlV vC 164 [(0, 1), (1, 1)] := ⟨by kernel_rfl⟩
instance : FieldV vC 164 0 0 21 := fieldV_of _ _ wt164 rfl rfl
instance : FieldV vC 164 1 1 162 := fieldV_of _ _ wt164 rfl rfl
instance : GrowV vC 164 := ⟨_, wt164, by kernel_rfl⟩
instance : ZeroV vC 164 (.agg [.i .i32 (.ofNat 0), .i .u32 (.ofNat 0)]) := ⟨_, wt164, by kernel_rfl⟩
theorem wt166 : tiV vC 166 = some vt166 := by kernel_rfl
instance : TiV vC 166 vt166 := ⟨wt166⟩
instance : SizeV vC 166 2 := ⟨_, wt166, rfl⟩
instance : RowV vC 166 true := ⟨_, wt166, rfl⟩
instance : PlV vC 166 [(0, 0), (0, 2)] := ⟨by kernel_rfl⟩
instance : FieldV vC 166 0 0 161 := fieldV_of _ _ wt166 rfl rfl
instance : FieldV vC 166 1 0 164 := fieldV_of _ _ wt166 rfl rfl
instance : GrowV vC 166 := ⟨_, wt166, by kernel_rfl⟩
instance : ZeroV vC 166 (.agg [.i .i32 (.ofNat 0), .i .u32 (.ofNat 0)]) := ⟨_, wt166, by kernel_rfl⟩
theorem wt168 : tiV vC 168 = some vt168 := by kernel_rfl
instance : TiV vC 168 vt168 := ⟨wt168⟩
instance : SizeV vC 168 10 := ⟨_, wt168, rfl⟩
instance : RowV vC 168 true := ⟨_, wt168, rfl⟩
instance : PlV vC 168 [(0, 1), (1, 1), (2, 1), (3, 2), (5, 2), (7, 2), (9, 1)] := ⟨by kernel_rfl⟩
instance : FieldV vC 168 0 0 3 := fieldV_of _ _ wt168 rfl rfl
instance : FieldV vC 168 1 1 3 := fieldV_of _ _ wt168 rfl rfl
instance : FieldV vC 168 2 2 26 := fieldV_of _ _ wt168 rfl rfl
instance : FieldV vC 168 3 3 166 := fieldV_of _ _ wt168 rfl rfl
instance : FieldV vC 168 4 5 157 := fieldV_of _ _ wt168 rfl rfl
instance : FieldV vC 168 5 7 157 := fieldV_of _ _ wt168 rfl rfl
instance : FieldV vC 168 6 9 159 := fieldV_of _ _ wt168 rfl rfl
instance : GrowV vC 168 := ⟨_, wt168, by kernel_rfl⟩
instance : ZeroV vC 168 (.agg [.i .i64 (.ofNat 0), .i .i64 (.ofNat 0), .sl none 0 0 false, .i .i32 (.ofNat 0), .i .u32 (.ofNat 0), .m none, .m none, .m none, .m none, .m none]) := ⟨_, wt168, by kernel_rfl⟩
theorem wt181 : tiV vC 181 = some vt181 := by kernel_rfl
instance : TiV vC 181 vt181 := ⟨wt181⟩
instance : SizeV vC 181 1 := ⟨_, wt181, rfl⟩
instance : RowV vC 181 false := ⟨_, wt181, rfl⟩
instance : GrowV vC 181 := ⟨_, wt181, by kernel_rfl⟩
instance : ZeroV vC 181 (.nf) := ⟨_, wt181, rfl⟩
theorem wt182 : tiV vC 182 = some vt182 := by kernel_rfl
instance : TiV vC 182 vt182 := ⟨wt182⟩
instance : SizeV vC 182 1 := ⟨_, wt182, rfl⟩
instance : RowV vC 182 false := ⟨_, wt182, rfl⟩
instance : GrowV vC 182 := ⟨_, wt182, by kernel_rfl⟩
instance : ZeroV vC 182 (.ni) := ⟨_, wt182, rfl⟩
theorem wt271 : tiV vC 271 = some vt271 := by kernel_rfl
instance : TiV vC 271 vt271 := ⟨wt271⟩
instance : SizeV vC 271 1 := ⟨_, wt271, rfl⟩
instance : RowV vC 271 false := ⟨_, wt271, rfl⟩
instance : SliceV vC 271 9 := ⟨_, wt271, rfl⟩
instance : GrowV vC 271 := ⟨_, wt271, by kernel_rfl⟩
instance : ZeroV vC 271 (.sl none 0 0 false) := ⟨_, wt271, rfl⟩
theorem wt279 : tiV vC 279 = some vt279 := by kernel_rfl
instance : TiV vC 279 vt279 := ⟨wt279⟩
instance : SizeV vC 279 8 := ⟨_, wt279, rfl⟩
instance : RowV vC 279 true := ⟨_, wt279, rfl⟩
instance : ArrV vC 279 8 162 := ⟨_, wt279, rfl⟩
instance : GrowV vC 279 := ⟨_, wt279, by kernel_rfl⟩
instance : ZeroV vC 279 (.agg (List.replicate 8 (.i .u32 (.ofNat 0)))) := ⟨_, wt279, by kernel_rfl⟩
theorem wt280 : tiV vC 280 = some vt280 := by kernel_rfl
instance : TiV vC 280 vt280 := ⟨wt280⟩
instance : SizeV vC 280 1 := ⟨_, wt280, rfl⟩
instance : RowV vC 280 false := ⟨_, wt280, rfl⟩
instance : GrowV vC 280 := ⟨_, wt280, by kernel_rfl⟩
instance : ZeroV vC 280 (.nf) := ⟨_, wt280, rfl⟩
theorem wt313 : tiV vC 313 = some vt313 := by kernel_rfl
instance : TiV vC 313 vt313 := ⟨wt313⟩
instance : SizeV vC 313 64 := ⟨_, wt313, rfl⟩
instance : RowV vC 313 true := ⟨_, wt313, rfl⟩
instance : ArrV vC 313 64 162 := ⟨_, wt313, rfl⟩
instance : GrowV vC 313 := ⟨_, wt313, by kernel_rfl⟩
instance : ZeroV vC 313 (.agg (List.replicate 64 (.i .u32 (.ofNat 0)))) := ⟨_, wt313, by kernel_rfl⟩
theorem wt314 : tiV vC 314 = some vt314 := by kernel_rfl
instance : TiV vC 314 vt314 := ⟨wt314⟩
instance : SizeV vC 314 1 := ⟨_, wt314, rfl⟩
instance : RowV vC 314 false := ⟨_, wt314, rfl⟩
instance : GrowV vC 314 := ⟨_, wt314, by kernel_rfl⟩
instance : ZeroV vC 314 (.nf) := ⟨_, wt314, rfl⟩
theorem wt315 : tiV vC 315 = some vt315 := by kernel_rfl
instance : TiV vC 315 vt315 := ⟨wt315⟩
instance : SizeV vC 315 1 := ⟨_, wt315, rfl⟩
instance : RowV vC 315 false := ⟨_, wt315, rfl⟩
instance : GrowV vC 315 := ⟨_, wt315, by kernel_rfl⟩
instance : ZeroV vC 315 (.nf) := ⟨_, wt315, rfl⟩
theorem wt365 : tiV vC 365 = some vt365 := by kernel_rfl
instance : TiV vC 365 vt365 := ⟨wt365⟩
instance : SizeV vC 365 4 := ⟨_, wt365, rfl⟩
instance : RowV vC 365 true := ⟨_, wt365, rfl⟩
instance : PlV vC 365 [(0, 1), (1, 1), (2, 1), (3, 1)] := ⟨by kernel_rfl⟩
instance : FieldV vC 365 0 0 17 := fieldV_of _ _ wt365 rfl rfl
instance : FieldV vC 365 1 1 17 := fieldV_of _ _ wt365 rfl rfl
instance : FieldV vC 365 2 2 17 := fieldV_of _ _ wt365 rfl rfl
instance : FieldV vC 365 3 3 9 := fieldV_of _ _ wt365 rfl rfl
instance : GrowV vC 365 := ⟨_, wt365, by kernel_rfl⟩
instance : ZeroV vC 365 (.agg [.p none, .p none, .p none, .s []]) := ⟨_, wt365, by kernel_rfl⟩
theorem wt366 : tiV vC 366 = some vt366 := by kernel_rfl
instance : TiV vC 366 vt366 := ⟨wt366⟩
instance : SizeV vC 366 0 := ⟨_, wt366, rfl⟩
instance : RowV vC 366 true := ⟨_, wt366, rfl⟩
instance : ArrV vC 366 0 16 := ⟨_, wt366, rfl⟩
instance : ZeroV vC 366 (.agg []) := ⟨_, wt366, by kernel_rfl⟩
theorem wt368 : tiV vC 368 = some vt368 := by kernel_rfl
instance : TiV vC 368 vt368 := ⟨wt368⟩
instance : SizeV vC 368 0 := ⟨_, wt368, rfl⟩
instance : RowV vC 368 true := ⟨_, wt368, rfl⟩
instance : PlV vC 368 [(0, 0)] := ⟨by kernel_rfl⟩
instance : FieldV vC 368 0 0 366 := fieldV_of _ _ wt368 rfl rfl
instance : ZeroV vC 368 (.agg []) := ⟨_, wt368, by kernel_rfl⟩
theorem wt371 : tiV vC 371 = some vt371 := by kernel_rfl
instance : TiV vC 371 vt371 := ⟨wt371⟩
instance : SizeV vC 371 1 := ⟨_, wt371, rfl⟩
instance : RowV vC 371 false := ⟨_, wt371, rfl⟩
instance : IntV vC 371 .u8 := ⟨_, wt371, rfl⟩
instance : GrowV vC 371 := ⟨_, wt371, by kernel_rfl⟩
instance : ZeroV vC 371 (.i .u8 (.ofNat 0)) := ⟨_, wt371, rfl⟩
theorem wt372 : tiV vC 372 = some vt372 := by kernel_rfl
instance : TiV vC 372 vt372 := ⟨wt372⟩
instance : SizeV vC 372 1 := ⟨_, wt372, rfl⟩
instance : RowV vC 372 false := ⟨_, wt372, rfl⟩
instance : GrowV vC 372 := ⟨_, wt372, by kernel_rfl⟩
instance : ZeroV vC 372 (.nf) := ⟨_, wt372, rfl⟩
theorem wt373 : tiV vC 373 = some vt373 := by kernel_rfl
instance : TiV vC 373 vt373 := ⟨wt373⟩
instance : SizeV vC 373 1 := ⟨_, wt373, rfl⟩
instance : RowV vC 373 false := ⟨_, wt373, rfl⟩
instance : GrowV vC 373 := ⟨_, wt373, by kernel_rfl⟩
instance : ZeroV vC 373 (.p none) := ⟨_, wt373, rfl⟩
theorem wt374 : tiV vC 374 = some vt374 := by kernel_rfl
instance : TiV vC 374 vt374 := ⟨wt374⟩
instance : SizeV vC 374 1 := ⟨_, wt374, rfl⟩
instance : RowV vC 374 false := ⟨_, wt374, rfl⟩
instance : IntV vC 374 .i32 := ⟨_, wt374, rfl⟩
instance : GrowV vC 374 := ⟨_, wt374, by kernel_rfl⟩
instance : ZeroV vC 374 (.i .i32 (.ofNat 0)) := ⟨_, wt374, rfl⟩
theorem wt375 : tiV vC 375 = some vt375 := by kernel_rfl
instance : TiV vC 375 vt375 := ⟨wt375⟩
instance : SizeV vC 375 1 := ⟨_, wt375, rfl⟩
instance : RowV vC 375 false := ⟨_, wt375, rfl⟩
instance : IntV vC 375 .i32 := ⟨_, wt375, rfl⟩
instance : GrowV vC 375 := ⟨_, wt375, by kernel_rfl⟩
instance : ZeroV vC 375 (.i .i32 (.ofNat 0)) := ⟨_, wt375, rfl⟩
theorem wt377 : tiV vC 377 = some vt377 := by kernel_rfl
instance : TiV vC 377 vt377 := ⟨wt377⟩
instance : SizeV vC 377 11 := ⟨_, wt377, rfl⟩
instance : RowV vC 377 true := ⟨_, wt377, rfl⟩
instance : PlV vC 377 [(0, 1), (1, 1), (2, 1), (3, 1), (4, 1), (5, 1), (6, 1), (7, 1), (8, 1), (9, 1), (10, 1)] := ⟨by kernel_rfl⟩
instance : FieldV vC 377 0 0 12 := fieldV_of _ _ wt377 rfl rfl
instance : FieldV vC 377 1 1 12 := fieldV_of _ _ wt377 rfl rfl
instance : FieldV vC 377 2 2 162 := fieldV_of _ _ wt377 rfl rfl
instance : FieldV vC 377 3 3 371 := fieldV_of _ _ wt377 rfl rfl
instance : FieldV vC 377 4 4 5 := fieldV_of _ _ wt377 rfl rfl
instance : FieldV vC 377 5 5 5 := fieldV_of _ _ wt377 rfl rfl
instance : FieldV vC 377 6 6 116 := fieldV_of _ _ wt377 rfl rfl
instance : FieldV vC 377 7 7 372 := fieldV_of _ _ wt377 rfl rfl
instance : FieldV vC 377 8 8 373 := fieldV_of _ _ wt377 rfl rfl
instance : FieldV vC 377 9 9 374 := fieldV_of _ _ wt377 rfl rfl
instance : FieldV vC 377 10 10 375 := fieldV_of _ _ wt377 rfl rfl
instance : GrowV vC 377 := ⟨_, wt377, by kernel_rfl⟩
instance : ZeroV vC 377 (.agg [.i .u64 (.ofNat 0), .i .u64 (.ofNat 0), .i .u32 (.ofNat 0), .i .u8 (.ofNat 0), .i .u8 (.ofNat 0), .i .u8 (.ofNat 0), .i .u8 (.ofNat 0), .nf, .p none, .i .i32 (.ofNat 0), .i .i32 (.ofNat 0)]) := ⟨_, wt377, by kernel_rfl⟩
end Go.Proofs.YtaahfdjobpbpjaaGreatDoor
