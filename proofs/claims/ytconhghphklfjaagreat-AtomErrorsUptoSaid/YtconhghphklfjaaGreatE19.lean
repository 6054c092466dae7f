/- A group that is over or open, pages that are none and records that may not be are refused, and a record that was done is read back; the conditions are those of the given statement, for arguments that a machine can hold. Part 19 of 44. -/
import Derived.Test.YtconhghphklfjaaGreatE01
import Derived.Test.YtconhghphklfjaaGreatProg
import Derived.KernelRfl
import Derived.Test.YtconhghphklfjaaGreatE18
namespace Go.Proofs.YtconhghphklfjaaGreat.Am
open Go
theorem sz3 : sizeT Tryz.prog 3 = some 1 := by kernel_rfl
theorem ag3 : isAggT Tryz.prog 3 = some false := by kernel_rfl
theorem zt3 : zeroT Tryz.prog 3 = some (.int .i64 0) := by kernel_rfl
theorem sz4 : sizeT Tryz.prog 4 = some 1 := by kernel_rfl
theorem ag4 : isAggT Tryz.prog 4 = some false := by kernel_rfl
theorem zt4 : zeroT Tryz.prog 4 = some (.bool false) := by kernel_rfl
theorem sz5 : sizeT Tryz.prog 5 = some 1 := by kernel_rfl
theorem ag23 : isAggT Tryz.prog 23 = some false := by kernel_rfl
theorem ag24 : isAggT Tryz.prog 24 = some false := by kernel_rfl
theorem sz27 : sizeT Tryz.prog 27 = some 1 := by kernel_rfl
theorem ag27 : isAggT Tryz.prog 27 = some false := by kernel_rfl
theorem zt28 : zeroT Tryz.prog 28 = some (.int .i64 0) := by kernel_rfl
theorem sz32 : sizeT Tryz.prog 32 = some 1 := by kernel_rfl
theorem ag32 : isAggT Tryz.prog 32 = some false := by kernel_rfl
theorem zt32 : zeroT Tryz.prog 32 = some .sl0 := by kernel_rfl
theorem sz35 : sizeT Tryz.prog 35 = some 1 := by kernel_rfl
theorem ag35 : isAggT Tryz.prog 35 = some false := by kernel_rfl
theorem sz38 : sizeT Tryz.prog 38 = some 1 := by kernel_rfl
theorem ag38 : isAggT Tryz.prog 38 = some false := by kernel_rfl
theorem sz40 : sizeT Tryz.prog 40 = some 6 := by kernel_rfl
theorem ag40 : isAggT Tryz.prog 40 = some true := by kernel_rfl
theorem zt40 : zeroT Tryz.prog 40 = some (.agg [(.int .i64 0), (.int .u64 0), (.int .u64 0), (.int .u64 0), .sl0, .sl0]) := by kernel_rfl
theorem fa40_0 (a b : Nat) : fieldAddrV Tryz.prog 40 (.ptr a b) 0 = some (.ptr a (b + 0)) := by
 rw [show fieldAddrV Tryz.prog 40 (.ptr a b) 0 = some (.ptr a (b + 0)) by kernel_rfl]
theorem fa40_1 (a b : Nat) : fieldAddrV Tryz.prog 40 (.ptr a b) 1 = some (.ptr a (b + 1)) := by
 rw [show fieldAddrV Tryz.prog 40 (.ptr a b) 1 = some (.ptr a (b + 1)) by kernel_rfl]
theorem fa40_2 (a b : Nat) : fieldAddrV Tryz.prog 40 (.ptr a b) 2 = some (.ptr a (b + 2)) := by
 rw [show fieldAddrV Tryz.prog 40 (.ptr a b) 2 = some (.ptr a (b + 2)) by kernel_rfl]
theorem fa40_3 (a b : Nat) : fieldAddrV Tryz.prog 40 (.ptr a b) 3 = some (.ptr a (b + 3)) := by
 rw [show fieldAddrV Tryz.prog 40 (.ptr a b) 3 = some (.ptr a (b + 3)) by kernel_rfl]
theorem fa40_4 (a b : Nat) : fieldAddrV Tryz.prog 40 (.ptr a b) 4 = some (.ptr a (b + 4)) := by
 rw [show fieldAddrV Tryz.prog 40 (.ptr a b) 4 = some (.ptr a (b + 4)) by kernel_rfl]
theorem fa40_5 (a b : Nat) : fieldAddrV Tryz.prog 40 (.ptr a b) 5 = some (.ptr a (b + 5)) := by
 rw [show fieldAddrV Tryz.prog 40 (.ptr a b) 5 = some (.ptr a (b + 5)) by kernel_rfl]
theorem bv40 (ps : List (Nat × V)) : buildV Tryz.prog 40 ps = (fillV (nth [(0, 1), (1, 1), (2, 1), (3, 1), (4, 1), (5, 1)]) ((.agg [(.int .i64 0), (.int .u64 0), (.int .u64 0), (.int .u64 0), .sl0, .sl0]) : V).cells ps).map .agg := by
 rw [show buildV Tryz.prog 40 ps = (fillV (nth [(0, 1), (1, 1), (2, 1), (3, 1), (4, 1), (5, 1)]) ((.agg [(.int .i64 0), (.int .u64 0), (.int .u64 0), (.int .u64 0), .sl0, .sl0]) : V).cells ps).map .agg by kernel_rfl]
theorem ag44 : isAggT Tryz.prog 44 = some false := by kernel_rfl
theorem sz54 : sizeT Tryz.prog 54 = some 4 := by kernel_rfl
theorem ag54 : isAggT Tryz.prog 54 = some true := by kernel_rfl
theorem zt54 : zeroT Tryz.prog 54 = some (.agg [(.int .i64 0), (.int .i64 0), (.bool false), .sl0]) := by kernel_rfl
theorem fa54_0 (a b : Nat) : fieldAddrV Tryz.prog 54 (.ptr a b) 0 = some (.ptr a (b + 0)) := by
 rw [show fieldAddrV Tryz.prog 54 (.ptr a b) 0 = some (.ptr a (b + 0)) by kernel_rfl]
theorem fa54_1 (a b : Nat) : fieldAddrV Tryz.prog 54 (.ptr a b) 1 = some (.ptr a (b + 1)) := by
 rw [show fieldAddrV Tryz.prog 54 (.ptr a b) 1 = some (.ptr a (b + 1)) by kernel_rfl]
theorem fa54_2 (a b : Nat) : fieldAddrV Tryz.prog 54 (.ptr a b) 2 = some (.ptr a (b + 2)) := by
 rw [show fieldAddrV Tryz.prog 54 (.ptr a b) 2 = some (.ptr a (b + 2)) by kernel_rfl]
theorem fa54_3 (a b : Nat) : fieldAddrV Tryz.prog 54 (.ptr a b) 3 = some (.ptr a (b + 3)) := by
 rw [show fieldAddrV Tryz.prog 54 (.ptr a b) 3 = some (.ptr a (b + 3)) by kernel_rfl]
theorem bv54 (ps : List (Nat × V)) : buildV Tryz.prog 54 ps = (fillV (nth [(0, 1), (1, 1), (2, 1), (3, 1)]) ((.agg [(.int .i64 0), (.int .i64 0), (.bool false), .sl0]) : V).cells ps).map .agg := by
 rw [show buildV Tryz.prog 54 ps = (fillV (nth [(0, 1), (1, 1), (2, 1), (3, 1)]) ((.agg [(.int .i64 0), (.int .i64 0), (.bool false), .sl0]) : V).cells ps).map .agg by kernel_rfl]
theorem ag77 : isAggT Tryz.prog 77 = some false := by kernel_rfl
theorem fa85_0 (a b : Nat) : fieldAddrV Tryz.prog 85 (.ptr a b) 0 = some (.ptr a (b + 0)) := by
 rw [show fieldAddrV Tryz.prog 85 (.ptr a b) 0 = some (.ptr a (b + 0)) by kernel_rfl]
theorem fa85_1 (a b : Nat) : fieldAddrV Tryz.prog 85 (.ptr a b) 1 = some (.ptr a (b + 1)) := by
 rw [show fieldAddrV Tryz.prog 85 (.ptr a b) 1 = some (.ptr a (b + 1)) by kernel_rfl]
theorem fa85_2 (a b : Nat) : fieldAddrV Tryz.prog 85 (.ptr a b) 2 = some (.ptr a (b + 2)) := by
 rw [show fieldAddrV Tryz.prog 85 (.ptr a b) 2 = some (.ptr a (b + 2)) by kernel_rfl]
theorem fa85_3 (a b : Nat) : fieldAddrV Tryz.prog 85 (.ptr a b) 3 = some (.ptr a (b + 3)) := by
 rw [show fieldAddrV Tryz.prog 85 (.ptr a b) 3 = some (.ptr a (b + 3)) by kernel_rfl]
theorem bv85 (ps : List (Nat × V)) : buildV Tryz.prog 85 ps = (fillV (nth [(0, 1), (1, 1), (2, 1), (3, 1), (4, 1), (5, 1)]) ((.agg [.ptr0, .ptr0, .ptr0, .ptr0, .sl0, (.int .u64 0)]) : V).cells ps).map .agg := by
 rw [show buildV Tryz.prog 85 ps = (fillV (nth [(0, 1), (1, 1), (2, 1), (3, 1), (4, 1), (5, 1)]) ((.agg [.ptr0, .ptr0, .ptr0, .ptr0, .sl0, (.int .u64 0)]) : V).cells ps).map .agg by kernel_rfl]
theorem ag86 : isAggT Tryz.prog 86 = some false := by kernel_rfl
theorem sz88 : sizeT Tryz.prog 88 = some 3 := by kernel_rfl
theorem fa88_0 (a b : Nat) : fieldAddrV Tryz.prog 88 (.ptr a b) 0 = some (.ptr a (b + 0)) := by
 rw [show fieldAddrV Tryz.prog 88 (.ptr a b) 0 = some (.ptr a (b + 0)) by kernel_rfl]
theorem fa88_1 (a b : Nat) : fieldAddrV Tryz.prog 88 (.ptr a b) 1 = some (.ptr a (b + 1)) := by
 rw [show fieldAddrV Tryz.prog 88 (.ptr a b) 1 = some (.ptr a (b + 1)) by kernel_rfl]
theorem fa88_2 (a b : Nat) : fieldAddrV Tryz.prog 88 (.ptr a b) 2 = some (.ptr a (b + 2)) := by
 rw [show fieldAddrV Tryz.prog 88 (.ptr a b) 2 = some (.ptr a (b + 2)) by kernel_rfl]
theorem bv88 (ps : List (Nat × V)) : buildV Tryz.prog 88 ps = (fillV (nth [(0, 1), (1, 1), (2, 1)]) ((.agg [.ptr0, .map0, (.bool false)]) : V).cells ps).map .agg := by
 rw [show buildV Tryz.prog 88 ps = (fillV (nth [(0, 1), (1, 1), (2, 1)]) ((.agg [.ptr0, .map0, (.bool false)]) : V).cells ps).map .agg by kernel_rfl]
theorem sz98 : sizeT Tryz.prog 98 = some 1 := by kernel_rfl
theorem ag98 : isAggT Tryz.prog 98 = some false := by kernel_rfl
theorem fa111_0 (a b : Nat) : fieldAddrV Tryz.prog 111 (.ptr a b) 0 = some (.ptr a (b + 0)) := by
 rw [show fieldAddrV Tryz.prog 111 (.ptr a b) 0 = some (.ptr a (b + 0)) by kernel_rfl]
theorem fa111_1 (a b : Nat) : fieldAddrV Tryz.prog 111 (.ptr a b) 1 = some (.ptr a (b + 1)) := by
 rw [show fieldAddrV Tryz.prog 111 (.ptr a b) 1 = some (.ptr a (b + 1)) by kernel_rfl]
theorem fa111_2 (a b : Nat) : fieldAddrV Tryz.prog 111 (.ptr a b) 2 = some (.ptr a (b + 2)) := by
 rw [show fieldAddrV Tryz.prog 111 (.ptr a b) 2 = some (.ptr a (b + 2)) by kernel_rfl]
theorem fa111_3 (a b : Nat) : fieldAddrV Tryz.prog 111 (.ptr a b) 3 = some (.ptr a (b + 3)) := by
 rw [show fieldAddrV Tryz.prog 111 (.ptr a b) 3 = some (.ptr a (b + 3)) by kernel_rfl]
theorem fa111_4 (a b : Nat) : fieldAddrV Tryz.prog 111 (.ptr a b) 4 = some (.ptr a (b + 4)) := by
 rw [show fieldAddrV Tryz.prog 111 (.ptr a b) 4 = some (.ptr a (b + 4)) by kernel_rfl]
theorem fa111_5 (a b : Nat) : fieldAddrV Tryz.prog 111 (.ptr a b) 5 = some (.ptr a (b + 5)) := by
 rw [show fieldAddrV Tryz.prog 111 (.ptr a b) 5 = some (.ptr a (b + 5)) by kernel_rfl]
theorem bv111 (ps : List (Nat × V)) : buildV Tryz.prog 111 ps = (fillV (nth [(0, 1), (1, 1), (2, 1), (3, 1), (4, 1), (5, 1)]) ((.agg [.ptr0, (.int .u64 0), .sl0, .sl0, (.int .i64 0), (.int .u64 0)]) : V).cells ps).map .agg := by
 rw [show buildV Tryz.prog 111 ps = (fillV (nth [(0, 1), (1, 1), (2, 1), (3, 1), (4, 1), (5, 1)]) ((.agg [.ptr0, (.int .u64 0), .sl0, .sl0, (.int .i64 0), (.int .u64 0)]) : V).cells ps).map .agg by kernel_rfl]
theorem ag119 : isAggT Tryz.prog 119 = some false := by kernel_rfl
theorem ia119 (a b l : Nat) (c : Cap) (k : IntKind) (n : Int) : indexAddrV Tryz.prog 119 (.sl a b l c) (.int k n) = cond (decide (0 ≤ n) && decide (n < (l : Int))) (some (.ptr a (b + n.toNat * 1))) none := by kernel_rfl
theorem sz120 : sizeT Tryz.prog 120 = some 1 := by kernel_rfl
theorem ag120 : isAggT Tryz.prog 120 = some false := by kernel_rfl
theorem sz121 : sizeT Tryz.prog 121 = some 1 := by kernel_rfl
theorem fa123_0 (a b : Nat) : fieldAddrV Tryz.prog 123 (.ptr a b) 0 = some (.ptr a (b + 0)) := by
 rw [show fieldAddrV Tryz.prog 123 (.ptr a b) 0 = some (.ptr a (b + 0)) by kernel_rfl]
theorem fa123_1 (a b : Nat) : fieldAddrV Tryz.prog 123 (.ptr a b) 1 = some (.ptr a (b + 1)) := by
 rw [show fieldAddrV Tryz.prog 123 (.ptr a b) 1 = some (.ptr a (b + 1)) by kernel_rfl]
theorem fa123_2 (a b : Nat) : fieldAddrV Tryz.prog 123 (.ptr a b) 2 = some (.ptr a (b + 2)) := by
 rw [show fieldAddrV Tryz.prog 123 (.ptr a b) 2 = some (.ptr a (b + 2)) by kernel_rfl]
theorem fa123_3 (a b : Nat) : fieldAddrV Tryz.prog 123 (.ptr a b) 3 = some (.ptr a (b + 3)) := by
 rw [show fieldAddrV Tryz.prog 123 (.ptr a b) 3 = some (.ptr a (b + 3)) by kernel_rfl]
theorem fa123_4 (a b : Nat) : fieldAddrV Tryz.prog 123 (.ptr a b) 4 = some (.ptr a (b + 4)) := by
 rw [show fieldAddrV Tryz.prog 123 (.ptr a b) 4 = some (.ptr a (b + 4)) by kernel_rfl]
theorem fa123_5 (a b : Nat) : fieldAddrV Tryz.prog 123 (.ptr a b) 5 = some (.ptr a (b + 5)) := by
 rw [show fieldAddrV Tryz.prog 123 (.ptr a b) 5 = some (.ptr a (b + 5)) by kernel_rfl]
theorem fa123_6 (a b : Nat) : fieldAddrV Tryz.prog 123 (.ptr a b) 6 = some (.ptr a (b + 6)) := by
 rw [show fieldAddrV Tryz.prog 123 (.ptr a b) 6 = some (.ptr a (b + 6)) by kernel_rfl]
theorem fa123_7 (a b : Nat) : fieldAddrV Tryz.prog 123 (.ptr a b) 7 = some (.ptr a (b + 7)) := by
 rw [show fieldAddrV Tryz.prog 123 (.ptr a b) 7 = some (.ptr a (b + 7)) by kernel_rfl]
theorem fa123_8 (a b : Nat) : fieldAddrV Tryz.prog 123 (.ptr a b) 8 = some (.ptr a (b + 8)) := by
 rw [show fieldAddrV Tryz.prog 123 (.ptr a b) 8 = some (.ptr a (b + 8)) by kernel_rfl]
theorem fa123_9 (a b : Nat) : fieldAddrV Tryz.prog 123 (.ptr a b) 9 = some (.ptr a (b + 9)) := by
 rw [show fieldAddrV Tryz.prog 123 (.ptr a b) 9 = some (.ptr a (b + 9)) by kernel_rfl]
theorem fa123_10 (a b : Nat) : fieldAddrV Tryz.prog 123 (.ptr a b) 10 = some (.ptr a (b + 10)) := by
 rw [show fieldAddrV Tryz.prog 123 (.ptr a b) 10 = some (.ptr a (b + 10)) by kernel_rfl]
theorem fa123_11 (a b : Nat) : fieldAddrV Tryz.prog 123 (.ptr a b) 11 = some (.ptr a (b + 11)) := by
 rw [show fieldAddrV Tryz.prog 123 (.ptr a b) 11 = some (.ptr a (b + 11)) by kernel_rfl]
theorem bv123 (ps : List (Nat × V)) : buildV Tryz.prog 123 ps = (fillV (nth [(0, 1), (1, 1), (2, 1), (3, 1), (4, 1), (5, 1), (6, 1), (7, 1), (8, 1), (9, 1), (10, 1), (11, 1)]) ((.agg [(.int .i64 0), .sl0, .sl0, .map0, .sl0, (.int .i64 0), .sl0, (.int .i64 0), (.int .i64 0), (.bool false), .ptr0, .sl0]) : V).cells ps).map .agg := by
 rw [show buildV Tryz.prog 123 ps = (fillV (nth [(0, 1), (1, 1), (2, 1), (3, 1), (4, 1), (5, 1), (6, 1), (7, 1), (8, 1), (9, 1), (10, 1), (11, 1)]) ((.agg [(.int .i64 0), .sl0, .sl0, .map0, .sl0, (.int .i64 0), .sl0, (.int .i64 0), (.int .i64 0), (.bool false), .ptr0, .sl0]) : V).cells ps).map .agg by kernel_rfl]
theorem sz125 : sizeT Tryz.prog 125 = some 2 := by kernel_rfl
theorem ag125 : isAggT Tryz.prog 125 = some true := by kernel_rfl
theorem zt125 : zeroT Tryz.prog 125 = some (.agg [(.int .i64 0), .sl0]) := by kernel_rfl
theorem fa125_1 (a b : Nat) : fieldAddrV Tryz.prog 125 (.ptr a b) 1 = some (.ptr a (b + 1)) := by
 rw [show fieldAddrV Tryz.prog 125 (.ptr a b) 1 = some (.ptr a (b + 1)) by kernel_rfl]
theorem bv125 (ps : List (Nat × V)) : buildV Tryz.prog 125 ps = (fillV (nth [(0, 1), (1, 1)]) ((.agg [(.int .i64 0), .sl0]) : V).cells ps).map .agg := by
 rw [show buildV Tryz.prog 125 ps = (fillV (nth [(0, 1), (1, 1)]) ((.agg [(.int .i64 0), .sl0]) : V).cells ps).map .agg by kernel_rfl]
theorem ag136 : isAggT Tryz.prog 136 = some false := by kernel_rfl
theorem ag137 : isAggT Tryz.prog 137 = some false := by kernel_rfl
theorem ia137 (a b l : Nat) (c : Cap) (k : IntKind) (n : Int) : indexAddrV Tryz.prog 137 (.sl a b l c) (.int k n) = cond (decide (0 ≤ n) && decide (n < (l : Int))) (some (.ptr a (b + n.toNat * 5))) none := by kernel_rfl
theorem ag138 : isAggT Tryz.prog 138 = some false := by kernel_rfl
theorem fa140_0 (a b : Nat) : fieldAddrV Tryz.prog 140 (.ptr a b) 0 = some (.ptr a (b + 0)) := by
 rw [show fieldAddrV Tryz.prog 140 (.ptr a b) 0 = some (.ptr a (b + 0)) by kernel_rfl]
theorem fa140_1 (a b : Nat) : fieldAddrV Tryz.prog 140 (.ptr a b) 1 = some (.ptr a (b + 1)) := by
 rw [show fieldAddrV Tryz.prog 140 (.ptr a b) 1 = some (.ptr a (b + 1)) by kernel_rfl]
theorem fa140_2 (a b : Nat) : fieldAddrV Tryz.prog 140 (.ptr a b) 2 = some (.ptr a (b + 2)) := by
 rw [show fieldAddrV Tryz.prog 140 (.ptr a b) 2 = some (.ptr a (b + 2)) by kernel_rfl]
theorem fa140_3 (a b : Nat) : fieldAddrV Tryz.prog 140 (.ptr a b) 3 = some (.ptr a (b + 3)) := by
 rw [show fieldAddrV Tryz.prog 140 (.ptr a b) 3 = some (.ptr a (b + 3)) by kernel_rfl]
theorem fa140_4 (a b : Nat) : fieldAddrV Tryz.prog 140 (.ptr a b) 4 = some (.ptr a (b + 4)) := by
 rw [show fieldAddrV Tryz.prog 140 (.ptr a b) 4 = some (.ptr a (b + 4)) by kernel_rfl]
theorem fa140_5 (a b : Nat) : fieldAddrV Tryz.prog 140 (.ptr a b) 5 = some (.ptr a (b + 5)) := by
 rw [show fieldAddrV Tryz.prog 140 (.ptr a b) 5 = some (.ptr a (b + 5)) by kernel_rfl]
theorem bv140 (ps : List (Nat × V)) : buildV Tryz.prog 140 ps = (fillV (nth [(0, 1), (1, 1), (2, 1), (3, 1), (4, 1), (5, 1)]) ((.agg [.ptr0, .ptr0, .sl0, .map0, .map0, (.int .i64 0)]) : V).cells ps).map .agg := by
 rw [show buildV Tryz.prog 140 ps = (fillV (nth [(0, 1), (1, 1), (2, 1), (3, 1), (4, 1), (5, 1)]) ((.agg [.ptr0, .ptr0, .sl0, .map0, .map0, (.int .i64 0)]) : V).cells ps).map .agg by kernel_rfl]
theorem sz143 : sizeT Tryz.prog 143 = some 2 := by kernel_rfl
theorem ag143 : isAggT Tryz.prog 143 = some true := by kernel_rfl
theorem zt143 : zeroT Tryz.prog 143 = some (.agg [(.int .u64 0), (.bool false)]) := by kernel_rfl
theorem fa143_0 (a b : Nat) : fieldAddrV Tryz.prog 143 (.ptr a b) 0 = some (.ptr a (b + 0)) := by
 rw [show fieldAddrV Tryz.prog 143 (.ptr a b) 0 = some (.ptr a (b + 0)) by kernel_rfl]
theorem fv143_0 (cs : List V) : fieldV Tryz.prog 143 (.agg cs) 0 = nth cs 0 := by kernel_rfl
theorem fa143_1 (a b : Nat) : fieldAddrV Tryz.prog 143 (.ptr a b) 1 = some (.ptr a (b + 1)) := by
 rw [show fieldAddrV Tryz.prog 143 (.ptr a b) 1 = some (.ptr a (b + 1)) by kernel_rfl]
theorem bv143 (ps : List (Nat × V)) : buildV Tryz.prog 143 ps = (fillV (nth [(0, 1), (1, 1)]) ((.agg [(.int .u64 0), (.bool false)]) : V).cells ps).map .agg := by
 rw [show buildV Tryz.prog 143 ps = (fillV (nth [(0, 1), (1, 1)]) ((.agg [(.int .u64 0), (.bool false)]) : V).cells ps).map .agg by kernel_rfl]
theorem sz146 : sizeT Tryz.prog 146 = some 1 := by kernel_rfl
theorem ag146 : isAggT Tryz.prog 146 = some true := by kernel_rfl
theorem zt146 : zeroT Tryz.prog 146 = some (.agg [.sl0]) := by kernel_rfl
theorem fa146_0 (a b : Nat) : fieldAddrV Tryz.prog 146 (.ptr a b) 0 = some (.ptr a (b + 0)) := by
 rw [show fieldAddrV Tryz.prog 146 (.ptr a b) 0 = some (.ptr a (b + 0)) by kernel_rfl]
theorem bv146 (ps : List (Nat × V)) : buildV Tryz.prog 146 ps = (fillV (nth [(0, 1)]) ((.agg [.sl0]) : V).cells ps).map .agg := by
 rw [show buildV Tryz.prog 146 ps = (fillV (nth [(0, 1)]) ((.agg [.sl0]) : V).cells ps).map .agg by kernel_rfl]
theorem ia147 (a b : Nat) (k : IntKind) (n : Int) : indexAddrV Tryz.prog 147 (.ptr a b) (.int k n) = cond (decide (0 ≤ n) && decide (n < (512 : Nat))) (some (.ptr a (b + n.toNat * 1))) none := by kernel_rfl
theorem sz151 : sizeT Tryz.prog 151 = some 512 := by kernel_rfl
theorem ag151 : isAggT Tryz.prog 151 = some true := by kernel_rfl
theorem sz167 : sizeT Tryz.prog 167 = some 5 := by kernel_rfl
theorem ag167 : isAggT Tryz.prog 167 = some true := by kernel_rfl
theorem zt167 : zeroT Tryz.prog 167 = some (.agg [(.int .i64 0), .sl0, (.int .i64 0), (.bool false), (.bool false)]) := by kernel_rfl
theorem fa167_0 (a b : Nat) : fieldAddrV Tryz.prog 167 (.ptr a b) 0 = some (.ptr a (b + 0)) := by
 rw [show fieldAddrV Tryz.prog 167 (.ptr a b) 0 = some (.ptr a (b + 0)) by kernel_rfl]
theorem fa167_1 (a b : Nat) : fieldAddrV Tryz.prog 167 (.ptr a b) 1 = some (.ptr a (b + 1)) := by
 rw [show fieldAddrV Tryz.prog 167 (.ptr a b) 1 = some (.ptr a (b + 1)) by kernel_rfl]
theorem fa167_2 (a b : Nat) : fieldAddrV Tryz.prog 167 (.ptr a b) 2 = some (.ptr a (b + 2)) := by
 rw [show fieldAddrV Tryz.prog 167 (.ptr a b) 2 = some (.ptr a (b + 2)) by kernel_rfl]
theorem fa167_3 (a b : Nat) : fieldAddrV Tryz.prog 167 (.ptr a b) 3 = some (.ptr a (b + 3)) := by
 rw [show fieldAddrV Tryz.prog 167 (.ptr a b) 3 = some (.ptr a (b + 3)) by kernel_rfl]
theorem fa167_4 (a b : Nat) : fieldAddrV Tryz.prog 167 (.ptr a b) 4 = some (.ptr a (b + 4)) := by
 rw [show fieldAddrV Tryz.prog 167 (.ptr a b) 4 = some (.ptr a (b + 4)) by kernel_rfl]
theorem bv167 (ps : List (Nat × V)) : buildV Tryz.prog 167 ps = (fillV (nth [(0, 1), (1, 1), (2, 1), (3, 1), (4, 1)]) ((.agg [(.int .i64 0), .sl0, (.int .i64 0), (.bool false), (.bool false)]) : V).cells ps).map .agg := by
 rw [show buildV Tryz.prog 167 ps = (fillV (nth [(0, 1), (1, 1), (2, 1), (3, 1), (4, 1)]) ((.agg [(.int .i64 0), .sl0, (.int .i64 0), (.bool false), (.bool false)]) : V).cells ps).map .agg by kernel_rfl]
theorem fa181_0 (a b : Nat) : fieldAddrV Tryz.prog 181 (.ptr a b) 0 = some (.ptr a (b + 0)) := by
 rw [show fieldAddrV Tryz.prog 181 (.ptr a b) 0 = some (.ptr a (b + 0)) by kernel_rfl]
theorem bv181 (ps : List (Nat × V)) : buildV Tryz.prog 181 ps = (fillV (nth [(0, 1), (1, 1)]) ((.agg [.map0, .map0]) : V).cells ps).map .agg := by
 rw [show buildV Tryz.prog 181 ps = (fillV (nth [(0, 1), (1, 1)]) ((.agg [.map0, .map0]) : V).cells ps).map .agg by kernel_rfl]
theorem fa202_0 (a b : Nat) : fieldAddrV Tryz.prog 202 (.ptr a b) 0 = some (.ptr a (b + 0)) := by
 rw [show fieldAddrV Tryz.prog 202 (.ptr a b) 0 = some (.ptr a (b + 0)) by kernel_rfl]
theorem bv202 (ps : List (Nat × V)) : buildV Tryz.prog 202 ps = (fillV (nth [(0, 1)]) ((.agg [.sl0]) : V).cells ps).map .agg := by
 rw [show buildV Tryz.prog 202 ps = (fillV (nth [(0, 1)]) ((.agg [.sl0]) : V).cells ps).map .agg by kernel_rfl]
theorem bv205 (ps : List (Nat × V)) : buildV Tryz.prog 205 ps = (fillV (fun i => some (i * 1, 1)) ((.agg [(.int .u64 0), (.int .u64 0), (.int .u64 0)]) : V).cells ps).map .agg := by
 rw [show buildV Tryz.prog 205 ps = (fillV (fun i => some (i * 1, 1)) ((.agg [(.int .u64 0), (.int .u64 0), (.int .u64 0)]) : V).cells ps).map .agg by kernel_rfl]
theorem sz219 : sizeT Tryz.prog 219 = some 1 := by kernel_rfl
theorem ag219 : isAggT Tryz.prog 219 = some false := by kernel_rfl
theorem bv220 (ps : List (Nat × V)) : buildV Tryz.prog 220 ps = (fillV (fun i => some (i * 1, 1)) ((.agg [.ptr0, .ptr0, .ptr0]) : V).cells ps).map .agg := by
 rw [show buildV Tryz.prog 220 ps = (fillV (fun i => some (i * 1, 1)) ((.agg [.ptr0, .ptr0, .ptr0]) : V).cells ps).map .agg by kernel_rfl]
end Go.Proofs.YtconhghphklfjaaGreat.Am
namespace Go.Proofs.YtconhghphklfjaaGreat.Am
open Go
def slR (v : V) (a b : Nat) : V := match v with
 | .sl id off _ (.exact c) => .sl id (cond (Nat.beq c a) off (off + a * 1)) (b - a) (.exact (c - a))
 | .sl id off _ (.rest _ alt) => .sl id (off + a * 1) (b - a) (.rest 1 (cond (Nat.beq a 0) alt (cond (Nat.blt a b) (off + a * 1) off)))
 | v => v
theorem slice_view {h : H} {v : V} {l : List Nat} {a b : Nat} (hv : View h v l) (hab : a ≤ b) (hb : b ≤ l.length) :
  sliceV Tryz.prog h 32 v (some a) (some b) none = some (slR v a b) ∧ View h (slR v a b) ((l.take b).drop a) ∧ ∀ i ∈ rowIds (slR v a b), i ∈ rowIds v := by
 have hlt : ∀ x ∈ (l.take b).drop a, x < 256 := fun x hx => hv.1 x (List.mem_of_mem_take (List.mem_of_mem_drop hx))
 have hlen : ((l.take b).drop a).length = b - a := by simp; omega
 obtain ⟨hl, hv'⟩ := hv
 rcases hv' with ⟨rfl | ⟨ea, rfl⟩, rfl⟩ | ⟨id, off, cap, n, cs, st, rfl, hg, h1, h2, h3, h4⟩
 ·simp only [List.length_nil] at hb
  have : b = 0 := by omega
  have : a = 0 := by omega
  subst_vars
  refine ⟨?_, ⟨by simp, .inl ⟨.inl rfl, by simp⟩⟩, fun i hi => hi⟩
  simp only [sliceV, Tryz.underlying32, sizeT_u8]
  rfl
 ·simp only [List.length_nil] at hb
  have : b = 0 := by omega
  have : a = 0 := by omega
  subst_vars
  refine ⟨?_, ⟨by simp, .inl ⟨.inr ⟨ea, rfl⟩, by simp⟩⟩, fun i hi => hi⟩
  simp only [sliceV, Tryz.underlying32, sizeT_u8]
  rfl
 ·have hread : ∀ o, o = off + a ∨ b - a = 0 → (cs.drop o).take (b - a) = ofBytes ((l.take b).drop a) := by
   intro o ho
   rcases Nat.eq_zero_or_pos (b - a) with hz | hz
   ·rw [hz, List.take_zero]
    have : (l.take b).drop a = [] := List.eq_nil_of_length_eq_zero (by omega)
    rw [this]; rfl
   ·have ho' : o = off + a := by rcases ho with ho | ho; exact ho; omega
    subst ho'
    have e1 : ofBytes ((l.take b).drop a) = ((ofBytes l).take b).drop a := by simp [ofBytes, List.map_drop, List.map_take]
    rw [e1, ← h3, List.take_take, Nat.min_eq_left hb, List.drop_take, List.drop_drop]
  cases cap with
  | exact c =>
   have hc : l.length ≤ c := h4
   refine ⟨?_, ⟨hlt, .inr ⟨id, _, _, n, cs, st, by rw [hlen]; rfl, hg, h1, ?_, ?_, ?_⟩⟩, fun i hi => by simpa [rowIds, slR] using hi⟩
   ·simp only [sliceV, slR, Tryz.underlying32, sizeT_u8, Option.getD_some]
    rw [show (Nat.ble a b && Nat.ble b c) = true by rw [Bool.and_eq_true, ble_iff, ble_iff]; omega, cond_true]
   ·rw [hlen]
    by_cases hca : c = a
    ·rw [beqT hca, cond_true]; omega
    ·rw [beqF hca, cond_false]; omega
   ·rw [hlen]
    by_cases hca : c = a
    ·rw [beqT hca, cond_true]; exact hread off (.inr (by omega))
    ·rw [beqF hca, cond_false, Nat.mul_one]; exact hread _ (.inl rfl)
   ·show _ ≤ c - a
    rw [hlen]; omega
  | rest e alt =>
   have he : e = 1 := h4
   subst he
   refine ⟨?_, ⟨hlt, .inr ⟨id, _, _, n, cs, st, by rw [hlen]; rfl, hg, h1, by rw [hlen]; omega, by rw [hlen, Nat.mul_one]; exact hread _ (.inl rfl), rfl⟩⟩, fun i hi => by simpa [rowIds, slR] using hi⟩
   simp only [sliceV, slR, Tryz.underlying32, sizeT_u8, Option.getD_some, Nat.beq_refl]
   rw [show (true && Nat.ble 1 1) = true from rfl, cond_true]
   rw [show (Nat.ble a b && (Nat.ble b l.length || Nat.ble b (extent h id off 1))) = true by rw [Bool.and_eq_true, Bool.or_eq_true, ble_iff, ble_iff]; exact ⟨hab, .inl hb⟩, cond_true]
theorem slice_from {h : H} {v : V} {l : List Nat} {a : Nat} (hv : View h v l) (ha : a ≤ l.length) :
  sliceV Tryz.prog h 32 v (some a) none none = some (slR v a l.length) ∧ View h (slR v a l.length) (l.drop a) ∧ ∀ i ∈ rowIds (slR v a l.length), i ∈ rowIds v := by
 obtain ⟨h1, h2, h3⟩ := slice_view hv ha (Nat.le_refl _)
 refine ⟨?_, by simpa using h2, h3⟩
 obtain ⟨_, hv'⟩ := hv
 rcases hv' with ⟨rfl | ⟨ea, rfl⟩, rfl⟩ | ⟨id, off, cap, n, cs, st, rfl, hg, g1, g2, g3, g4⟩
 ·simpa [sliceV, Tryz.underlying32, sizeT_u8] using h1
 ·simpa [sliceV, Tryz.underlying32, sizeT_u8] using h1
 ·rw [← h1]
  simp only [sliceV, Tryz.underlying32, sizeT_u8, Option.getD_none, Option.getD_some]
theorem slice_to {h : H} {v : V} {l : List Nat} {b : Nat} (hv : View h v l) (hb : b ≤ l.length) :
  sliceV Tryz.prog h 32 v none (some b) none = some (slR v 0 b) ∧ View h (slR v 0 b) (l.take b) ∧ ∀ i ∈ rowIds (slR v 0 b), i ∈ rowIds v := by
 obtain ⟨h1, h2, h3⟩ := slice_view hv (Nat.zero_le b) hb
 refine ⟨?_, by simpa using h2, h3⟩
 obtain ⟨_, hv'⟩ := hv
 rcases hv' with ⟨rfl | ⟨ea, rfl⟩, rfl⟩ | ⟨id, off, cap, n, cs, st, rfl, hg, g1, g2, g3, g4⟩
 ·simpa [sliceV, Tryz.underlying32, sizeT_u8] using h1
 ·simpa [sliceV, Tryz.underlying32, sizeT_u8] using h1
 ·rw [← h1]
  simp only [sliceV, Tryz.underlying32, sizeT_u8, Option.getD_none, Option.getD_some]
theorem index_view {h : H} {v : V} {l : List Nat} {i b : Nat} (hv : View h v l) (hi : l[i]? = some b) :
  ∃ id off, indexAddrV Tryz.prog 32 v (.int .i64 (i : Int)) = some (.ptr id off) ∧ loadV Tryz.prog h 5 (.ptr id off) = some (.int .u8 (b : Int)) := by
 obtain ⟨hl, hv'⟩ := hv
 have hil : i < l.length := (List.getElem?_eq_some_iff.1 hi).1
 rcases hv' with ⟨_, rfl⟩ | ⟨id, off, cap, n, cs, st, rfl, hg, h1, h2, h3, h4⟩
 ·simp at hi
 ·refine ⟨id, off + i * 1, ?_, ?_⟩
  ·simp only [indexAddrV, Tryz.underlying32, sizeT_u8, Int.toNat_natCast]
   rw [show (decide ((0 : Int) ≤ (i : Int)) && decide ((i : Int) < (l.length : Int))) = true by simp; omega, cond_true]
  ·simp only [loadV, aggT_u8, rd1, hg, nth_eq, Nat.mul_one]
   have e := congrArg (fun q => q[i]?) h3
   simp only [List.getElem?_take, List.getElem?_drop, if_pos hil] at e
   rw [e]
   simp [ofBytes, hi]
theorem View.cells {h : H} {v : V} {l : List Nat} (hv : View h v l) : v.cells = [v] ∧ Am.storable v = true := by
 obtain ⟨_, hv⟩ := hv
 rcases hv with ⟨rfl | ⟨ea, rfl⟩, _⟩ | ⟨id, off, cap, n, cs, st, rfl, _⟩ <;> exact ⟨rfl, rfl⟩
def plain1 : V → Bool
 | .bool _ | .int _ _ | .str _ | .ptr0 | .ptr _ _ | .sl0 | .sl _ _ _ _ | .map0 | .map _ | .fn0 | .if0 | .flt _ _ => true
 | .fn (.func _) [] [] => true
 | _ => false
def plainV : V → Bool
 | .agg l => l.all plain1
 | .tup l => l.all plain1
 | .iface _ v => plain1 v
 | v => plain1 v
theorem fkBeq_self (k : FloatKind) : fkBeq k k = true := by cases k <;> rfl
theorem natsBeq_self : ∀ l : List Nat, natsBeq l l = true := fun l => by rw [natsBeq_iff]; simp
theorem beq1 (v : V) (h : plain1 v = true) : v.beq v = true := by
 cases v <;> simp [plain1, V.beq, ikBeq_self, intBeq_self, capBeq_self, natsBeq_self, fkBeq_self] at h ⊢
 rename_i f a b
 cases f <;> cases a <;> cases b <;> simp [plain1, V.beq, V.beqL] at h ⊢
theorem beqL1 : ∀ (l : List V), l.all plain1 = true → V.beqL l l = true := by
 intro l
 induction l with
 | nil => intro _; rfl
 | cons v l ih =>
  intro h
  simp only [List.all_cons, Bool.and_eq_true] at h
  simp only [V.beqL, beq1 v h.1, cond_true, ih h.2]
theorem beqV (v : V) (h : plainV v = true) : v.beq v = true := by
 cases v with
 | agg l => exact beqL1 l h
 | tup l => exact beqL1 l h
 | iface t v => simp only [V.beq, Nat.beq_refl, Bool.true_and]; exact beq1 v h
 | _ => exact beq1 _ h
section
variable {P : Program} {h h' : H} {S : List Assn} {X : Assn} {v w : V} {l m : List Nat}
theorem sat_append (s : Sat h (bufA v l :: X :: S)) (hX : Ent X (rdB w m)) (hsz : l.length + m.length ≤ 140737488355328) :
  ∃ v' h', appendV Tryz.prog h #[32, 32] v w = some (v', h') ∧ Sat h' (bufA v' (l ++ m) :: X :: S) := by
 obtain ⟨v', h', e1, e2, e3, e4⟩ := append_bytes s.wf (s.buf (k := 0) rfl) (s.viewX (k := 1) rfl hX) hsz
 exact ⟨v', h', e1, s.turnBuf e3 e2 e4⟩
theorem sat_make0 (s : Sat h S) {c : Nat} (hc : c < 1073741824) :
  ∃ v h', makeSliceV Tryz.prog h 32 (.int .i64 0) (.int .i64 (c : Int)) = some (v, h') ∧ Sat h' (bufA v [] :: S) := by
 obtain ⟨v, h', e1, e2, e3, e4⟩ := makeSlice_bytes s.wf hc
 exact ⟨v, h', e1, s.newBuf e3 e2 e4⟩
theorem repeat0 : ∀ n : Nat, repeatL [V.int .u8 0] n = ofBytes (List.replicate n 0) := by
 intro n
 induction n with
 | zero => rfl
 | succ n ih => simp only [repeatL, ih, ofBytes, List.replicate_succ, List.map_cons]; rfl
theorem sat_zeros (s : Sat h S) {c : Nat} (hc : c < 1073741824) :
  ∃ v h', makeSliceV Tryz.prog h 32 (.int .i64 (c : Int)) (.int .i64 (c : Int)) = some (v, h') ∧ Sat h' (bufA v (List.replicate c 0) :: S) := by
 obtain ⟨i, hi, i1, i2⟩ := info_u8
 have hb : Buf (h.new (.cells c (repeatL [.int .u8 0] c) false)) (.sl h.next 0 c (.exact c)) (List.replicate c 0) := by
  refine ⟨fun b hb => by have := List.eq_of_mem_replicate hb; omega, .inr (.inl ⟨h.next, [], c, by simp, ?_, by simp⟩)⟩
  rw [get_new, if_pos rfl, repeat0, List.append_nil]
 refine ⟨.sl h.next 0 c (.exact c), h.new (.cells c (repeatL [.int .u8 0] c) false), ?_, s.newBuf (Keep.ofNew s.wf _) hb fun i hi => by simp [rowIds] at hi; omega⟩
 simp only [makeSliceV, Tryz.underlying32, hi, zeroT_u8, i1, i2, V.cells, List.length_cons, List.length_nil, Int.toNat_natCast, Nat.mul_one]
 rw [show (decide ((0 : Int) ≤ (c : Int)) && decide ((c : Int) ≤ (c : Int)) && decide ((c : Int) < 1073741824) && Nat.ble 1 4096 && Nat.beq (0 + 1) 1 && Nat.ble 1 1) = true by simp; omega, cond_true]
theorem sat_byte1 (s : Sat h S) {b : Nat} (hb : b < 256) : ∃ v h', buildSliceV Tryz.prog h 32 1 [(0, .int .u8 b)] = some (v, h') ∧ Sat h' (bufA v [b] :: S) := by
 obtain ⟨v, h', e1, e2, e3, e4⟩ := bs1_bytes s.wf hb
 exact ⟨v, h', e1, s.newBuf e3 e2 e4⟩
theorem Sat.openBuf (s : Sat h (bufA v l :: S)) (hl : 1 ≤ l.length) : ∃ id c cap rest, v = .sl id 0 l.length cap ∧ Sat h (pt id (.cells c (ofBytes l ++ rest) false) :: S) ∧ l.length + rest.length = c ∧
  (∀ (h' : H) (l' : List Nat), l'.length = l.length → (∀ b ∈ l', b < 256) → Sat h' (pt id (.cells c (ofBytes l' ++ rest) false) :: S) → Sat h' (bufA v l' :: S)) := by
 obtain ⟨m, r, h1, h2, h3, a, b, g1, g2, g3, ⟨gl, g4⟩, g5⟩ := s.ok
 rcases g4 with ⟨rfl, rfl⟩ | ⟨id, cs, c, rfl, hg, hc⟩ | ⟨id, rfl, hg, h5⟩
 ·simp at hl
 ·refine ⟨id, c, _, cs, rfl, ⟨s.wf, m, r, h1, h2, h3, a, b, g1, g2, g3, hg, g5⟩, hc, fun h' l' e1 e2 s' => s'.ent ?_⟩
  intro m' r' hm
  exact ⟨e2, .inr (.inl ⟨id, cs, c, by rw [e1], hm, by omega⟩)⟩
 ·refine ⟨id, l.length, _, [], rfl, ⟨s.wf, m, r, h1, h2, h3, a, b, g1, g2, g3, by rw [List.append_nil]; exact hg, g5⟩, by simp, fun h' l' e1 e2 s' => s'.ent ?_⟩
  intro m' r' hm
  have hm' : m' id = some (.cells l.length (ofBytes l' ++ []) false) := hm
  rw [List.append_nil] at hm'
  exact ⟨e2, .inr (.inr ⟨id, by rw [e1], by rw [e1]; exact hm', by omega⟩)⟩
theorem ofBytes_set (l : List Nat) (i b : Nat) : (ofBytes l).set i (.int .u8 (b : Int)) = ofBytes (l.set i b) := by simp [ofBytes, List.map_set]
theorem ofBytes_take (l : List Nat) (n : Nat) : (ofBytes l).take n = ofBytes (l.take n) := by simp [ofBytes, List.map_take]
theorem ofBytes_drop (l : List Nat) (n : Nat) : (ofBytes l).drop n = ofBytes (l.drop n) := by simp [ofBytes, List.map_drop]
theorem sat_setByte (s : Sat h (bufA v l :: S)) {i b : Nat} (hi : i < l.length) (hb : b < 256) :
  ∃ id off, indexAddrV Tryz.prog 32 v (.int .i64 (i : Int)) = some (.ptr id off) ∧ ∃ h', storeV Tryz.prog h 5 (.ptr id off) (.int .u8 (b : Int)) = some h' ∧ Sat h' (bufA v (l.set i b) :: S) := by
 have hv := (s.buf (k := 0) rfl).1
 obtain ⟨id, c, cap, rest, rfl, s1, hc, hf⟩ := s.openBuf (by omega)
 refine ⟨id, i, ?_, ?_⟩
 ·simp only [indexAddrV, Tryz.underlying32, sizeT_u8, Int.toNat_natCast]
  rw [show (decide ((0 : Int) ≤ (i : Int)) && decide ((i : Int) < (l.length : Int))) = true by simp; omega, cond_true]
  simp
 ·obtain ⟨h', e1, e2⟩ := s1.st1 (t := 5) (P := Tryz.prog) (v := .int .u8 (b : Int)) (k := 0) (off := i) rfl sizeT_u8 (by simp [ofBytes_len]; omega) (by omega) rfl rfl
  refine ⟨h', e1, hf h' (l.set i b) (by simp) (fun x hx => ?_) ?_⟩
  ·rcases List.mem_or_eq_of_mem_set hx with hx | rfl
   ·exact hv x hx
   ·exact hb
  ·have e3 : (ofBytes l ++ rest).set i (.int .u8 (b : Int)) = ofBytes (l.set i b) ++ rest := by
    rw [List.set_append_left _ _ (by rw [ofBytes_len]; exact hi), ofBytes_set]
   rw [e3] at e2
   exact e2
def splice (l : List Nat) (a : Nat) (m : List Nat) : List Nat := l.take a ++ (m ++ l.drop (a + m.length))
theorem splice_len {l m : List Nat} {a : Nat} (h : a + m.length ≤ l.length) : (splice l a m).length = l.length := by simp [splice]; omega
theorem splice_lt {l m : List Nat} {a : Nat} (hl : ∀ b ∈ l, b < 256) (hm : ∀ b ∈ m, b < 256) : ∀ b ∈ splice l a m, b < 256 := fun b hb => by
 simp only [splice, List.mem_append] at hb
 rcases hb with hb | hb | hb
 ·exact hl b (List.mem_of_mem_take hb)
 ·exact hm b hb
 ·exact hl b (List.mem_of_mem_drop hb)
theorem sat_copy (s : Sat h (bufA v l :: X :: S)) (hX : Ent X (rdB w m)) {a b : Nat} (hab : a < b) (hb : b ≤ l.length) (hm : 1 ≤ m.length) :
  ∃ h', copyV Tryz.prog h 32 (slR v a b) w = some (.int .i64 (min m.length (b - a) : Nat), h') ∧ Sat h' (bufA v (splice l a (m.take (b - a))) :: X :: S) := by
 have hw := s.viewX (k := 1) rfl hX
 have hwl := hw.1
 have hv := (s.buf (k := 0) rfl).1
 obtain ⟨id, c, cap, rest, rfl, s1, hc, hf⟩ := s.openBuf (by omega)
 have hsl : ∃ cap', slR (.sl id 0 l.length cap) a b = .sl id a (b - a) cap' := by
  cases cap with
  | exact c =>
   refine ⟨.exact (c - a), ?_⟩
   simp only [slR]
   by_cases hca : c = a
   ·obtain ⟨m', r, h1, h2, h3⟩ := s.at (k := 0) rfl
    rcases h3.2 with ⟨e, _⟩ | ⟨id', cs', c', e, hg, hc'⟩ | ⟨id', e, _⟩
    ·cases e
    ·injection e with _ _ _ e4; injection e4 with e4; omega
    ·injection e with _ _ _ e4; cases e4
   ·rw [beqF hca, cond_false, Nat.zero_add, Nat.mul_one]
  | rest e alt => exact ⟨_, by simp only [slR, Nat.zero_add, Nat.mul_one]; rfl⟩
 obtain ⟨cap', hsl⟩ := hsl
 rw [hsl]
 have hw' := hw
 rcases hw'.2 with ⟨_, rfl⟩ | ⟨id2, off2, cap2, n2, cs2, st2, rfl, hg2, q1, q2, q3, q4⟩
 ·simp at hm
 ·have hmin : Nat.min m.length (b - a) = (m.take (b - a)).length := by
   rw [List.length_take]
   exact Nat.min_comm _ _
  have hrd : rdN h id2 off2 (Nat.min m.length (b - a) * 1) = some (ofBytes (m.take (b - a))) := by
   have hv2 : View h (.sl id2 off2 (m.take (b - a)).length cap2) (m.take (b - a)) := by
    refine ⟨fun x hx => hwl x (List.mem_of_mem_take hx), .inr ⟨id2, off2, cap2, n2, cs2, st2, rfl, hg2, q1, ?_, ?_, ?_⟩⟩
    ·have : (m.take (b - a)).length ≤ m.length := by simp; omega
     omega
    ·rw [← ofBytes_take, ← q3, List.take_take, List.length_take]
    ·cases cap2 with
     | exact c2 =>
      simp only at q4 ⊢
      have : (m.take (b - a)).length ≤ m.length := by simp; omega
      omega
     | rest e2 a2 => exact q4
   rw [Nat.mul_one, hmin]
   exact hv2.rdN.2
  simp only [copyV, Tryz.underlying32, sizeT_u8, hrd]
  have hlen : (m.take (b - a)).length ≤ b - a := by simp; omega
  have hwr : wrN h id a (ofBytes (m.take (b - a))) = some (h.put id (some (.cells c (ofBytes (splice l a (m.take (b - a))) ++ rest) false))) := by
   simp only [wrN, s1.row (k := 0) rfl, ofBytes_len]
   rw [ble_iff.2 (by omega), cond_true]
   congr 3
   have e0 : (ofBytes l ++ rest).take a ++ (ofBytes (m.take (b - a)) ++ (ofBytes l ++ rest).drop (a + (m.take (b - a)).length)) = ofBytes (splice l a (m.take (b - a))) ++ rest := by
    rw [List.take_append_of_le_length (by rw [ofBytes_len]; omega), List.drop_append_of_le_length (by rw [ofBytes_len]; omega), ofBytes_take, ofBytes_drop]
    simp only [splice, ofBytes_app, List.append_assoc]
   cases hcc : (Nat.beq a 0 && Nat.beq (m.take (b - a)).length c) with
   | true =>
    simp only [Bool.and_eq_true, beq_iff] at hcc
    rw [cond_true, ← e0]
    obtain ⟨ha0, hmc⟩ := hcc
    subst ha0
    have : (ofBytes l ++ rest).drop (0 + (m.take (b - 0)).length) = [] := List.drop_eq_nil_of_le (by simp [ofBytes_len] at hmc ⊢; omega)
    rw [this]
    simp
   | false => rw [cond_false, e0]
  rw [hwr]
  refine ⟨_, rfl, hf _ _ (splice_len (by omega)) (splice_lt hv (fun x hx => hwl x (List.mem_of_mem_take hx))) ?_⟩
  exact s1.put (k := 0) rfl
end
end Go.Proofs.YtconhghphklfjaaGreat.Am
