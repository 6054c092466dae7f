/- After a crash the log has the records of the groups that are there and no others, with their numbers and data; the conditions are those of the given statement, for arguments that a machine can hold. Part 19 of 54. -/
import Derived.Test.YtconhghphklfjaaGreatL01
import Derived.Test.YtconhghphklfjaaGreatProg
import Derived.KernelRfl
import Derived.Test.YtconhghphklfjaaGreatL18
namespace Go.Proofs.YtconhghphklfjaaGreat.Am
open Go
theorem jh : aY Tryz.prog 3=some 1:=by kernel_rfl
theorem cq : bx Tryz.prog 3=some false:=by kernel_rfl
theorem FT : zeroT Tryz.prog 3=some (.int .i64 0):=by kernel_rfl
theorem qK : aY Tryz.prog 4=some 1:=by kernel_rfl
theorem gU : bx Tryz.prog 4=some false:=by kernel_rfl
theorem Qd : zeroT Tryz.prog 4=some (.bool false):=by kernel_rfl
theorem Qe : aY Tryz.prog 5=some 1:=by kernel_rfl
theorem Nh : aY Tryz.prog 9=some 1:=by kernel_rfl
theorem Ti : bx Tryz.prog 9=some false:=by kernel_rfl
theorem Ni : zeroT Tryz.prog 9=some (.str []):=by kernel_rfl
theorem mF : bx Tryz.prog 23=some false:=by kernel_rfl
theorem um : bx Tryz.prog 24=some false:=by kernel_rfl
theorem Nj : aY Tryz.prog 27=some 1:=by kernel_rfl
theorem Ih : bx Tryz.prog 27=some false:=by kernel_rfl
theorem RE : zeroT Tryz.prog 28=some (.int .i64 0):=by kernel_rfl
theorem ig : aY Tryz.prog 32=some 1:=by kernel_rfl
theorem bg : bx Tryz.prog 32=some false:=by kernel_rfl
theorem rI : zeroT Tryz.prog 32=some .aH:=by kernel_rfl
theorem mG : aY Tryz.prog 35=some 1:=by kernel_rfl
theorem gP : bx Tryz.prog 35=some false:=by kernel_rfl
theorem DO : zeroT Tryz.prog 35=some (.int .u64 0):=by kernel_rfl
theorem DP : aY Tryz.prog 38=some 1:=by kernel_rfl
theorem nN : bx Tryz.prog 38=some false:=by kernel_rfl
theorem dK : aY Tryz.prog 40=some 6:=by kernel_rfl
theorem jr : bx Tryz.prog 40=some true:=by kernel_rfl
theorem jP : zeroT Tryz.prog 40=some (.agg [(.int .i64 0),(.int .u64 0),(.int .u64 0),(.int .u64 0),.aH,.aH]):=by kernel_rfl
theorem jX (a b:Nat): fieldAddrV Tryz.prog 40 (.ptr a b) 0=some (.ptr a (b+0)):=by
 rw [show fieldAddrV Tryz.prog 40 (.ptr a b) 0=some (.ptr a (b+0)) by kernel_rfl]
theorem vq (a b:Nat): fieldAddrV Tryz.prog 40 (.ptr a b) 1=some (.ptr a (b+1)):=by
 rw [show fieldAddrV Tryz.prog 40 (.ptr a b) 1=some (.ptr a (b+1)) by kernel_rfl]
theorem FU (a b:Nat): fieldAddrV Tryz.prog 40 (.ptr a b) 2=some (.ptr a (b+2)):=by
 rw [show fieldAddrV Tryz.prog 40 (.ptr a b) 2=some (.ptr a (b+2)) by kernel_rfl]
theorem FW (a b:Nat): fieldAddrV Tryz.prog 40 (.ptr a b) 3=some (.ptr a (b+3)):=by
 rw [show fieldAddrV Tryz.prog 40 (.ptr a b) 3=some (.ptr a (b+3)) by kernel_rfl]
theorem nO (a b:Nat): fieldAddrV Tryz.prog 40 (.ptr a b) 4=some (.ptr a (b+4)):=by
 rw [show fieldAddrV Tryz.prog 40 (.ptr a b) 4=some (.ptr a (b+4)) by kernel_rfl]
theorem iX (a b:Nat): fieldAddrV Tryz.prog 40 (.ptr a b) 5=some (.ptr a (b+5)):=by
 rw [show fieldAddrV Tryz.prog 40 (.ptr a b) 5=some (.ptr a (b+5)) by kernel_rfl]
theorem rJ (ps:List (Nat×V)): buildV Tryz.prog 40 ps=(fillV (nth [(0,1),(1,1),(2,1),(3,1),(4,1),(5,1)]) ((.agg [(.int .i64 0),(.int .u64 0),(.int .u64 0),(.int .u64 0),.aH,.aH]):V).cells ps).map .agg:=by
 rw [show buildV Tryz.prog 40 ps=(fillV (nth [(0,1),(1,1),(2,1),(3,1),(4,1),(5,1)]) ((.agg [(.int .i64 0),(.int .u64 0),(.int .u64 0),(.int .u64 0),.aH,.aH]):V).cells ps).map .agg by kernel_rfl]
theorem wL : bx Tryz.prog 44=some false:=by kernel_rfl
theorem mH : aY Tryz.prog 54=some 4:=by kernel_rfl
theorem DQ : bx Tryz.prog 54=some true:=by kernel_rfl
theorem lS : zeroT Tryz.prog 54=some (.agg [(.int .i64 0),(.int .i64 0),(.bool false),.aH]):=by kernel_rfl
theorem k_ (a b:Nat): fieldAddrV Tryz.prog 54 (.ptr a b) 0=some (.ptr a (b+0)):=by
 rw [show fieldAddrV Tryz.prog 54 (.ptr a b) 0=some (.ptr a (b+0)) by kernel_rfl]
theorem mu (a b:Nat): fieldAddrV Tryz.prog 54 (.ptr a b) 1=some (.ptr a (b+1)):=by
 rw [show fieldAddrV Tryz.prog 54 (.ptr a b) 1=some (.ptr a (b+1)) by kernel_rfl]
theorem rK (a b:Nat): fieldAddrV Tryz.prog 54 (.ptr a b) 2=some (.ptr a (b+2)):=by
 rw [show fieldAddrV Tryz.prog 54 (.ptr a b) 2=some (.ptr a (b+2)) by kernel_rfl]
theorem jY (a b:Nat): fieldAddrV Tryz.prog 54 (.ptr a b) 3=some (.ptr a (b+3)):=by
 rw [show fieldAddrV Tryz.prog 54 (.ptr a b) 3=some (.ptr a (b+3)) by kernel_rfl]
theorem Ii (ps:List (Nat×V)): buildV Tryz.prog 54 ps=(fillV (nth [(0,1),(1,1),(2,1),(3,1)]) ((.agg [(.int .i64 0),(.int .i64 0),(.bool false),.aH]):V).cells ps).map .agg:=by
 rw [show buildV Tryz.prog 54 ps=(fillV (nth [(0,1),(1,1),(2,1),(3,1)]) ((.agg [(.int .i64 0),(.int .i64 0),(.bool false),.aH]):V).cells ps).map .agg by kernel_rfl]
theorem Ij : bx Tryz.prog 60=some false:=by kernel_rfl
theorem Nk : aY Tryz.prog 62=some 4:=by kernel_rfl
theorem Nl : bx Tryz.prog 62=some true:=by kernel_rfl
theorem z6 (a b:Nat): fieldAddrV Tryz.prog 62 (.ptr a b) 0=some (.ptr a (b+0)):=by
 rw [show fieldAddrV Tryz.prog 62 (.ptr a b) 0=some (.ptr a (b+0)) by kernel_rfl]
theorem vr (a b:Nat): fieldAddrV Tryz.prog 62 (.ptr a b) 1=some (.ptr a (b+1)):=by
 rw [show fieldAddrV Tryz.prog 62 (.ptr a b) 1=some (.ptr a (b+1)) by kernel_rfl]
theorem z7 (a b:Nat): fieldAddrV Tryz.prog 62 (.ptr a b) 2=some (.ptr a (b+2)):=by
 rw [show fieldAddrV Tryz.prog 62 (.ptr a b) 2=some (.ptr a (b+2)) by kernel_rfl]
theorem FX (a b:Nat): fieldAddrV Tryz.prog 62 (.ptr a b) 3=some (.ptr a (b+3)):=by
 rw [show fieldAddrV Tryz.prog 62 (.ptr a b) 3=some (.ptr a (b+3)) by kernel_rfl]
theorem wM : bx Tryz.prog 77=some false:=by kernel_rfl
theorem o6 (a b:Nat): fieldAddrV Tryz.prog 85 (.ptr a b) 0=some (.ptr a (b+0)):=by
 rw [show fieldAddrV Tryz.prog 85 (.ptr a b) 0=some (.ptr a (b+0)) by kernel_rfl]
theorem rL (a b:Nat): fieldAddrV Tryz.prog 85 (.ptr a b) 1=some (.ptr a (b+1)):=by
 rw [show fieldAddrV Tryz.prog 85 (.ptr a b) 1=some (.ptr a (b+1)) by kernel_rfl]
theorem o7 (a b:Nat): fieldAddrV Tryz.prog 85 (.ptr a b) 2=some (.ptr a (b+2)):=by
 rw [show fieldAddrV Tryz.prog 85 (.ptr a b) 2=some (.ptr a (b+2)) by kernel_rfl]
theorem rM (a b:Nat): fieldAddrV Tryz.prog 85 (.ptr a b) 3=some (.ptr a (b+3)):=by
 rw [show fieldAddrV Tryz.prog 85 (.ptr a b) 3=some (.ptr a (b+3)) by kernel_rfl]
theorem Nm (a b:Nat): fieldAddrV Tryz.prog 85 (.ptr a b) 4=some (.ptr a (b+4)):=by
 rw [show fieldAddrV Tryz.prog 85 (.ptr a b) 4=some (.ptr a (b+4)) by kernel_rfl]
theorem Nn (a b:Nat): fieldAddrV Tryz.prog 85 (.ptr a b) 5=some (.ptr a (b+5)):=by
 rw [show fieldAddrV Tryz.prog 85 (.ptr a b) 5=some (.ptr a (b+5)) by kernel_rfl]
theorem No (ps:List (Nat×V)): buildV Tryz.prog 85 ps=(fillV (nth [(0,1),(1,1),(2,1),(3,1),(4,1),(5,1)]) ((.agg [.bI,.bI,.bI,.bI,.aH,(.int .u64 0)]):V).cells ps).map .agg:=by
 rw [show buildV Tryz.prog 85 ps=(fillV (nth [(0,1),(1,1),(2,1),(3,1),(4,1),(5,1)]) ((.agg [.bI,.bI,.bI,.bI,.aH,(.int .u64 0)]):V).cells ps).map .agg by kernel_rfl]
theorem iD : bx Tryz.prog 86=some false:=by kernel_rfl
theorem RF : aY Tryz.prog 88=some 3:=by kernel_rfl
theorem nP (a b:Nat): fieldAddrV Tryz.prog 88 (.ptr a b) 0=some (.ptr a (b+0)):=by
 rw [show fieldAddrV Tryz.prog 88 (.ptr a b) 0=some (.ptr a (b+0)) by kernel_rfl]
theorem nQ (a b:Nat): fieldAddrV Tryz.prog 88 (.ptr a b) 1=some (.ptr a (b+1)):=by
 rw [show fieldAddrV Tryz.prog 88 (.ptr a b) 1=some (.ptr a (b+1)) by kernel_rfl]
theorem z8 (a b:Nat): fieldAddrV Tryz.prog 88 (.ptr a b) 2=some (.ptr a (b+2)):=by
 rw [show fieldAddrV Tryz.prog 88 (.ptr a b) 2=some (.ptr a (b+2)) by kernel_rfl]
theorem RG (ps:List (Nat×V)): buildV Tryz.prog 88 ps=(fillV (nth [(0,1),(1,1),(2,1)]) ((.agg [.bI,.fG,(.bool false)]):V).cells ps).map .agg:=by
 rw [show buildV Tryz.prog 88 ps=(fillV (nth [(0,1),(1,1),(2,1)]) ((.agg [.bI,.fG,(.bool false)]):V).cells ps).map .agg by kernel_rfl]
theorem Np : aY Tryz.prog 98=some 1:=by kernel_rfl
theorem rN : bx Tryz.prog 98=some false:=by kernel_rfl
theorem CG (a b:Nat): fieldAddrV Tryz.prog 111 (.ptr a b) 0=some (.ptr a (b+0)):=by
 rw [show fieldAddrV Tryz.prog 111 (.ptr a b) 0=some (.ptr a (b+0)) by kernel_rfl]
theorem iE (a b:Nat): fieldAddrV Tryz.prog 111 (.ptr a b) 1=some (.ptr a (b+1)):=by
 rw [show fieldAddrV Tryz.prog 111 (.ptr a b) 1=some (.ptr a (b+1)) by kernel_rfl]
theorem cP (a b:Nat): fieldAddrV Tryz.prog 111 (.ptr a b) 2=some (.ptr a (b+2)):=by
 rw [show fieldAddrV Tryz.prog 111 (.ptr a b) 2=some (.ptr a (b+2)) by kernel_rfl]
theorem jF (a b:Nat): fieldAddrV Tryz.prog 111 (.ptr a b) 3=some (.ptr a (b+3)):=by
 rw [show fieldAddrV Tryz.prog 111 (.ptr a b) 3=some (.ptr a (b+3)) by kernel_rfl]
theorem o8 (a b:Nat): fieldAddrV Tryz.prog 111 (.ptr a b) 4=some (.ptr a (b+4)):=by
 rw [show fieldAddrV Tryz.prog 111 (.ptr a b) 4=some (.ptr a (b+4)) by kernel_rfl]
theorem CH (a b:Nat): fieldAddrV Tryz.prog 111 (.ptr a b) 5=some (.ptr a (b+5)):=by
 rw [show fieldAddrV Tryz.prog 111 (.ptr a b) 5=some (.ptr a (b+5)) by kernel_rfl]
theorem JY (ps:List (Nat×V)): buildV Tryz.prog 111 ps=(fillV (nth [(0,1),(1,1),(2,1),(3,1),(4,1),(5,1)]) ((.agg [.bI,(.int .u64 0),.aH,.aH,(.int .i64 0),(.int .u64 0)]):V).cells ps).map .agg:=by
 rw [show buildV Tryz.prog 111 ps=(fillV (nth [(0,1),(1,1),(2,1),(3,1),(4,1),(5,1)]) ((.agg [.bI,(.int .u64 0),.aH,.aH,(.int .i64 0),(.int .u64 0)]):V).cells ps).map .agg by kernel_rfl]
theorem mg : bx Tryz.prog 119=some false:=by kernel_rfl
theorem JZ (a b l:Nat)(c:Cap)(k:IntKind)(n:Int): indexAddrV Tryz.prog 119 (.sl a b l c) (.int k n)=cond (decide (0≤n)&&decide (n<(l:Int))) (some (.ptr a (b+n.toNat*1))) none:=by kernel_rfl
theorem J0 : aY Tryz.prog 120=some 1:=by kernel_rfl
theorem vt : bx Tryz.prog 120=some false:=by kernel_rfl
theorem OR : aY Tryz.prog 121=some 1:=by kernel_rfl
theorem yN : bx Tryz.prog 121=some false:=by kernel_rfl
theorem CI (a b:Nat): fieldAddrV Tryz.prog 123 (.ptr a b) 0=some (.ptr a (b+0)):=by
 rw [show fieldAddrV Tryz.prog 123 (.ptr a b) 0=some (.ptr a (b+0)) by kernel_rfl]
theorem i_ (a b:Nat): fieldAddrV Tryz.prog 123 (.ptr a b) 1=some (.ptr a (b+1)):=by
 rw [show fieldAddrV Tryz.prog 123 (.ptr a b) 1=some (.ptr a (b+1)) by kernel_rfl]
theorem nh (a b:Nat): fieldAddrV Tryz.prog 123 (.ptr a b) 2=some (.ptr a (b+2)):=by
 rw [show fieldAddrV Tryz.prog 123 (.ptr a b) 2=some (.ptr a (b+2)) by kernel_rfl]
theorem sI (a b:Nat): fieldAddrV Tryz.prog 123 (.ptr a b) 3=some (.ptr a (b+3)):=by
 rw [show fieldAddrV Tryz.prog 123 (.ptr a b) 3=some (.ptr a (b+3)) by kernel_rfl]
theorem gH (a b:Nat): fieldAddrV Tryz.prog 123 (.ptr a b) 4=some (.ptr a (b+4)):=by
 rw [show fieldAddrV Tryz.prog 123 (.ptr a b) 4=some (.ptr a (b+4)) by kernel_rfl]
theorem ni (a b:Nat): fieldAddrV Tryz.prog 123 (.ptr a b) 5=some (.ptr a (b+5)):=by
 rw [show fieldAddrV Tryz.prog 123 (.ptr a b) 5=some (.ptr a (b+5)) by kernel_rfl]
theorem wN (a b:Nat): fieldAddrV Tryz.prog 123 (.ptr a b) 6=some (.ptr a (b+6)):=by
 rw [show fieldAddrV Tryz.prog 123 (.ptr a b) 6=some (.ptr a (b+6)) by kernel_rfl]
theorem sJ (a b:Nat): fieldAddrV Tryz.prog 123 (.ptr a b) 7=some (.ptr a (b+7)):=by
 rw [show fieldAddrV Tryz.prog 123 (.ptr a b) 7=some (.ptr a (b+7)) by kernel_rfl]
theorem sK (a b:Nat): fieldAddrV Tryz.prog 123 (.ptr a b) 8=some (.ptr a (b+8)):=by
 rw [show fieldAddrV Tryz.prog 123 (.ptr a b) 8=some (.ptr a (b+8)) by kernel_rfl]
theorem gI (a b:Nat): fieldAddrV Tryz.prog 123 (.ptr a b) 9=some (.ptr a (b+9)):=by
 rw [show fieldAddrV Tryz.prog 123 (.ptr a b) 9=some (.ptr a (b+9)) by kernel_rfl]
theorem nR (a b:Nat): fieldAddrV Tryz.prog 123 (.ptr a b) 10=some (.ptr a (b+10)):=by
 rw [show fieldAddrV Tryz.prog 123 (.ptr a b) 10=some (.ptr a (b+10)) by kernel_rfl]
theorem uo (a b:Nat): fieldAddrV Tryz.prog 123 (.ptr a b) 11=some (.ptr a (b+11)):=by
 rw [show fieldAddrV Tryz.prog 123 (.ptr a b) 11=some (.ptr a (b+11)) by kernel_rfl]
theorem OS (ps:List (Nat×V)): buildV Tryz.prog 123 ps=(fillV (nth [(0,1),(1,1),(2,1),(3,1),(4,1),(5,1),(6,1),(7,1),(8,1),(9,1),(10,1),(11,1)]) ((.agg [(.int .i64 0),.aH,.aH,.fG,.aH,(.int .i64 0),.aH,(.int .i64 0),(.int .i64 0),(.bool false),.bI,.aH]):V).cells ps).map .agg:=by
 rw [show buildV Tryz.prog 123 ps=(fillV (nth [(0,1),(1,1),(2,1),(3,1),(4,1),(5,1),(6,1),(7,1),(8,1),(9,1),(10,1),(11,1)]) ((.agg [(.int .i64 0),.aH,.aH,.fG,.aH,(.int .i64 0),.aH,(.int .i64 0),(.int .i64 0),(.bool false),.bI,.aH]):V).cells ps).map .agg by kernel_rfl]
theorem vu : aY Tryz.prog 125=some 2:=by kernel_rfl
theorem J1 : bx Tryz.prog 125=some true:=by kernel_rfl
theorem yO : zeroT Tryz.prog 125=some (.agg [(.int .i64 0),.aH]):=by kernel_rfl
theorem wO (a b:Nat): fieldAddrV Tryz.prog 125 (.ptr a b) 0=some (.ptr a (b+0)):=by
 rw [show fieldAddrV Tryz.prog 125 (.ptr a b) 0=some (.ptr a (b+0)) by kernel_rfl]
theorem wP (a b:Nat): fieldAddrV Tryz.prog 125 (.ptr a b) 1=some (.ptr a (b+1)):=by
 rw [show fieldAddrV Tryz.prog 125 (.ptr a b) 1=some (.ptr a (b+1)) by kernel_rfl]
theorem OT (ps:List (Nat×V)): buildV Tryz.prog 125 ps=(fillV (nth [(0,1),(1,1)]) ((.agg [(.int .i64 0),.aH]):V).cells ps).map .agg:=by
 rw [show buildV Tryz.prog 125 ps=(fillV (nth [(0,1),(1,1)]) ((.agg [(.int .i64 0),.aH]):V).cells ps).map .agg by kernel_rfl]
theorem J2 : aY Tryz.prog 134=some 2:=by kernel_rfl
theorem OU : bx Tryz.prog 134=some true:=by kernel_rfl
theorem OV : zeroT Tryz.prog 134=some (.agg [(.int .i64 0),.aH]):=by kernel_rfl
theorem nj (a b:Nat): fieldAddrV Tryz.prog 134 (.ptr a b) 0=some (.ptr a (b+0)):=by
 rw [show fieldAddrV Tryz.prog 134 (.ptr a b) 0=some (.ptr a (b+0)) by kernel_rfl]
theorem sL (a b:Nat): fieldAddrV Tryz.prog 134 (.ptr a b) 1=some (.ptr a (b+1)):=by
 rw [show fieldAddrV Tryz.prog 134 (.ptr a b) 1=some (.ptr a (b+1)) by kernel_rfl]
theorem vw : bx Tryz.prog 136=some false:=by kernel_rfl
theorem lp : bx Tryz.prog 137=some false:=by kernel_rfl
theorem OW (a b l:Nat)(c:Cap)(k:IntKind)(n:Int): indexAddrV Tryz.prog 137 (.sl a b l c) (.int k n)=cond (decide (0≤n)&&decide (n<(l:Int))) (some (.ptr a (b+n.toNat*5))) none:=by kernel_rfl
theorem sM : bx Tryz.prog 138=some false:=by kernel_rfl
theorem sN (a b:Nat): fieldAddrV Tryz.prog 140 (.ptr a b) 0=some (.ptr a (b+0)):=by
 rw [show fieldAddrV Tryz.prog 140 (.ptr a b) 0=some (.ptr a (b+0)) by kernel_rfl]
theorem K8 (a b:Nat): fieldAddrV Tryz.prog 140 (.ptr a b) 1=some (.ptr a (b+1)):=by
 rw [show fieldAddrV Tryz.prog 140 (.ptr a b) 1=some (.ptr a (b+1)) by kernel_rfl]
theorem iF (a b:Nat): fieldAddrV Tryz.prog 140 (.ptr a b) 2=some (.ptr a (b+2)):=by
 rw [show fieldAddrV Tryz.prog 140 (.ptr a b) 2=some (.ptr a (b+2)) by kernel_rfl]
theorem o9 (a b:Nat): fieldAddrV Tryz.prog 140 (.ptr a b) 3=some (.ptr a (b+3)):=by
 rw [show fieldAddrV Tryz.prog 140 (.ptr a b) 3=some (.ptr a (b+3)) by kernel_rfl]
theorem nk (a b:Nat): fieldAddrV Tryz.prog 140 (.ptr a b) 4=some (.ptr a (b+4)):=by
 rw [show fieldAddrV Tryz.prog 140 (.ptr a b) 4=some (.ptr a (b+4)) by kernel_rfl]
theorem wQ (a b:Nat): fieldAddrV Tryz.prog 140 (.ptr a b) 5=some (.ptr a (b+5)):=by
 rw [show fieldAddrV Tryz.prog 140 (.ptr a b) 5=some (.ptr a (b+5)) by kernel_rfl]
theorem OX (ps:List (Nat×V)): buildV Tryz.prog 140 ps=(fillV (nth [(0,1),(1,1),(2,1),(3,1),(4,1),(5,1)]) ((.agg [.bI,.bI,.aH,.fG,.fG,(.int .i64 0)]):V).cells ps).map .agg:=by
 rw [show buildV Tryz.prog 140 ps=(fillV (nth [(0,1),(1,1),(2,1),(3,1),(4,1),(5,1)]) ((.agg [.bI,.bI,.aH,.fG,.fG,(.int .i64 0)]):V).cells ps).map .agg by kernel_rfl]
theorem sO : aY Tryz.prog 143=some 2:=by kernel_rfl
theorem J3 : bx Tryz.prog 143=some true:=by kernel_rfl
theorem sP : zeroT Tryz.prog 143=some (.agg [(.int .u64 0),(.bool false)]):=by kernel_rfl
theorem wR (a b:Nat): fieldAddrV Tryz.prog 143 (.ptr a b) 0=some (.ptr a (b+0)):=by
 rw [show fieldAddrV Tryz.prog 143 (.ptr a b) 0=some (.ptr a (b+0)) by kernel_rfl]
theorem K9 (cs:List V): kP Tryz.prog 143 (.agg cs) 0=nth cs 0:=by kernel_rfl
theorem CJ (a b:Nat): fieldAddrV Tryz.prog 143 (.ptr a b) 1=some (.ptr a (b+1)):=by
 rw [show fieldAddrV Tryz.prog 143 (.ptr a b) 1=some (.ptr a (b+1)) by kernel_rfl]
theorem OY (ps:List (Nat×V)): buildV Tryz.prog 143 ps=(fillV (nth [(0,1),(1,1)]) ((.agg [(.int .u64 0),(.bool false)]):V).cells ps).map .agg:=by
 rw [show buildV Tryz.prog 143 ps=(fillV (nth [(0,1),(1,1)]) ((.agg [(.int .u64 0),(.bool false)]):V).cells ps).map .agg by kernel_rfl]
theorem cF : aY Tryz.prog 146=some 1:=by kernel_rfl
theorem ew : bx Tryz.prog 146=some true:=by kernel_rfl
theorem ke : zeroT Tryz.prog 146=some (.agg [.aH]):=by kernel_rfl
theorem kC (a b:Nat): fieldAddrV Tryz.prog 146 (.ptr a b) 0=some (.ptr a (b+0)):=by
 rw [show fieldAddrV Tryz.prog 146 (.ptr a b) 0=some (.ptr a (b+0)) by kernel_rfl]
theorem vx (ps:List (Nat×V)): buildV Tryz.prog 146 ps=(fillV (nth [(0,1)]) ((.agg [.aH]):V).cells ps).map .agg:=by
 rw [show buildV Tryz.prog 146 ps=(fillV (nth [(0,1)]) ((.agg [.aH]):V).cells ps).map .agg by kernel_rfl]
theorem J4 (a b:Nat)(k:IntKind)(n:Int): indexAddrV Tryz.prog 147 (.ptr a b) (.int k n)=cond (decide (0≤n)&&decide (n<(512:Nat))) (some (.ptr a (b+n.toNat*1))) none:=by kernel_rfl
theorem OZ : aY Tryz.prog 151=some 512:=by kernel_rfl
theorem O0 : bx Tryz.prog 151=some true:=by kernel_rfl
theorem vy : aY Tryz.prog 167=some 5:=by kernel_rfl
theorem O1 : bx Tryz.prog 167=some true:=by kernel_rfl
theorem O2 : zeroT Tryz.prog 167=some (.agg [(.int .i64 0),.aH,(.int .i64 0),(.bool false),(.bool false)]):=by kernel_rfl
theorem kD (a b:Nat): fieldAddrV Tryz.prog 167 (.ptr a b) 0=some (.ptr a (b+0)):=by
 rw [show fieldAddrV Tryz.prog 167 (.ptr a b) 0=some (.ptr a (b+0)) by kernel_rfl]
theorem sQ (a b:Nat): fieldAddrV Tryz.prog 167 (.ptr a b) 1=some (.ptr a (b+1)):=by
 rw [show fieldAddrV Tryz.prog 167 (.ptr a b) 1=some (.ptr a (b+1)) by kernel_rfl]
theorem lT (a b:Nat): fieldAddrV Tryz.prog 167 (.ptr a b) 2=some (.ptr a (b+2)):=by
 rw [show fieldAddrV Tryz.prog 167 (.ptr a b) 2=some (.ptr a (b+2)) by kernel_rfl]
theorem wS (a b:Nat): fieldAddrV Tryz.prog 167 (.ptr a b) 3=some (.ptr a (b+3)):=by
 rw [show fieldAddrV Tryz.prog 167 (.ptr a b) 3=some (.ptr a (b+3)) by kernel_rfl]
theorem wT (a b:Nat): fieldAddrV Tryz.prog 167 (.ptr a b) 4=some (.ptr a (b+4)):=by
 rw [show fieldAddrV Tryz.prog 167 (.ptr a b) 4=some (.ptr a (b+4)) by kernel_rfl]
theorem yP (ps:List (Nat×V)): buildV Tryz.prog 167 ps=(fillV (nth [(0,1),(1,1),(2,1),(3,1),(4,1)]) ((.agg [(.int .i64 0),.aH,(.int .i64 0),(.bool false),(.bool false)]):V).cells ps).map .agg:=by
 rw [show buildV Tryz.prog 167 ps=(fillV (nth [(0,1),(1,1),(2,1),(3,1),(4,1)]) ((.agg [(.int .i64 0),.aH,(.int .i64 0),(.bool false),(.bool false)]):V).cells ps).map .agg by kernel_rfl]
theorem J5 : bx Tryz.prog 179=some false:=by kernel_rfl
theorem kE (a b:Nat): fieldAddrV Tryz.prog 181 (.ptr a b) 0=some (.ptr a (b+0)):=by
 rw [show fieldAddrV Tryz.prog 181 (.ptr a b) 0=some (.ptr a (b+0)) by kernel_rfl]
theorem CK (a b:Nat): fieldAddrV Tryz.prog 181 (.ptr a b) 1=some (.ptr a (b+1)):=by
 rw [show fieldAddrV Tryz.prog 181 (.ptr a b) 1=some (.ptr a (b+1)) by kernel_rfl]
theorem J6 (ps:List (Nat×V)): buildV Tryz.prog 181 ps=(fillV (nth [(0,1),(1,1)]) ((.agg [.fG,.fG]):V).cells ps).map .agg:=by
 rw [show buildV Tryz.prog 181 ps=(fillV (nth [(0,1),(1,1)]) ((.agg [.fG,.fG]):V).cells ps).map .agg by kernel_rfl]
theorem O3 (a b l:Nat)(c:Cap)(k:IntKind)(n:Int): indexAddrV Tryz.prog 186 (.sl a b l c) (.int k n)=cond (decide (0≤n)&&decide (n<(l:Int))) (some (.ptr a (b+n.toNat*1))) none:=by kernel_rfl
theorem iG (a b:Nat): fieldAddrV Tryz.prog 202 (.ptr a b) 0=some (.ptr a (b+0)):=by
 rw [show fieldAddrV Tryz.prog 202 (.ptr a b) 0=some (.ptr a (b+0)) by kernel_rfl]
theorem O4 (ps:List (Nat×V)): buildV Tryz.prog 202 ps=(fillV (nth [(0,1)]) ((.agg [.aH]):V).cells ps).map .agg:=by
 rw [show buildV Tryz.prog 202 ps=(fillV (nth [(0,1)]) ((.agg [.aH]):V).cells ps).map .agg by kernel_rfl]
theorem O5 (ps:List (Nat×V)): buildV Tryz.prog 205 ps=(fillV (fun i=>some (i*1,1)) ((.agg [(.int .u64 0),(.int .u64 0),(.int .u64 0)]):V).cells ps).map .agg:=by
 rw [show buildV Tryz.prog 205 ps=(fillV (fun i=>some (i*1,1)) ((.agg [(.int .u64 0),(.int .u64 0),(.int .u64 0)]):V).cells ps).map .agg by kernel_rfl]
theorem DR : aY Tryz.prog 219=some 1:=by kernel_rfl
theorem DS : bx Tryz.prog 219=some false:=by kernel_rfl
theorem O6 (ps:List (Nat×V)): buildV Tryz.prog 220 ps=(fillV (fun i=>some (i*1,1)) ((.agg [.bI,.bI,.bI]):V).cells ps).map .agg:=by
 rw [show buildV Tryz.prog 220 ps=(fillV (fun i=>some (i*1,1)) ((.agg [.bI,.bI,.bI]):V).cells ps).map .agg by kernel_rfl]
end Go.Proofs.YtconhghphklfjaaGreat.Am
namespace Go.Proofs.YtconhghphklfjaaGreat.Am
open Go
def slR (v:V)(a b:Nat): V:=match v with
 | .sl id off _ (.exact c)=>.sl id (cond (Nat.beq c a) off (off+a*1)) (b-a) (.exact (c-a))
 | .sl id off _ (.rest _ alt)=>.sl id (off+a*1) (b-a) (.rest 1 (cond (Nat.beq a 0) alt (cond (Nat.blt a b) (off+a*1) off)))
 | v=>v
theorem fq {h:H}{v:V}{l:List Nat}{a b:Nat}(hv:View h v l)(nE:a≤b)(hb:b≤l.length):
  sliceV Tryz.prog h 32 v (some a) (some b) none=some (slR v a b)∧View h (slR v a b) ((l.take b).drop a)∧∀i∈rowIds (slR v a b),i∈rowIds v:=by
 have U:∀x∈(l.take b).drop a,x<256:=fun x hx=>hv.1 x (List.mem_of_mem_take (List.mem_of_mem_drop hx))
 have hlen:((l.take b).drop a).length=b-a:=by simp; omega
 obtain ⟨hl,tA⟩:=hv
 rcases tA with ⟨rfl | ⟨ea,rfl⟩,rfl⟩ | ⟨id,off,cap,n,cs,st,rfl,hg,h1,h2,h3,h4⟩
 ·simp only [List.length_nil] at hb
  have:b=0:=by omega
  have:a=0:=by omega
  subst_vars
  refine ⟨?_,⟨by simp,.inl ⟨.inl rfl,by simp⟩⟩,fun i hi=>hi⟩
  simp only [sliceV,Tryz.underlying32,dz]
  rfl
 ·simp only [List.length_nil] at hb
  have:b=0:=by omega
  have:a=0:=by omega
  subst_vars
  refine ⟨?_,⟨by simp,.inl ⟨.inr ⟨ea,rfl⟩,by simp⟩⟩,fun i hi=>hi⟩
  simp only [sliceV,Tryz.underlying32,dz]
  rfl
 ·have I:∀o,o=off+a∨b-a=0→(cs.drop o).take (b-a)=ofBytes ((l.take b).drop a):=by
   intro o ho
   rcases Nat.eq_zero_or_pos (b-a) with hz | hz
   ·rw [hz,List.take_zero]
    have:(l.take b).drop a=[]:=List.eq_nil_of_length_eq_zero (by omega)
    rw [this]; rfl
   ·have qI:o=off+a:=by rcases ho with ho | ho; exact ho; omega
    subst qI
    have e1:ofBytes ((l.take b).drop a)=((ofBytes l).take b).drop a:=by simp [ofBytes,List.map_drop,List.map_take]
    rw [e1,←h3,List.take_take,Nat.min_eq_left hb,List.drop_take,List.drop_drop]
  cases cap with
  | exact c =>
   have hc:l.length≤c:=h4
   refine ⟨?_,⟨U,.inr ⟨id,_,_,n,cs,st,by rw [hlen]; rfl,hg,h1,?_,?_,?_⟩⟩,fun i hi=>by simpa [rowIds,slR] using hi⟩
   ·simp only [sliceV,slR,Tryz.underlying32,dz,Option.getD_some]
    rw [show (Nat.ble a b&&Nat.ble b c)=true by rw [Bool.and_eq_true,ay,ay]; omega,cond_true]
   ·rw [hlen]
    by_cases J:c=a
    ·rw [eH J,cond_true]; omega
    ·rw [bT J,cond_false]; omega
   ·rw [hlen]
    by_cases J:c=a
    ·rw [eH J,cond_true]; exact I off (.inr (by omega))
    ·rw [bT J,cond_false,Nat.mul_one]; exact I _ (.inl rfl)
   ·show _≤c-a
    rw [hlen]; omega
  | rest e alt =>
   have he:e=1:=h4
   subst he
   refine ⟨?_,⟨U,.inr ⟨id,_,_,n,cs,st,by rw [hlen]; rfl,hg,h1,by rw [hlen]; omega,by rw [hlen,Nat.mul_one]; exact I _ (.inl rfl),rfl⟩⟩,fun i hi=>by simpa [rowIds,slR] using hi⟩
   simp only [sliceV,slR,Tryz.underlying32,dz,Option.getD_some,Nat.beq_refl]
   rw [show (true&&Nat.ble 1 1)=true from rfl,cond_true]
   rw [show (Nat.ble a b&&(Nat.ble b l.length||Nat.ble b (gY h id off 1)))=true by rw [Bool.and_eq_true,Bool.or_eq_true,ay,ay]; exact ⟨nE,.inl hb⟩,cond_true]
theorem cT {h:H}{v:V}{l:List Nat}{a:Nat}(U:View h v l)(ha:a≤l.length):
  sliceV Tryz.prog h 32 v (some a) none none=some (slR v a l.length)∧View h (slR v a l.length) (l.drop a)∧∀i∈rowIds (slR v a l.length),i∈rowIds v:=by
 obtain ⟨I,h2,h3⟩:=fq U ha (Nat.le_refl _)
 refine ⟨?_,by simpa using h2,h3⟩
 obtain ⟨_,J⟩:=U
 rcases J with ⟨rfl | ⟨ea,rfl⟩,rfl⟩ | ⟨id,off,cap,n,cs,st,rfl,hg,g1,g2,g3,g4⟩
 ·simpa [sliceV,Tryz.underlying32,dz] using I
 ·simpa [sliceV,Tryz.underlying32,dz] using I
 ·rw [←I]
  simp only [sliceV,Tryz.underlying32,dz,Option.getD_none,Option.getD_some]
theorem eV {h:H}{v:V}{l:List Nat}{b:Nat}(U:View h v l)(hb:b≤l.length):
  sliceV Tryz.prog h 32 v none (some b) none=some (slR v 0 b)∧View h (slR v 0 b) (l.take b)∧∀i∈rowIds (slR v 0 b),i∈rowIds v:=by
 obtain ⟨I,h2,h3⟩:=fq U (Nat.zero_le b) hb
 refine ⟨?_,by simpa using h2,h3⟩
 obtain ⟨_,J⟩:=U
 rcases J with ⟨rfl | ⟨ea,rfl⟩,rfl⟩ | ⟨id,off,cap,n,cs,st,rfl,hg,g1,g2,g3,g4⟩
 ·simpa [sliceV,Tryz.underlying32,dz] using I
 ·simpa [sliceV,Tryz.underlying32,dz] using I
 ·rw [←I]
  simp only [sliceV,Tryz.underlying32,dz,Option.getD_none,Option.getD_some]
theorem eS {h:H}{v:V}{l:List Nat}{i b:Nat}(U:View h v l)(hi:l[i]?=some b):
  ∃id off,indexAddrV Tryz.prog 32 v (.int .i64 (i:Int))=some (.ptr id off)∧loadV Tryz.prog h 5 (.ptr id off)=some (.int .u8 (b:Int)):=by
 obtain ⟨hl,I⟩:=U
 have J:i<l.length:=(List.getElem?_eq_some_iff.1 hi).1
 rcases I with ⟨_,rfl⟩ | ⟨id,off,cap,n,cs,st,rfl,hg,h1,h2,h3,h4⟩
 ·simp at hi
 ·refine ⟨id,off+i*1,?_,?_⟩
  ·simp only [indexAddrV,Tryz.underlying32,dz,Int.toNat_natCast]
   rw [show (decide ((0:Int)≤(i:Int))&&decide ((i:Int)<(l.length:Int)))=true by simp; omega,cond_true]
  ·simp only [loadV,CC,qD,hg,dG,Nat.mul_one]
   have e:=congrArg (fun q=>q[i]?) h3
   simp only [List.getElem?_take,List.getElem?_drop,if_pos J] at e
   rw [e]
   simp [ofBytes,hi]
theorem View.cells {h:H}{v:V}{l:List Nat}(I:View h v l): v.cells=[v]∧Am.storable v=true:=by
 obtain ⟨_,I⟩:=I
 rcases I with ⟨rfl | ⟨J,rfl⟩,_⟩ | ⟨id,off,cap,n,cs,st,rfl,_⟩ <;> exact ⟨rfl,rfl⟩
def plain1 : V→Bool
 | .bool _ | .int _ _ | .str _ | .bI | .ptr _ _ | .aH | .sl _ _ _ _ | .fG | .map _ | .xh | .iJ | .nu _ _=>true
 | .fn (.func _) [] []=>true
 | _=>false
def Nq : V→Bool
 | .agg l=>l.all plain1
 | .aW l=>l.all plain1
 | .iface _ v=>plain1 v
 | v=>plain1 v
theorem DT (k:FloatKind): fkBeq k k=true:=by cases k <;> rfl
theorem z_ : ∀l:List Nat,natsBeq l l=true:=fun l=>by rw [me]; simp
theorem Ik (v:V)(h:plain1 v=true): v.beq v=true:=by
 cases v <;> simp [plain1,V.beq,cE,ie,tO,z_,DT] at h ⊢
 rename_i f a b
 cases f <;> cases a <;> cases b <;> simp [plain1,V.beq,V.beqL] at h ⊢
theorem J7 : ∀(l:List V),l.all plain1=true→V.beqL l l=true:=by
 intro l
 induction l with
 | nil=>intro _; rfl
 | cons v l I =>
  intro h
  simp only [List.all_cons,Bool.and_eq_true] at h
  simp only [V.beqL,Ik v h.1,cond_true,I h.2]
theorem aU (v:V)(h:Nq v=true): v.beq v=true:=by
 cases v with
 | agg l=>exact J7 l h
 | aW l=>exact J7 l h
 | iface t v=>simp only [V.beq,Nat.beq_refl,Bool.true_and]; exact Ik v h
 | _=>exact Ik _ h
section
variable {P:Program} {h h':H} {S:List ah} {X:ah} {v w:V} {l m:List Nat}
theorem vz (s:Sat h (a_ v l::X::S))(J:bU X (bZ w m))(I:l.length+m.length≤140737488355328):
  ∃v' h',appendV Tryz.prog h #[32,32] v w=some (v',h')∧Sat h' (a_ v' (l++m)::X::S):=by
 obtain ⟨v',h',U,e2,e3,e4⟩:=rC s.wf (s.buf (k:=0) rfl) (s.ax (k:=1) rfl J) I
 exact ⟨v',h',U,s.sH e3 e2 e4⟩
theorem xE (s:Sat h S){c:Nat}(I:c<1073741824):
  ∃v h',makeSliceV Tryz.prog h 32 (.int .i64 0) (.int .i64 (c:Int))=some (v,h')∧Sat h' (a_ v []::S):=by
 obtain ⟨v,h',J,U,e3,e4⟩:=vk s.wf I
 exact ⟨v,h',J,s.zY e3 U e4⟩
theorem K_ : ∀n:Nat,repeatL [V.int .u8 0] n=ofBytes (List.replicate n 0):=by
 intro n
 induction n with
 | zero=>rfl
 | succ n I=>simp only [repeatL,I,ofBytes,List.replicate_succ,List.map_cons]; rfl
theorem FY (s:Sat h S){c:Nat}(J:c<1073741824):
  ∃v h',makeSliceV Tryz.prog h 32 (.int .i64 (c:Int)) (.int .i64 (c:Int))=some (v,h')∧Sat h' (a_ v (List.replicate c 0)::S):=by
 obtain ⟨i,hi,i1,i2⟩:=o5
 have I:f_ (h.new (.cells c (repeatL [.int .u8 0] c) false)) (.sl h.next 0 c (.exact c)) (List.replicate c 0):=by
  refine ⟨fun b I=>by have:=List.eq_of_mem_replicate I; omega,.inr (.inl ⟨h.next,[],c,by simp,?_,by simp⟩)⟩
  rw [eZ,if_pos rfl,K_,List.append_nil]
 refine ⟨.sl h.next 0 c (.exact c),h.new (.cells c (repeatL [.int .u8 0] c) false),?_,s.zY (cJ.sE s.wf _) I fun i hi=>by simp [rowIds] at hi; omega⟩
 simp only [makeSliceV,Tryz.underlying32,hi,lQ,i1,i2,V.cells,List.length_cons,List.length_nil,Int.toNat_natCast,Nat.mul_one]
 rw [show (decide ((0:Int)≤(c:Int))&&decide ((c:Int)≤(c:Int))&&decide ((c:Int)<1073741824)&&Nat.ble 1 4096&&Nat.beq (0+1) 1&&Nat.ble 1 1)=true by simp; omega,cond_true]
theorem FZ (s:Sat h S){b:Nat}(I:b<256): ∃v h',buildSliceV Tryz.prog h 32 1 [(0,.int .u8 b)]=some (v,h')∧Sat h' (a_ v [b]::S):=by
 obtain ⟨v,h',J,U,e3,e4⟩:=xC s.wf I
 exact ⟨v,h',J,s.zY e3 U e4⟩
theorem Sat.gJ (s:Sat h (a_ v l::S))(hl:1≤l.length): ∃id c cap rest,v=.sl id 0 l.length cap∧Sat h (pt id (.cells c (ofBytes l++rest) false)::S)∧l.length+rest.length=c ∧
  (∀(h':H) (I:List Nat),I.length=l.length→(∀b∈I,b<256)→Sat h' (pt id (.cells c (ofBytes I++rest) false)::S)→Sat h' (a_ v I::S)):=by
 obtain ⟨m,r,h1,h2,h3,a,b,g1,g2,g3,⟨gl,g4⟩,g5⟩:=s.ok
 rcases g4 with ⟨rfl,rfl⟩ | ⟨id,cs,c,rfl,hg,hc⟩ | ⟨id,rfl,hg,h5⟩
 ·simp at hl
 ·refine ⟨id,c,_,cs,rfl,⟨s.wf,m,r,h1,h2,h3,a,b,g1,g2,g3,hg,g5⟩,hc,fun h' I U e2 s'=>s'.dY ?_⟩
  intro m' r' hm
  exact ⟨e2,.inr (.inl ⟨id,cs,c,by rw [U],hm,by omega⟩)⟩
 ·refine ⟨id,l.length,_,[],rfl,⟨s.wf,m,r,h1,h2,h3,a,b,g1,g2,g3,by rw [List.append_nil]; exact hg,g5⟩,by simp,fun h' I U e2 s'=>s'.dY ?_⟩
  intro m' r' hm
  have J:m' id=some (.cells l.length (ofBytes I++[]) false):=hm
  rw [List.append_nil] at J
  exact ⟨e2,.inr (.inr ⟨id,by rw [U],by rw [U]; exact J,by omega⟩)⟩
theorem rO (l:List Nat)(n:Nat): (ofBytes l).take n=ofBytes (l.take n):=by simp [ofBytes,List.map_take]
theorem Aa (l:List Nat)(n:Nat): (ofBytes l).drop n=ofBytes (l.drop n):=by simp [ofBytes,List.map_drop]
def cI (l:List Nat)(a:Nat)(m:List Nat): List Nat:=l.take a++(m++l.drop (a+m.length))
theorem fO {l m:List Nat}{a:Nat}(h:a+m.length≤l.length): (cI l a m).length=l.length:=by simp [cI]; omega
theorem xF {l m:List Nat}{a:Nat}(J:∀b∈l,b<256)(hm:∀b∈m,b<256): ∀b∈cI l a m,b<256:=fun b I=>by
 simp only [cI,List.mem_append] at I
 rcases I with I | I | I
 ·exact J b (List.mem_of_mem_take I)
 ·exact hm b I
 ·exact J b (List.mem_of_mem_drop I)
theorem Ab (s:Sat h (a_ v l::X::S))(hX:bU X (bZ w m)){a b:Nat}(nE:a<b)(hb:b≤l.length)(hm:1≤m.length):
  ∃h',copyV Tryz.prog h 32 (slR v a b) w=some (.int .i64 (min m.length (b-a):Nat),h')∧Sat h' (a_ v (cI l a (m.take (b-a)))::X::S):=by
 have hw:=s.ax (k:=1) rfl hX
 have Qf:=hw.1
 have hv:=(s.buf (k:=0) rfl).1
 obtain ⟨id,c,cap,rest,rfl,s1,hc,hf⟩:=s.gJ (by omega)
 have iU:∃U,slR (.sl id 0 l.length cap) a b=.sl id a (b-a) U:=by
  cases cap with
  | exact c =>
   refine ⟨.exact (c-a),?_⟩
   simp only [slR]
   by_cases Tj:c=a
   ·obtain ⟨m',r,h1,h2,h3⟩:=s.at (k:=0) rfl
    rcases h3.2 with ⟨e,_⟩ | ⟨tK,cs',c',e,hg,Qg⟩ | ⟨tK,e,_⟩
    ·cases e
    ·injection e with _ _ _ e4; injection e4 with e4; omega
    ·injection e with _ _ _ e4; cases e4
   ·rw [bT Tj,cond_false,Nat.zero_add,Nat.mul_one]
  | rest e alt=>exact ⟨_,by simp only [slR,Nat.zero_add,Nat.mul_one]; rfl⟩
 obtain ⟨U,iU⟩:=iU
 rw [iU]
 have lH:=hw
 rcases lH.2 with ⟨_,rfl⟩ | ⟨iY,I,J,n2,CM,Qh,rfl,J8,q1,q2,q3,q4⟩
 ·simp at hm
 ·have RH:Nat.min m.length (b-a)=(m.take (b-a)).length:=by
   rw [List.length_take]
   exact Nat.min_comm _ _
  have ir:rdN h iY I (Nat.min m.length (b-a)*1)=some (ofBytes (m.take (b-a))):=by
   have vA:View h (.sl iY I (m.take (b-a)).length J) (m.take (b-a)):=by
    refine ⟨fun x hx=>Qf x (List.mem_of_mem_take hx),.inr ⟨iY,I,J,n2,CM,Qh,rfl,J8,q1,?_,?_,?_⟩⟩
    ·have:(m.take (b-a)).length≤m.length:=by simp; omega
     omega
    ·rw [←rO,←q3,List.take_take,List.length_take]
    ·cases J with
     | exact c2 =>
      simp only at q4 ⊢
      have:(m.take (b-a)).length≤m.length:=by simp; omega
      omega
     | rest e2 a2=>exact q4
   rw [Nat.mul_one,RH]
   exact vA.rdN.2
  simp only [copyV,Tryz.underlying32,dz,ir]
  have hlen:(m.take (b-a)).length≤b-a:=by simp; omega
  have F0:wrN h id a (ofBytes (m.take (b-a)))=some (h.put id (some (.cells c (ofBytes (cI l a (m.take (b-a)))++rest) false))):=by
   simp only [wrN,s1.row (k:=0) rfl,cu]
   rw [ay.2 (by omega),cond_true]
   congr 3
   have e0:(ofBytes l++rest).take a++(ofBytes (m.take (b-a))++(ofBytes l++rest).drop (a+(m.take (b-a)).length))=ofBytes (cI l a (m.take (b-a)))++rest:=by
    rw [List.take_append_of_le_length (by rw [cu]; omega),List.drop_append_of_le_length (by rw [cu]; omega),rO,Aa]
    simp only [cI,mc,List.append_assoc]
   cases Ac:(Nat.beq a 0&&Nat.beq (m.take (b-a)).length c) with
   | true =>
    simp only [Bool.and_eq_true,beq_iff] at Ac
    rw [cond_true,←e0]
    obtain ⟨Tk,Tl⟩:=Ac
    subst Tk
    have:(ofBytes l++rest).drop (0+(m.take (b-0)).length)=[]:=List.drop_eq_nil_of_le (by simp [cu] at Tl ⊢; omega)
    rw [this]
    simp
   | false=>rw [cond_false,e0]
  rw [F0]
  refine ⟨_,rfl,hf _ _ (fO (by omega)) (xF hv (fun x hx=>Qf x (List.mem_of_mem_take hx))) ?_⟩
  exact s1.put (k:=0) rfl
end
end Go.Proofs.YtconhghphklfjaaGreat.Am
