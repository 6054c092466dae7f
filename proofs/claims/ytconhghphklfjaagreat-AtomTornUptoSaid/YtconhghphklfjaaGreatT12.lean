/- AtomTorn: a part of its proof; conditions: its statement's. -/
import Derived.Test.YtconhghphklfjaaGreatT11
import Derived.Test.YtconhghphklfjaaGreatProg
import Derived.KernelRfl
set_option linter.defProp false
namespace Go.Proofs.YtconhghphklfjaaGreat.Am
open Go
def aS:=@Tryz.underlying32
def CM:=@Tryz.func119
abbrev dM:=Nat→Option (List V→H→Option (V×H))
noncomputable section
end
def crcStep : Nat→Nat→Nat
 | r,0=>r
 | r,k+1=>crcStep (cond (Nat.beq (r%2) 1) (Nat.xor (r/2) 3988292384) (r/2)) k
def crcL : Nat→List Nat→Nat
 | r,[]=>r
 | r,b::l=>crcL (crcStep (Nat.xor r b) 8) l
def bytesIn : List V→Option (List Nat)
 | []=>some []
 | .int .u8 n::l=>cond (decide (0≤n)&&decide (n<256)) (match bytesIn l with
  | some m=>some (n.toNat::m)
  | none=>none) none
 | _=>none
def ux (s:Int)(l:List Nat): V:=.int .u32 ((Nat.xor (crcL (Nat.xor s.toNat 4294967295) l) 4294967295:Nat):Int)
noncomputable def toldMore : List V→H→Option (V×H)
 | [.int .u32 s,.sl id off len _],h=>cond (decide (0≤s)&&decide (s<4294967296)&&Nat.ble len 4611686018427387904) (match rdN h id off len with
  | some cs=>match bytesIn cs with
   | some l=>some (ux s l,h)
   | none=>none
  | none=>none) none
 | [.int .u32 s,.bz],h=>cond (decide (0≤s)&&decide (s<4294967296)) (some (ux s [],h)) none
 | [.int .u32 s,.sle _],h=>cond (decide (0≤s)&&decide (s<4294967296)) (some (ux s [],h)) none
 | _,_=>none
theorem wrap_u32 {n:Nat}(h:n<4294967296): IntKind.wrap .u32 (n:Int)=(n:Int):=by
 simp only [IntKind.wrap,IntKind.bits,IntKind.signed,fh,eY,bN]
 omega
theorem yZ {n:Nat}(h:n<4294967296): ((n:Int)%(2^(IntKind.u32).bits:Int)).toNat=n:=by
 simp only [IntKind.bits]
 omega
theorem oK {a b:Nat}(I:a<4294967296)(J:b<4294967296): Nat.xor a b<4294967296:=Nat.xor_lt_two_pow (n:=32) I J
theorem xo {a b:Nat}(I:a<4294967296)(J:b<4294967296): intV .xor .u32 (a:Int) (b:Int)=some (.int .u32 ((Nat.xor a b:Nat):Int)):=by
 simp only [intV,bitsV]
 rw [yZ I,yZ J,wrap_u32 (oK I J)]
theorem ND {a:Nat}(I:a<4294967296): intV .and .u32 (a:Int) 1=some (.int .u32 ((a%2:Nat):Int)):=by
 have J:((1:Int)%(2^(IntKind.u32).bits:Int)).toNat=1:=by simp [IntKind.bits]
 simp only [intV,bitsV]
 rw [yZ I,J]
 have:Nat.land a 1=a%2:=Nat.and_one_is_mod a
 rw [this,wrap_u32 (by omega)]
theorem CN {a:Nat}: shiftV .shr .u32 (a:Int) 1=some (.int .u32 ((a/2:Nat):Int)):=by
 simp only [shiftV,IntKind.bits]
 have:(Int.toNat 1)=1:=rfl
 simp [this,DO]
theorem TK {c:Ctx}{σ:H}{w:World}{id off k:Nat}{vs:List V}(h:Rel c σ w)(I:rdN σ id off k=some vs): vs.length=k∧∀j,j<k→yb σ id (off+j)=vs[j]?:=by
 unfold rdN at I
 split at I
 ·rename_i n cs st U
  have hn:n=cs.length:=(h.obj id _ U).1
  cases hq:Nat.ble (off+k) n with
  | false=>rw [hq] at I; cases I
  | true =>
   rw [hq,ag] at I
   have hle:=aQ.1 hq
   simp only [au] at I
   cases J:(Nat.beq off 0&&Nat.beq k n) with
   | true =>
    rw [J,ag] at I
    simp only [aZ,beq_iff] at J
    subst I
    refine ⟨by omega,fun j _ => ?_⟩
    unfold yb
    rw [U]
    simp only [fV,J.1,dV]
   | false =>
    rw [J,ay] at I
    subst I
    refine ⟨by simp; omega,fun j hj => ?_⟩
    unfold yb
    rw [U]
    simp only [fV]
    rw [mj,aj hj,jW]
 ·cases I
def unblk : Code→Code
 | .block _ c=>c
 | c=>c
def unloop : Code→Code
 | .loop c=>c
 | c=>c
noncomputable def jA : Code:=(Tryz.f119.body).getD .skip
noncomputable def jG : Code:=unloop (unblk (cG (leftC (cG (cG jA)))))
noncomputable def nm : Code:=unblk (leftC (cG (cG jG)))
noncomputable def oL : Code:=unloop (unblk (cG (cG (cG nm))))
theorem gA (C:dF)(n:Nat)(c:Code)(s:St): ev C (n+1) c s=evStep C (ev C n) c s:=rfl
theorem wrap_i64 {n:Nat}(h:n<9223372036854775808): IntKind.wrap .i64 (n:Int)=(n:Int):=by
 have I:((n:Int)%(2^(IntKind.i64).bits:Int))=(n:Int):=by simp only [IntKind.bits]; omega
 have J:¬ ((n:Int)≥(2^((IntKind.i64).bits-1):Int)):=by simp only [IntKind.bits]; omega
 simp only [IntKind.wrap,I,J,rA,mu,eY,bN]
theorem y7 {n:Nat}(h:n<9223372036854775807): intV .add .i64 (n:Int) 1=some (.int .i64 ((n+1:Nat):Int)):=by
 have:((n:Int)+1)=((n+1:Nat):Int):=by omega
 simp only [intV,this,wrap_i64 (show n+1<9223372036854775808 by omega)]
section
variable {C:dF} {self:Self}
theorem bS {L rest:List Oper}{o:Oper}{d:Nat}{env:Env}{n:Nat}{h:H}(J:o.guard=none)(U:o.dst=some d)(I:Nat.blt d n=true):
  evOps C self L (o::rest) ⟨env,n,h⟩=(evOp C self env h o).bind fun r=>evOps C self L rest ⟨env.set d (some r.1),n,r.2⟩:=by
 simp only [evOps,wantedV,J,ag]
 cases evOp C self env h o with
 | none=>rfl
 | some r=>simp only [St.put,U,I,ag,cE]
end
noncomputable def VG : Code:=leftC oL
noncomputable def vh : Code:=cG (cG oL)
noncomputable def VH : Code:=leftC (unblk (leftC vh))
noncomputable def VI : Code:=cG (unblk (leftC vh))
noncomputable def Qe : Code:=cG vh
section
variable {C:dF} (n:Nat) (env:Env) (h:H)
theorem NF {j:Nat}(I:T.get env 20=some (.int .i64 j)): ev C (n+1) VG ⟨env,34,h⟩=some (.normal,⟨env.set 21 (some (.bool (decide ((j:Int)<8)))),34,h⟩):=by
 simp only [VG,oL,nm,jG,jA,Tryz.f119,eZ,leftC,cG,unblk,unloop,gA,evStep,ay]
 rw [bS rfl rfl rfl]
 simp only [evOp,evO,Env.v,I,ofValue,ofScalar,binV,ikBeq,ag,intV,bA,cE,evOps]
theorem VJ {x:Nat}(J:x<4294967296)(U:T.get env 5=some (.int .u32 x)):
  ∃I,ev C (n+1) VH ⟨env,34,h⟩=some (.normal,⟨I,34,h⟩)∧T.get I 24=some (.bool (Nat.beq (x%2) 1))∧∀t,t≠22→t≠23→t≠24→T.get I t=T.get env t:=by
 refine ⟨((env.set 22 (some (.int .u32 x))).set 23 (some (.int .u32 ((x%2:Nat):Int)))).set 24 (some (.bool (Nat.beq (x%2) 1))),?_,by simp [a_],fun t h1 h2 h3=>by simp [a_,h1,h2,h3]⟩
 simp only [VH,vh,oL,nm,jG,jA,Tryz.f119,eZ,leftC,cG,unblk,unloop,gA,evStep,ay]
 rw [bS rfl rfl rfl]
 simp only [evOp,evO,Env.v,U,bA,cE]
 rw [bS rfl rfl rfl]
 simp only [evOp,evO,Env.v,a_,bQ,ofValue,ofScalar,binV,ikBeq,ag,ND J,bA,cE]
 rw [bS rfl rfl rfl]
 simp only [evOp,evO,Env.v,a_,bQ,ofValue,ofScalar,binV,ikBeq,ag,intV,bA,cE,evOps]
 rfl
theorem NG {x:Nat}(I:x<4294967296): Nat.xor (x/2) 3988292384<4294967296:=oK (by omega) (by omega)
theorem VK {x:Nat}{b:Bool}(hx:x<4294967296)(h5:T.get env 5=some (.int .u32 x))(I:T.get env 24=some (.bool b)):
  ∃J,ev C (n+2) VI ⟨env,34,h⟩=some (.normal,⟨J,34,h⟩)∧T.get J 5=some (.int .u32 ((cond b (Nat.xor (x/2) 3988292384) (x/2):Nat):Int))∧∀t,t<25→t≠5→T.get J t=T.get env t:=by
 simp only [VI,vh,oL,nm,jG,jA,Tryz.f119,eZ,leftC,cG,unblk,unloop,gA,evStep,evO,Env.v,I]
 cases b with
 | true =>
  refine ⟨(((env.set 25 (some (.int .u32 x))).set 26 (some (.int .u32 ((x/2:Nat):Int)))).set 27 (some (.int .u32 ((Nat.xor (x/2) 3988292384:Nat):Int)))).set 5 (some (.int .u32 ((Nat.xor (x/2) 3988292384:Nat):Int))),?_,by simp [a_],fun t h1 U => ?_⟩
  ·simp only [ag,ay]
   rw [bS rfl rfl rfl]
   simp only [evOp,evO,Env.v,h5,bA,cE]
   rw [bS rfl rfl rfl]
   simp only [evOp,evO,Env.v,a_,bQ,ofValue,ofScalar,binV,CN,bA,cE]
   rw [bS rfl rfl rfl]
   have:=xo (a:=x/2) (b:=3988292384) (by omega) (by omega)
   rw [show ((3988292384:Nat):Int)=3988292384 from rfl] at this
   simp only [evOp,evO,Env.v,a_,bQ,ofValue,ofScalar,binV,ikBeq,ag,this,bA,cE]
   rw [bS rfl rfl rfl]
   simp only [evOp,evO,Env.v,a_,bQ,bA,cE,evOps]
  ·have a1:t≠25:=by omega
   have a2:t≠26:=by omega
   have a3:t≠27:=by omega
   simp [a_,U,a1,a2,a3]
 | false =>
  refine ⟨((env.set 28 (some (.int .u32 x))).set 29 (some (.int .u32 ((x/2:Nat):Int)))).set 5 (some (.int .u32 ((x/2:Nat):Int))),?_,by simp [a_],fun t h1 U => ?_⟩
  ·simp only [ay]
   rw [bS rfl rfl rfl]
   simp only [evOp,evO,Env.v,h5,bA,cE]
   rw [bS rfl rfl rfl]
   simp only [evOp,evO,Env.v,a_,bQ,ofValue,ofScalar,binV,CN,bA,cE]
   rw [bS rfl rfl rfl]
   simp only [evOp,evO,Env.v,a_,bQ,bA,cE,evOps]
  ·have a1:t≠28:=by omega
   have a2:t≠29:=by omega
   simp [a_,U,a1,a2]
theorem TL {j:Nat}(hj:j<8)(I:T.get env 20=some (.int .i64 j)):
  ∃J,ev C (n+1) Qe ⟨env,34,h⟩=some (.normal,⟨J,34,h⟩)∧T.get J 20=some (.int .i64 ((j+1:Nat):Int))∧∀t,t≠20→t≠30→T.get J t=T.get env t:=by
 refine ⟨(env.set 30 (some (.int .i64 ((j+1:Nat):Int)))).set 20 (some (.int .i64 ((j+1:Nat):Int))),?_,by simp [a_],fun t U h2=>by simp [a_,U,h2]⟩
 simp only [Qe,vh,oL,nm,jG,jA,Tryz.f119,eZ,leftC,cG,unblk,unloop,gA,evStep,ay]
 rw [bS rfl rfl rfl]
 simp only [evOp,evO,Env.v,I,ofValue,ofScalar,binV,ikBeq,ag,y7 (show j<9223372036854775807 by omega),bA,cE]
 rw [bS rfl rfl rfl]
 simp only [evOp,evO,Env.v,a_,bQ,bA,cE,evOps]
section
variable {n:Nat} {s s':St}
theorem jH {a b:Code}(I:ev C n a s=some (.normal,s')): ev C (n+1) (.seq a b) s=ev C n b s':=by rw [gA]; simp only [evStep,I]
theorem vD {a b:Code}{i:Nat}(I:ev C n a s=some (.exit i,s')): ev C (n+1) (.seq a b) s=some (.exit i,s'):=by rw [gA]; simp only [evStep,I]
theorem wB {x:Operand}{a b:Code}{t:Bool}(I:evO s.env x=some (.bool t)): ev C (n+1) (.cond x a b) s=ev C n (cond t a b) s:=by rw [gA]; simp only [evStep,I]
theorem GZ {i:Nat}{c:Code}(h:ev C n c s=some (.normal,s')): ev C (n+1) (.block i c) s=some (.normal,s'):=by rw [gA]; simp only [evStep,h]
theorem yp {i:Nat}{c:Code}(h:ev C n c s=some (.exit i,s')): ev C (n+1) (.block i c) s=some (.normal,s'):=by rw [gA]; simp only [evStep,h,dx,ag]
theorem Kf {b:Code}(h:ev C n b s=some (.normal,s')): ev C (n+1) (.loop b) s=ev C n (.loop b) s':=by rw [gA]; simp only [evStep,h]
theorem uy {b:Code}{i:Nat}(h:ev C n b s=some (.exit i,s')): ev C (n+1) (.loop b) s=some (.exit i,s'):=by rw [gA]; simp only [evStep,h]
end
theorem Fh : oL=.seq VG (.seq (.cond (.tmp 21) .skip (.exit 2)) vh):=rfl
theorem Qf : vh=.seq (.block 3 (.seq VH VI)) Qe:=rfl
theorem LB {x j:Nat}(hx:x<4294967296)(hj:j<8)(h5:T.get env 5=some (.int .u32 x))(U:T.get env 20=some (.int .i64 j)):
  ∃e',ev C (n+9) oL ⟨env,34,h⟩=some (.normal,⟨e',34,h⟩)∧T.get e' 5=some (.int .u32 ((crcStep x 1:Nat):Int))∧T.get e' 20=some (.int .i64 ((j+1:Nat):Int)) ∧
   ∀t,t<20→t≠5→T.get e' t=T.get env t:=by
 have bV:decide ((j:Int)<8)=true:=by simp; omega
 have q7:=NF (C:=C) (n+7) env h U
 rw [bV] at q7
 have g5:T.get (env.set 21 (some (.bool true))) 5=some (.int .u32 x):=by simp [a_,h5]
 obtain ⟨e8,q8,q8a,J⟩:=VJ (C:=C) (n+3) (env.set 21 (some (.bool true))) h hx g5
 have g5':T.get e8 5=some (.int .u32 x):=by rw [J 5 (by omega) (by omega) (by omega),g5]
 obtain ⟨e9,q9,q9a,Zr⟩:=VK (C:=C) (n+2) e8 h hx g5' q8a
 have g20:T.get e9 20=some (.int .i64 j):=by
  rw [Zr 20 (by omega) (by omega),J 20 (by omega) (by omega) (by omega)]
  simp [a_,U]
 obtain ⟨e11,q11,aav,I⟩:=TL (C:=C) (n+5) e9 h hj g20
 refine ⟨e11,?_,?_,aav,fun t h1 h2 => ?_⟩
 ·rw [Fh,jH q7,jH (s':=⟨env.set 21 (some (.bool true)),34,h⟩) (by rw [wB (t:=true) (by simp [evO,Env.v,a_])]; rfl),Qf,
   jH (GZ (by rw [jH q8]; exact q9)),q11]
 ·rw [I 5 (by omega) (by omega),q9a]
  simp only [crcStep]
 ·rw [I t (by omega) (by omega),Zr t (by omega) h2,J t (by omega) (by omega) (by omega)]
  have:t≠21:=by omega
  simp [a_,this]
theorem LC : ∀(k n:Nat) (env:Env) (x:Nat),k≤8→x<4294967296→T.get env 5=some (.int .u32 x)→T.get env 20=some (.int .i64 ((8-k:Nat):Int)) →
  ∃J,ev C (n+10+k) (.loop oL) ⟨env,34,h⟩=some (.exit 2,⟨J,34,h⟩)∧T.get J 5=some (.int .u32 ((crcStep x k:Nat):Int))∧∀t,t<20→t≠5→T.get J t=T.get env t:=by
 intro k
 induction k with
 | zero =>
  intro n env x _ U h5 I
  have q7:=NF (C:=C) (n+7) env h I
  refine ⟨env.set 21 (some (.bool false)),?_,by simp [a_,h5,crcStep],fun t h1 h2 => ?_⟩
  ·rw [iY]
   refine uy ?_
   rw [Fh,jH q7]
   exact vD (by rw [wB (t:=false) (by simp [evO,Env.v,a_])]; rfl)
  ·have:t≠21:=by omega
   simp [a_,this]
 | succ k ih =>
  intro n env x hk U h5 I
  obtain ⟨e1,q1,q2,q3,q4⟩:=LB (C:=C) (n+1+k) env h U (show 8-(k+1)<8 by omega) h5 I
  have h8:8-(k+1)+1=8-k:=by omega
  rw [h8] at q3
  have Zs:crcStep x 1<4294967296:=by
   simp only [crcStep]
   cases Nat.beq (x%2) 1 with
   | true=>exact NG U
   | false=>simp only [ay]; omega
  obtain ⟨e2,p1,p2,p3⟩:=ih n e1 (crcStep x 1) (by omega) Zs q2 q3
  refine ⟨e2,?_,?_,fun t h1 h2=>by rw [p3 t h1 h2,q4 t h1 h2]⟩
  ·rw [show n+10+(k+1)=(n+1+k+9)+1 from by omega,Kf q1,show n+1+k+9=n+10+k from by omega]
   exact p1
  ·rw [p2]; simp only [crcStep]
end
noncomputable def VL : Code:=leftC jG
noncomputable def Gf : Code:=cG (cG jG)
noncomputable def Qg : Code:=cG Gf
noncomputable def VM : Code:=leftC nm
noncomputable def VN : Code:=leftC (cG nm)
noncomputable def VO : Code:=leftC (cG (cG nm))
theorem Qh : nm=.seq VM (.seq VN (.seq VO (.block 2 (.loop oL)))):=rfl
theorem y8 : jG=.seq VL (.seq (.cond (.tmp 13) .skip (.exit 0)) Gf):=rfl
theorem Qi : Gf=.seq (.block 1 nm) Qg:=rfl
theorem fU : bJ Tryz.prog 5=some 1:=by kernel_rfl
theorem Kg : b_ Tryz.prog 5=some false:=by kernel_rfl
section
variable {told:dM} (n:Nat) (env:Env) (h:H)
theorem G0 {i len:Nat}(I:T.get env 12=some (.int .i64 i))(J:T.get env 11=some (.int .i64 len)):
  ev ⟨Tryz.prog,told⟩ (n+1) VL ⟨env,34,h⟩=some (.normal,⟨env.set 13 (some (.bool (decide ((i:Int)<(len:Int))))),34,h⟩):=by
 simp only [VL,jG,jA,Tryz.f119,eZ,leftC,cG,unblk,unloop,gA,evStep,ay]
 rw [bS rfl rfl rfl]
 simp only [evOp,evO,Env.v,J,I,binV,ikBeq,ag,intV,bA,cE,evOps]
theorem VQ {i id off len b:Nat}{cap:Cap}(hi:i<len)(I:T.get env 12=some (.int .i64 i))(J:T.get env 10=some (.sl id off len cap))(hb:yb h id (off+i)=some (.int .u8 b)):
  ∃U,ev ⟨Tryz.prog,told⟩ (n+1) VM ⟨env,34,h⟩=some (.normal,⟨U,34,h⟩)∧T.get U 7=some (.int .u8 b)∧∀t,t≠7→t≠14→t≠15→T.get U t=T.get env t:=by
 refine ⟨((env.set 14 (some (.ptr id (off+i)))).set 15 (some (.int .u8 b))).set 7 (some (.int .u8 b)),?_,by simp [a_],fun t h1 h2 h3=>by simp [a_,h1,h2,h3]⟩
 simp only [VM,nm,jG,jA,Tryz.f119,eZ,leftC,cG,unblk,unloop,gA,evStep,ay]
 rw [bS rfl rfl rfl]
 have d1:decide ((0:Int)≤(i:Int))=true:=by simp
 have d2:decide ((i:Int)<(len:Int))=true:=by simp; exact hi
 simp only [evOp,evO,Env.v,J,I,indexAddrV,aS,fU,d1,d2,iD,ag,cQ,dW,bA,cE]
 rw [bS rfl rfl rfl]
 simp only [evOp,evO,Env.v,a_,bQ,loadV,Kg,hb,bA,cE]
 rw [bS rfl rfl rfl]
 simp only [evOp,evO,Env.v,a_,bQ,bA,cE,evOps]
theorem VR {x b:Nat}(hx:x<4294967296)(hb:b<256)(h5:T.get env 5=some (.int .u32 x))(h7:T.get env 7=some (.int .u8 b)):
  ∃I,ev ⟨Tryz.prog,told⟩ (n+1) VN ⟨env,34,h⟩=some (.normal,⟨I,34,h⟩)∧T.get I 5=some (.int .u32 ((Nat.xor x b:Nat):Int))∧∀t,t<16→t≠5→T.get I t=T.get env t:=by
 refine ⟨((((env.set 16 (some (.int .u32 x))).set 17 (some (.int .u8 b))).set 18 (some (.int .u32 b))).set 19 (some (.int .u32 ((Nat.xor x b:Nat):Int)))).set 5 (some (.int .u32 ((Nat.xor x b:Nat):Int))),?_,by simp [a_],fun t h1 h2 => ?_⟩
 ·simp only [VN,nm,jG,jA,Tryz.f119,eZ,leftC,cG,unblk,unloop,gA,evStep,ay]
  rw [bS rfl rfl rfl]
  simp only [evOp,evO,Env.v,h5,bA,cE]
  rw [bS rfl rfl rfl]
  have g7:T.get (env.set 16 (some (.int .u32 x))) 7=some (.int .u8 b):=by simp [a_,h7]
  simp only [evOp,evO,Env.v,g7,bA,cE]
  rw [bS rfl rfl rfl]
  simp only [evOp,evO,Env.v,a_,bQ,convV,Tryz.underlying5,Tryz.underlying155,wrap_u32 (show b<4294967296 by omega),cE]
  rw [bS rfl rfl rfl]
  have J:T.get (((env.set 16 (some (.int .u32 x))).set 17 (some (.int .u8 b))).set 18 (some (.int .u32 b))) 16=some (.int .u32 x):=by simp [a_]
  have U:T.get (((env.set 16 (some (.int .u32 x))).set 17 (some (.int .u8 b))).set 18 (some (.int .u32 b))) 18=some (.int .u32 b):=by simp [a_]
  simp only [evOp,evO,Env.v,J,U,binV,ikBeq,ag,xo hx (show b<4294967296 by omega),bA,cE]
  rw [bS rfl rfl rfl]
  simp only [evOp,evO,Env.v,a_,bQ,bA,cE,evOps]
 ·have a1:t≠16:=by omega
  have a2:t≠17:=by omega
  have a3:t≠18:=by omega
  have a4:t≠19:=by omega
  simp [a_,h2,a1,a2,a3,a4]
theorem VS : ev ⟨Tryz.prog,told⟩ (n+1) VO ⟨env,34,h⟩=some (.normal,⟨env.set 20 (some (.int .i64 0)),34,h⟩):=by
 simp only [VO,nm,jG,jA,Tryz.f119,eZ,leftC,cG,unblk,unloop,gA,evStep,ay]
 rw [bS rfl rfl rfl]
 simp only [evOp,evO,ofValue,ofScalar,bA,cE,evOps]
theorem TM {i:Nat}(hi:i<9223372036854775807)(I:T.get env 12=some (.int .i64 i)):
  ∃J,ev ⟨Tryz.prog,told⟩ (n+1) Qg ⟨env,34,h⟩=some (.normal,⟨J,34,h⟩)∧T.get J 12=some (.int .i64 ((i+1:Nat):Int))∧∀t,t≠12→t≠31→T.get J t=T.get env t:=by
 refine ⟨(env.set 31 (some (.int .i64 ((i+1:Nat):Int)))).set 12 (some (.int .i64 ((i+1:Nat):Int))),?_,by simp [a_],fun t U h2=>by simp [a_,U,h2]⟩
 simp only [Qg,Gf,jG,jA,Tryz.f119,eZ,leftC,cG,unblk,unloop,gA,evStep,ay]
 rw [bS rfl rfl rfl]
 simp only [evOp,evO,Env.v,I,ofValue,ofScalar,binV,ikBeq,ag,y7 hi,bA,cE]
 rw [bS rfl rfl rfl]
 simp only [evOp,evO,Env.v,a_,bQ,bA,cE,evOps]
theorem CO : ∀(k x:Nat),x<4294967296→crcStep x k<4294967296:=by
 intro k
 induction k with
 | zero=>intro x I; exact I
 | succ k J =>
  intro x I
  simp only [crcStep]
  refine J _ ?_
  cases Nat.beq (x%2) 1 with
  | true=>exact NG I
  | false=>simp only [ay]; omega
theorem Qj {x i id off len b:Nat}{cap:Cap}(hx:x<4294967296)(hb:b<256)(hi:i<len)(h5:T.get env 5=some (.int .u32 x))(J:T.get env 12=some (.int .i64 i))(U:T.get env 10=some (.sl id off len cap))
 (hr:yb h id (off+i)=some (.int .u8 b)):
  ∃e',ev ⟨Tryz.prog,told⟩ (n+22) nm ⟨env,34,h⟩=some (.normal,⟨e',34,h⟩)∧T.get e' 5=some (.int .u32 ((crcStep (Nat.xor x b) 8:Nat):Int))∧∀t,t=10∨t=11∨t=12→T.get e' t=T.get env t:=by
 obtain ⟨e4,q4,VT,I⟩:=VQ (told:=told) (n+20) env h hi J U hr
 obtain ⟨e5,q5,q5a,q5b⟩:=VR (told:=told) (n+19) e4 h hx hb (by rw [I 5 (by omega) (by omega) (by omega)]; exact h5) VT
 have q6:=VS (told:=told) (n+18) e5 h
 obtain ⟨e2,q2,NH,Fi⟩:=LC (C:=⟨Tryz.prog,told⟩) h 8 n (e5.set 20 (some (.int .i64 0))) (Nat.xor x b) (by omega) (oK hx (by omega)) (by simp [a_,q5a]) (by simp [a_])
 refine ⟨e2,?_,NH,fun t ht => ?_⟩
 ·rw [Qh,jH q4,jH q5,jH q6]
  exact yp q2
 ·rw [Fi t (by omega) (by omega)]
  have:t≠20:=by omega
  simp only [a_,this,bN]
  rw [q5b t (by omega) (by omega),I t (by omega) (by omega) (by omega)]
theorem LF {id off len:Nat}{cap:Cap}(hlen:len<9223372036854775807): ∀(l:List Nat) (i n:Nat) (env:Env) (x:Nat),i+l.length=len→x<4294967296→(∀b∈l,b<256) →
  (∀j b:Nat,l[j]?=some b→yb h id (off+(i+j))=some (.int .u8 (b:Int)))→T.get env 5=some (.int .u32 x)→T.get env 12=some (.int .i64 i)→T.get env 10=some (.sl id off len cap)→T.get env 11=some (.int .i64 len) →
  ∃e',ev ⟨Tryz.prog,told⟩ (n+30+l.length) (.loop jG) ⟨env,34,h⟩=some (.exit 0,⟨e',34,h⟩)∧T.get e' 5=some (.int .u32 ((crcL x l:Nat):Int)):=by
 intro l
 induction l with
 | nil =>
  intro i n env x hi hx _ _ h5 I VU J
  have q3:=G0 (told:=told) (n+27) env h I J
  have hd:decide ((i:Int)<(len:Int))=false:=by simp at hi ⊢; omega
  rw [hd] at q3
  refine ⟨env.set 13 (some (.bool false)),?_,by simp [a_,h5,crcL]⟩
  refine uy ?_
  rw [y8,jH q3]
  exact vD (by rw [wB (t:=false) (by simp [evO,Env.v,a_])]; rfl)
 | cons b l ih =>
  intro i n env x hi hx G1 lY h5 I VU J
  simp only [bl] at hi
  have q3:=G0 (told:=told) (n+l.length+28) env h I J
  have hd:decide ((i:Int)<(len:Int))=true:=by simp; omega
  rw [hd] at q3
  have hb:b<256:=G1 b (by simp)
  have hr:=lY 0 b (by simp)
  rw [iY] at hr
  obtain ⟨e1,q1,Sj,NI⟩:=Qj (told:=told) (cap:=cap) (n+l.length+4) (env.set 13 (some (.bool true))) h hx hb (show i<len by omega) (by simp [a_,h5]) (by simp [a_,I]) (by simp [a_,VU]) hr
  obtain ⟨e2,q2,NH,Fi⟩:=TM (told:=told) (n+l.length+26) e1 h (show i<9223372036854775807 by omega) (by rw [NI 12 (by omega)]; simp [a_,I])
  have ji:crcStep (Nat.xor x b) 8<4294967296:=CO 8 _ (oK hx (by omega))
  obtain ⟨e3,q3',VV⟩:=ih (i+1) n e2 (crcStep (Nat.xor x b) 8) (by omega) ji (fun c hc=>G1 c (by simp [hc])) (fun j c hj=>by
   have:=lY (j+1) c (by simpa using hj)
   rwa [show i+(j+1)=i+1+j from by omega] at this) (by rw [Fi 5 (by omega) (by omega)]; exact Sj) NH (by rw [Fi 10 (by omega) (by omega),NI 10 (by omega)]; simp [a_,VU]) (by rw [Fi 11 (by omega) (by omega),NI 11 (by omega)]; simp [a_,J])
  refine ⟨e3,?_,by rw [VV]; simp only [crcL]⟩
  have U:ev ⟨Tryz.prog,told⟩ (n+l.length+30) jG ⟨env,34,h⟩=some (.normal,⟨e2,34,h⟩):=by
   rw [y8,jH q3,jH (s':=⟨env.set 13 (some (.bool true)),34,h⟩) (by rw [wB (t:=true) (by simp [evO,Env.v,a_])]; rfl),Qi,
    jH (GZ q1),q2]
  rw [bl,show n+30+(l.length+1)=(n+l.length+30)+1 from by omega,Kf U,show n+l.length+30=n+30+l.length from by omega]
  exact q3'
noncomputable def VW : Code:=leftC jA
noncomputable def VX : Code:=leftC (cG jA)
noncomputable def VY : Code:=leftC (leftC (cG (cG jA)))
noncomputable def Qk : Code:=cG (cG (cG jA))
theorem Ql : jA=.seq VW (.seq VX (.seq (.seq VY (.block 0 (.loop jG))) Qk)):=rfl
theorem VZ : ev ⟨Tryz.prog,told⟩ (n+1) VW ⟨env,34,h⟩=some (.normal,⟨env.set 4 (some (.int .u32 0)),34,h⟩):=by
 simp only [VW,jA,Tryz.f119,eZ,leftC,gA,evStep,ay]
 rw [bS rfl rfl rfl]
 simp only [evOp,evO,ofValue,ofScalar,bA,cE,evOps]
theorem V0 {x:Nat}(J:x<4294967296)(U:T.get env 0=some (.int .u32 x)):
  ∃I,ev ⟨Tryz.prog,told⟩ (n+1) VX ⟨env,34,h⟩=some (.normal,⟨I,34,h⟩)∧T.get I 5=some (.int .u32 ((Nat.xor x 4294967295:Nat):Int))∧∀t,t≠5→t≠8→t≠9→T.get I t=T.get env t:=by
 refine ⟨((env.set 8 (some (.int .u32 x))).set 9 (some (.int .u32 ((Nat.xor x 4294967295:Nat):Int)))).set 5 (some (.int .u32 ((Nat.xor x 4294967295:Nat):Int))),?_,by simp [a_],fun t h1 h2 h3=>by simp [a_,h1,h2,h3]⟩
 simp only [VX,jA,Tryz.f119,eZ,leftC,cG,gA,evStep,ay]
 rw [bS rfl rfl rfl]
 simp only [evOp,evO,Env.v,U,bA,cE]
 rw [bS rfl rfl rfl]
 have:=xo (a:=x) (b:=4294967295) J (by omega)
 rw [show ((4294967295:Nat):Int)=4294967295 from rfl] at this
 simp only [evOp,evO,Env.v,a_,bQ,ofValue,ofScalar,binV,ikBeq,ag,this,bA,cE]
 rw [bS rfl rfl rfl]
 simp only [evOp,evO,Env.v,a_,bQ,bA,cE,evOps]
theorem V1 {x:V}{len:Nat}(J:T.get env 1=some x)(U:lenV Tryz.prog h 32 x=some (.int .i64 len)):
  ∃I,ev ⟨Tryz.prog,told⟩ (n+1) VY ⟨env,34,h⟩=some (.normal,⟨I,34,h⟩)∧T.get I 10=some x∧T.get I 11=some (.int .i64 len)∧T.get I 12=some (.int .i64 ((0:Nat):Int))∧T.get I 5=T.get env 5:=by
 refine ⟨((env.set 10 (some x)).set 11 (some (.int .i64 len))).set 12 (some (.int .i64 0)),?_,by simp [a_],by simp [a_],by simp [a_],by simp [a_]⟩
 simp only [VY,jA,Tryz.f119,eZ,leftC,cG,gA,evStep,ay]
 rw [bS rfl rfl rfl]
 simp only [evOp,evO,Env.v,J,bA,cE]
 rw [bS rfl rfl rfl]
 simp only [evOp,evCall,evArgs,evO,Env.v,a_,bQ,builtinV,U,iW,cE]
 rw [bS rfl rfl rfl]
 simp only [evOp,evO,ofValue,ofScalar,bA,cE,evOps]
theorem TN {x:Nat}(J:x<4294967296)(U:T.get env 5=some (.int .u32 x)):
  ∃I,ev ⟨Tryz.prog,told⟩ (n+2) Qk ⟨env,34,h⟩=some (.ret,⟨I,34,h⟩)∧T.get I 4=some (.int .u32 ((Nat.xor x 4294967295:Nat):Int)):=by
 refine ⟨((env.set 32 (some (.int .u32 x))).set 33 (some (.int .u32 ((Nat.xor x 4294967295:Nat):Int)))).set 4 (some (.int .u32 ((Nat.xor x 4294967295:Nat):Int))),?_,by simp [a_]⟩
 simp only [Qk,jA,Tryz.f119,eZ,cG,gA,evStep,ay]
 rw [bS rfl rfl rfl]
 simp only [evOp,evO,Env.v,U,bA,cE]
 rw [bS rfl rfl rfl]
 have:=xo (a:=x) (b:=4294967295) J (by omega)
 rw [show ((4294967295:Nat):Int)=4294967295 from rfl] at this
 simp only [evOp,evO,Env.v,a_,bQ,ofValue,ofScalar,binV,ikBeq,ag,this,bA,cE]
 rw [bS rfl rfl rfl]
 simp only [evOp,evO,Env.v,a_,bQ,bA,cE,evOps]
end
theorem LG : ∀(cs:List V) (l:List Nat),bytesIn cs=some l→cs=l.map (fun (b:Nat)=>V.int .u8 (b:Int))∧∀b∈l,b<256:=by
 intro cs
 induction cs with
 | nil=>intro l h; simp [bytesIn] at h; subst h; simp
 | cons v cs U =>
  intro l h
  unfold bytesIn at h
  split at h
  ·rename_i he; cases he
  ·rename_i n l' he
   simp only [v7] at he
   obtain ⟨rfl,rfl⟩:=he
   cases I:(decide (0≤n)&&decide (n<256)) with
   | false=>rw [I] at h; cases h
   | true =>
    rw [I,ag] at h
    simp only [aZ,dZ] at I
    cases hm:bytesIn cs with
    | none=>simp [hm] at h
    | some m =>
     simp [hm] at h
     subst h
     obtain ⟨i1,i2⟩:=U m hm
     refine ⟨?_,fun b J => ?_⟩
     ·simp only [bI,←i1]
      congr 2
      omega
     ·rcases List.mem_cons.1 J with rfl | J
      ·omega
      ·exact i2 b J
  ·cases h
theorem Eo : ∀(l:List Nat) (x:Nat),x<4294967296→(∀b∈l,b<256)→crcL x l<4294967296:=by
 intro l
 induction l with
 | nil=>intro x I _; exact I
 | cons b l U =>
  intro x I J
  have h1:=J b (by simp)
  exact U _ (CO 8 _ (oK I (by omega))) (fun c hc=>J c (by simp [hc]))
theorem BW {σ : H} {s : Int} {x : V} {l : List Nat} {len : Nat} (hs0 : 0 ≤ s) (yO : s < 4294967296) (hl : lenV Tryz.prog σ 32 x = some (.int .i64 len)) (hlen : len = l.length) (qt : len < 9223372036854775807)
  (hb : ∀ b ∈ l, b < 256) (hx : l = [] ∨ ∃ id off cap, x = .sl id off len cap ∧ ∀ j b : Nat, l[j]? = some b → yb σ id (off + (0 + j)) = some (.int .u8 (b : Int))) :
  run ⟨Tryz.prog, fun _ => none⟩ (l.length + 40) 119 [.int .u32 s, x] σ = some (ux s l, σ) := by
 obtain ⟨u, rfl⟩ : ∃ u : Nat, s = (u : Int) := ⟨s.toNat, by omega⟩
 have hu : u < 4294967296 := by omega
 have q0 := VZ (told := fun _ => none) (l.length + 38) (bindArgs [.int .u32 u, x] 0 .lf) σ
 obtain ⟨e1, q1, Sj, NI⟩ := V0 (told := fun _ => none) (l.length + 37) ((bindArgs [.int .u32 u, x] 0 .lf).set 4 (some (.int .u32 0))) σ hu (by simp [a_, bindArgs])
 obtain ⟨e2, q2, NH, Fi, Zt, Zu⟩ := V1 (told := fun _ => none) (l.length + 35) e1 σ (x := x) (by rw [NI 1 (by omega) (by omega) (by omega)]; simp [a_, bindArgs]) hl
 have I : Nat.xor u 4294967295 < 4294967296 := oK hu (by omega)
 have J : ∃ e', ev ⟨Tryz.prog, fun _ => none⟩ (5 + 30 + l.length) (.loop jG) ⟨e2, 34, σ⟩ = some (.exit 0, ⟨e', 34, σ⟩) ∧ T.get e' 5 = some (.int .u32 ((crcL (Nat.xor u 4294967295) l : Nat) : Int)) := by
  rcases hx with rfl | ⟨id, off, cap, rfl, lY⟩
  ·have q3 := G0 (told := fun _ => none) 32 e2 σ Zt Fi
   have hd : decide ((((0 : Nat) : Int)) < (len : Int)) = false := by subst hlen; rfl
   rw [hd] at q3
   refine ⟨e2.set 13 (some (.bool false)), ?_, by simp [a_, Zu, Sj, crcL]⟩
   refine uy ?_
   rw [y8, jH q3]
   exact vD (by rw [wB (t := false) (by simp [evO, Env.v, a_])]; rfl)
  ·exact LF σ qt l 0 5 e2 _ (by omega) I hb lY (by rw [Zu]; exact Sj) Zt NH Fi
 obtain ⟨e3, q3, VV⟩ := J
 obtain ⟨e4, q4, VT⟩ := TN (told := fun _ => none) (l.length + 35) e3 σ (Eo l _ I hb) VV
 have U : ev ⟨Tryz.prog, fun _ => none⟩ (l.length + 40) jA ⟨bindArgs [.int .u32 u, x] 0 .lf, 34, σ⟩ = some (.ret, ⟨e4, 34, σ⟩) := by
  rw [Ql, jH q0, jH q1, jH (s' := ⟨e3, 34, σ⟩) (by
   rw [jH q2]
   rw [show 5 + 30 + l.length = l.length + 35 from by omega] at q3
   exact yp q3), q4]
 unfold run callF
 simp only [CM]
 rw [show Tryz.f119.body = some jA from rfl]
 rw [show (Tryz.f119.name == "runtime.NumGoroutine" || Nat.blt Tryz.f119.ntmps [V.int .u32 (u : Int), x].length) = false from rfl]
 simp only [ay]
 rw [show Tryz.f119.ntmps = 34 from rfl, U]
 simp only
 rw [show Tryz.f119.results = #[.tmp 4] from rfl]
 simp only [mapO, resV, Env.v, VT, ux, cQ]
section
variable {C:dF} {c:Ctx} {σ:H} {w:World}
theorem Jh (hP:C.P=Tryz.prog)(hm:C.P.follows .mixedOrders=true){args:List V}{v:V}{iJ:H}(I:toldMore args σ=some (v,iJ))(h:Rel c σ w)(hw:∀x∈args,wf c x):
  fX C.P 119 args c w v iJ:=by
 rw [hP] at hm ⊢
 have hT:hG ⟨Tryz.prog,fun _=>none⟩:=fun f g hg=>by cases hg
 unfold toldMore at I
 split at I
 ·rename_i s id off len cap
  cases U:(decide (0≤s)&&decide (s<4294967296)&&Nat.ble len 4611686018427387904) with
  | false=>rw [U] at I; cases I
  | true =>
   rw [U,ag] at I
   simp only [aZ,dZ,aQ] at U
   obtain ⟨J,qt⟩:=U
   cases lY:rdN σ id off len with
   | none=>simp [lY] at I
   | some cs =>
    simp only [lY] at I
    cases hb:bytesIn cs with
    | none=>simp [hb] at I
    | some l =>
     simp only [hb,au,aP] at I
     obtain ⟨rfl,rfl⟩:=I
     obtain ⟨b1,b2⟩:=LG cs l hb
     obtain ⟨d1,d2⟩:=TK h lY
     have hl:len=l.length:=by rw [←d1,b1]; simp
     refine CI (C:=⟨Tryz.prog,fun _=>none⟩) hm hT (BW J.1 J.2 (len:=len) (by simp [lenV,aS]) hl (by omega) b2 (.inr ⟨id,off,cap,rfl,fun j b hj => ?_⟩)) h hw
     ·rw [dV,d2 j (by rw [hl]; exact (List.getElem?_eq_some_iff.1 hj).1),b1]
      simp [hj]
 ·rename_i s
  cases J:(decide (0≤s)&&decide (s<4294967296)) with
  | false=>rw [J] at I; cases I
  | true =>
   rw [J,ag] at I
   simp only [aZ,dZ] at J
   simp only [au,aP] at I
   obtain ⟨rfl,rfl⟩:=I
   exact CI (C:=⟨Tryz.prog,fun _=>none⟩) hm hT (BW J.1 J.2 (len:=0) (l:=[]) (by simp [lenV,aS]) rfl (by omega) (by simp) (.inl rfl)) h hw
 ·rename_i s _
  cases J:(decide (0≤s)&&decide (s<4294967296)) with
  | false=>rw [J] at I; cases I
  | true =>
   rw [J,ag] at I
   simp only [aZ,dZ] at J
   simp only [au,aP] at I
   obtain ⟨rfl,rfl⟩:=I
   exact CI (C:=⟨Tryz.prog,fun _=>none⟩) hm hT (BW J.1 J.2 (len:=0) (l:=[]) (by simp [lenV,aS]) rfl (by omega) (by simp) (.inl rfl)) h hw
 ·cases I
end
def mA (h:H): Prop:=∀id o,T.get h.tr id=some o→id<h.next
theorem mA.new {h:H}(hw:mA h)(o:Obj): mA (h.new o):=by
 intro id q I
 rw [f_] at I
 show id<h.next+1
 split at I
 ·omega
 ·exact Nat.lt_succ_of_lt (hw id q I)
theorem mA.put {h:H}(hw:mA h){id:Nat}(J:id<h.next)(o:Option Obj): mA (h.put id o):=by
 intro j q I
 rw [b8] at I
 show j<h.next
 split at I
 ·omega
 ·exact hw j q I
structure eN (k:Nat)(S:List Nat)(h h':H): Prop where
 wf:mA h'
 le:h.next≤h'.next
 bd:h'.next≤h.next+k
 get:∀id,id<h.next→id∉S→T.get h'.tr id=T.get h.tr id
theorem eN.refl {h:H}(hw:mA h)(S:List Nat): eN 0 S h h:=⟨hw,aI _,aI _,fun _ _ _=>rfl⟩
theorem eN.trans {k k':Nat}{S S':List Nat}{h h' I:H}(a:eN k S h h')(b:eN k' S' h' I)(hs:∀i∈S',i∈S∨h.next≤i): eN (k+k') S h I:=by
 refine ⟨b.wf,cy a.le b.le,by have:=a.bd; have:=b.bd; omega,fun id J U => ?_⟩
 rw [b.get id (gI J a.le) (fun hm => ?_),a.get id J U]
 rcases hs id hm with h1 | h1
 ·exact U h1
 ·omega
theorem eN.mono {k k':Nat}{S S':List Nat}{h h':H}(a:eN k S h h')(J:k≤k')(hs:∀i∈S,i∈S'): eN k' S' h h' :=
 ⟨a.wf,a.le,cy a.bd (vT J _),fun id I U=>a.get id I (fun hm=>U (hs id hm))⟩
theorem eN.row {k:Nat}{S:List Nat}{h h':H}(a:eN k S h h')(hw:mA h){id:Nat}{o:Obj}(I:T.get h.tr id=some o)(J:id∉S): T.get h'.tr id=some o:=by
 rw [a.get id (hw id o I) J]; exact I
theorem eN.A0 {h:H}(hw:mA h)(o:Obj): eN 1 [] h (h.new o) :=
 ⟨hw.new o,nZ _,aI _,fun id I _=>by rw [f_,af (by omega)]⟩
theorem eN.Sk {h:H}(hw:mA h){id:Nat}(I:id<h.next)(o:Option Obj): eN 0 [id] h (h.put id o) :=
 ⟨hw.put I o,aI _,aI _,fun j _ J=>by rw [b8,af (fun e=>J (by simp [e]))]⟩
theorem dR (l:List Nat): (ofBytes l).length=l.length:=by simp [ofBytes]
theorem rX (l m:List Nat): ofBytes (l++m)=ofBytes l++ofBytes m:=by simp [ofBytes]
def View (h:H)(v:V)(l:List Nat): Prop:=(∀b∈l,b<256)∧(((v=.bz∨∃a,v=.sle a)∧l=[]) ∨
 ∃id off cap n cs st,v=.sl id off l.length cap∧T.get h.tr id=some (.cells n cs st)∧cs.length=n∧off+l.length≤n∧(cs.drop off).take l.length=ofBytes l ∧
  (match cap with | .exact c=>l.length≤c | .rest e _=>e=1))
def j4 (h:H)(v:V)(l:List Nat): Prop:=(∀b∈l,b<256)∧((v=.bz∧l=[]) ∨
 (∃id cs c,v=.sl id 0 l.length (.exact c)∧T.get h.tr id=some (.cells c (ofBytes l++cs) false)∧l.length+cs.length=c) ∨
 (∃id,v=.sl id 0 l.length (.rest 1 0)∧T.get h.tr id=some (.cells l.length (ofBytes l) false)∧1≤l.length))
def rowIds : V→List Nat
 | .sl id _ _ _=>[id]
 | _=>[]
theorem j4.view {h:H}{v:V}{l:List Nat}(I:j4 h v l): View h v l:=by
 obtain ⟨U,I⟩:=I
 refine ⟨U,?_⟩
 rcases I with I | ⟨id,cs,c,rfl,J,hc⟩ | ⟨id,rfl,J,h1⟩
 ·exact .inl ⟨.inl I.1,I.2⟩
 ·refine .inr ⟨id,0,.exact c,c,_,false,rfl,J,by simp [dR,hc],by omega,?_,by show l.length≤c; omega⟩
  rw [d_,jX (dR l)]
 ·refine .inr ⟨id,0,.rest 1 0,_,_,false,rfl,J,dR l,by omega,?_,rfl⟩
  rw [d_]
  exact fR (by rw [dR]; exact aI _)
theorem View.cX {k:Nat}{S:List Nat}{h h':H}{v:V}{l:List Nat}(I:View h v l)(hw:mA h)(J:eN k S h h')(U:∀i∈rowIds v,i∉S): View h' v l:=by
 obtain ⟨hl,I⟩:=I
 refine ⟨hl,?_⟩
 rcases I with I | ⟨id,off,cap,n,cs,st,rfl,hg,h1,h2,h3,h4⟩
 ·exact .inl I
 ·exact .inr ⟨id,off,cap,n,cs,st,rfl,J.row hw hg (U id (by simp [rowIds])),h1,h2,h3,h4⟩
theorem j4.cX {k:Nat}{S:List Nat}{h h':H}{v:V}{l:List Nat}(I:j4 h v l)(hw:mA h)(U:eN k S h h')(hn:∀i∈rowIds v,i∉S): j4 h' v l:=by
 obtain ⟨hl,I⟩:=I
 refine ⟨hl,?_⟩
 rcases I with I | ⟨id,cs,c,rfl,J,hc⟩ | ⟨id,rfl,J,h1⟩
 ·exact .inl I
 ·exact .inr (.inl ⟨id,cs,c,rfl,U.row hw J (hn id (by simp [rowIds])),hc⟩)
 ·exact .inr (.inr ⟨id,rfl,U.row hw J (hn id (by simp [rowIds])),h1⟩)
theorem View.len {h:H}{v:V}{l:List Nat}(I:View h v l): lenV Tryz.prog h 32 v=some (.int .i64 l.length):=by
 obtain ⟨_,I⟩:=I
 rcases I with ⟨rfl | ⟨J,rfl⟩,rfl⟩ | ⟨id,off,cap,n,cs,st,rfl,_⟩ <;> simp [lenV,aS]
theorem View.rdN {h:H}{id off len:Nat}{cap:Cap}{l:List Nat}(J:View h (.sl id off len cap) l): len=l.length∧rdN h id off len=some (ofBytes l):=by
 obtain ⟨_,J⟩:=J
 rcases J with ⟨I,_⟩ | ⟨Bu,off',U,n,cs,st,I,hg,h1,h2,h3,h4⟩
 ·rcases I with I | ⟨_,I⟩ <;> cases I
 ·injection I with e1 e2 e3 e4
  subst e1; subst e2; subst e3
  refine ⟨rfl,?_⟩
  unfold Am.rdN
  simp only [hg]
  rw [aQ.2 h2,ag]
  cases hc:(Nat.beq off 0&&Nat.beq l.length n) with
  | true =>
   simp only [aZ,beq_iff] at hc
   obtain ⟨rfl,hn⟩:=hc
   rw [ag,←h3,d_,fR (by omega)]
  | false=>rw [ay,h3]
theorem wC : ∃i,Tryz.prog.info? 5=some i∧i.size=1∧i.bytes=1:=by
 refine ⟨_,(show Tryz.prog.info? 5=some ((Tryz.prog.info? 5).getD default) by kernel_rfl),by kernel_rfl,by kernel_rfl⟩
theorem rG : zeroT Tryz.prog 5=some (.int .u8 0):=by kernel_rfl
theorem CP {h:H}{x:V}{m:List Nat}(J:View h x m): srcV h 1 x=some (ofBytes m,m.length):=by
 obtain ⟨U,I⟩:=J
 rcases I with ⟨rfl | ⟨ea,rfl⟩,rfl⟩ | ⟨id,off,cap,n,cs,st,rfl,hg,h1,h2,h3,h4⟩
 ·rfl
 ·rfl
 ·simp only [srcV,dW]
  rw [(View.rdN (l:=m) ⟨U,.inr ⟨id,off,cap,n,cs,st,rfl,hg,h1,h2,h3,h4⟩⟩).2]
  rfl
theorem y9 {h:H}{s x:V}{l m:List Nat}(hw:mA h)(hs:j4 h s l)(hx:View h x m)(eX:l.length+m.length≤140737488355328):
  ∃v' h',appendV Tryz.prog h #[32,32] s x=some (v',h')∧j4 h' v' (l++m)∧eN 1 (rowIds s) h h'∧(∀i∈rowIds v',i∈rowIds s∨h.next≤i):=by
 obtain ⟨i,hi,i1,i2⟩:=wC
 have J:∀b∈l++m,b<256:=fun b hb=>by
  rcases List.mem_append.1 hb with hb | hb
  ·exact hs.1 b hb
  ·exact hx.1 b hb
 have Fj:mU (l.length+m.length) 1=true:=w9.2 ⟨eX,by omega⟩
 unfold appendV
 simp only [aS,hi,rG,i1,i2,V.cells,bl,bY,CP hx]
 rw [show (Nat.ble 1 1&&Nat.ble 1 4096&&Nat.beq (0+1) 1)=true from rfl,ag]
 cases hm:Nat.beq m.length 0 with
 | true =>
  have Fk:m=[]:=qW (beq_iff.1 hm)
  subst Fk
  rw [ag,bF]
  have I:=hs
  obtain ⟨_,I⟩:=I
  rcases I with ⟨rfl,rfl⟩ | ⟨id,cs,c,rfl,hg,hc⟩ | ⟨id,rfl,hg,h1⟩
  ·exact ⟨_,_,rfl,hs,(eN.refl hw _).mono (eM _) (fun _ h=>h),fun i hi=>.inl hi⟩
  ·exact ⟨_,_,rfl,hs,(eN.refl hw _).mono (eM _) (fun _ h=>h),fun i hi=>.inl hi⟩
  ·exact ⟨_,_,rfl,hs,(eN.refl hw _).mono (eM _) (fun _ h=>h),fun i hi=>.inl hi⟩
 | false =>
  have Fk:1≤m.length:=by
   rcases vV m.length with h0 | h0
   ·rw [g9 h0] at hm; cases hm
   ·exact h0
  rw [ay]
  have U:∀(σ:H) (old:List Nat),mA σ→1≤(old++m).length→(∀b∈old++m,b<256)→j4 (n4 σ 1 (ofBytes old) (ofBytes m) (old.length+m.length)).2 (n4 σ 1 (ofBytes old) (ofBytes m) (old.length+m.length)).1 (old++m):=by
   intro σ old _ h1 h2
   refine ⟨h2,.inr (.inr ⟨σ.next,?_,?_,h1⟩)⟩
   ·simp only [n4,bC]
   ·simp only [n4]
    rw [f_,aj rfl,dW,bC,rX]
  have I:=hs
  obtain ⟨_,I⟩:=I
  rcases I with ⟨rfl,rfl⟩ | ⟨id,cs,c,rfl,hg,hc⟩ | ⟨id,rfl,hg,h1⟩
  ·simp only
   have aaw:mU m.length 1=true:=by simpa using Fj
   rw [aaw,ag]
   have:=U h [] hw (by simpa using Fk) (by simpa using hx.1)
   simp only [bY,dV,cW] at this
   exact ⟨_,_,rfl,by rw [cW]; exact this,(eN.A0 hw _).mono (aI _) (fun i hi=>by simp at hi),fun i hi=>.inr (by simp [rowIds] at hi; omega)⟩
  ·simp only [dW,dV]
   have hv:=j4.view hs
   cases hq:Nat.ble (l.length+m.length) c with
   | true =>
    have uu:=aQ.1 hq
    rw [ag]
    unfold wrN
    simp only [hg,dR]
    rw [hq,ag]
    simp only
    have uz:(cond (Nat.beq l.length 0&&Nat.beq m.length c) (ofBytes m) ((ofBytes l++cs).take l.length++(ofBytes m++(ofBytes l++cs).drop (l.length+m.length))))=ofBytes (l++m)++cs.drop m.length:=by
     have e1:(ofBytes l++cs).take l.length=ofBytes l:=jX (dR l)
     have e2:(ofBytes l++cs).drop (l.length+m.length)=cs.drop m.length:=by
      rw [AH,dR,show l.length+m.length-l.length=m.length from by omega,iB (by rw [dR]; omega),cW]
     cases hz:(Nat.beq l.length 0&&Nat.beq m.length c) with
     | true =>
      simp only [aZ,beq_iff] at hz
      have E9:l=[]:=qW hz.1
      subst E9
      have qS:cs.drop m.length=[]:=iB (by simp at hc; omega)
      simp [qS]
     | false=>rw [ay,e1,e2,rX,bH]
    rw [uz]
    refine ⟨_,_,rfl,⟨J,.inr (.inl ⟨id,cs.drop m.length,c,by simp,?_,by simp; omega⟩)⟩,(eN.Sk hw (hw id _ hg) _).mono (eM _) (fun i hi=>by simpa [rowIds] using hi),fun i hi=>.inl (by simpa [rowIds] using hi)⟩
    rw [b8,aj rfl]
   | false =>
    rw [ay,Fj,ag,hv.rdN.2]
    simp only
    exact ⟨_,_,rfl,U h l hw (by simp; omega) J,(eN.A0 hw _).mono (aI _) (fun i hi=>by simp at hi),fun i hi=>.inr (by simp [rowIds] at hi; omega)⟩
  ·simp only [dx,ag,dW,dV]
   have hv:=j4.view hs
   have GH:kP h id 0 1=l.length:=by simp [kP,hg]
   have hf:Nat.ble (l.length+m.length) l.length=false:=by
    cases hq:Nat.ble (l.length+m.length) l.length with
    | true=>have:=aQ.1 hq; omega
    | false=>rfl
   rw [GH,hf,ay,Fj,show Nat.ble 2 (l.length+m.length)=true from aQ.2 (by omega),iD,ag,hv.rdN.2,hg]
   simp only
   have qT:mA (h.put id none):=hw.put (hw id _ hg) _
   refine ⟨_,_,rfl,U (h.put id none) l qT (by simp; omega) J,?_,fun i hi=>.inr (by simp [rowIds,H.put] at hi; omega)⟩
   refine ((eN.Sk hw (hw id _ hg) none).trans (S':=[]) (eN.A0 qT _) (fun i hi=>by simp at hi)).mono (aI _) (fun i hi=>by simpa [rowIds] using hi)
end Go.Proofs.YtconhghphklfjaaGreat.Am
