/- AtomSame: a part of its proof; conditions: its statement's. -/
import Derived.Test.YtconhghphklfjaaGreatS11
import Derived.Test.YtconhghphklfjaaGreatProg
import Derived.KernelRfl
set_option linter.defProp false
namespace Go.Proofs.YtconhghphklfjaaGreat.Am
open Go
def aS:=@Tryz.underlying32
def B4:=@Tryz.func119
abbrev dF:=Nat→Option (List V→H→Option (V×H))
noncomputable section
end
def crcStep : Nat→Nat→Nat
 | r,0=>r
 | r,k+1=>crcStep (cond (Nat.beq (r%2) 1) (Nat.xor (r/2) 3988292384) (r/2)) k
def crcL : Nat→List Nat→Nat
 | r,[]=>r
 | r,b::l=>crcL (crcStep (Nat.xor r b) 8) l
def bytesIn : List V→Option (List Nat)
 | []=>some []
 | .int .u8 n::l=>cond (decide (0≤n)&&decide (n<256)) (match bytesIn l with
  | some m=>some (n.toNat::m)
  | none=>none) none
 | _=>none
def tS (s:Int)(l:List Nat): V:=.int .u32 ((Nat.xor (crcL (Nat.xor s.toNat 4294967295) l) 4294967295:Nat):Int)
noncomputable def toldMore : List V→H→Option (V×H)
 | [.int .u32 s,.sl id off len _],h=>cond (decide (0≤s)&&decide (s<4294967296)&&Nat.ble len 4611686018427387904) (match rdN h id off len with
  | some cs=>match bytesIn cs with
   | some l=>some (tS s l,h)
   | none=>none
  | none=>none) none
 | [.int .u32 s,.bA],h=>cond (decide (0≤s)&&decide (s<4294967296)) (some (tS s [],h)) none
 | [.int .u32 s,.sle _],h=>cond (decide (0≤s)&&decide (s<4294967296)) (some (tS s [],h)) none
 | _,_=>none
theorem wrap_u32 {n:Nat}(h:n<4294967296): IntKind.wrap .u32 (n:Int)=(n:Int):=by
 simp only [IntKind.wrap,IntKind.bits,IntKind.signed,eW,eN,bK]
 omega
theorem yl {n:Nat}(h:n<4294967296): ((n:Int)%(2^(IntKind.u32).bits:Int)).toNat=n:=by
 simp only [IntKind.bits]
 omega
theorem og {a b:Nat}(I:a<4294967296)(J:b<4294967296): Nat.xor a b<4294967296:=Nat.xor_lt_two_pow (n:=32) I J
theorem wI {a b:Nat}(I:a<4294967296)(J:b<4294967296): intV .xor .u32 (a:Int) (b:Int)=some (.int .u32 ((Nat.xor a b:Nat):Int)):=by
 simp only [intV,bitsV]
 rw [yl I,yl J,wrap_u32 (og I J)]
theorem MW {a:Nat}(I:a<4294967296): intV .and .u32 (a:Int) 1=some (.int .u32 ((a%2:Nat):Int)):=by
 have J:((1:Int)%(2^(IntKind.u32).bits:Int)).toNat=1:=by simp [IntKind.bits]
 simp only [intV,bitsV]
 rw [yl I,J]
 have:Nat.land a 1=a%2:=Nat.and_one_is_mod a
 rw [this,wrap_u32 (by omega)]
theorem B5 {a:Nat}: shiftV .shr .u32 (a:Int) 1=some (.int .u32 ((a/2:Nat):Int)):=by
 simp only [shiftV,IntKind.bits]
 have:(Int.toNat 1)=1:=rfl
 simp [this,C_]
theorem SM {c:Ctx}{σ:H}{w:World}{id off k:Nat}{vs:List V}(h:Rel c σ w)(I:rdN σ id off k=some vs): vs.length=k∧∀j,j<k→xy σ id (off+j)=vs[j]?:=by
 unfold rdN at I
 split at I
 ·rename_i n cs st U
  have hn:n=cs.length:=(h.obj id _ U).1
  cases hq:Nat.ble (off+k) n with
  | false=>rw [hq] at I; cases I
  | true =>
   rw [hq,ah] at I
   have hle:=aO.1 hq
   simp only [au] at I
   cases J:(Nat.beq off 0&&Nat.beq k n) with
   | true =>
    rw [J,ah] at I
    simp only [aY,beq_iff] at J
    subst I
    refine ⟨by omega,fun j _ => ?_⟩
    unfold xy
    rw [U]
    simp only [fM,J.1,dU]
   | false =>
    rw [J,az] at I
    subst I
    refine ⟨by simp; omega,fun j hj => ?_⟩
    unfold xy
    rw [U]
    simp only [fM]
    rw [lS,aj hj,jG]
 ·cases I
def unblk : Code→Code
 | .block _ c=>c
 | c=>c
def unloop : Code→Code
 | .loop c=>c
 | c=>c
noncomputable def jm : Code:=(Tryz.f119.body).getD .skip
noncomputable def jt : Code:=unloop (unblk (cF (leftC (cF (cF jm)))))
noncomputable def m6 : Code:=unblk (leftC (cF (cF jt)))
noncomputable def oh : Code:=unloop (unblk (cF (cF (cF m6))))
theorem f_ (C:dw)(n:Nat)(c:Code)(s:St): ev C (n+1) c s=evStep C (ev C n) c s:=rfl
theorem wrap_i64 {n:Nat}(h:n<9223372036854775808): IntKind.wrap .i64 (n:Int)=(n:Int):=by
 have I:((n:Int)%(2^(IntKind.i64).bits:Int))=(n:Int):=by simp only [IntKind.bits]; omega
 have J:¬ ((n:Int)≥(2^((IntKind.i64).bits-1):Int)):=by simp only [IntKind.bits]; omega
 simp only [IntKind.wrap,I,J,qL,lV,eN,bK]
theorem ym {n:Nat}(h:n<9223372036854775807): intV .add .i64 (n:Int) 1=some (.int .i64 ((n+1:Nat):Int)):=by
 have:((n:Int)+1)=((n+1:Nat):Int):=by omega
 simp only [intV,this,wrap_i64 (show n+1<9223372036854775808 by omega)]
section
variable {C:dw} {self:Self}
theorem bS {L rest:List Oper}{o:Oper}{d:Nat}{env:Env}{n:Nat}{h:H}(J:o.guard=none)(U:o.dst=some d)(I:Nat.blt d n=true):
  evOps C self L (o::rest) ⟨env,n,h⟩=(evOp C self env h o).bind fun r=>evOps C self L rest ⟨env.set d (some r.1),n,r.2⟩:=by
 simp only [evOps,wantedV,J,ah]
 cases evOp C self env h o with
 | none=>rfl
 | some r=>simp only [St.put,U,I,ah,cB]
end
noncomputable def UH : Code:=leftC oh
noncomputable def uL : Code:=cF (cF oh)
noncomputable def UI : Code:=leftC (unblk (leftC uL))
noncomputable def UJ : Code:=cF (unblk (leftC uL))
noncomputable def Po : Code:=cF uL
section
variable {C:dw} (n:Nat) (env:Env) (h:H)
theorem MX {j:Nat}(I:T.get env 20=some (.int .i64 j)): ev C (n+1) UH ⟨env,34,h⟩=some (.normal,⟨env.set 21 (some (.bool (decide ((j:Int)<8)))),34,h⟩):=by
 simp only [UH,oh,m6,jt,jm,Tryz.f119,eO,leftC,cF,unblk,unloop,f_,evStep,az]
 rw [bS rfl rfl rfl]
 simp only [evOp,evO,Env.v,I,ofValue,ofScalar,binV,ikBeq,ah,intV,bu,cB,evOps]
theorem UK {x:Nat}(J:x<4294967296)(U:T.get env 5=some (.int .u32 x)):
  ∃I,ev C (n+1) UI ⟨env,34,h⟩=some (.normal,⟨I,34,h⟩)∧T.get I 24=some (.bool (Nat.beq (x%2) 1))∧∀t,t≠22→t≠23→t≠24→T.get I t=T.get env t:=by
 refine ⟨((env.set 22 (some (.int .u32 x))).set 23 (some (.int .u32 ((x%2:Nat):Int)))).set 24 (some (.bool (Nat.beq (x%2) 1))),?_,by simp [aZ],fun t h1 h2 h3=>by simp [aZ,h1,h2,h3]⟩
 simp only [UI,uL,oh,m6,jt,jm,Tryz.f119,eO,leftC,cF,unblk,unloop,f_,evStep,az]
 rw [bS rfl rfl rfl]
 simp only [evOp,evO,Env.v,U,bu,cB]
 rw [bS rfl rfl rfl]
 simp only [evOp,evO,Env.v,aZ,bQ,ofValue,ofScalar,binV,ikBeq,ah,MW J,bu,cB]
 rw [bS rfl rfl rfl]
 simp only [evOp,evO,Env.v,aZ,bQ,ofValue,ofScalar,binV,ikBeq,ah,intV,bu,cB,evOps]
 rfl
theorem MY {x:Nat}(I:x<4294967296): Nat.xor (x/2) 3988292384<4294967296:=og (by omega) (by omega)
theorem UL {x:Nat}{b:Bool}(hx:x<4294967296)(h5:T.get env 5=some (.int .u32 x))(I:T.get env 24=some (.bool b)):
  ∃J,ev C (n+2) UJ ⟨env,34,h⟩=some (.normal,⟨J,34,h⟩)∧T.get J 5=some (.int .u32 ((cond b (Nat.xor (x/2) 3988292384) (x/2):Nat):Int))∧∀t,t<25→t≠5→T.get J t=T.get env t:=by
 simp only [UJ,uL,oh,m6,jt,jm,Tryz.f119,eO,leftC,cF,unblk,unloop,f_,evStep,evO,Env.v,I]
 cases b with
 | true =>
  refine ⟨(((env.set 25 (some (.int .u32 x))).set 26 (some (.int .u32 ((x/2:Nat):Int)))).set 27 (some (.int .u32 ((Nat.xor (x/2) 3988292384:Nat):Int)))).set 5 (some (.int .u32 ((Nat.xor (x/2) 3988292384:Nat):Int))),?_,by simp [aZ],fun t h1 U => ?_⟩
  ·simp only [ah,az]
   rw [bS rfl rfl rfl]
   simp only [evOp,evO,Env.v,h5,bu,cB]
   rw [bS rfl rfl rfl]
   simp only [evOp,evO,Env.v,aZ,bQ,ofValue,ofScalar,binV,B5,bu,cB]
   rw [bS rfl rfl rfl]
   have:=wI (a:=x/2) (b:=3988292384) (by omega) (by omega)
   rw [show ((3988292384:Nat):Int)=3988292384 from rfl] at this
   simp only [evOp,evO,Env.v,aZ,bQ,ofValue,ofScalar,binV,ikBeq,ah,this,bu,cB]
   rw [bS rfl rfl rfl]
   simp only [evOp,evO,Env.v,aZ,bQ,bu,cB,evOps]
  ·have a1:t≠25:=by omega
   have a2:t≠26:=by omega
   have a3:t≠27:=by omega
   simp [aZ,U,a1,a2,a3]
 | false =>
  refine ⟨((env.set 28 (some (.int .u32 x))).set 29 (some (.int .u32 ((x/2:Nat):Int)))).set 5 (some (.int .u32 ((x/2:Nat):Int))),?_,by simp [aZ],fun t h1 U => ?_⟩
  ·simp only [az]
   rw [bS rfl rfl rfl]
   simp only [evOp,evO,Env.v,h5,bu,cB]
   rw [bS rfl rfl rfl]
   simp only [evOp,evO,Env.v,aZ,bQ,ofValue,ofScalar,binV,B5,bu,cB]
   rw [bS rfl rfl rfl]
   simp only [evOp,evO,Env.v,aZ,bQ,bu,cB,evOps]
  ·have a1:t≠28:=by omega
   have a2:t≠29:=by omega
   simp [aZ,U,a1,a2]
theorem SN {j:Nat}(hj:j<8)(I:T.get env 20=some (.int .i64 j)):
  ∃J,ev C (n+1) Po ⟨env,34,h⟩=some (.normal,⟨J,34,h⟩)∧T.get J 20=some (.int .i64 ((j+1:Nat):Int))∧∀t,t≠20→t≠30→T.get J t=T.get env t:=by
 refine ⟨(env.set 30 (some (.int .i64 ((j+1:Nat):Int)))).set 20 (some (.int .i64 ((j+1:Nat):Int))),?_,by simp [aZ],fun t U h2=>by simp [aZ,U,h2]⟩
 simp only [Po,uL,oh,m6,jt,jm,Tryz.f119,eO,leftC,cF,unblk,unloop,f_,evStep,az]
 rw [bS rfl rfl rfl]
 simp only [evOp,evO,Env.v,I,ofValue,ofScalar,binV,ikBeq,ah,ym (show j<9223372036854775807 by omega),bu,cB]
 rw [bS rfl rfl rfl]
 simp only [evOp,evO,Env.v,aZ,bQ,bu,cB,evOps]
section
variable {n:Nat} {s s':St}
theorem ju {a b:Code}(I:ev C n a s=some (.normal,s')): ev C (n+1) (.seq a b) s=ev C n b s':=by rw [f_]; simp only [evStep,I]
theorem u7 {a b:Code}{i:Nat}(I:ev C n a s=some (.exit i,s')): ev C (n+1) (.seq a b) s=some (.exit i,s'):=by rw [f_]; simp only [evStep,I]
theorem vK {x:Operand}{a b:Code}{t:Bool}(I:evO s.env x=some (.bool t)): ev C (n+1) (.cond x a b) s=ev C n (cond t a b) s:=by rw [f_]; simp only [evStep,I]
theorem Gp {i:Nat}{c:Code}(h:ev C n c s=some (.normal,s')): ev C (n+1) (.block i c) s=some (.normal,s'):=by rw [f_]; simp only [evStep,h]
theorem xM {i:Nat}{c:Code}(h:ev C n c s=some (.exit i,s')): ev C (n+1) (.block i c) s=some (.normal,s'):=by rw [f_]; simp only [evStep,h,dc,ah]
theorem JM {b:Code}(h:ev C n b s=some (.normal,s')): ev C (n+1) (.loop b) s=ev C n (.loop b) s':=by rw [f_]; simp only [evStep,h]
theorem tT {b:Code}{i:Nat}(h:ev C n b s=some (.exit i,s')): ev C (n+1) (.loop b) s=some (.exit i,s'):=by rw [f_]; simp only [evStep,h]
end
theorem Ey : oh=.seq UH (.seq (.cond (.tmp 21) .skip (.exit 2)) uL):=rfl
theorem Pp : uL=.seq (.block 3 (.seq UI UJ)) Po:=rfl
theorem K3 {x j:Nat}(hx:x<4294967296)(hj:j<8)(h5:T.get env 5=some (.int .u32 x))(U:T.get env 20=some (.int .i64 j)):
  ∃e',ev C (n+9) oh ⟨env,34,h⟩=some (.normal,⟨e',34,h⟩)∧T.get e' 5=some (.int .u32 ((crcStep x 1:Nat):Int))∧T.get e' 20=some (.int .i64 ((j+1:Nat):Int)) ∧
   ∀t,t<20→t≠5→T.get e' t=T.get env t:=by
 have bX:decide ((j:Int)<8)=true:=by simp; omega
 have q7:=MX (C:=C) (n+7) env h U
 rw [bX] at q7
 have g5:T.get (env.set 21 (some (.bool true))) 5=some (.int .u32 x):=by simp [aZ,h5]
 obtain ⟨e8,q8,q8a,J⟩:=UK (C:=C) (n+3) (env.set 21 (some (.bool true))) h hx g5
 have g5':T.get e8 5=some (.int .u32 x):=by rw [J 5 (by omega) (by omega) (by omega),g5]
 obtain ⟨e9,q9,q9a,X6⟩:=UL (C:=C) (n+2) e8 h hx g5' q8a
 have g20:T.get e9 20=some (.int .i64 j):=by
  rw [X6 20 (by omega) (by omega),J 20 (by omega) (by omega) (by omega)]
  simp [aZ,U]
 obtain ⟨e11,q11,Zw,I⟩:=SN (C:=C) (n+5) e9 h hj g20
 refine ⟨e11,?_,?_,Zw,fun t h1 h2 => ?_⟩
 ·rw [Ey,ju q7,ju (s':=⟨env.set 21 (some (.bool true)),34,h⟩) (by rw [vK (t:=true) (by simp [evO,Env.v,aZ])]; rfl),Pp,
   ju (Gp (by rw [ju q8]; exact q9)),q11]
 ·rw [I 5 (by omega) (by omega),q9a]
  simp only [crcStep]
 ·rw [I t (by omega) (by omega),X6 t (by omega) h2,J t (by omega) (by omega) (by omega)]
  have:t≠21:=by omega
  simp [aZ,this]
theorem K4 : ∀(k n:Nat) (env:Env) (x:Nat),k≤8→x<4294967296→T.get env 5=some (.int .u32 x)→T.get env 20=some (.int .i64 ((8-k:Nat):Int)) →
  ∃J,ev C (n+10+k) (.loop oh) ⟨env,34,h⟩=some (.exit 2,⟨J,34,h⟩)∧T.get J 5=some (.int .u32 ((crcStep x k:Nat):Int))∧∀t,t<20→t≠5→T.get J t=T.get env t:=by
 intro k
 induction k with
 | zero =>
  intro n env x _ U h5 I
  have q7:=MX (C:=C) (n+7) env h I
  refine ⟨env.set 21 (some (.bool false)),?_,by simp [aZ,h5,crcStep],fun t h1 h2 => ?_⟩
  ·rw [iO]
   refine tT ?_
   rw [Ey,ju q7]
   exact u7 (by rw [vK (t:=false) (by simp [evO,Env.v,aZ])]; rfl)
  ·have:t≠21:=by omega
   simp [aZ,this]
 | succ k ih =>
  intro n env x hk U h5 I
  obtain ⟨e1,q1,q2,q3,q4⟩:=K3 (C:=C) (n+1+k) env h U (show 8-(k+1)<8 by omega) h5 I
  have h8:8-(k+1)+1=8-k:=by omega
  rw [h8] at q3
  have X7:crcStep x 1<4294967296:=by
   simp only [crcStep]
   cases Nat.beq (x%2) 1 with
   | true=>exact MY U
   | false=>simp only [az]; omega
  obtain ⟨e2,p1,p2,p3⟩:=ih n e1 (crcStep x 1) (by omega) X7 q2 q3
  refine ⟨e2,?_,?_,fun t h1 h2=>by rw [p3 t h1 h2,q4 t h1 h2]⟩
  ·rw [show n+10+(k+1)=(n+1+k+9)+1 from by omega,JM q1,show n+1+k+9=n+10+k from by omega]
   exact p1
  ·rw [p2]; simp only [crcStep]
end
noncomputable def UM : Code:=leftC jt
noncomputable def FG : Code:=cF (cF jt)
noncomputable def Pq : Code:=cF FG
noncomputable def UN : Code:=leftC m6
noncomputable def UO : Code:=leftC (cF m6)
noncomputable def UP : Code:=leftC (cF (cF m6))
theorem Pr : m6=.seq UN (.seq UO (.seq UP (.block 2 (.loop oh)))):=rfl
theorem yn : jt=.seq UM (.seq (.cond (.tmp 13) .skip (.exit 0)) FG):=rfl
theorem Ps : FG=.seq (.block 1 m6) Pq:=rfl
theorem fK : bF Tryz.prog 5=some 1:=by kernel_rfl
theorem JN : cj Tryz.prog 5=some false:=by kernel_rfl
section
variable {told:dF} (n:Nat) (env:Env) (h:H)
theorem Gq {i len:Nat}(I:T.get env 12=some (.int .i64 i))(J:T.get env 11=some (.int .i64 len)):
  ev ⟨Tryz.prog,told⟩ (n+1) UM ⟨env,34,h⟩=some (.normal,⟨env.set 13 (some (.bool (decide ((i:Int)<(len:Int))))),34,h⟩):=by
 simp only [UM,jt,jm,Tryz.f119,eO,leftC,cF,unblk,unloop,f_,evStep,az]
 rw [bS rfl rfl rfl]
 simp only [evOp,evO,Env.v,J,I,binV,ikBeq,ah,intV,bu,cB,evOps]
theorem UQ {i id off len b:Nat}{cap:Cap}(hi:i<len)(I:T.get env 12=some (.int .i64 i))(J:T.get env 10=some (.sl id off len cap))(hb:xy h id (off+i)=some (.int .u8 b)):
  ∃U,ev ⟨Tryz.prog,told⟩ (n+1) UN ⟨env,34,h⟩=some (.normal,⟨U,34,h⟩)∧T.get U 7=some (.int .u8 b)∧∀t,t≠7→t≠14→t≠15→T.get U t=T.get env t:=by
 refine ⟨((env.set 14 (some (.ptr id (off+i)))).set 15 (some (.int .u8 b))).set 7 (some (.int .u8 b)),?_,by simp [aZ],fun t h1 h2 h3=>by simp [aZ,h1,h2,h3]⟩
 simp only [UN,m6,jt,jm,Tryz.f119,eO,leftC,cF,unblk,unloop,f_,evStep,az]
 rw [bS rfl rfl rfl]
 have d1:decide ((0:Int)≤(i:Int))=true:=by simp
 have d2:decide ((i:Int)<(len:Int))=true:=by simp; exact hi
 simp only [evOp,evO,Env.v,J,I,indexAddrV,aS,fK,d1,d2,iq,ah,cQ,dO,bu,cB]
 rw [bS rfl rfl rfl]
 simp only [evOp,evO,Env.v,aZ,bQ,loadV,JN,hb,bu,cB]
 rw [bS rfl rfl rfl]
 simp only [evOp,evO,Env.v,aZ,bQ,bu,cB,evOps]
theorem UR {x b:Nat}(hx:x<4294967296)(hb:b<256)(h5:T.get env 5=some (.int .u32 x))(h7:T.get env 7=some (.int .u8 b)):
  ∃I,ev ⟨Tryz.prog,told⟩ (n+1) UO ⟨env,34,h⟩=some (.normal,⟨I,34,h⟩)∧T.get I 5=some (.int .u32 ((Nat.xor x b:Nat):Int))∧∀t,t<16→t≠5→T.get I t=T.get env t:=by
 refine ⟨((((env.set 16 (some (.int .u32 x))).set 17 (some (.int .u8 b))).set 18 (some (.int .u32 b))).set 19 (some (.int .u32 ((Nat.xor x b:Nat):Int)))).set 5 (some (.int .u32 ((Nat.xor x b:Nat):Int))),?_,by simp [aZ],fun t h1 h2 => ?_⟩
 ·simp only [UO,m6,jt,jm,Tryz.f119,eO,leftC,cF,unblk,unloop,f_,evStep,az]
  rw [bS rfl rfl rfl]
  simp only [evOp,evO,Env.v,h5,bu,cB]
  rw [bS rfl rfl rfl]
  have g7:T.get (env.set 16 (some (.int .u32 x))) 7=some (.int .u8 b):=by simp [aZ,h7]
  simp only [evOp,evO,Env.v,g7,bu,cB]
  rw [bS rfl rfl rfl]
  simp only [evOp,evO,Env.v,aZ,bQ,convV,Tryz.underlying5,Tryz.underlying155,wrap_u32 (show b<4294967296 by omega),cB]
  rw [bS rfl rfl rfl]
  have J:T.get (((env.set 16 (some (.int .u32 x))).set 17 (some (.int .u8 b))).set 18 (some (.int .u32 b))) 16=some (.int .u32 x):=by simp [aZ]
  have U:T.get (((env.set 16 (some (.int .u32 x))).set 17 (some (.int .u8 b))).set 18 (some (.int .u32 b))) 18=some (.int .u32 b):=by simp [aZ]
  simp only [evOp,evO,Env.v,J,U,binV,ikBeq,ah,wI hx (show b<4294967296 by omega),bu,cB]
  rw [bS rfl rfl rfl]
  simp only [evOp,evO,Env.v,aZ,bQ,bu,cB,evOps]
 ·have a1:t≠16:=by omega
  have a2:t≠17:=by omega
  have a3:t≠18:=by omega
  have a4:t≠19:=by omega
  simp [aZ,h2,a1,a2,a3,a4]
theorem US : ev ⟨Tryz.prog,told⟩ (n+1) UP ⟨env,34,h⟩=some (.normal,⟨env.set 20 (some (.int .i64 0)),34,h⟩):=by
 simp only [UP,m6,jt,jm,Tryz.f119,eO,leftC,cF,unblk,unloop,f_,evStep,az]
 rw [bS rfl rfl rfl]
 simp only [evOp,evO,ofValue,ofScalar,bu,cB,evOps]
theorem SO {i:Nat}(hi:i<9223372036854775807)(I:T.get env 12=some (.int .i64 i)):
  ∃J,ev ⟨Tryz.prog,told⟩ (n+1) Pq ⟨env,34,h⟩=some (.normal,⟨J,34,h⟩)∧T.get J 12=some (.int .i64 ((i+1:Nat):Int))∧∀t,t≠12→t≠31→T.get J t=T.get env t:=by
 refine ⟨(env.set 31 (some (.int .i64 ((i+1:Nat):Int)))).set 12 (some (.int .i64 ((i+1:Nat):Int))),?_,by simp [aZ],fun t U h2=>by simp [aZ,U,h2]⟩
 simp only [Pq,FG,jt,jm,Tryz.f119,eO,leftC,cF,unblk,unloop,f_,evStep,az]
 rw [bS rfl rfl rfl]
 simp only [evOp,evO,Env.v,I,ofValue,ofScalar,binV,ikBeq,ah,ym hi,bu,cB]
 rw [bS rfl rfl rfl]
 simp only [evOp,evO,Env.v,aZ,bQ,bu,cB,evOps]
theorem B6 : ∀(k x:Nat),x<4294967296→crcStep x k<4294967296:=by
 intro k
 induction k with
 | zero=>intro x I; exact I
 | succ k J =>
  intro x I
  simp only [crcStep]
  refine J _ ?_
  cases Nat.beq (x%2) 1 with
  | true=>exact MY I
  | false=>simp only [az]; omega
theorem Pt {x i id off len b:Nat}{cap:Cap}(hx:x<4294967296)(hb:b<256)(hi:i<len)(h5:T.get env 5=some (.int .u32 x))(J:T.get env 12=some (.int .i64 i))(U:T.get env 10=some (.sl id off len cap))
 (hr:xy h id (off+i)=some (.int .u8 b)):
  ∃e',ev ⟨Tryz.prog,told⟩ (n+22) m6 ⟨env,34,h⟩=some (.normal,⟨e',34,h⟩)∧T.get e' 5=some (.int .u32 ((crcStep (Nat.xor x b) 8:Nat):Int))∧∀t,t=10∨t=11∨t=12→T.get e' t=T.get env t:=by
 obtain ⟨e4,q4,UT,I⟩:=UQ (told:=told) (n+20) env h hi J U hr
 obtain ⟨e5,q5,q5a,q5b⟩:=UR (told:=told) (n+19) e4 h hx hb (by rw [I 5 (by omega) (by omega) (by omega)]; exact h5) UT
 have q6:=US (told:=told) (n+18) e5 h
 obtain ⟨e2,q2,MZ,Ez⟩:=K4 (C:=⟨Tryz.prog,told⟩) h 8 n (e5.set 20 (some (.int .i64 0))) (Nat.xor x b) (by omega) (og hx (by omega)) (by simp [aZ,q5a]) (by simp [aZ])
 refine ⟨e2,?_,MZ,fun t ht => ?_⟩
 ·rw [Pr,ju q4,ju q5,ju q6]
  exact xM q2
 ·rw [Ez t (by omega) (by omega)]
  have:t≠20:=by omega
  simp only [aZ,this,bK]
  rw [q5b t (by omega) (by omega),I t (by omega) (by omega) (by omega)]
theorem K5 {id off len:Nat}{cap:Cap}(hlen:len<9223372036854775807): ∀(l:List Nat) (i n:Nat) (env:Env) (x:Nat),i+l.length=len→x<4294967296→(∀b∈l,b<256) →
  (∀j b:Nat,l[j]?=some b→xy h id (off+(i+j))=some (.int .u8 (b:Int)))→T.get env 5=some (.int .u32 x)→T.get env 12=some (.int .i64 i)→T.get env 10=some (.sl id off len cap)→T.get env 11=some (.int .i64 len) →
  ∃e',ev ⟨Tryz.prog,told⟩ (n+30+l.length) (.loop jt) ⟨env,34,h⟩=some (.exit 0,⟨e',34,h⟩)∧T.get e' 5=some (.int .u32 ((crcL x l:Nat):Int)):=by
 intro l
 induction l with
 | nil =>
  intro i n env x hi hx _ _ h5 I UU J
  have q3:=Gq (told:=told) (n+27) env h I J
  have hd:decide ((i:Int)<(len:Int))=false:=by simp at hi ⊢; omega
  rw [hd] at q3
  refine ⟨env.set 13 (some (.bool false)),?_,by simp [aZ,h5,crcL]⟩
  refine tT ?_
  rw [yn,ju q3]
  exact u7 (by rw [vK (t:=false) (by simp [evO,Env.v,aZ])]; rfl)
 | cons b l ih =>
  intro i n env x hi hx Gr lI h5 I UU J
  simp only [bj] at hi
  have q3:=Gq (told:=told) (n+l.length+28) env h I J
  have hd:decide ((i:Int)<(len:Int))=true:=by simp; omega
  rw [hd] at q3
  have hb:b<256:=Gr b (by simp)
  have hr:=lI 0 b (by simp)
  rw [iO] at hr
  obtain ⟨e1,q1,Rr,M0⟩:=Pt (told:=told) (cap:=cap) (n+l.length+4) (env.set 13 (some (.bool true))) h hx hb (show i<len by omega) (by simp [aZ,h5]) (by simp [aZ,I]) (by simp [aZ,UU]) hr
  obtain ⟨e2,q2,MZ,Ez⟩:=SO (told:=told) (n+l.length+26) e1 h (show i<9223372036854775807 by omega) (by rw [M0 12 (by omega)]; simp [aZ,I])
  have lY:crcStep (Nat.xor x b) 8<4294967296:=B6 8 _ (og hx (by omega))
  obtain ⟨e3,q3',UW⟩:=ih (i+1) n e2 (crcStep (Nat.xor x b) 8) (by omega) lY (fun c hc=>Gr c (by simp [hc])) (fun j c hj=>by
   have:=lI (j+1) c (by simpa using hj)
   rwa [show i+(j+1)=i+1+j from by omega] at this) (by rw [Ez 5 (by omega) (by omega)]; exact Rr) MZ (by rw [Ez 10 (by omega) (by omega),M0 10 (by omega)]; simp [aZ,UU]) (by rw [Ez 11 (by omega) (by omega),M0 11 (by omega)]; simp [aZ,J])
  refine ⟨e3,?_,by rw [UW]; simp only [crcL]⟩
  have U:ev ⟨Tryz.prog,told⟩ (n+l.length+30) jt ⟨env,34,h⟩=some (.normal,⟨e2,34,h⟩):=by
   rw [yn,ju q3,ju (s':=⟨env.set 13 (some (.bool true)),34,h⟩) (by rw [vK (t:=true) (by simp [evO,Env.v,aZ])]; rfl),Ps,
    ju (Gp q1),q2]
  rw [bj,show n+30+(l.length+1)=(n+l.length+30)+1 from by omega,JM U,show n+l.length+30=n+30+l.length from by omega]
  exact q3'
noncomputable def UX : Code:=leftC jm
noncomputable def UY : Code:=leftC (cF jm)
noncomputable def UZ : Code:=leftC (leftC (cF (cF jm)))
noncomputable def Pu : Code:=cF (cF (cF jm))
theorem Pv : jm=.seq UX (.seq UY (.seq (.seq UZ (.block 0 (.loop jt))) Pu)):=rfl
theorem U0 : ev ⟨Tryz.prog,told⟩ (n+1) UX ⟨env,34,h⟩=some (.normal,⟨env.set 4 (some (.int .u32 0)),34,h⟩):=by
 simp only [UX,jm,Tryz.f119,eO,leftC,f_,evStep,az]
 rw [bS rfl rfl rfl]
 simp only [evOp,evO,ofValue,ofScalar,bu,cB,evOps]
theorem U1 {x:Nat}(J:x<4294967296)(U:T.get env 0=some (.int .u32 x)):
  ∃I,ev ⟨Tryz.prog,told⟩ (n+1) UY ⟨env,34,h⟩=some (.normal,⟨I,34,h⟩)∧T.get I 5=some (.int .u32 ((Nat.xor x 4294967295:Nat):Int))∧∀t,t≠5→t≠8→t≠9→T.get I t=T.get env t:=by
 refine ⟨((env.set 8 (some (.int .u32 x))).set 9 (some (.int .u32 ((Nat.xor x 4294967295:Nat):Int)))).set 5 (some (.int .u32 ((Nat.xor x 4294967295:Nat):Int))),?_,by simp [aZ],fun t h1 h2 h3=>by simp [aZ,h1,h2,h3]⟩
 simp only [UY,jm,Tryz.f119,eO,leftC,cF,f_,evStep,az]
 rw [bS rfl rfl rfl]
 simp only [evOp,evO,Env.v,U,bu,cB]
 rw [bS rfl rfl rfl]
 have:=wI (a:=x) (b:=4294967295) J (by omega)
 rw [show ((4294967295:Nat):Int)=4294967295 from rfl] at this
 simp only [evOp,evO,Env.v,aZ,bQ,ofValue,ofScalar,binV,ikBeq,ah,this,bu,cB]
 rw [bS rfl rfl rfl]
 simp only [evOp,evO,Env.v,aZ,bQ,bu,cB,evOps]
theorem U2 {x:V}{len:Nat}(J:T.get env 1=some x)(U:lenV Tryz.prog h 32 x=some (.int .i64 len)):
  ∃I,ev ⟨Tryz.prog,told⟩ (n+1) UZ ⟨env,34,h⟩=some (.normal,⟨I,34,h⟩)∧T.get I 10=some x∧T.get I 11=some (.int .i64 len)∧T.get I 12=some (.int .i64 ((0:Nat):Int))∧T.get I 5=T.get env 5:=by
 refine ⟨((env.set 10 (some x)).set 11 (some (.int .i64 len))).set 12 (some (.int .i64 0)),?_,by simp [aZ],by simp [aZ],by simp [aZ],by simp [aZ]⟩
 simp only [UZ,jm,Tryz.f119,eO,leftC,cF,f_,evStep,az]
 rw [bS rfl rfl rfl]
 simp only [evOp,evO,Env.v,J,bu,cB]
 rw [bS rfl rfl rfl]
 simp only [evOp,evCall,evArgs,evO,Env.v,aZ,bQ,builtinV,U,iY,cB]
 rw [bS rfl rfl rfl]
 simp only [evOp,evO,ofValue,ofScalar,bu,cB,evOps]
theorem SP {x:Nat}(J:x<4294967296)(U:T.get env 5=some (.int .u32 x)):
  ∃I,ev ⟨Tryz.prog,told⟩ (n+2) Pu ⟨env,34,h⟩=some (.ret,⟨I,34,h⟩)∧T.get I 4=some (.int .u32 ((Nat.xor x 4294967295:Nat):Int)):=by
 refine ⟨((env.set 32 (some (.int .u32 x))).set 33 (some (.int .u32 ((Nat.xor x 4294967295:Nat):Int)))).set 4 (some (.int .u32 ((Nat.xor x 4294967295:Nat):Int))),?_,by simp [aZ]⟩
 simp only [Pu,jm,Tryz.f119,eO,cF,f_,evStep,az]
 rw [bS rfl rfl rfl]
 simp only [evOp,evO,Env.v,U,bu,cB]
 rw [bS rfl rfl rfl]
 have:=wI (a:=x) (b:=4294967295) J (by omega)
 rw [show ((4294967295:Nat):Int)=4294967295 from rfl] at this
 simp only [evOp,evO,Env.v,aZ,bQ,ofValue,ofScalar,binV,ikBeq,ah,this,bu,cB]
 rw [bS rfl rfl rfl]
 simp only [evOp,evO,Env.v,aZ,bQ,bu,cB,evOps]
end
theorem K6 : ∀(cs:List V) (l:List Nat),bytesIn cs=some l→cs=l.map (fun (b:Nat)=>V.int .u8 (b:Int))∧∀b∈l,b<256:=by
 intro cs
 induction cs with
 | nil=>intro l h; simp [bytesIn] at h; subst h; simp
 | cons v cs U =>
  intro l h
  unfold bytesIn at h
  split at h
  ·rename_i he; cases he
  ·rename_i n l' he
   simp only [vy] at he
   obtain ⟨rfl,rfl⟩:=he
   cases I:(decide (0≤n)&&decide (n<256)) with
   | false=>rw [I] at h; cases h
   | true =>
    rw [I,ah] at h
    simp only [aY,eA] at I
    cases hm:bytesIn cs with
    | none=>simp [hm] at h
    | some m =>
     simp [hm] at h
     subst h
     obtain ⟨i1,i2⟩:=U m hm
     refine ⟨?_,fun b J => ?_⟩
     ·simp only [bH,←i1]
      congr 2
      omega
     ·rcases List.mem_cons.1 J with rfl | J
      ·omega
      ·exact i2 b J
  ·cases h
theorem DO : ∀(l:List Nat) (x:Nat),x<4294967296→(∀b∈l,b<256)→crcL x l<4294967296:=by
 intro l
 induction l with
 | nil=>intro x I _; exact I
 | cons b l U =>
  intro x I J
  have h1:=J b (by simp)
  exact U _ (B6 8 _ (og I (by omega))) (fun c hc=>J c (by simp [hc]))
theorem Bj {σ : H} {s : Int} {x : V} {l : List Nat} {len : Nat} (hs0 : 0 ≤ s) (El : s < 4294967296) (hl : lenV Tryz.prog σ 32 x = some (.int .i64 len)) (hlen : len = l.length) (pY : len < 9223372036854775807)
  (hb : ∀ b ∈ l, b < 256) (hx : l = [] ∨ ∃ id off cap, x = .sl id off len cap ∧ ∀ j b : Nat, l[j]? = some b → xy σ id (off + (0 + j)) = some (.int .u8 (b : Int))) :
  run ⟨Tryz.prog, fun _ => none⟩ (l.length + 40) 119 [.int .u32 s, x] σ = some (tS s l, σ) := by
 obtain ⟨u, rfl⟩ : ∃ u : Nat, s = (u : Int) := ⟨s.toNat, by omega⟩
 have hu : u < 4294967296 := by omega
 have q0 := U0 (told := fun _ => none) (l.length + 38) (bindArgs [.int .u32 u, x] 0 .lf) σ
 obtain ⟨e1, q1, Rr, M0⟩ := U1 (told := fun _ => none) (l.length + 37) ((bindArgs [.int .u32 u, x] 0 .lf).set 4 (some (.int .u32 0))) σ hu (by simp [aZ, bindArgs])
 obtain ⟨e2, q2, MZ, Ez, X8, X9⟩ := U2 (told := fun _ => none) (l.length + 35) e1 σ (x := x) (by rw [M0 1 (by omega) (by omega) (by omega)]; simp [aZ, bindArgs]) hl
 have I : Nat.xor u 4294967295 < 4294967296 := og hu (by omega)
 have J : ∃ e', ev ⟨Tryz.prog, fun _ => none⟩ (5 + 30 + l.length) (.loop jt) ⟨e2, 34, σ⟩ = some (.exit 0, ⟨e', 34, σ⟩) ∧ T.get e' 5 = some (.int .u32 ((crcL (Nat.xor u 4294967295) l : Nat) : Int)) := by
  rcases hx with rfl | ⟨id, off, cap, rfl, lI⟩
  ·have q3 := Gq (told := fun _ => none) 32 e2 σ X8 Ez
   have hd : decide ((((0 : Nat) : Int)) < (len : Int)) = false := by subst hlen; rfl
   rw [hd] at q3
   refine ⟨e2.set 13 (some (.bool false)), ?_, by simp [aZ, X9, Rr, crcL]⟩
   refine tT ?_
   rw [yn, ju q3]
   exact u7 (by rw [vK (t := false) (by simp [evO, Env.v, aZ])]; rfl)
  ·exact K5 σ pY l 0 5 e2 _ (by omega) I hb lI (by rw [X9]; exact Rr) X8 MZ Ez
 obtain ⟨e3, q3, UW⟩ := J
 obtain ⟨e4, q4, UT⟩ := SP (told := fun _ => none) (l.length + 35) e3 σ (DO l _ I hb) UW
 have U : ev ⟨Tryz.prog, fun _ => none⟩ (l.length + 40) jm ⟨bindArgs [.int .u32 u, x] 0 .lf, 34, σ⟩ = some (.ret, ⟨e4, 34, σ⟩) := by
  rw [Pv, ju q0, ju q1, ju (s' := ⟨e3, 34, σ⟩) (by
   rw [ju q2]
   rw [show 5 + 30 + l.length = l.length + 35 from by omega] at q3
   exact xM q3), q4]
 unfold run callF
 simp only [B4]
 rw [show Tryz.f119.body = some jm from rfl]
 rw [show (Tryz.f119.name == "runtime.NumGoroutine" || Nat.blt Tryz.f119.ntmps [V.int .u32 (u : Int), x].length) = false from rfl]
 simp only [az]
 rw [show Tryz.f119.ntmps = 34 from rfl, U]
 simp only
 rw [show Tryz.f119.results = #[.tmp 4] from rfl]
 simp only [mapO, resV, Env.v, UT, tS, cQ]
section
variable {C:dw} {c:Ctx} {σ:H} {w:World}
theorem IN (hP:C.P=Tryz.prog)(hm:C.P.follows .mixedOrders=true){args:List V}{v:V}{iA:H}(I:toldMore args σ=some (v,iA))(h:Rel c σ w)(hw:∀x∈args,wf c x):
  fO C.P 119 args c w v iA:=by
 rw [hP] at hm ⊢
 have hT:gT ⟨Tryz.prog,fun _=>none⟩:=fun f g hg=>by cases hg
 unfold toldMore at I
 split at I
 ·rename_i s id off len cap
  cases U:(decide (0≤s)&&decide (s<4294967296)&&Nat.ble len 4611686018427387904) with
  | false=>rw [U] at I; cases I
  | true =>
   rw [U,ah] at I
   simp only [aY,eA,aO] at U
   obtain ⟨J,pY⟩:=U
   cases lI:rdN σ id off len with
   | none=>simp [lI] at I
   | some cs =>
    simp only [lI] at I
    cases hb:bytesIn cs with
    | none=>simp [hb] at I
    | some l =>
     simp only [hb,au,aN] at I
     obtain ⟨rfl,rfl⟩:=I
     obtain ⟨b1,b2⟩:=K6 cs l hb
     obtain ⟨d1,d2⟩:=SM h lI
     have hl:len=l.length:=by rw [←d1,b1]; simp
     refine B1 (C:=⟨Tryz.prog,fun _=>none⟩) hm hT (Bj J.1 J.2 (len:=len) (by simp [lenV,aS]) hl (by omega) b2 (.inr ⟨id,off,cap,rfl,fun j b hj => ?_⟩)) h hw
     ·rw [dU,d2 j (by rw [hl]; exact (List.getElem?_eq_some_iff.1 hj).1),b1]
      simp [hj]
 ·rename_i s
  cases J:(decide (0≤s)&&decide (s<4294967296)) with
  | false=>rw [J] at I; cases I
  | true =>
   rw [J,ah] at I
   simp only [aY,eA] at J
   simp only [au,aN] at I
   obtain ⟨rfl,rfl⟩:=I
   exact B1 (C:=⟨Tryz.prog,fun _=>none⟩) hm hT (Bj J.1 J.2 (len:=0) (l:=[]) (by simp [lenV,aS]) rfl (by omega) (by simp) (.inl rfl)) h hw
 ·rename_i s _
  cases J:(decide (0≤s)&&decide (s<4294967296)) with
  | false=>rw [J] at I; cases I
  | true =>
   rw [J,ah] at I
   simp only [aY,eA] at J
   simp only [au,aN] at I
   obtain ⟨rfl,rfl⟩:=I
   exact B1 (C:=⟨Tryz.prog,fun _=>none⟩) hm hT (Bj J.1 J.2 (len:=0) (l:=[]) (by simp [lenV,aS]) rfl (by omega) (by simp) (.inl rfl)) h hw
 ·cases I
end
def lZ (h:H): Prop:=∀id o,T.get h.tr id=some o→id<h.next
theorem lZ.new {h:H}(hw:lZ h)(o:Obj): lZ (h.new o):=by
 intro id q I
 rw [fP] at I
 show id<h.next+1
 split at I
 ·omega
 ·exact Nat.lt_succ_of_lt (hw id q I)
theorem lZ.put {h:H}(hw:lZ h){id:Nat}(J:id<h.next)(o:Option Obj): lZ (h.put id o):=by
 intro j q I
 rw [b9] at I
 show j<h.next
 split at I
 ·omega
 ·exact hw j q I
structure eC (k:Nat)(S:List Nat)(h h':H): Prop where
 wf:lZ h'
 le:h.next≤h'.next
 bd:h'.next≤h.next+k
 get:∀id,id<h.next→id∉S→T.get h'.tr id=T.get h.tr id
theorem eC.refl {h:H}(hw:lZ h)(S:List Nat): eC 0 S h h:=⟨hw,aL _,aL _,fun _ _ _=>rfl⟩
theorem eC.trans {k k':Nat}{S S':List Nat}{h h' I:H}(a:eC k S h h')(b:eC k' S' h' I)(hs:∀i∈S',i∈S∨h.next≤i): eC (k+k') S h I:=by
 refine ⟨b.wf,cI a.le b.le,by have:=a.bd; have:=b.bd; omega,fun id J U => ?_⟩
 rw [b.get id (gu J a.le) (fun hm => ?_),a.get id J U]
 rcases hs id hm with h1 | h1
 ·exact U h1
 ·omega
theorem eC.mono {k k':Nat}{S S':List Nat}{h h':H}(a:eC k S h h')(J:k≤k')(hs:∀i∈S,i∈S'): eC k' S' h h' :=
 ⟨a.wf,a.le,cI a.bd (vn J _),fun id I U=>a.get id I (fun hm=>U (hs id hm))⟩
theorem eC.row {k:Nat}{S:List Nat}{h h':H}(a:eC k S h h')(hw:lZ h){id:Nat}{o:Obj}(I:T.get h.tr id=some o)(J:id∉S): T.get h'.tr id=some o:=by
 rw [a.get id (hw id o I) J]; exact I
theorem eC.Ak {h:H}(hw:lZ h)(o:Obj): eC 1 [] h (h.new o) :=
 ⟨hw.new o,nI _,aL _,fun id I _=>by rw [fP,af (by omega)]⟩
theorem eC.Rs {h:H}(hw:lZ h){id:Nat}(I:id<h.next)(o:Option Obj): eC 0 [id] h (h.put id o) :=
 ⟨hw.put I o,aL _,aL _,fun j _ J=>by rw [b9,af (fun e=>J (by simp [e]))]⟩
theorem dL (l:List Nat): (ofBytes l).length=l.length:=by simp [ofBytes]
theorem rD (l m:List Nat): ofBytes (l++m)=ofBytes l++ofBytes m:=by simp [ofBytes]
def View (h:H)(v:V)(l:List Nat): Prop:=(∀b∈l,b<256)∧(((v=.bA∨∃a,v=.sle a)∧l=[]) ∨
 ∃id off cap n cs st,v=.sl id off l.length cap∧T.get h.tr id=some (.cells n cs st)∧cs.length=n∧off+l.length≤n∧(cs.drop off).take l.length=ofBytes l ∧
  (match cap with | .exact c=>l.length≤c | .rest e _=>e=1))
def jJ (h:H)(v:V)(l:List Nat): Prop:=(∀b∈l,b<256)∧((v=.bA∧l=[]) ∨
 (∃id cs c,v=.sl id 0 l.length (.exact c)∧T.get h.tr id=some (.cells c (ofBytes l++cs) false)∧l.length+cs.length=c) ∨
 (∃id,v=.sl id 0 l.length (.rest 1 0)∧T.get h.tr id=some (.cells l.length (ofBytes l) false)∧1≤l.length))
def rowIds : V→List Nat
 | .sl id _ _ _=>[id]
 | _=>[]
theorem jJ.view {h:H}{v:V}{l:List Nat}(I:jJ h v l): View h v l:=by
 obtain ⟨U,I⟩:=I
 refine ⟨U,?_⟩
 rcases I with I | ⟨id,cs,c,rfl,J,hc⟩ | ⟨id,rfl,J,h1⟩
 ·exact .inl ⟨.inl I.1,I.2⟩
 ·refine .inr ⟨id,0,.exact c,c,_,false,rfl,J,by simp [dL,hc],by omega,?_,by show l.length≤c; omega⟩
  rw [dS,kN (dL l)]
 ·refine .inr ⟨id,0,.rest 1 0,_,_,false,rfl,J,dL l,by omega,?_,rfl⟩
  rw [dS]
  exact fI (by rw [dL]; exact aL _)
theorem View.cS {k:Nat}{S:List Nat}{h h':H}{v:V}{l:List Nat}(I:View h v l)(hw:lZ h)(J:eC k S h h')(U:∀i∈rowIds v,i∉S): View h' v l:=by
 obtain ⟨hl,I⟩:=I
 refine ⟨hl,?_⟩
 rcases I with I | ⟨id,off,cap,n,cs,st,rfl,hg,h1,h2,h3,h4⟩
 ·exact .inl I
 ·exact .inr ⟨id,off,cap,n,cs,st,rfl,J.row hw hg (U id (by simp [rowIds])),h1,h2,h3,h4⟩
theorem jJ.cS {k:Nat}{S:List Nat}{h h':H}{v:V}{l:List Nat}(I:jJ h v l)(hw:lZ h)(U:eC k S h h')(hn:∀i∈rowIds v,i∉S): jJ h' v l:=by
 obtain ⟨hl,I⟩:=I
 refine ⟨hl,?_⟩
 rcases I with I | ⟨id,cs,c,rfl,J,hc⟩ | ⟨id,rfl,J,h1⟩
 ·exact .inl I
 ·exact .inr (.inl ⟨id,cs,c,rfl,U.row hw J (hn id (by simp [rowIds])),hc⟩)
 ·exact .inr (.inr ⟨id,rfl,U.row hw J (hn id (by simp [rowIds])),h1⟩)
theorem View.len {h:H}{v:V}{l:List Nat}(I:View h v l): lenV Tryz.prog h 32 v=some (.int .i64 l.length):=by
 obtain ⟨_,I⟩:=I
 rcases I with ⟨rfl | ⟨J,rfl⟩,rfl⟩ | ⟨id,off,cap,n,cs,st,rfl,_⟩ <;> simp [lenV,aS]
theorem View.rdN {h:H}{id off len:Nat}{cap:Cap}{l:List Nat}(J:View h (.sl id off len cap) l): len=l.length∧rdN h id off len=some (ofBytes l):=by
 obtain ⟨_,J⟩:=J
 rcases J with ⟨I,_⟩ | ⟨AS,off',U,n,cs,st,I,hg,h1,h2,h3,h4⟩
 ·rcases I with I | ⟨_,I⟩ <;> cases I
 ·injection I with e1 e2 e3 e4
  subst e1; subst e2; subst e3
  refine ⟨rfl,?_⟩
  unfold Am.rdN
  simp only [hg]
  rw [aO.2 h2,ah]
  cases hc:(Nat.beq off 0&&Nat.beq l.length n) with
  | true =>
   simp only [aY,beq_iff] at hc
   obtain ⟨rfl,hn⟩:=hc
   rw [ah,←h3,dS,fI (by omega)]
  | false=>rw [az,h3]
theorem vL : ∃i,Tryz.prog.info? 5=some i∧i.size=1∧i.bytes=1:=by
 refine ⟨_,(show Tryz.prog.info? 5=some ((Tryz.prog.info? 5).getD default) by kernel_rfl),by kernel_rfl,by kernel_rfl⟩
theorem qS : zeroT Tryz.prog 5=some (.int .u8 0):=by kernel_rfl
theorem B7 {h:H}{x:V}{m:List Nat}(J:View h x m): srcV h 1 x=some (ofBytes m,m.length):=by
 obtain ⟨U,I⟩:=J
 rcases I with ⟨rfl | ⟨ea,rfl⟩,rfl⟩ | ⟨id,off,cap,n,cs,st,rfl,hg,h1,h2,h3,h4⟩
 ·rfl
 ·rfl
 ·simp only [srcV,dO]
  rw [(View.rdN (l:=m) ⟨U,.inr ⟨id,off,cap,n,cs,st,rfl,hg,h1,h2,h3,h4⟩⟩).2]
  rfl
theorem yo {h:H}{s x:V}{l m:List Nat}(hw:lZ h)(hs:jJ h s l)(hx:View h x m)(fc:l.length+m.length≤140737488355328):
  ∃v' h',appendV Tryz.prog h #[32,32] s x=some (v',h')∧jJ h' v' (l++m)∧eC 1 (rowIds s) h h'∧(∀i∈rowIds v',i∈rowIds s∨h.next≤i):=by
 obtain ⟨i,hi,i1,i2⟩:=vL
 have J:∀b∈l++m,b<256:=fun b hb=>by
  rcases List.mem_append.1 hb with hb | hb
  ·exact hs.1 b hb
  ·exact hx.1 b hb
 have EA:mK (l.length+m.length) 1=true:=wz.2 ⟨fc,by omega⟩
 unfold appendV
 simp only [aS,hi,qS,i1,i2,V.cells,bj,bY,B7 hx]
 rw [show (Nat.ble 1 1&&Nat.ble 1 4096&&Nat.beq (0+1) 1)=true from rfl,ah]
 cases hm:Nat.beq m.length 0 with
 | true =>
  have EB:m=[]:=qB (beq_iff.1 hm)
  subst EB
  rw [ah,bT]
  have I:=hs
  obtain ⟨_,I⟩:=I
  rcases I with ⟨rfl,rfl⟩ | ⟨id,cs,c,rfl,hg,hc⟩ | ⟨id,rfl,hg,h1⟩
  ·exact ⟨_,_,rfl,hs,(eC.refl hw _).mono (fh _) (fun _ h=>h),fun i hi=>.inl hi⟩
  ·exact ⟨_,_,rfl,hs,(eC.refl hw _).mono (fh _) (fun _ h=>h),fun i hi=>.inl hi⟩
  ·exact ⟨_,_,rfl,hs,(eC.refl hw _).mono (fh _) (fun _ h=>h),fun i hi=>.inl hi⟩
 | false =>
  have EB:1≤m.length:=by
   rcases vq m.length with h0 | h0
   ·rw [gR h0] at hm; cases hm
   ·exact h0
  rw [az]
  have U:∀(σ:H) (old:List Nat),lZ σ→1≤(old++m).length→(∀b∈old++m,b<256)→jJ (nJ σ 1 (ofBytes old) (ofBytes m) (old.length+m.length)).2 (nJ σ 1 (ofBytes old) (ofBytes m) (old.length+m.length)).1 (old++m):=by
   intro σ old _ h1 h2
   refine ⟨h2,.inr (.inr ⟨σ.next,?_,?_,h1⟩)⟩
   ·simp only [nJ,bC]
   ·simp only [nJ]
    rw [fP,aj rfl,dO,bC,rD]
  have I:=hs
  obtain ⟨_,I⟩:=I
  rcases I with ⟨rfl,rfl⟩ | ⟨id,cs,c,rfl,hg,hc⟩ | ⟨id,rfl,hg,h1⟩
  ·simp only
   have Zx:mK m.length 1=true:=by simpa using EA
   rw [Zx,ah]
   have:=U h [] hw (by simpa using EB) (by simpa using hx.1)
   simp only [bY,dU,cU] at this
   exact ⟨_,_,rfl,by rw [cU]; exact this,(eC.Ak hw _).mono (aL _) (fun i hi=>by simp at hi),fun i hi=>.inr (by simp [rowIds] at hi; omega)⟩
  ·simp only [dO,dU]
   have hv:=jJ.view hs
   cases hq:Nat.ble (l.length+m.length) c with
   | true =>
    have tP:=aO.1 hq
    rw [ah]
    unfold wrN
    simp only [hg,dL]
    rw [hq,ah]
    simp only
    have tU:(cond (Nat.beq l.length 0&&Nat.beq m.length c) (ofBytes m) ((ofBytes l++cs).take l.length++(ofBytes m++(ofBytes l++cs).drop (l.length+m.length))))=ofBytes (l++m)++cs.drop m.length:=by
     have e1:(ofBytes l++cs).take l.length=ofBytes l:=kN (dL l)
     have e2:(ofBytes l++cs).drop (l.length+m.length)=cs.drop m.length:=by
      rw [zU,dL,show l.length+m.length-l.length=m.length from by omega,ig (by rw [dL]; omega),cU]
     cases hz:(Nat.beq l.length 0&&Nat.beq m.length c) with
     | true =>
      simp only [aY,beq_iff] at hz
      have xE:l=[]:=qB hz.1
      subst xE
      have qx:cs.drop m.length=[]:=ig (by simp at hc; omega)
      simp [qx]
     | false=>rw [az,e1,e2,rD,bP]
    rw [tU]
    refine ⟨_,_,rfl,⟨J,.inr (.inl ⟨id,cs.drop m.length,c,by simp,?_,by simp; omega⟩)⟩,(eC.Rs hw (hw id _ hg) _).mono (fh _) (fun i hi=>by simpa [rowIds] using hi),fun i hi=>.inl (by simpa [rowIds] using hi)⟩
    rw [b9,aj rfl]
   | false =>
    rw [az,EA,ah,hv.rdN.2]
    simp only
    exact ⟨_,_,rfl,U h l hw (by simp; omega) J,(eC.Ak hw _).mono (aL _) (fun i hi=>by simp at hi),fun i hi=>.inr (by simp [rowIds] at hi; omega)⟩
  ·simp only [dc,ah,dO,dU]
   have hv:=jJ.view hs
   have F8:kA h id 0 1=l.length:=by simp [kA,hg]
   have hf:Nat.ble (l.length+m.length) l.length=false:=by
    cases hq:Nat.ble (l.length+m.length) l.length with
    | true=>have:=aO.1 hq; omega
    | false=>rfl
   rw [F8,hf,az,EA,show Nat.ble 2 (l.length+m.length)=true from aO.2 (by omega),iq,ah,hv.rdN.2,hg]
   simp only
   have qy:lZ (h.put id none):=hw.put (hw id _ hg) _
   refine ⟨_,_,rfl,U (h.put id none) l qy (by simp; omega) J,?_,fun i hi=>.inr (by simp [rowIds,H.put] at hi; omega)⟩
   refine ((eC.Rs hw (hw id _ hg) none).trans (S':=[]) (eC.Ak qy _) (fun i hi=>by simp at hi)).mono (aL _) (fun i hi=>by simpa [rowIds] using hi)
end Go.Proofs.YtconhghphklfjaaGreat.Am
