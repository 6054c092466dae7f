/- After a crash the log has the records of the groups that are there and no others, with their numbers and data; the conditions are those of the given statement, for arguments that a machine can hold. Part 15 of 54. -/
import Derived.Test.YtconhghphklfjaaGreatL13
import Derived.Test.YtconhghphklfjaaGreatProg
import Derived.KernelRfl
namespace Go.Proofs.YtconhghphklfjaaGreat.Am
open Go
def crcStep : Nat→Nat→Nat
 | r,0=>r
 | r,k+1=>crcStep (cond (Nat.beq (r%2) 1) (Nat.xor (r/2) 3988292384) (r/2)) k
def crcL : Nat→List Nat→Nat
 | r,[]=>r
 | r,b::l=>crcL (crcStep (Nat.xor r b) 8) l
def bytesIn : List V→Option (List Nat)
 | []=>some []
 | .int .u8 n::l=>cond (decide (0≤n)&&decide (n<256)) (match bytesIn l with
  | some m=>some (n.toNat::m)
  | none=>none) none
 | _=>none
def nL (s:Int)(l:List Nat): V:=.int .u32 ((Nat.xor (crcL (Nat.xor s.toNat 4294967295) l) 4294967295:Nat):Int)
noncomputable def toldMore : List V→H→Option (V×H)
 | [.int .u32 s,.sl id off len _],h=>cond (decide (0≤s)&&decide (s<4294967296)&&Nat.ble len 4611686018427387904) (match rdN h id off len with
  | some cs=>match bytesIn cs with
   | some l=>some (nL s l,h)
   | none=>none
  | none=>none) none
 | [.int .u32 s,.aH],h=>cond (decide (0≤s)&&decide (s<4294967296)) (some (nL s [],h)) none
 | [.int .u32 s,.sle _],h=>cond (decide (0≤s)&&decide (s<4294967296)) (some (nL s [],h)) none
 | _,_=>none
theorem wrap_u32 {n:Nat}(h:n<4294967296): IntKind.wrap .u32 (n:Int)=(n:Int):=by
 simp only [IntKind.wrap,IntKind.bits,IntKind.signed,Bool.false_and,Bool.false_eq_true,if_false]
 omega
theorem rz {n:Nat}(h:n<4294967296): ((n:Int)%(2^(IntKind.u32).bits:Int)).toNat=n:=by
 simp only [IntKind.bits]
 omega
theorem jV {a b:Nat}(I:a<4294967296)(J:b<4294967296): Nat.xor a b<4294967296:=Nat.xor_lt_two_pow (n:=32) I J
theorem pZ {a b:Nat}(I:a<4294967296)(J:b<4294967296): intV .xor .u32 (a:Int) (b:Int)=some (.int .u32 ((Nat.xor a b:Nat):Int)):=by
 simp only [intV,bitsV]
 rw [rz I,rz J,wrap_u32 (jV I J)]
theorem FG {a:Nat}(I:a<4294967296): intV .and .u32 (a:Int) 1=some (.int .u32 ((a%2:Nat):Int)):=by
 have J:((1:Int)%(2^(IntKind.u32).bits:Int)).toNat=1:=by simp [IntKind.bits]
 simp only [intV,bitsV]
 rw [rz I,J]
 have:Nat.land a 1=a%2:=Nat.and_one_is_mod a
 rw [this,wrap_u32 (by omega)]
theorem vh {a:Nat}: shiftV .shr .u32 (a:Int) 1=some (.int .u32 ((a/2:Nat):Int)):=by
 simp only [shiftV,IntKind.bits]
 have:(Int.toNat 1)=1:=rfl
 simp [this,Int.fdiv_eq_ediv_of_nonneg]
theorem K2 {c:Ctx}{σ:H}{w:World}{id off k:Nat}{vs:List V}(h:Rel c σ w)(I:rdN σ id off k=some vs): vs.length=k∧∀j,j<k→qD σ id (off+j)=vs[j]?:=by
 unfold rdN at I
 split at I
 ·rename_i n cs st U
  have hn:n=cs.length:=(h.obj id _ U).1
  cases hq:Nat.ble (off+k) n with
  | false=>rw [hq] at I; cases I
  | true =>
   rw [hq,cond_true] at I
   have hle:=ay.1 hq
   simp only [Option.some.injEq] at I
   cases J:(Nat.beq off 0&&Nat.beq k n) with
   | true =>
    rw [J,cond_true] at I
    simp only [Bool.and_eq_true,beq_iff] at J
    subst I
    refine ⟨by omega,fun j _ => ?_⟩
    unfold qD
    rw [U]
    simp only [dG,J.1,Nat.zero_add]
   | false =>
    rw [J,cond_false] at I
    subst I
    refine ⟨by simp; omega,fun j hj => ?_⟩
    unfold qD
    rw [U]
    simp only [dG]
    rw [List.getElem?_take,if_pos hj,List.getElem?_drop]
 ·cases I
def unblk : Code→Code
 | .block _ c=>c
 | c=>c
def unloop : Code→Code
 | .loop c=>c
 | c=>c
noncomputable def fN : Code:=(Tryz.f119.body).getD .skip
noncomputable def fV : Code:=unloop (unblk (bH (leftC (bH (bH fN)))))
noncomputable def jg : Code:=unblk (leftC (bH (bH fV)))
noncomputable def jW : Code:=unloop (unblk (bH (bH (bH jg))))
theorem dX (C:cf)(n:Nat)(c:Code)(s:St): ev C (n+1) c s=evStep C (ev C n) c s:=rfl
theorem wrap_i64 {n:Nat}(h:n<9223372036854775808): IntKind.wrap .i64 (n:Int)=(n:Int):=by
 have I:((n:Int)%(2^(IntKind.i64).bits:Int))=(n:Int):=by simp only [IntKind.bits]; omega
 have J:¬ ((n:Int)≥(2^((IntKind.i64).bits-1):Int)):=by simp only [IntKind.bits]; omega
 simp only [IntKind.wrap,I,J,decide_false,Bool.and_false,Bool.false_eq_true,if_false]
theorem rA {n:Nat}(h:n<9223372036854775807): intV .add .i64 (n:Int) 1=some (.int .i64 ((n+1:Nat):Int)):=by
 have:((n:Int)+1)=((n+1:Nat):Int):=by omega
 simp only [intV,this,wrap_i64 (show n+1<9223372036854775808 by omega)]
section
variable {C:cf} {self:Self}
theorem bh {L rest:List Oper}{o:Oper}{d:Nat}{env:Env}{n:Nat}{h:H}(J:o.guard=none)(U:o.dst=some d)(I:Nat.blt d n=true):
  evOps C self L (o::rest) ⟨env,n,h⟩=(evOp C self env h o).bind fun r=>evOps C self L rest ⟨env.set d (some r.1),n,r.2⟩:=by
 simp only [evOps,wantedV,J,cond_true]
 cases evOp C self env h o with
 | none=>rfl
 | some r=>simp only [St.put,U,I,cond_true,Option.bind_some]
end
noncomputable def MO : Code:=leftC jW
noncomputable def ov : Code:=bH (bH jW)
noncomputable def MP : Code:=leftC (unblk (leftC ov))
noncomputable def MQ : Code:=bH (unblk (leftC ov))
noncomputable def HZ : Code:=bH ov
section
variable {C:cf} (n:Nat) (env:Env) (h:H)
theorem FH {j:Nat}(I:T.get env 20=some (.int .i64 j)): ev C (n+1) MO ⟨env,34,h⟩=some (.normal,⟨env.set 21 (some (.bool (decide ((j:Int)<8)))),34,h⟩):=by
 simp only [MO,jW,jg,fV,fN,Tryz.f119,Option.getD_some,leftC,bH,unblk,unloop,dX,evStep,cond_false]
 rw [bh rfl rfl rfl]
 simp only [evOp,evO,Env.v,I,ofValue,ofScalar,binV,ikBeq,cond_true,intV,aB,Option.bind_some,evOps]
theorem MR {x:Nat}(J:x<4294967296)(U:T.get env 5=some (.int .u32 x)):
  ∃I,ev C (n+1) MP ⟨env,34,h⟩=some (.normal,⟨I,34,h⟩)∧T.get I 24=some (.bool (Nat.beq (x%2) 1))∧∀t,t≠22→t≠23→t≠24→T.get I t=T.get env t:=by
 refine ⟨((env.set 22 (some (.int .u32 x))).set 23 (some (.int .u32 ((x%2:Nat):Int)))).set 24 (some (.bool (Nat.beq (x%2) 1))),?_,by simp [aC],fun t h1 h2 h3=>by simp [aC,h1,h2,h3]⟩
 simp only [MP,ov,jW,jg,fV,fN,Tryz.f119,Option.getD_some,leftC,bH,unblk,unloop,dX,evStep,cond_false]
 rw [bh rfl rfl rfl]
 simp only [evOp,evO,Env.v,U,aB,Option.bind_some]
 rw [bh rfl rfl rfl]
 simp only [evOp,evO,Env.v,aC,if_true,ofValue,ofScalar,binV,ikBeq,cond_true,FG J,aB,Option.bind_some]
 rw [bh rfl rfl rfl]
 simp only [evOp,evO,Env.v,aC,if_true,ofValue,ofScalar,binV,ikBeq,cond_true,intV,aB,Option.bind_some,evOps]
 rfl
theorem FI {x:Nat}(I:x<4294967296): Nat.xor (x/2) 3988292384<4294967296:=jV (by omega) (by omega)
theorem MS {x:Nat}{b:Bool}(hx:x<4294967296)(h5:T.get env 5=some (.int .u32 x))(I:T.get env 24=some (.bool b)):
  ∃J,ev C (n+2) MQ ⟨env,34,h⟩=some (.normal,⟨J,34,h⟩)∧T.get J 5=some (.int .u32 ((cond b (Nat.xor (x/2) 3988292384) (x/2):Nat):Int))∧∀t,t<25→t≠5→T.get J t=T.get env t:=by
 simp only [MQ,ov,jW,jg,fV,fN,Tryz.f119,Option.getD_some,leftC,bH,unblk,unloop,dX,evStep,evO,Env.v,I]
 cases b with
 | true =>
  refine ⟨(((env.set 25 (some (.int .u32 x))).set 26 (some (.int .u32 ((x/2:Nat):Int)))).set 27 (some (.int .u32 ((Nat.xor (x/2) 3988292384:Nat):Int)))).set 5 (some (.int .u32 ((Nat.xor (x/2) 3988292384:Nat):Int))),?_,by simp [aC],fun t h1 U => ?_⟩
  ·simp only [cond_true,cond_false]
   rw [bh rfl rfl rfl]
   simp only [evOp,evO,Env.v,h5,aB,Option.bind_some]
   rw [bh rfl rfl rfl]
   simp only [evOp,evO,Env.v,aC,if_true,ofValue,ofScalar,binV,vh,aB,Option.bind_some]
   rw [bh rfl rfl rfl]
   have:=pZ (a:=x/2) (b:=3988292384) (by omega) (by omega)
   rw [show ((3988292384:Nat):Int)=3988292384 from rfl] at this
   simp only [evOp,evO,Env.v,aC,if_true,ofValue,ofScalar,binV,ikBeq,cond_true,this,aB,Option.bind_some]
   rw [bh rfl rfl rfl]
   simp only [evOp,evO,Env.v,aC,if_true,aB,Option.bind_some,evOps]
  ·have a1:t≠25:=by omega
   have a2:t≠26:=by omega
   have a3:t≠27:=by omega
   simp [aC,U,a1,a2,a3]
 | false =>
  refine ⟨((env.set 28 (some (.int .u32 x))).set 29 (some (.int .u32 ((x/2:Nat):Int)))).set 5 (some (.int .u32 ((x/2:Nat):Int))),?_,by simp [aC],fun t h1 U => ?_⟩
  ·simp only [cond_false]
   rw [bh rfl rfl rfl]
   simp only [evOp,evO,Env.v,h5,aB,Option.bind_some]
   rw [bh rfl rfl rfl]
   simp only [evOp,evO,Env.v,aC,if_true,ofValue,ofScalar,binV,vh,aB,Option.bind_some]
   rw [bh rfl rfl rfl]
   simp only [evOp,evO,Env.v,aC,if_true,aB,Option.bind_some,evOps]
  ·have a1:t≠28:=by omega
   have a2:t≠29:=by omega
   simp [aC,U,a1,a2]
theorem K3 {j:Nat}(hj:j<8)(I:T.get env 20=some (.int .i64 j)):
  ∃J,ev C (n+1) HZ ⟨env,34,h⟩=some (.normal,⟨J,34,h⟩)∧T.get J 20=some (.int .i64 ((j+1:Nat):Int))∧∀t,t≠20→t≠30→T.get J t=T.get env t:=by
 refine ⟨(env.set 30 (some (.int .i64 ((j+1:Nat):Int)))).set 20 (some (.int .i64 ((j+1:Nat):Int))),?_,by simp [aC],fun t U h2=>by simp [aC,U,h2]⟩
 simp only [HZ,ov,jW,jg,fV,fN,Tryz.f119,Option.getD_some,leftC,bH,unblk,unloop,dX,evStep,cond_false]
 rw [bh rfl rfl rfl]
 simp only [evOp,evO,Env.v,I,ofValue,ofScalar,binV,ikBeq,cond_true,rA (show j<9223372036854775807 by omega),aB,Option.bind_some]
 rw [bh rfl rfl rfl]
 simp only [evOp,evO,Env.v,aC,if_true,aB,Option.bind_some,evOps]
section
variable {n:Nat} {s s':St}
theorem fW {a b:Code}(I:ev C n a s=some (.normal,s')): ev C (n+1) (.seq a b) s=ev C n b s':=by rw [dX]; simp only [evStep,I]
theorem oN {a b:Code}{i:Nat}(I:ev C n a s=some (.exit i,s')): ev C (n+1) (.seq a b) s=some (.exit i,s'):=by rw [dX]; simp only [evStep,I]
theorem o4 {x:Operand}{a b:Code}{t:Bool}(I:evO s.env x=some (.bool t)): ev C (n+1) (.cond x a b) s=ev C n (cond t a b) s:=by rw [dX]; simp only [evStep,I]
theorem zP {i:Nat}{c:Code}(h:ev C n c s=some (.normal,s')): ev C (n+1) (.block i c) s=some (.normal,s'):=by rw [dX]; simp only [evStep,h]
theorem qJ {i:Nat}{c:Code}(h:ev C n c s=some (.exit i,s')): ev C (n+1) (.block i c) s=some (.normal,s'):=by rw [dX]; simp only [evStep,h,Nat.beq_refl,cond_true]
theorem CA {b:Code}(h:ev C n b s=some (.normal,s')): ev C (n+1) (.loop b) s=ev C n (.loop b) s':=by rw [dX]; simp only [evStep,h]
theorem nM {b:Code}{i:Nat}(h:ev C n b s=some (.exit i,s')): ev C (n+1) (.loop b) s=some (.exit i,s'):=by rw [dX]; simp only [evStep,h]
end
theorem xz : jW=.seq MO (.seq (.cond (.tmp 21) .skip (.exit 2)) ov):=rfl
theorem H6 : ov=.seq (.block 3 (.seq MP MQ)) HZ:=rfl
theorem DF {x j:Nat}(hx:x<4294967296)(hj:j<8)(h5:T.get env 5=some (.int .u32 x))(U:T.get env 20=some (.int .i64 j)):
  ∃e',ev C (n+9) jW ⟨env,34,h⟩=some (.normal,⟨e',34,h⟩)∧T.get e' 5=some (.int .u32 ((crcStep x 1:Nat):Int))∧T.get e' 20=some (.int .i64 ((j+1:Nat):Int)) ∧
   ∀t,t<20→t≠5→T.get e' t=T.get env t:=by
 have bB:decide ((j:Int)<8)=true:=by simp; omega
 have q7:=FH (C:=C) (n+7) env h U
 rw [bB] at q7
 have g5:T.get (env.set 21 (some (.bool true))) 5=some (.int .u32 x):=by simp [aC,h5]
 obtain ⟨e8,q8,S9,J⟩:=MR (C:=C) (n+3) (env.set 21 (some (.bool true))) h hx g5
 have S_:T.get e8 5=some (.int .u32 x):=by rw [J 5 (by omega) (by omega) (by omega),g5]
 obtain ⟨e9,q9,Ta,P6⟩:=MS (C:=C) (n+2) e8 h hx S_ S9
 have Tb:T.get e9 20=some (.int .i64 j):=by
  rw [P6 20 (by omega) (by omega),J 20 (by omega) (by omega) (by omega)]
  simp [aC,U]
 obtain ⟨Tc,Td,RB,I⟩:=K3 (C:=C) (n+5) e9 h hj Tb
 refine ⟨Tc,?_,?_,RB,fun t h1 h2 => ?_⟩
 ·rw [xz,fW q7,fW (s':=⟨env.set 21 (some (.bool true)),34,h⟩) (by rw [o4 (t:=true) (by simp [evO,Env.v,aC])]; rfl),H6,
   fW (zP (by rw [fW q8]; exact q9)),Td]
 ·rw [I 5 (by omega) (by omega),Ta]
  simp only [crcStep]
 ·rw [I t (by omega) (by omega),P6 t (by omega) h2,J t (by omega) (by omega) (by omega)]
  have:t≠21:=by omega
  simp [aC,this]
theorem DG : ∀(k n:Nat) (env:Env) (x:Nat),k≤8→x<4294967296→T.get env 5=some (.int .u32 x)→T.get env 20=some (.int .i64 ((8-k:Nat):Int)) →
  ∃J,ev C (n+10+k) (.loop jW) ⟨env,34,h⟩=some (.exit 2,⟨J,34,h⟩)∧T.get J 5=some (.int .u32 ((crcStep x k:Nat):Int))∧∀t,t<20→t≠5→T.get J t=T.get env t:=by
 intro k
 induction k with
 | zero =>
  intro n env x _ U h5 I
  have q7:=FH (C:=C) (n+7) env h I
  refine ⟨env.set 21 (some (.bool false)),?_,by simp [aC,h5,crcStep],fun t h1 h2 => ?_⟩
  ·rw [Nat.add_zero]
   refine nM ?_
   rw [xz,fW q7]
   exact oN (by rw [o4 (t:=false) (by simp [evO,Env.v,aC])]; rfl)
  ·have:t≠21:=by omega
   simp [aC,this]
 | succ k ih =>
  intro n env x hk U h5 I
  obtain ⟨e1,q1,q2,q3,q4⟩:=DF (C:=C) (n+1+k) env h U (show 8-(k+1)<8 by omega) h5 I
  have h8:8-(k+1)+1=8-k:=by omega
  rw [h8] at q3
  have P7:crcStep x 1<4294967296:=by
   simp only [crcStep]
   cases Nat.beq (x%2) 1 with
   | true=>exact FI U
   | false=>simp only [cond_false]; omega
  obtain ⟨e2,p1,p2,p3⟩:=ih n e1 (crcStep x 1) (by omega) P7 q2 q3
  refine ⟨e2,?_,?_,fun t h1 h2=>by rw [p3 t h1 h2,q4 t h1 h2]⟩
  ·rw [show n+10+(k+1)=(n+1+k+9)+1 from by omega,CA q1,show n+1+k+9=n+10+k from by omega]
   exact p1
  ·rw [p2]; simp only [crcStep]
end
noncomputable def MT : Code:=leftC fV
noncomputable def yI : Code:=bH (bH fV)
noncomputable def H7 : Code:=bH yI
noncomputable def MU : Code:=leftC jg
noncomputable def MV : Code:=leftC (bH jg)
noncomputable def MW : Code:=leftC (bH (bH jg))
theorem H8 : jg=.seq MU (.seq MV (.seq MW (.block 2 (.loop jW)))):=rfl
theorem rB : fV=.seq MT (.seq (.cond (.tmp 13) .skip (.exit 0)) yI):=rfl
theorem H9 : yI=.seq (.block 1 jg) H7:=rfl
theorem dz : aY Tryz.prog 5=some 1:=by kernel_rfl
theorem CC : bx Tryz.prog 5=some false:=by kernel_rfl
section
variable {told:Nat→Option (List V→H→Option (V×H))} (n:Nat) (env:Env) (h:H)
theorem zQ {i len:Nat}(I:T.get env 12=some (.int .i64 i))(J:T.get env 11=some (.int .i64 len)):
  ev ⟨Tryz.prog,told⟩ (n+1) MT ⟨env,34,h⟩=some (.normal,⟨env.set 13 (some (.bool (decide ((i:Int)<(len:Int))))),34,h⟩):=by
 simp only [MT,fV,fN,Tryz.f119,Option.getD_some,leftC,bH,unblk,unloop,dX,evStep,cond_false]
 rw [bh rfl rfl rfl]
 simp only [evOp,evO,Env.v,J,I,binV,ikBeq,cond_true,intV,aB,Option.bind_some,evOps]
theorem MX {i id off len b:Nat}{cap:Cap}(hi:i<len)(I:T.get env 12=some (.int .i64 i))(J:T.get env 10=some (.sl id off len cap))(hb:qD h id (off+i)=some (.int .u8 b)):
  ∃U,ev ⟨Tryz.prog,told⟩ (n+1) MU ⟨env,34,h⟩=some (.normal,⟨U,34,h⟩)∧T.get U 7=some (.int .u8 b)∧∀t,t≠7→t≠14→t≠15→T.get U t=T.get env t:=by
 refine ⟨((env.set 14 (some (.ptr id (off+i)))).set 15 (some (.int .u8 b))).set 7 (some (.int .u8 b)),?_,by simp [aC],fun t h1 h2 h3=>by simp [aC,h1,h2,h3]⟩
 simp only [MU,jg,fV,fN,Tryz.f119,Option.getD_some,leftC,bH,unblk,unloop,dX,evStep,cond_false]
 rw [bh rfl rfl rfl]
 have d1:decide ((0:Int)≤(i:Int))=true:=by simp
 have d2:decide ((i:Int)<(len:Int))=true:=by simp; exact hi
 simp only [evOp,evO,Env.v,J,I,indexAddrV,Tryz.underlying32,dz,d1,d2,Bool.and_self,cond_true,Int.toNat_natCast,Nat.mul_one,aB,Option.bind_some]
 rw [bh rfl rfl rfl]
 simp only [evOp,evO,Env.v,aC,if_true,loadV,CC,hb,aB,Option.bind_some]
 rw [bh rfl rfl rfl]
 simp only [evOp,evO,Env.v,aC,if_true,aB,Option.bind_some,evOps]
theorem MY {x b:Nat}(hx:x<4294967296)(hb:b<256)(h5:T.get env 5=some (.int .u32 x))(h7:T.get env 7=some (.int .u8 b)):
  ∃I,ev ⟨Tryz.prog,told⟩ (n+1) MV ⟨env,34,h⟩=some (.normal,⟨I,34,h⟩)∧T.get I 5=some (.int .u32 ((Nat.xor x b:Nat):Int))∧∀t,t<16→t≠5→T.get I t=T.get env t:=by
 refine ⟨((((env.set 16 (some (.int .u32 x))).set 17 (some (.int .u8 b))).set 18 (some (.int .u32 b))).set 19 (some (.int .u32 ((Nat.xor x b:Nat):Int)))).set 5 (some (.int .u32 ((Nat.xor x b:Nat):Int))),?_,by simp [aC],fun t h1 h2 => ?_⟩
 ·simp only [MV,jg,fV,fN,Tryz.f119,Option.getD_some,leftC,bH,unblk,unloop,dX,evStep,cond_false]
  rw [bh rfl rfl rfl]
  simp only [evOp,evO,Env.v,h5,aB,Option.bind_some]
  rw [bh rfl rfl rfl]
  have g7:T.get (env.set 16 (some (.int .u32 x))) 7=some (.int .u8 b):=by simp [aC,h7]
  simp only [evOp,evO,Env.v,g7,aB,Option.bind_some]
  rw [bh rfl rfl rfl]
  simp only [evOp,evO,Env.v,aC,if_true,convV,Tryz.underlying5,Tryz.underlying155,wrap_u32 (show b<4294967296 by omega),Option.bind_some]
  rw [bh rfl rfl rfl]
  have J:T.get (((env.set 16 (some (.int .u32 x))).set 17 (some (.int .u8 b))).set 18 (some (.int .u32 b))) 16=some (.int .u32 x):=by simp [aC]
  have U:T.get (((env.set 16 (some (.int .u32 x))).set 17 (some (.int .u8 b))).set 18 (some (.int .u32 b))) 18=some (.int .u32 b):=by simp [aC]
  simp only [evOp,evO,Env.v,J,U,binV,ikBeq,cond_true,pZ hx (show b<4294967296 by omega),aB,Option.bind_some]
  rw [bh rfl rfl rfl]
  simp only [evOp,evO,Env.v,aC,if_true,aB,Option.bind_some,evOps]
 ·have a1:t≠16:=by omega
  have a2:t≠17:=by omega
  have a3:t≠18:=by omega
  have a4:t≠19:=by omega
  simp [aC,h2,a1,a2,a3,a4]
theorem MZ : ev ⟨Tryz.prog,told⟩ (n+1) MW ⟨env,34,h⟩=some (.normal,⟨env.set 20 (some (.int .i64 0)),34,h⟩):=by
 simp only [MW,jg,fV,fN,Tryz.f119,Option.getD_some,leftC,bH,unblk,unloop,dX,evStep,cond_false]
 rw [bh rfl rfl rfl]
 simp only [evOp,evO,ofValue,ofScalar,aB,Option.bind_some,evOps]
theorem K4 {i:Nat}(hi:i<9223372036854775807)(I:T.get env 12=some (.int .i64 i)):
  ∃J,ev ⟨Tryz.prog,told⟩ (n+1) H7 ⟨env,34,h⟩=some (.normal,⟨J,34,h⟩)∧T.get J 12=some (.int .i64 ((i+1:Nat):Int))∧∀t,t≠12→t≠31→T.get J t=T.get env t:=by
 refine ⟨(env.set 31 (some (.int .i64 ((i+1:Nat):Int)))).set 12 (some (.int .i64 ((i+1:Nat):Int))),?_,by simp [aC],fun t U h2=>by simp [aC,U,h2]⟩
 simp only [H7,yI,fV,fN,Tryz.f119,Option.getD_some,leftC,bH,unblk,unloop,dX,evStep,cond_false]
 rw [bh rfl rfl rfl]
 simp only [evOp,evO,Env.v,I,ofValue,ofScalar,binV,ikBeq,cond_true,rA hi,aB,Option.bind_some]
 rw [bh rfl rfl rfl]
 simp only [evOp,evO,Env.v,aC,if_true,aB,Option.bind_some,evOps]
theorem vi : ∀(k x:Nat),x<4294967296→crcStep x k<4294967296:=by
 intro k
 induction k with
 | zero=>intro x I; exact I
 | succ k J =>
  intro x I
  simp only [crcStep]
  refine J _ ?_
  cases Nat.beq (x%2) 1 with
  | true=>exact FI I
  | false=>simp only [cond_false]; omega
theorem H_ {x i id off len b:Nat}{cap:Cap}(hx:x<4294967296)(hb:b<256)(hi:i<len)(h5:T.get env 5=some (.int .u32 x))(J:T.get env 12=some (.int .i64 i))(U:T.get env 10=some (.sl id off len cap))
 (hr:qD h id (off+i)=some (.int .u8 b)):
  ∃e',ev ⟨Tryz.prog,told⟩ (n+22) jg ⟨env,34,h⟩=some (.normal,⟨e',34,h⟩)∧T.get e' 5=some (.int .u32 ((crcStep (Nat.xor x b) 8:Nat):Int))∧∀t,t=10∨t=11∨t=12→T.get e' t=T.get env t:=by
 obtain ⟨e4,q4,M0,I⟩:=MX (told:=told) (n+20) env h hi J U hr
 obtain ⟨e5,q5,Te,Tf⟩:=MY (told:=told) (n+19) e4 h hx hb (by rw [I 5 (by omega) (by omega) (by omega)]; exact h5) M0
 have q6:=MZ (told:=told) (n+18) e5 h
 obtain ⟨e2,q2,FJ,xA⟩:=DG (C:=⟨Tryz.prog,told⟩) h 8 n (e5.set 20 (some (.int .i64 0))) (Nat.xor x b) (by omega) (jV hx (by omega)) (by simp [aC,Te]) (by simp [aC])
 refine ⟨e2,?_,FJ,fun t ht => ?_⟩
 ·rw [H8,fW q4,fW q5,fW q6]
  exact qJ q2
 ·rw [xA t (by omega) (by omega)]
  have:t≠20:=by omega
  simp only [aC,this,if_false]
  rw [Tf t (by omega) (by omega),I t (by omega) (by omega) (by omega)]
theorem DH {id off len:Nat}{cap:Cap}(hlen:len<9223372036854775807): ∀(l:List Nat) (i n:Nat) (env:Env) (x:Nat),i+l.length=len→x<4294967296→(∀b∈l,b<256) →
  (∀j b:Nat,l[j]?=some b→qD h id (off+(i+j))=some (.int .u8 (b:Int)))→T.get env 5=some (.int .u32 x)→T.get env 12=some (.int .i64 i)→T.get env 10=some (.sl id off len cap)→T.get env 11=some (.int .i64 len) →
  ∃e',ev ⟨Tryz.prog,told⟩ (n+30+l.length) (.loop fV) ⟨env,34,h⟩=some (.exit 0,⟨e',34,h⟩)∧T.get e' 5=some (.int .u32 ((crcL x l:Nat):Int)):=by
 intro l
 induction l with
 | nil =>
  intro i n env x hi hx _ _ h5 I M1 J
  have q3:=zQ (told:=told) (n+27) env h I J
  have hd:decide ((i:Int)<(len:Int))=false:=by simp at hi ⊢; omega
  rw [hd] at q3
  refine ⟨env.set 13 (some (.bool false)),?_,by simp [aC,h5,crcL]⟩
  refine nM ?_
  rw [rB,fW q3]
  exact oN (by rw [o4 (t:=false) (by simp [evO,Env.v,aC])]; rfl)
 | cons b l ih =>
  intro i n env x hi hx zR ir h5 I M1 J
  simp only [List.length_cons] at hi
  have q3:=zQ (told:=told) (n+l.length+28) env h I J
  have hd:decide ((i:Int)<(len:Int))=true:=by simp; omega
  rw [hd] at q3
  have hb:b<256:=zR b (by simp)
  have hr:=ir 0 b (by simp)
  rw [Nat.add_zero] at hr
  obtain ⟨e1,q1,JU,FK⟩:=H_ (told:=told) (cap:=cap) (n+l.length+4) (env.set 13 (some (.bool true))) h hx hb (show i<len by omega) (by simp [aC,h5]) (by simp [aC,I]) (by simp [aC,M1]) hr
  obtain ⟨e2,q2,FJ,xA⟩:=K4 (told:=told) (n+l.length+26) e1 h (show i<9223372036854775807 by omega) (by rw [FK 12 (by omega)]; simp [aC,I])
  have iT:crcStep (Nat.xor x b) 8<4294967296:=vi 8 _ (jV hx (by omega))
  obtain ⟨e3,Tg,M3⟩:=ih (i+1) n e2 (crcStep (Nat.xor x b) 8) (by omega) iT (fun c hc=>zR c (by simp [hc])) (fun j c hj=>by
   have:=ir (j+1) c (by simpa using hj)
   rwa [show i+(j+1)=i+1+j from by omega] at this) (by rw [xA 5 (by omega) (by omega)]; exact JU) FJ (by rw [xA 10 (by omega) (by omega),FK 10 (by omega)]; simp [aC,M1]) (by rw [xA 11 (by omega) (by omega),FK 11 (by omega)]; simp [aC,J])
  refine ⟨e3,?_,by rw [M3]; simp only [crcL]⟩
  have U:ev ⟨Tryz.prog,told⟩ (n+l.length+30) fV ⟨env,34,h⟩=some (.normal,⟨e2,34,h⟩):=by
   rw [rB,fW q3,fW (s':=⟨env.set 13 (some (.bool true)),34,h⟩) (by rw [o4 (t:=true) (by simp [evO,Env.v,aC])]; rfl),H9,
    fW (zP q1),q2]
  rw [List.length_cons,show n+30+(l.length+1)=(n+l.length+30)+1 from by omega,CA U,show n+l.length+30=n+30+l.length from by omega]
  exact Tg
noncomputable def M4 : Code:=leftC fN
noncomputable def M5 : Code:=leftC (bH fN)
noncomputable def M6 : Code:=leftC (leftC (bH (bH fN)))
noncomputable def Ia : Code:=bH (bH (bH fN))
theorem Ib : fN=.seq M4 (.seq M5 (.seq (.seq M6 (.block 0 (.loop fV))) Ia)):=rfl
theorem M7 : ev ⟨Tryz.prog,told⟩ (n+1) M4 ⟨env,34,h⟩=some (.normal,⟨env.set 4 (some (.int .u32 0)),34,h⟩):=by
 simp only [M4,fN,Tryz.f119,Option.getD_some,leftC,dX,evStep,cond_false]
 rw [bh rfl rfl rfl]
 simp only [evOp,evO,ofValue,ofScalar,aB,Option.bind_some,evOps]
theorem M8 {x:Nat}(J:x<4294967296)(U:T.get env 0=some (.int .u32 x)):
  ∃I,ev ⟨Tryz.prog,told⟩ (n+1) M5 ⟨env,34,h⟩=some (.normal,⟨I,34,h⟩)∧T.get I 5=some (.int .u32 ((Nat.xor x 4294967295:Nat):Int))∧∀t,t≠5→t≠8→t≠9→T.get I t=T.get env t:=by
 refine ⟨((env.set 8 (some (.int .u32 x))).set 9 (some (.int .u32 ((Nat.xor x 4294967295:Nat):Int)))).set 5 (some (.int .u32 ((Nat.xor x 4294967295:Nat):Int))),?_,by simp [aC],fun t h1 h2 h3=>by simp [aC,h1,h2,h3]⟩
 simp only [M5,fN,Tryz.f119,Option.getD_some,leftC,bH,dX,evStep,cond_false]
 rw [bh rfl rfl rfl]
 simp only [evOp,evO,Env.v,U,aB,Option.bind_some]
 rw [bh rfl rfl rfl]
 have:=pZ (a:=x) (b:=4294967295) J (by omega)
 rw [show ((4294967295:Nat):Int)=4294967295 from rfl] at this
 simp only [evOp,evO,Env.v,aC,if_true,ofValue,ofScalar,binV,ikBeq,cond_true,this,aB,Option.bind_some]
 rw [bh rfl rfl rfl]
 simp only [evOp,evO,Env.v,aC,if_true,aB,Option.bind_some,evOps]
theorem M9 {x:V}{len:Nat}(J:T.get env 1=some x)(U:lenV Tryz.prog h 32 x=some (.int .i64 len)):
  ∃I,ev ⟨Tryz.prog,told⟩ (n+1) M6 ⟨env,34,h⟩=some (.normal,⟨I,34,h⟩)∧T.get I 10=some x∧T.get I 11=some (.int .i64 len)∧T.get I 12=some (.int .i64 ((0:Nat):Int))∧T.get I 5=T.get env 5:=by
 refine ⟨((env.set 10 (some x)).set 11 (some (.int .i64 len))).set 12 (some (.int .i64 0)),?_,by simp [aC],by simp [aC],by simp [aC],by simp [aC]⟩
 simp only [M6,fN,Tryz.f119,Option.getD_some,leftC,bH,dX,evStep,cond_false]
 rw [bh rfl rfl rfl]
 simp only [evOp,evO,Env.v,J,aB,Option.bind_some]
 rw [bh rfl rfl rfl]
 simp only [evOp,evCall,evArgs,evO,Env.v,aC,if_true,builtinV,U,Option.map_some,Option.bind_some]
 rw [bh rfl rfl rfl]
 simp only [evOp,evO,ofValue,ofScalar,aB,Option.bind_some,evOps]
theorem K5 {x:Nat}(J:x<4294967296)(U:T.get env 5=some (.int .u32 x)):
  ∃I,ev ⟨Tryz.prog,told⟩ (n+2) Ia ⟨env,34,h⟩=some (.ret,⟨I,34,h⟩)∧T.get I 4=some (.int .u32 ((Nat.xor x 4294967295:Nat):Int)):=by
 refine ⟨((env.set 32 (some (.int .u32 x))).set 33 (some (.int .u32 ((Nat.xor x 4294967295:Nat):Int)))).set 4 (some (.int .u32 ((Nat.xor x 4294967295:Nat):Int))),?_,by simp [aC]⟩
 simp only [Ia,fN,Tryz.f119,Option.getD_some,bH,dX,evStep,cond_false]
 rw [bh rfl rfl rfl]
 simp only [evOp,evO,Env.v,U,aB,Option.bind_some]
 rw [bh rfl rfl rfl]
 have:=pZ (a:=x) (b:=4294967295) J (by omega)
 rw [show ((4294967295:Nat):Int)=4294967295 from rfl] at this
 simp only [evOp,evO,Env.v,aC,if_true,ofValue,ofScalar,binV,ikBeq,cond_true,this,aB,Option.bind_some]
 rw [bh rfl rfl rfl]
 simp only [evOp,evO,Env.v,aC,if_true,aB,Option.bind_some,evOps]
end
theorem DI : ∀(cs:List V) (l:List Nat),bytesIn cs=some l→cs=l.map (fun (b:Nat)=>V.int .u8 (b:Int))∧∀b∈l,b<256:=by
 intro cs
 induction cs with
 | nil=>intro l h; simp [bytesIn] at h; subst h; simp
 | cons v cs U =>
  intro l h
  unfold bytesIn at h
  split at h
  ·rename_i he; cases he
  ·rename_i n l' he
   simp only [List.cons.injEq] at he
   obtain ⟨rfl,rfl⟩:=he
   cases I:(decide (0≤n)&&decide (n<256)) with
   | false=>rw [I] at h; cases h
   | true =>
    rw [I,cond_true] at h
    simp only [Bool.and_eq_true,decide_eq_true_eq] at I
    cases hm:bytesIn cs with
    | none=>simp [hm] at h
    | some m =>
     simp [hm] at h
     subst h
     obtain ⟨i1,i2⟩:=U m hm
     refine ⟨?_,fun b J => ?_⟩
     ·simp only [List.map_cons,←i1]
      congr 2
      omega
     ·rcases List.mem_cons.1 J with rfl | J
      ·omega
      ·exact i2 b J
  ·cases h
theorem wI : ∀(l:List Nat) (x:Nat),x<4294967296→(∀b∈l,b<256)→crcL x l<4294967296:=by
 intro l
 induction l with
 | nil=>intro x I _; exact I
 | cons b l U =>
  intro x I J
  have h1:=J b (by simp)
  exact U _ (vi 8 _ (jV I (by omega))) (fun c hc=>J c (by simp [hc]))
theorem uh {σ : H} {s : Int} {x : V} {l : List Nat} {len : Nat} (VZ : 0 ≤ s) (xm : s < 4294967296) (hl : lenV Tryz.prog σ 32 x = some (.int .i64 len)) (hlen : len = l.length) (kW : len < 9223372036854775807)
  (hb : ∀ b ∈ l, b < 256) (hx : l = [] ∨ ∃ id off cap, x = .sl id off len cap ∧ ∀ j b : Nat, l[j]? = some b → qD σ id (off + (0 + j)) = some (.int .u8 (b : Int))) :
  run ⟨Tryz.prog, fun _ => none⟩ (l.length + 40) 119 [.int .u32 s, x] σ = some (nL s l, σ) := by
 obtain ⟨u, rfl⟩ : ∃ u : Nat, s = (u : Int) := ⟨s.toNat, by omega⟩
 have hu : u < 4294967296 := by omega
 have q0 := M7 (told := fun _ => none) (l.length + 38) (bindArgs [.int .u32 u, x] 0 .lf) σ
 obtain ⟨e1, q1, JU, FK⟩ := M8 (told := fun _ => none) (l.length + 37) ((bindArgs [.int .u32 u, x] 0 .lf).set 4 (some (.int .u32 0))) σ hu (by simp [aC, bindArgs])
 obtain ⟨e2, q2, FJ, xA, P8, P9⟩ := M9 (told := fun _ => none) (l.length + 35) e1 σ (x := x) (by rw [FK 1 (by omega) (by omega) (by omega)]; simp [aC, bindArgs]) hl
 have I : Nat.xor u 4294967295 < 4294967296 := jV hu (by omega)
 have J : ∃ e', ev ⟨Tryz.prog, fun _ => none⟩ (5 + 30 + l.length) (.loop fV) ⟨e2, 34, σ⟩ = some (.exit 0, ⟨e', 34, σ⟩) ∧ T.get e' 5 = some (.int .u32 ((crcL (Nat.xor u 4294967295) l : Nat) : Int)) := by
  rcases hx with rfl | ⟨id, off, cap, rfl, ir⟩
  ·have q3 := zQ (told := fun _ => none) 32 e2 σ P8 xA
   have hd : decide ((((0 : Nat) : Int)) < (len : Int)) = false := by subst hlen; rfl
   rw [hd] at q3
   refine ⟨e2.set 13 (some (.bool false)), ?_, by simp [aC, P9, JU, crcL]⟩
   refine nM ?_
   rw [rB, fW q3]
   exact oN (by rw [o4 (t := false) (by simp [evO, Env.v, aC])]; rfl)
  ·exact DH σ kW l 0 5 e2 _ (by omega) I hb ir (by rw [P9]; exact JU) P8 FJ xA
 obtain ⟨e3, q3, M3⟩ := J
 obtain ⟨e4, q4, M0⟩ := K5 (told := fun _ => none) (l.length + 35) e3 σ (wI l _ I hb) M3
 have U : ev ⟨Tryz.prog, fun _ => none⟩ (l.length + 40) fN ⟨bindArgs [.int .u32 u, x] 0 .lf, 34, σ⟩ = some (.ret, ⟨e4, 34, σ⟩) := by
  rw [Ib, fW q0, fW q1, fW (s' := ⟨e3, 34, σ⟩) (by
   rw [fW q2]
   rw [show 5 + 30 + l.length = l.length + 35 from by omega] at q3
   exact qJ q3), q4]
 unfold run callF
 simp only [Tryz.func119]
 rw [show Tryz.f119.body = some fN from rfl]
 rw [show (Tryz.f119.name == "runtime.NumGoroutine" || Nat.blt Tryz.f119.ntmps [V.int .u32 (u : Int), x].length) = false from rfl]
 simp only [cond_false]
 rw [show Tryz.f119.ntmps = 34 from rfl, U]
 simp only
 rw [show Tryz.f119.results = #[.tmp 4] from rfl]
 simp only [mapO, resV, Env.v, M0, nL, Int.toNat_natCast]
section
variable {C:cf} {c:Ctx} {σ:H} {w:World}
theorem BF (hP:C.P=Tryz.prog)(hm:C.P.follows .mixedOrders=true){args:List V}{v:V}{fg:H}(I:toldMore args σ=some (v,fg))(h:Rel c σ w)(hw:∀x∈args,wf c x):
  ei C.P 119 args c w v fg:=by
 rw [hP] at hm ⊢
 have hT:eM ⟨Tryz.prog,fun _=>none⟩:=fun f g hg=>by cases hg
 unfold toldMore at I
 split at I
 ·rename_i s id off len cap
  cases U:(decide (0≤s)&&decide (s<4294967296)&&Nat.ble len 4611686018427387904) with
  | false=>rw [U] at I; cases I
  | true =>
   rw [U,cond_true] at I
   simp only [Bool.and_eq_true,decide_eq_true_eq,ay] at U
   obtain ⟨J,kW⟩:=U
   cases ir:rdN σ id off len with
   | none=>simp [ir] at I
   | some cs =>
    simp only [ir] at I
    cases hb:bytesIn cs with
    | none=>simp [hb] at I
    | some l =>
     simp only [hb,Option.some.injEq,Prod.mk.injEq] at I
     obtain ⟨rfl,rfl⟩:=I
     obtain ⟨b1,b2⟩:=DI cs l hb
     obtain ⟨d1,d2⟩:=K2 h ir
     have hl:len=l.length:=by rw [←d1,b1]; simp
     refine vb (C:=⟨Tryz.prog,fun _=>none⟩) hm hT (uh J.1 J.2 (len:=len) (by simp [lenV,Tryz.underlying32]) hl (by omega) b2 (.inr ⟨id,off,cap,rfl,fun j b hj => ?_⟩)) h hw
     ·rw [Nat.zero_add,d2 j (by rw [hl]; exact (List.getElem?_eq_some_iff.1 hj).1),b1]
      simp [hj]
 ·rename_i s
  cases J:(decide (0≤s)&&decide (s<4294967296)) with
  | false=>rw [J] at I; cases I
  | true =>
   rw [J,cond_true] at I
   simp only [Bool.and_eq_true,decide_eq_true_eq] at J
   simp only [Option.some.injEq,Prod.mk.injEq] at I
   obtain ⟨rfl,rfl⟩:=I
   exact vb (C:=⟨Tryz.prog,fun _=>none⟩) hm hT (uh J.1 J.2 (len:=0) (l:=[]) (by simp [lenV,Tryz.underlying32]) rfl (by omega) (by simp) (.inl rfl)) h hw
 ·rename_i s _
  cases J:(decide (0≤s)&&decide (s<4294967296)) with
  | false=>rw [J] at I; cases I
  | true =>
   rw [J,cond_true] at I
   simp only [Bool.and_eq_true,decide_eq_true_eq] at J
   simp only [Option.some.injEq,Prod.mk.injEq] at I
   obtain ⟨rfl,rfl⟩:=I
   exact vb (C:=⟨Tryz.prog,fun _=>none⟩) hm hT (uh J.1 J.2 (len:=0) (l:=[]) (by simp [lenV,Tryz.underlying32]) rfl (by omega) (by simp) (.inl rfl)) h hw
 ·cases I
end
end Go.Proofs.YtconhghphklfjaaGreat.Am
