/- SpaceRoots: a part of its proof; conditions: its statement's. -/
import Derived.Test.YtefepnnfphdkpaaGreatF11
import Derived.Test.YtefepnnfphdkpaaGreatProg
import Derived.KernelRfl
set_option linter.defProp false
namespace Go.Proofs.YtefepnnfphdkpaaGreat.Am
open Go
def aG:=@Tryz.underlying28
def CN:=@Tryz.func178
abbrev cQ:=Nat→Option (List V→H→Option (V×H))
noncomputable section
def S8 (v:V): Option (IntKind×Int):=V.rec (motive_1:=fun _=>Option (IntKind×Int)) (motive_2:=fun _=>PUnit)
 (fun _=>none) (fun k n=>some (k,n)) (fun _=>none) none (fun _ _=>none) none (fun _ _ _ _=>none) none (fun _=>none) (fun _ _ _ _ _=>none) none (fun _ _ _=>none) none (fun _ _=>none) (fun _ _=>none) (fun _=>none) (fun _ _=>none) (fun _=>none)
 PUnit.unit (fun _ _ _ _=>PUnit.unit) v
def KA (k:IntKind): Nat:=IntKind.rec 0 1 2 3 4 5 6 7 k
def QL (op:BinOp): IntKind→Int→Int→Option V:=BinOp.rec (motive:=fun _=>IntKind→Int→Int→Option V)
 (fun k x y=>some (.int k (k.wrap (Int.add x y))))
 (fun k x y=>some (.int k (k.wrap (Int.sub x y))))
 (fun k x y=>intV .mul k x y) (fun k x y=>intV .quo k x y) (fun k x y=>intV .rem k x y)
 (fun k x y=>bitsV .and k x y) (fun k x y=>bitsV .or k x y) (fun k x y=>bitsV .xor k x y)
 (fun k x y=>intV .shl k x y) (fun k x y=>intV .shr k x y) (fun k x y=>bitsV .andNot k x y)
 (fun _ x y=>some (.bool (intBeq x y))) (fun _ x y=>some (.bool (!intBeq x y)))
 (fun _ x y=>some (.bool (decide (x<y)))) (fun _ x y=>some (.bool (decide (x≤y)))) (fun _ x y=>some (.bool (decide (x>y)))) (fun _ x y=>some (.bool (decide (x≥y)))) op
def Ev (op:BinOp): Bool:=BinOp.rec (motive:=fun _=>Bool) false false false false false false false false true true false false false false false false false op
def QM (P:Program)(h:H)(op:BinOp)(t:TypeId)(I J:Operand)(x y:V): Option V :=
 Option.rec (motive:=fun _=>Option V) (binV P h op t I J x y)
  (fun a=>Option.rec (motive:=fun _=>Option V) (binV P h op t I J x y)
   (fun b=>Bool.rec (motive:=fun _=>Option V) (Bool.rec (motive:=fun _=>Option V) none (QL op a.1 a.2 b.2) (Nat.beq (KA a.1) (KA b.1))) (shiftV op a.1 a.2 b.2) (Ev op)) (S8 y)) (S8 x)
theorem Wb (a b:IntKind): Nat.beq (KA a) (KA b)=ikBeq a b:=by cases a <;> cases b <;> rfl
theorem Ui (op:BinOp)(k:IntKind)(x y:Int): QL op k x y=intV op k x y:=by cases op <;> rfl
theorem Uj (P:Program)(h:H)(op:BinOp)(t:TypeId)(I J:Operand)(x y:V): QM P h op t I J x y=binV P h op t I J x y:=by
 cases x <;> try rfl
 cases y <;> try rfl
 rename_i k a j b
 show (Bool.rec (motive:=fun _=>Option V) (Bool.rec (motive:=fun _=>Option V) none (QL op k a b) (Nat.beq (KA k) (KA j))) (shiftV op k a b) (Ev op):Option V)=_
 rw [Wb,Ui]
 cases op <;> first
  | rfl
  | (cases hq:ikBeq k j <;> simp [binV,hq,Ev])
def QN (op:Op): cL→Self→Env→H→Option (V×H):=Op.rec (motive:=fun _=>cL→Self→Env→H→Option (V×H))
  (fun x _ _ env h=>aY (evO env x) h)
  (fun x _ _ env h=>aY (evO env x) h)
  (fun c a b _ _ env h=>match evO env c with
  | some (.bool t)=>aY (evO env (cond t a b)) h
  | _=>none)
  (fun t C _ _ h=>match zeroT C.P t with
  | some z=>some (.ptr h.next 0,newRow h z.cells)
  | none=>none)
  (fun _ x _ _ env h=>match evO env x with
  | some v=>cond (v.cells.all storable) (some (.ptr h.next 0,newRow h v.cells)) none
  | none=>none)
  (fun t ps C _ env h=>match evParts env ps.toList with
  | some l=>aY (buildV C.P t l) h
  | none=>none)
  (fun t n ps C _ env h=>match evParts env ps.toList with
  | some l=>buildSliceV C.P h t n l
  | none=>none)
  (fun t m k v C _ env h=>match evO env m,evO env k,evO env v with
  | some a,some b,some c=>nh (mapUpdateV C.P h t a b c)
  | _,_,_=>none)
  (fun t a C _ env h=>match evO env a with
  | some v=>aY (loadV C.P h t v) h
  | none=>none)
  (fun t a x C _ env h=>match evO env a,evO env x with
  | some p,some v=>nh (g9 C.P h t p v)
  | _,_=>none)
  (fun _ _ _ _ _=>none)
  (fun _ _ _ _ _=>none)
  (fun x _ _ env h=>match evO env x with
  | some (.ptr a b)=>some (.ptr a b,h)
  | _=>none)
  (fun op t x y _ C _ env h=>match evO env x,evO env y with
  | some a,some b=>aY (QM C.P h op t x y a b) h
  | _,_=>none)
  (fun op _ x _ _ env h=>match evO env x with
  | some a=>aY (unV op a) h
  | none=>none)
  (fun s d x C _ env h=>match evO env x with
  | some a=>match convV C.P h s d a with
   | some r=>some r
   | none=>convB C.P h s d a
  | none=>none)
  (fun d x C _ env h=>match evO env x with
  | some a=>aY (arrPtrV C.P d a) h
  | none=>none)
  (fun t x C _ env h=>match evO env x with
  | some a=>aY (makeIfaceV C.P t a) h
  | none=>none)
  (fun f a b _ _ env h=>match evArgs env a.toList,evArgs env b.toList with
  | some x,some y=>some (.fn f x y,h)
  | _,_=>none)
  (fun _ r _ _ _ h=>match r with
  | none=>some (.map h.next,h.new (.map [] 0))
  | some _=>none)
  (fun _ _ _ _ _ _=>none)
  (fun t l c C _ env h=>match evO env l,evO env c with
  | some a,some b=>makeSliceV C.P h t a b
  | _,_=>none)
  (fun t x lo hi mx C _ env h=>match evO env x,optV env lo,optV env hi,optV env mx with
  | some v,some a,some b,some c=>match gI a,gI b,gI c with
   | some a,some b,some c=>aY (sliceV C.P h t v a b c) h
   | _,_,_=>none
  | _,_,_,_=>none)
  (fun t x i C _ env h=>match evO env x with
  | some v=>aY (fieldAddrV C.P t v i) h
  | none=>none)
  (fun t x i C _ env h=>match evO env x with
  | some v=>aY (pQ C.P t v i) h
  | none=>none)
  (fun t x i C _ env h=>match evO env x,evO env i with
  | some v,some j=>aY (indexAddrV C.P t v j) h
  | _,_=>none)
  (fun t x i C _ env h=>match evO env x,evO env i with
  | some v,some j=>aY (indexV C.P t v j) h
  | _,_=>none)
  (fun t x k ok C _ env h=>match evO env x,evO env k with
  | some m,some j=>aY (eV C.P h t m j ok) h
  | _,_=>none)
  (fun t m k v C _ env h=>match evO env m,evO env k,evO env v with
  | some a,some b,some c=>nh (mapUpdateV C.P h t a b c)
  | _,_,_=>none)
  (fun t m k C _ env h=>match evO env m,evO env k with
  | some a,some b=>mapEntryV C.P h t a b
  | _,_=>none)
  (fun _ m s v _ _ env h=>match evO env m,evO env s,evO env v with
  | some a,some b,some c=>nh (entryStoreV h a b c)
  | _,_,_=>none)
  (fun t x C _ env h=>match evO env x with
  | some v=>rangeV C.P h t v
  | none=>none)
  (fun it str _ _ env h=>match evO env it with
  | some v=>cond str (nextS h v) (nextV h v)
  | none=>none)
  (fun it _ _ env h=>match evO env it with
  | some v=>aY (tL h v) h
  | none=>none)
  (fun x _ a ok C _ env h=>match evO env x with
  | some v=>aY (assertV C.P v a ok) h
  | none=>none)
  (fun t i _ _ env h=>match evO env t with
  | some (.bj l)=>aY (nth l i) h
  | _=>none)
  (fun c C self env h=>evCall C self env h c)
  (fun _ _ _ _ _=>none)
  (fun _ _ _ _ _=>none)
  (fun _ _ _ _ _=>none)
  (fun _ _ _ _ _ _=>none)
  (fun _ _ _ _ _ _ _=>none)
  (fun _ _ _ _ _ _=>none) op
theorem Ul (C:cL)(self:Self)(env:Env)(h:H)(o:Oper): QN o.op C self env h=evOp C self env h o:=by
  unfold evOp
  cases o.op <;> first
    | rfl
    | (rename_i op t x y u
       have I:∀(a b:Option V),(match a,b with
         | some a,some b=>aY (QM C.P h op t x y a b) h
         | _,_=>none)=(match a,b with
         | some a,some b=>aY (binV C.P h op t x y a b) h
         | _,_=>none):=fun a b=>by
           cases a <;> cases b <;> first
             | rfl
             | (simp only [Uj])
       exact I (evO env x) (evO env y))
def wu (C:cL)(self:Self)(ops l:List Oper): St→Option St:=List.rec (motive:=fun _=>St→Option St) (fun s=>some s)
 (fun o _ I s=>Bool.rec (motive:=fun _=>Option St) (Option.rec (motive:=fun _=>Option St) none I (s.put o.dst bV s.h))
  (Option.rec (motive:=fun _=>Option St) none (fun r=>Option.rec (motive:=fun _=>Option St) none I (s.put o.dst r.1 r.2)) (QN o.op C self s.env s.h)) (wantedV ops s.env o)) l
theorem N6 (C:cL)(self:Self)(ops:List Oper): ∀(l:List Oper) (s:St),wu C self ops l s=evOps C self ops l s:=by
 intro l
 induction l with
 | nil=>intro s; rfl
 | cons o l I =>
  intro s
  show (Bool.rec (motive:=fun _=>Option St) (Option.rec (motive:=fun _=>Option St) none (wu C self ops l) (s.put o.dst bV s.h))
   (Option.rec (motive:=fun _=>Option St) none (fun r=>Option.rec (motive:=fun _=>Option St) none (wu C self ops l) (s.put o.dst r.1 r.2)) (QN o.op C self s.env s.h)) (wantedV ops s.env o):Option St)=_
  rw [Ul,show wu C self ops l=evOps C self ops l from funext I]
  simp only [evOps]
  cases wantedV ops s.env o with
  | true =>
   cases evOp C self s.env s.h o with
   | none=>rfl
   | some r =>
    obtain ⟨v,h⟩:=r
    show (Option.rec (motive:=fun _=>Option St) none (evOps C self ops l) (s.put o.dst v h):Option St)=_
    simp only [ag]
    cases s.put o.dst v h <;> rfl
  | false =>
   simp only [az]
   cases s.put o.dst bV s.h <;> rfl
def Ew (c:Code): cL→Self→St→Option (Ex×St):=Code.rec (motive:=fun _=>cL→Self→St→Option (Ex×St))
 (fun _ _ s=>some (.normal,s))
 (fun _ ops draw C self s=>Option.rec (motive:=fun _=>Option (Ex×St)) none (fun s=>some (.normal,s)) (Bool.rec (motive:=fun _=>Option St) (wu C self ops.toList ops.toList s) (lS C self ops.toList s) draw))
 (fun a b _ _ _ self s=>Option.rec (motive:=fun _=>Option (Ex×St)) none (fun r=>Ex.rec (motive:=fun _=>Option (Ex×St)) (self b r.2) (fun i=>some (.exit i,r.2)) (some (.ret,r.2)) r.1) (self a s))
 (fun x a b _ _ _ self s=>match evO s.env x with
  | some (.bool t)=>self (cond t a b) s
  | _=>none)
 (fun id c _ _ self s=>match self c s with
  | some (.exit i,s')=>cond (Nat.beq i id) (some (.normal,s')) (some (.exit i,s'))
  | r=>r)
 (fun b _ _ self s=>Option.rec (motive:=fun _=>Option (Ex×St)) none (fun r=>Ex.rec (motive:=fun _=>Option (Ex×St)) (self (.loop b) r.2) (fun i=>some (.exit i,r.2)) (some (.ret,r.2)) r.1) (self b s))
 (fun _ _ _ _ _ _ _ _ _=>none)
 (fun id _ _ s=>some (.exit id,s))
 (fun b _ _ self s=>self b s)
 (fun _ _ _ s=>some (.normal,s))
 (fun _ _ _ _=>none)
 (fun _ _ s=>some (.ret,s))
 (fun _ _ _ _=>none) c
theorem L1 (C:cL)(self:Self)(c:Code)(s:St): Ew c C self s=evStep C self c s:=by
 cases c with
 | region id ops draw =>
  show (Option.rec (motive:=fun _=>Option (Ex×St)) none (fun s=>some (.normal,s)) (Bool.rec (motive:=fun _=>Option St) (wu C self ops.toList ops.toList s) (lS C self ops.toList s) draw):Option (Ex×St))=_
  rw [N6]
  cases draw with
  | true=>simp only [evStep,ag]; cases lS C self ops.toList s <;> rfl
  | false=>simp only [evStep,az]; cases evOps C self ops.toList ops.toList s <;> rfl
 | seq a b =>
  show (Option.rec (motive:=fun _=>Option (Ex×St)) none (fun r=>Ex.rec (motive:=fun _=>Option (Ex×St)) (self b r.2) (fun i=>some (.exit i,r.2)) (some (.ret,r.2)) r.1) (self a s):Option (Ex×St))=_
  simp only [evStep]
  cases self a s with
  | none=>rfl
  | some r=>obtain ⟨ex,s'⟩:=r; cases ex <;> rfl
 | loop b =>
  show (Option.rec (motive:=fun _=>Option (Ex×St)) none (fun r=>Ex.rec (motive:=fun _=>Option (Ex×St)) (self (.loop b) r.2) (fun i=>some (.exit i,r.2)) (some (.ret,r.2)) r.1) (self b s):Option (Ex×St))=_
  simp only [evStep]
  cases self b s with
  | none=>rfl
  | some r=>obtain ⟨ex,s'⟩:=r; cases ex <;> rfl
 | _=>rfl
def CO (C:cL)(n:Nat): Code→St→Option (Ex×St) :=
 Nat.rec (motive:=fun _=>Code→St→Option (Ex×St)) (fun _ _=>none) (fun _ I c s=>Ew c C I s) n
theorem yP (C:cL): ∀n,CO C n=ev C n:=by
 intro n
 induction n with
 | zero=>rfl
 | succ n I =>
  funext c s
  show Ew c C (CO C n) s=evStep C (ev C n) c s
  rw [I,L1]
end
def crcStep : Nat→Nat→Nat
 | r,0=>r
 | r,k+1=>crcStep (cond (Nat.beq (r%2) 1) (Nat.xor (r/2) 3988292384) (r/2)) k
def crcL : Nat→List Nat→Nat
 | r,[]=>r
 | r,b::l=>crcL (crcStep (Nat.xor r b) 8) l
def bytesIn : List V→Option (List Nat)
 | []=>some []
 | .int .u8 n::l=>cond (decide (0≤n)&&decide (n<256)) (match bytesIn l with
  | some m=>some (n.toNat::m)
  | none=>none) none
 | _=>none
def ua (s:Int)(l:List Nat): V:=.int .u32 ((Nat.xor (crcL (Nat.xor s.toNat 4294967295) l) 4294967295:Nat):Int)
noncomputable def toldMore : List V→H→Option (V×H)
 | [.int .u32 s,.sl id off len _],h=>cond (decide (0≤s)&&decide (s<4294967296)&&Nat.ble len 4611686018427387904) (match rdN h id off len with
  | some cs=>match bytesIn cs with
   | some l=>some (ua s l,h)
   | none=>none
  | none=>none) none
 | [.int .u32 s,.bw],h=>cond (decide (0≤s)&&decide (s<4294967296)) (some (ua s [],h)) none
 | [.int .u32 s,.sle _],h=>cond (decide (0≤s)&&decide (s<4294967296)) (some (ua s [],h)) none
 | _,_=>none
theorem wrap_u32 {n:Nat}(h:n<4294967296): IntKind.wrap .u32 (n:Int)=(n:Int):=by
 simp only [IntKind.wrap,IntKind.bits,IntKind.signed,gZ,dY,bN]
 omega
theorem yQ {n:Nat}(h:n<4294967296): ((n:Int)%(2^(IntKind.u32).bits:Int)).toNat=n:=by
 simp only [IntKind.bits]
 omega
theorem oB {a b:Nat}(I:a<4294967296)(J:b<4294967296): Nat.xor a b<4294967296:=Nat.xor_lt_two_pow (n:=32) I J
theorem xp {a b:Nat}(I:a<4294967296)(J:b<4294967296): intV .xor .u32 (a:Int) (b:Int)=some (.int .u32 ((Nat.xor a b:Nat):Int)):=by
 simp only [intV,bitsV]
 rw [yQ I,yQ J,wrap_u32 (oB I J)]
theorem N7 {a:Nat}(I:a<4294967296): intV .and .u32 (a:Int) 1=some (.int .u32 ((a%2:Nat):Int)):=by
 have J:((1:Int)%(2^(IntKind.u32).bits:Int)).toNat=1:=by simp [IntKind.bits]
 simp only [intV,bitsV]
 rw [yQ I,J]
 have:Nat.land a 1=a%2:=D5 a
 rw [this,wrap_u32 (by omega)]
theorem CP {a:Nat}: shiftV .shr .u32 (a:Int) 1=some (.int .u32 ((a/2:Nat):Int)):=by
 simp only [shiftV,IntKind.bits]
 have:(Int.toNat 1)=1:=rfl
 simp [this,As]
theorem Um {c:Ctx}{σ:H}{w:World}{id off k:Nat}{vs:List V}(h:Rel c σ w)(I:rdN σ id off k=some vs): vs.length=k∧∀j,j<k→yf σ id (off+j)=vs[j]?:=by
 unfold rdN at I
 split at I
 ·rename_i n cs st hg
  have hn:n=cs.length:=(h.obj id _ hg).1
  cases hq:Nat.ble (off+k) n with
  | false=>rw [hq] at I; cases I
  | true =>
   rw [hq,ag] at I
   have hle:=aJ.1 hq
   simp only [aq] at I
   cases J:(Nat.beq off 0&&Nat.beq k n) with
   | true =>
    rw [J,ag] at I
    simp only [aO,beq_iff] at J
    subst I
    refine ⟨by omega,fun j _ => ?_⟩
    unfold yf
    rw [hg]
    simp only [fF,J.1,dH]
   | false =>
    rw [J,az] at I
    subst I
    refine ⟨by simp; omega,fun j hj => ?_⟩
    unfold yf
    rw [hg]
    simp only [fF]
    rw [jM,aj hj,iU]
 ·cases I
def unblk : Code→Code
 | .block _ c=>c
 | c=>c
def unloop : Code→Code
 | .loop c=>c
 | c=>c
noncomputable def ju : Code:=(Tryz.f178.body).getD .skip
noncomputable def jC : Code:=unloop (unblk (cN (leftC (cN (cN ju)))))
noncomputable def nj : Code:=unblk (leftC (cN (cN jC)))
noncomputable def oC : Code:=unloop (unblk (cN (cN (cN nj))))
theorem gz (C:cL)(n:Nat)(c:Code)(s:St): ev C (n+1) c s=evStep C (ev C n) c s:=rfl
theorem wrap_i64 {n:Nat}(h:n<9223372036854775808): IntKind.wrap .i64 (n:Int)=(n:Int):=by
 have I:((n:Int)%(2^(IntKind.i64).bits:Int))=(n:Int):=by simp only [IntKind.bits]; omega
 have J:¬ ((n:Int)≥(2^((IntKind.i64).bits-1):Int)):=by simp only [IntKind.bits]; omega
 simp only [IntKind.wrap,I,J,o6,AA,dY,bN]
theorem yR {n:Nat}(h:n<9223372036854775807): intV .add .i64 (n:Int) 1=some (.int .i64 ((n+1:Nat):Int)):=by
 have:((n:Int)+1)=((n+1:Nat):Int):=by omega
 simp only [intV,this,wrap_i64 (show n+1<9223372036854775808 by omega)]
section
variable {C:cL} {self:Self}
theorem bY {L rest:List Oper}{o:Oper}{d:Nat}{env:Env}{n:Nat}{h:H}(J:o.guard=none)(hd:o.dst=some d)(I:Nat.blt d n=true):
  evOps C self L (o::rest) ⟨env,n,h⟩=(evOp C self env h o).bind fun r=>evOps C self L rest ⟨env.set d (some r.1),n,r.2⟩:=by
 simp only [evOps,wantedV,J,ag]
 cases evOp C self env h o with
 | none=>rfl
 | some r=>simp only [St.put,hd,I,ag,cI]
end
noncomputable def Wc : Code:=leftC oC
noncomputable def u7 : Code:=cN (cN oC)
noncomputable def Wd : Code:=leftC (unblk (leftC u7))
noncomputable def We : Code:=cN (unblk (leftC u7))
noncomputable def QO : Code:=cN u7
section
variable {C:cL} (n:Nat) (env:Env) (h:H)
theorem N8 {j:Nat}(I:T.get env 20=some (.int .i64 j)): ev C (n+1) Wc ⟨env,34,h⟩=some (.normal,⟨env.set 21 (some (.bool (decide ((j:Int)<8)))),34,h⟩):=by
 simp only [Wc,oC,nj,jC,ju,Tryz.f178,fh,leftC,cN,unblk,unloop,gz,evStep,az]
 rw [bY rfl rfl rfl]
 simp only [evOp,evO,Env.v,I,ofValue,ofScalar,binV,ikBeq,ag,intV,aY,cI,evOps]
theorem Wf {x:Nat}(J:x<4294967296)(h5:T.get env 5=some (.int .u32 x)):
  ∃I,ev C (n+1) Wd ⟨env,34,h⟩=some (.normal,⟨I,34,h⟩)∧T.get I 24=some (.bool (Nat.beq (x%2) 1))∧∀t,t≠22→t≠23→t≠24→T.get I t=T.get env t:=by
 refine ⟨((env.set 22 (some (.int .u32 x))).set 23 (some (.int .u32 ((x%2:Nat):Int)))).set 24 (some (.bool (Nat.beq (x%2) 1))),?_,by simp [aX],fun t h1 h2 h3=>by simp [aX,h1,h2,h3]⟩
 simp only [Wd,u7,oC,nj,jC,ju,Tryz.f178,fh,leftC,cN,unblk,unloop,gz,evStep,az]
 rw [bY rfl rfl rfl]
 simp only [evOp,evO,Env.v,h5,aY,cI]
 rw [bY rfl rfl rfl]
 simp only [evOp,evO,Env.v,aX,bO,ofValue,ofScalar,binV,ikBeq,ag,N7 J,aY,cI]
 rw [bY rfl rfl rfl]
 simp only [evOp,evO,Env.v,aX,bO,ofValue,ofScalar,binV,ikBeq,ag,intV,aY,cI,evOps]
 rfl
theorem N9 {x:Nat}(I:x<4294967296): Nat.xor (x/2) 3988292384<4294967296:=oB (by omega) (by omega)
theorem Wg {x:Nat}{b:Bool}(hx:x<4294967296)(h5:T.get env 5=some (.int .u32 x))(I:T.get env 24=some (.bool b)):
  ∃J,ev C (n+2) We ⟨env,34,h⟩=some (.normal,⟨J,34,h⟩)∧T.get J 5=some (.int .u32 ((cond b (Nat.xor (x/2) 3988292384) (x/2):Nat):Int))∧∀t,t<25→t≠5→T.get J t=T.get env t:=by
 simp only [We,u7,oC,nj,jC,ju,Tryz.f178,fh,leftC,cN,unblk,unloop,gz,evStep,evO,Env.v,I]
 cases b with
 | true =>
  refine ⟨(((env.set 25 (some (.int .u32 x))).set 26 (some (.int .u32 ((x/2:Nat):Int)))).set 27 (some (.int .u32 ((Nat.xor (x/2) 3988292384:Nat):Int)))).set 5 (some (.int .u32 ((Nat.xor (x/2) 3988292384:Nat):Int))),?_,by simp [aX],fun t h1 h2 => ?_⟩
  ·simp only [ag,az]
   rw [bY rfl rfl rfl]
   simp only [evOp,evO,Env.v,h5,aY,cI]
   rw [bY rfl rfl rfl]
   simp only [evOp,evO,Env.v,aX,bO,ofValue,ofScalar,binV,CP,aY,cI]
   rw [bY rfl rfl rfl]
   have:=xp (a:=x/2) (b:=3988292384) (by omega) (by omega)
   rw [show ((3988292384:Nat):Int)=3988292384 from rfl] at this
   simp only [evOp,evO,Env.v,aX,bO,ofValue,ofScalar,binV,ikBeq,ag,this,aY,cI]
   rw [bY rfl rfl rfl]
   simp only [evOp,evO,Env.v,aX,bO,aY,cI,evOps]
  ·have a1:t≠25:=by omega
   have a2:t≠26:=by omega
   have a3:t≠27:=by omega
   simp [aX,h2,a1,a2,a3]
 | false =>
  refine ⟨((env.set 28 (some (.int .u32 x))).set 29 (some (.int .u32 ((x/2:Nat):Int)))).set 5 (some (.int .u32 ((x/2:Nat):Int))),?_,by simp [aX],fun t h1 h2 => ?_⟩
  ·simp only [az]
   rw [bY rfl rfl rfl]
   simp only [evOp,evO,Env.v,h5,aY,cI]
   rw [bY rfl rfl rfl]
   simp only [evOp,evO,Env.v,aX,bO,ofValue,ofScalar,binV,CP,aY,cI]
   rw [bY rfl rfl rfl]
   simp only [evOp,evO,Env.v,aX,bO,aY,cI,evOps]
  ·have a1:t≠28:=by omega
   have a2:t≠29:=by omega
   simp [aX,h2,a1,a2]
theorem Uo {j:Nat}(hj:j<8)(I:T.get env 20=some (.int .i64 j)):
  ∃J,ev C (n+1) QO ⟨env,34,h⟩=some (.normal,⟨J,34,h⟩)∧T.get J 20=some (.int .i64 ((j+1:Nat):Int))∧∀t,t≠20→t≠30→T.get J t=T.get env t:=by
 refine ⟨(env.set 30 (some (.int .i64 ((j+1:Nat):Int)))).set 20 (some (.int .i64 ((j+1:Nat):Int))),?_,by simp [aX],fun t h1 h2=>by simp [aX,h1,h2]⟩
 simp only [QO,u7,oC,nj,jC,ju,Tryz.f178,fh,leftC,cN,unblk,unloop,gz,evStep,az]
 rw [bY rfl rfl rfl]
 simp only [evOp,evO,Env.v,I,ofValue,ofScalar,binV,ikBeq,ag,yR (show j<9223372036854775807 by omega),aY,cI]
 rw [bY rfl rfl rfl]
 simp only [evOp,evO,Env.v,aX,bO,aY,cI,evOps]
section
variable {n:Nat} {s s':St}
theorem jD {a b:Code}(I:ev C n a s=some (.normal,s')): ev C (n+1) (.seq a b) s=ev C n b s':=by rw [gz]; simp only [evStep,I]
theorem vx {a b:Code}{i:Nat}(I:ev C n a s=some (.exit i,s')): ev C (n+1) (.seq a b) s=some (.exit i,s'):=by rw [gz]; simp only [evStep,I]
theorem wz {x:Operand}{a b:Code}{t:Bool}(I:evO s.env x=some (.bool t)): ev C (n+1) (.cond x a b) s=ev C n (cond t a b) s:=by rw [gz]; simp only [evStep,I]
theorem Ho {i:Nat}{c:Code}(h:ev C n c s=some (.normal,s')): ev C (n+1) (.block i c) s=some (.normal,s'):=by rw [gz]; simp only [evStep,h]
theorem yp {i:Nat}{c:Code}(h:ev C n c s=some (.exit i,s')): ev C (n+1) (.block i c) s=some (.normal,s'):=by rw [gz]; simp only [evStep,h,dR,ag]
theorem KB {b:Code}(h:ev C n b s=some (.normal,s')): ev C (n+1) (.loop b) s=ev C n (.loop b) s':=by rw [gz]; simp only [evStep,h]
theorem uc {b:Code}{i:Nat}(h:ev C n b s=some (.exit i,s')): ev C (n+1) (.loop b) s=some (.exit i,s'):=by rw [gz]; simp only [evStep,h]
end
theorem Fo : oC=.seq Wc (.seq (.cond (.tmp 21) .skip (.exit 2)) u7):=rfl
theorem QS : u7=.seq (.block 3 (.seq Wd We)) QO:=rfl
theorem L2 {x j:Nat}(hx:x<4294967296)(hj:j<8)(h5:T.get env 5=some (.int .u32 x))(ZG:T.get env 20=some (.int .i64 j)):
  ∃e',ev C (n+9) oC ⟨env,34,h⟩=some (.normal,⟨e',34,h⟩)∧T.get e' 5=some (.int .u32 ((crcStep x 1:Nat):Int))∧T.get e' 20=some (.int .i64 ((j+1:Nat):Int)) ∧
   ∀t,t<20→t≠5→T.get e' t=T.get env t:=by
 have bF:decide ((j:Int)<8)=true:=by simp; omega
 have q7:=N8 (C:=C) (n+7) env h ZG
 rw [bF] at q7
 have g5:T.get (env.set 21 (some (.bool true))) 5=some (.int .u32 x):=by simp [aX,h5]
 obtain ⟨e8,q8,q8a,J⟩:=Wf (C:=C) (n+3) (env.set 21 (some (.bool true))) h hx g5
 have g5':T.get e8 5=some (.int .u32 x):=by rw [J 5 (by omega) (by omega) (by omega),g5]
 obtain ⟨e9,q9,q9a,ZH⟩:=Wg (C:=C) (n+2) e8 h hx g5' q8a
 have g20:T.get e9 20=some (.int .i64 j):=by
  rw [ZH 20 (by omega) (by omega),J 20 (by omega) (by omega) (by omega)]
  simp [aX,ZG]
 obtain ⟨e11,q11,aau,I⟩:=Uo (C:=C) (n+5) e9 h hj g20
 refine ⟨e11,?_,?_,aau,fun t h1 h2 => ?_⟩
 ·rw [Fo,jD q7,jD (s':=⟨env.set 21 (some (.bool true)),34,h⟩) (by rw [wz (t:=true) (by simp [evO,Env.v,aX])]; rfl),QS,
   jD (Ho (by rw [jD q8]; exact q9)),q11]
 ·rw [I 5 (by omega) (by omega),q9a]
  simp only [crcStep]
 ·rw [I t (by omega) (by omega),ZH t (by omega) h2,J t (by omega) (by omega) (by omega)]
  have:t≠21:=by omega
  simp [aX,this]
theorem L3 : ∀(k n:Nat) (env:Env) (x:Nat),k≤8→x<4294967296→T.get env 5=some (.int .u32 x)→T.get env 20=some (.int .i64 ((8-k:Nat):Int)) →
  ∃J,ev C (n+10+k) (.loop oC) ⟨env,34,h⟩=some (.exit 2,⟨J,34,h⟩)∧T.get J 5=some (.int .u32 ((crcStep x k:Nat):Int))∧∀t,t<20→t≠5→T.get J t=T.get env t:=by
 intro k
 induction k with
 | zero =>
  intro n env x _ hx h5 I
  have q7:=N8 (C:=C) (n+7) env h I
  refine ⟨env.set 21 (some (.bool false)),?_,by simp [aX,h5,crcStep],fun t h1 h2 => ?_⟩
  ·rw [gH]
   refine uc ?_
   rw [Fo,jD q7]
   exact vx (by rw [wz (t:=false) (by simp [evO,Env.v,aX])]; rfl)
  ·have:t≠21:=by omega
   simp [aX,this]
 | succ k ih =>
  intro n env x hk hx h5 I
  obtain ⟨e1,q1,q2,q3,q4⟩:=L2 (C:=C) (n+1+k) env h hx (show 8-(k+1)<8 by omega) h5 I
  have h8:8-(k+1)+1=8-k:=by omega
  rw [h8] at q3
  have yS:crcStep x 1<4294967296:=by
   simp only [crcStep]
   cases Nat.beq (x%2) 1 with
   | true=>exact N9 hx
   | false=>simp only [az]; omega
  obtain ⟨e2,p1,p2,p3⟩:=ih n e1 (crcStep x 1) (by omega) yS q2 q3
  refine ⟨e2,?_,?_,fun t h1 h2=>by rw [p3 t h1 h2,q4 t h1 h2]⟩
  ·rw [show n+10+(k+1)=(n+1+k+9)+1 from by omega,KB q1,show n+1+k+9=n+10+k from by omega]
   exact p1
  ·rw [p2]; simp only [crcStep]
end
noncomputable def Wh : Code:=leftC jC
noncomputable def GC : Code:=cN (cN jC)
noncomputable def QT : Code:=cN GC
noncomputable def Wi : Code:=leftC nj
noncomputable def Wj : Code:=leftC (cN nj)
noncomputable def Wk : Code:=leftC (cN (cN nj))
theorem QU : nj=.seq Wi (.seq Wj (.seq Wk (.block 2 (.loop oC)))):=rfl
theorem yT : jC=.seq Wh (.seq (.cond (.tmp 13) .skip (.exit 0)) GC):=rfl
theorem QV : GC=.seq (.block 1 nj) QT:=rfl
theorem dP : bH Tryz.prog 5=some 1:=by kernel_rfl
theorem KC : cm Tryz.prog 5=some false:=by kernel_rfl
section
variable {told:cQ} (n:Nat) (env:Env) (h:H)
theorem Hp {i len:Nat}(I:T.get env 12=some (.int .i64 i))(J:T.get env 11=some (.int .i64 len)):
  ev ⟨Tryz.prog,told⟩ (n+1) Wh ⟨env,34,h⟩=some (.normal,⟨env.set 13 (some (.bool (decide ((i:Int)<(len:Int))))),34,h⟩):=by
 simp only [Wh,jC,ju,Tryz.f178,fh,leftC,cN,unblk,unloop,gz,evStep,az]
 rw [bY rfl rfl rfl]
 simp only [evOp,evO,Env.v,J,I,binV,ikBeq,ag,intV,aY,cI,evOps]
theorem Wl {i id off len b:Nat}{cap:Cap}(hi:i<len)(I:T.get env 12=some (.int .i64 i))(J:T.get env 10=some (.sl id off len cap))(hb:yf h id (off+i)=some (.int .u8 b)):
  ∃e',ev ⟨Tryz.prog,told⟩ (n+1) Wi ⟨env,34,h⟩=some (.normal,⟨e',34,h⟩)∧T.get e' 7=some (.int .u8 b)∧∀t,t≠7→t≠14→t≠15→T.get e' t=T.get env t:=by
 refine ⟨((env.set 14 (some (.ptr id (off+i)))).set 15 (some (.int .u8 b))).set 7 (some (.int .u8 b)),?_,by simp [aX],fun t h1 h2 h3=>by simp [aX,h1,h2,h3]⟩
 simp only [Wi,nj,jC,ju,Tryz.f178,fh,leftC,cN,unblk,unloop,gz,evStep,az]
 rw [bY rfl rfl rfl]
 have d1:decide ((0:Int)≤(i:Int))=true:=by simp
 have d2:decide ((i:Int)<(len:Int))=true:=by simp; exact hi
 simp only [evOp,evO,Env.v,J,I,indexAddrV,aG,dP,d1,d2,iu,ag,b9,c9,aY,cI]
 rw [bY rfl rfl rfl]
 simp only [evOp,evO,Env.v,aX,bO,loadV,KC,hb,aY,cI]
 rw [bY rfl rfl rfl]
 simp only [evOp,evO,Env.v,aX,bO,aY,cI,evOps]
theorem Wm {x b:Nat}(hx:x<4294967296)(hb:b<256)(h5:T.get env 5=some (.int .u32 x))(h7:T.get env 7=some (.int .u8 b)):
  ∃I,ev ⟨Tryz.prog,told⟩ (n+1) Wj ⟨env,34,h⟩=some (.normal,⟨I,34,h⟩)∧T.get I 5=some (.int .u32 ((Nat.xor x b:Nat):Int))∧∀t,t<16→t≠5→T.get I t=T.get env t:=by
 refine ⟨((((env.set 16 (some (.int .u32 x))).set 17 (some (.int .u8 b))).set 18 (some (.int .u32 b))).set 19 (some (.int .u32 ((Nat.xor x b:Nat):Int)))).set 5 (some (.int .u32 ((Nat.xor x b:Nat):Int))),?_,by simp [aX],fun t h1 h2 => ?_⟩
 ·simp only [Wj,nj,jC,ju,Tryz.f178,fh,leftC,cN,unblk,unloop,gz,evStep,az]
  rw [bY rfl rfl rfl]
  simp only [evOp,evO,Env.v,h5,aY,cI]
  rw [bY rfl rfl rfl]
  have g7:T.get (env.set 16 (some (.int .u32 x))) 7=some (.int .u8 b):=by simp [aX,h7]
  simp only [evOp,evO,Env.v,g7,aY,cI]
  rw [bY rfl rfl rfl]
  simp only [evOp,evO,Env.v,aX,bO,convV,Tryz.underlying5,Tryz.underlying231,wrap_u32 (show b<4294967296 by omega),cI]
  rw [bY rfl rfl rfl]
  have J:T.get (((env.set 16 (some (.int .u32 x))).set 17 (some (.int .u8 b))).set 18 (some (.int .u32 b))) 16=some (.int .u32 x):=by simp [aX]
  have g18:T.get (((env.set 16 (some (.int .u32 x))).set 17 (some (.int .u8 b))).set 18 (some (.int .u32 b))) 18=some (.int .u32 b):=by simp [aX]
  simp only [evOp,evO,Env.v,J,g18,binV,ikBeq,ag,xp hx (show b<4294967296 by omega),aY,cI]
  rw [bY rfl rfl rfl]
  simp only [evOp,evO,Env.v,aX,bO,aY,cI,evOps]
 ·have a1:t≠16:=by omega
  have a2:t≠17:=by omega
  have a3:t≠18:=by omega
  have a4:t≠19:=by omega
  simp [aX,h2,a1,a2,a3,a4]
theorem Wn : ev ⟨Tryz.prog,told⟩ (n+1) Wk ⟨env,34,h⟩=some (.normal,⟨env.set 20 (some (.int .i64 0)),34,h⟩):=by
 simp only [Wk,nj,jC,ju,Tryz.f178,fh,leftC,cN,unblk,unloop,gz,evStep,az]
 rw [bY rfl rfl rfl]
 simp only [evOp,evO,ofValue,ofScalar,aY,cI,evOps]
theorem Up {i:Nat}(hi:i<9223372036854775807)(I:T.get env 12=some (.int .i64 i)):
  ∃J,ev ⟨Tryz.prog,told⟩ (n+1) QT ⟨env,34,h⟩=some (.normal,⟨J,34,h⟩)∧T.get J 12=some (.int .i64 ((i+1:Nat):Int))∧∀t,t≠12→t≠31→T.get J t=T.get env t:=by
 refine ⟨(env.set 31 (some (.int .i64 ((i+1:Nat):Int)))).set 12 (some (.int .i64 ((i+1:Nat):Int))),?_,by simp [aX],fun t h1 h2=>by simp [aX,h1,h2]⟩
 simp only [QT,GC,jC,ju,Tryz.f178,fh,leftC,cN,unblk,unloop,gz,evStep,az]
 rw [bY rfl rfl rfl]
 simp only [evOp,evO,Env.v,I,ofValue,ofScalar,binV,ikBeq,ag,yR hi,aY,cI]
 rw [bY rfl rfl rfl]
 simp only [evOp,evO,Env.v,aX,bO,aY,cI,evOps]
theorem CQ : ∀(k x:Nat),x<4294967296→crcStep x k<4294967296:=by
 intro k
 induction k with
 | zero=>intro x I; exact I
 | succ k J =>
  intro x I
  simp only [crcStep]
  refine J _ ?_
  cases Nat.beq (x%2) 1 with
  | true=>exact N9 I
  | false=>simp only [az]; omega
theorem QW {x i id off len b:Nat}{cap:Cap}(hx:x<4294967296)(hb:b<256)(hi:i<len)(h5:T.get env 5=some (.int .u32 x))(J:T.get env 12=some (.int .i64 i))(N_:T.get env 10=some (.sl id off len cap))
 (hr:yf h id (off+i)=some (.int .u8 b)):
  ∃e',ev ⟨Tryz.prog,told⟩ (n+22) nj ⟨env,34,h⟩=some (.normal,⟨e',34,h⟩)∧T.get e' 5=some (.int .u32 ((crcStep (Nat.xor x b) 8:Nat):Int))∧∀t,t=10∨t=11∨t=12→T.get e' t=T.get env t:=by
 obtain ⟨e4,q4,Wo,I⟩:=Wl (told:=told) (n+20) env h hi J N_ hr
 obtain ⟨e5,q5,q5a,q5b⟩:=Wm (told:=told) (n+19) e4 h hx hb (by rw [I 5 (by omega) (by omega) (by omega)]; exact h5) Wo
 have q6:=Wn (told:=told) (n+18) e5 h
 obtain ⟨e2,q2,Oa,Fp⟩:=L3 (C:=⟨Tryz.prog,told⟩) h 8 n (e5.set 20 (some (.int .i64 0))) (Nat.xor x b) (by omega) (oB hx (by omega)) (by simp [aX,q5a]) (by simp [aX])
 refine ⟨e2,?_,Oa,fun t ht => ?_⟩
 ·rw [QU,jD q4,jD q5,jD q6]
  exact yp q2
 ·rw [Fp t (by omega) (by omega)]
  have:t≠20:=by omega
  simp only [aX,this,bN]
  rw [q5b t (by omega) (by omega),I t (by omega) (by omega) (by omega)]
theorem L4 {id off len:Nat}{cap:Cap}(hlen:len<9223372036854775807): ∀(l:List Nat) (i n:Nat) (env:Env) (x:Nat),i+l.length=len→x<4294967296→(∀b∈l,b<256) →
  (∀j b:Nat,l[j]?=some b→yf h id (off+(i+j))=some (.int .u8 (b:Int)))→T.get env 5=some (.int .u32 x)→T.get env 12=some (.int .i64 i)→T.get env 10=some (.sl id off len cap)→T.get env 11=some (.int .i64 len) →
  ∃e',ev ⟨Tryz.prog,told⟩ (n+30+l.length) (.loop jC) ⟨env,34,h⟩=some (.exit 0,⟨e',34,h⟩)∧T.get e' 5=some (.int .u32 ((crcL x l:Nat):Int)):=by
 intro l
 induction l with
 | nil =>
  intro i n env x hi hx _ _ h5 I N_ J
  have q3:=Hp (told:=told) (n+27) env h I J
  have hd:decide ((i:Int)<(len:Int))=false:=by simp at hi ⊢; omega
  rw [hd] at q3
  refine ⟨env.set 13 (some (.bool false)),?_,by simp [aX,h5,crcL]⟩
  refine uc ?_
  rw [yT,jD q3]
  exact vx (by rw [wz (t:=false) (by simp [evO,Env.v,aX])]; rfl)
 | cons b l ih =>
  intro i n env x hi hx Hq jq h5 I N_ J
  simp only [aS] at hi
  have q3:=Hp (told:=told) (n+l.length+28) env h I J
  have hd:decide ((i:Int)<(len:Int))=true:=by simp; omega
  rw [hd] at q3
  have hb:b<256:=Hq b (by simp)
  have hr:=jq 0 b (by simp)
  rw [gH] at hr
  obtain ⟨e1,q1,S9,Ob⟩:=QW (told:=told) (cap:=cap) (n+l.length+4) (env.set 13 (some (.bool true))) h hx hb (show i<len by omega) (by simp [aX,h5]) (by simp [aX,I]) (by simp [aX,N_]) hr
  obtain ⟨e2,q2,Oa,Fp⟩:=Up (told:=told) (n+l.length+26) e1 h (show i<9223372036854775807 by omega) (by rw [Ob 12 (by omega)]; simp [aX,I])
  have jA:crcStep (Nat.xor x b) 8<4294967296:=CQ 8 _ (oB hx (by omega))
  obtain ⟨e3,q3',Wp⟩:=ih (i+1) n e2 (crcStep (Nat.xor x b) 8) (by omega) jA (fun c hc=>Hq c (by simp [hc])) (fun j c hj=>by
   have:=jq (j+1) c (by simpa using hj)
   rwa [show i+(j+1)=i+1+j from by omega] at this) (by rw [Fp 5 (by omega) (by omega)]; exact S9) Oa (by rw [Fp 10 (by omega) (by omega),Ob 10 (by omega)]; simp [aX,N_]) (by rw [Fp 11 (by omega) (by omega),Ob 11 (by omega)]; simp [aX,J])
  refine ⟨e3,?_,by rw [Wp]; simp only [crcL]⟩
  have Wq:ev ⟨Tryz.prog,told⟩ (n+l.length+30) jC ⟨env,34,h⟩=some (.normal,⟨e2,34,h⟩):=by
   rw [yT,jD q3,jD (s':=⟨env.set 13 (some (.bool true)),34,h⟩) (by rw [wz (t:=true) (by simp [evO,Env.v,aX])]; rfl),QV,
    jD (Ho q1),q2]
  rw [aS,show n+30+(l.length+1)=(n+l.length+30)+1 from by omega,KB Wq,show n+l.length+30=n+30+l.length from by omega]
  exact q3'
noncomputable def Ws : Code:=leftC ju
noncomputable def Wt : Code:=leftC (cN ju)
noncomputable def Wu : Code:=leftC (leftC (cN (cN ju)))
noncomputable def QX : Code:=cN (cN (cN ju))
theorem QY : ju=.seq Ws (.seq Wt (.seq (.seq Wu (.block 0 (.loop jC))) QX)):=rfl
theorem Wv : ev ⟨Tryz.prog,told⟩ (n+1) Ws ⟨env,34,h⟩=some (.normal,⟨env.set 4 (some (.int .u32 0)),34,h⟩):=by
 simp only [Ws,ju,Tryz.f178,fh,leftC,gz,evStep,az]
 rw [bY rfl rfl rfl]
 simp only [evOp,evO,ofValue,ofScalar,aY,cI,evOps]
theorem Ww {x:Nat}(J:x<4294967296)(h0:T.get env 0=some (.int .u32 x)):
  ∃I,ev ⟨Tryz.prog,told⟩ (n+1) Wt ⟨env,34,h⟩=some (.normal,⟨I,34,h⟩)∧T.get I 5=some (.int .u32 ((Nat.xor x 4294967295:Nat):Int))∧∀t,t≠5→t≠8→t≠9→T.get I t=T.get env t:=by
 refine ⟨((env.set 8 (some (.int .u32 x))).set 9 (some (.int .u32 ((Nat.xor x 4294967295:Nat):Int)))).set 5 (some (.int .u32 ((Nat.xor x 4294967295:Nat):Int))),?_,by simp [aX],fun t h1 h2 h3=>by simp [aX,h1,h2,h3]⟩
 simp only [Wt,ju,Tryz.f178,fh,leftC,cN,gz,evStep,az]
 rw [bY rfl rfl rfl]
 simp only [evOp,evO,Env.v,h0,aY,cI]
 rw [bY rfl rfl rfl]
 have:=xp (a:=x) (b:=4294967295) J (by omega)
 rw [show ((4294967295:Nat):Int)=4294967295 from rfl] at this
 simp only [evOp,evO,Env.v,aX,bO,ofValue,ofScalar,binV,ikBeq,ag,this,aY,cI]
 rw [bY rfl rfl rfl]
 simp only [evOp,evO,Env.v,aX,bO,aY,cI,evOps]
theorem Wx {x:V}{len:Nat}(J:T.get env 1=some x)(hl:lenV Tryz.prog h 28 x=some (.int .i64 len)):
  ∃I,ev ⟨Tryz.prog,told⟩ (n+1) Wu ⟨env,34,h⟩=some (.normal,⟨I,34,h⟩)∧T.get I 10=some x∧T.get I 11=some (.int .i64 len)∧T.get I 12=some (.int .i64 ((0:Nat):Int))∧T.get I 5=T.get env 5:=by
 refine ⟨((env.set 10 (some x)).set 11 (some (.int .i64 len))).set 12 (some (.int .i64 0)),?_,by simp [aX],by simp [aX],by simp [aX],by simp [aX]⟩
 simp only [Wu,ju,Tryz.f178,fh,leftC,cN,gz,evStep,az]
 rw [bY rfl rfl rfl]
 simp only [evOp,evO,Env.v,J,aY,cI]
 rw [bY rfl rfl rfl]
 simp only [evOp,evCall,evArgs,evO,Env.v,aX,bO,builtinV,hl,jN,cI]
 rw [bY rfl rfl rfl]
 simp only [evOp,evO,ofValue,ofScalar,aY,cI,evOps]
theorem Uq {x:Nat}(J:x<4294967296)(h5:T.get env 5=some (.int .u32 x)):
  ∃I,ev ⟨Tryz.prog,told⟩ (n+2) QX ⟨env,34,h⟩=some (.ret,⟨I,34,h⟩)∧T.get I 4=some (.int .u32 ((Nat.xor x 4294967295:Nat):Int)):=by
 refine ⟨((env.set 32 (some (.int .u32 x))).set 33 (some (.int .u32 ((Nat.xor x 4294967295:Nat):Int)))).set 4 (some (.int .u32 ((Nat.xor x 4294967295:Nat):Int))),?_,by simp [aX]⟩
 simp only [QX,ju,Tryz.f178,fh,cN,gz,evStep,az]
 rw [bY rfl rfl rfl]
 simp only [evOp,evO,Env.v,h5,aY,cI]
 rw [bY rfl rfl rfl]
 have:=xp (a:=x) (b:=4294967295) J (by omega)
 rw [show ((4294967295:Nat):Int)=4294967295 from rfl] at this
 simp only [evOp,evO,Env.v,aX,bO,ofValue,ofScalar,binV,ikBeq,ag,this,aY,cI]
 rw [bY rfl rfl rfl]
 simp only [evOp,evO,Env.v,aX,bO,aY,cI,evOps]
end
theorem L5 : ∀(cs:List V) (l:List Nat),bytesIn cs=some l→cs=l.map (fun (b:Nat)=>V.int .u8 (b:Int))∧∀b∈l,b<256:=by
 intro cs
 induction cs with
 | nil=>intro l h; simp [bytesIn] at h; subst h; simp
 | cons v cs ih =>
  intro l h
  unfold bytesIn at h
  split at h
  ·rename_i he; cases he
  ·rename_i n l' he
   simp only [vV] at he
   obtain ⟨rfl,rfl⟩:=he
   cases I:(decide (0≤n)&&decide (n<256)) with
   | false=>rw [I] at h; cases h
   | true =>
    rw [I,ag] at h
    simp only [aO,eL] at I
    cases hm:bytesIn cs with
    | none=>simp [hm] at h
    | some m =>
     simp [hm] at h
     subst h
     obtain ⟨i1,i2⟩:=ih m hm
     refine ⟨?_,fun b J => ?_⟩
     ·simp only [b6,←i1]
      congr 2
      omega
     ·rcases List.mem_cons.1 J with rfl | J
      ·omega
      ·exact i2 b J
  ·cases h
theorem Ey : ∀(l:List Nat) (x:Nat),x<4294967296→(∀b∈l,b<256)→crcL x l<4294967296:=by
 intro l
 induction l with
 | nil=>intro x I _; exact I
 | cons b l ih =>
  intro x I J
  have h1:=J b (by simp)
  exact ih _ (CQ 8 _ (oB I (by omega))) (fun c hc=>J c (by simp [hc]))
theorem BX {σ : H} {s : Int} {x : V} {l : List Nat} {len : Nat} (hs0 : 0 ≤ s) (ig : s < 4294967296) (hl : lenV Tryz.prog σ 28 x = some (.int .i64 len)) (hlen : len = l.length) (jW : len < 9223372036854775807)
  (hb : ∀ b ∈ l, b < 256) (hx : l = [] ∨ ∃ id off cap, x = .sl id off len cap ∧ ∀ j b : Nat, l[j]? = some b → yf σ id (off + (0 + j)) = some (.int .u8 (b : Int))) :
  run ⟨Tryz.prog, fun _ => none⟩ (l.length + 40) 178 [.int .u32 s, x] σ = some (ua s l, σ) := by
 obtain ⟨u, rfl⟩ : ∃ u : Nat, s = (u : Int) := ⟨s.toNat, by omega⟩
 have hu : u < 4294967296 := by omega
 have q0 := Wv (told := fun _ => none) (l.length + 38) (bindArgs [.int .u32 u, x] 0 .lf) σ
 obtain ⟨e1, q1, S9, Ob⟩ := Ww (told := fun _ => none) (l.length + 37) ((bindArgs [.int .u32 u, x] 0 .lf).set 4 (some (.int .u32 0))) σ hu (by simp [aX, bindArgs])
 obtain ⟨e2, q2, Oa, Fp, ZI, ZJ⟩ := Wx (told := fun _ => none) (l.length + 35) e1 σ (x := x) (by rw [Ob 1 (by omega) (by omega) (by omega)]; simp [aX, bindArgs]) hl
 have I : Nat.xor u 4294967295 < 4294967296 := oB hu (by omega)
 have J : ∃ e', ev ⟨Tryz.prog, fun _ => none⟩ (5 + 30 + l.length) (.loop jC) ⟨e2, 34, σ⟩ = some (.exit 0, ⟨e', 34, σ⟩) ∧ T.get e' 5 = some (.int .u32 ((crcL (Nat.xor u 4294967295) l : Nat) : Int)) := by
  rcases hx with rfl | ⟨id, off, cap, rfl, jq⟩
  ·have q3 := Hp (told := fun _ => none) 32 e2 σ ZI Fp
   have hd : decide ((((0 : Nat) : Int)) < (len : Int)) = false := by subst hlen; rfl
   rw [hd] at q3
   refine ⟨e2.set 13 (some (.bool false)), ?_, by simp [aX, ZJ, S9, crcL]⟩
   refine uc ?_
   rw [yT, jD q3]
   exact vx (by rw [wz (t := false) (by simp [evO, Env.v, aX])]; rfl)
  ·exact L4 σ jW l 0 5 e2 _ (by omega) I hb jq (by rw [ZJ]; exact S9) ZI Oa Fp
 obtain ⟨e3, q3, Wp⟩ := J
 obtain ⟨e4, q4, Wo⟩ := Uq (told := fun _ => none) (l.length + 35) e3 σ (Ey l _ I hb) Wp
 have Yu : ev ⟨Tryz.prog, fun _ => none⟩ (l.length + 40) ju ⟨bindArgs [.int .u32 u, x] 0 .lf, 34, σ⟩ = some (.ret, ⟨e4, 34, σ⟩) := by
  rw [QY, jD q0, jD q1, jD (s' := ⟨e3, 34, σ⟩) (by
   rw [jD q2]
   rw [show 5 + 30 + l.length = l.length + 35 from by omega] at q3
   exact yp q3), q4]
 unfold run callF
 simp only [CN]
 rw [show Tryz.f178.body = some ju from rfl]
 rw [show (Tryz.f178.name == "runtime.NumGoroutine" || Nat.blt Tryz.f178.ntmps [V.int .u32 (u : Int), x].length) = false from rfl]
 simp only [az]
 rw [show Tryz.f178.ntmps = 34 from rfl, Yu]
 simp only
 rw [show Tryz.f178.results = #[.tmp 4] from rfl]
 simp only [mapO, resV, Env.v, Wo, ua, b9]
section
variable {C:cL} {c:Ctx} {σ:H} {w:World}
theorem JA (hP:C.P=Tryz.prog)(hm:C.P.follows .mixedOrders=true){args:List V}{v:V}{eS:H}(I:toldMore args σ=some (v,eS))(h:Rel c σ w)(hw:∀x∈args,wf c x):
  gh C.P 178 args c w v eS:=by
 rw [hP] at hm ⊢
 have hT:fy ⟨Tryz.prog,fun _=>none⟩:=fun f g hg=>by cases hg
 unfold toldMore at I
 split at I
 ·rename_i s id off len cap
  cases ym:(decide (0≤s)&&decide (s<4294967296)&&Nat.ble len 4611686018427387904) with
  | false=>rw [ym] at I; cases I
  | true =>
   rw [ym,ag] at I
   simp only [aO,eL,aJ] at ym
   obtain ⟨J,jW⟩:=ym
   cases jq:rdN σ id off len with
   | none=>simp [jq] at I
   | some cs =>
    simp only [jq] at I
    cases hb:bytesIn cs with
    | none=>simp [hb] at I
    | some l =>
     simp only [hb,aq,aF] at I
     obtain ⟨rfl,rfl⟩:=I
     obtain ⟨b1,b2⟩:=L5 cs l hb
     obtain ⟨d1,d2⟩:=Um h jq
     have hl:len=l.length:=by rw [←d1,b1]; simp
     refine Hl (C:=⟨Tryz.prog,fun _=>none⟩) hm hT (BX J.1 J.2 (len:=len) (by simp [lenV,aG]) hl (by omega) b2 (.inr ⟨id,off,cap,rfl,fun j b hj => ?_⟩)) h hw
     ·rw [dH,d2 j (by rw [hl]; exact (List.getElem?_eq_some_iff.1 hj).1),b1]
      simp [hj]
 ·rename_i s
  cases J:(decide (0≤s)&&decide (s<4294967296)) with
  | false=>rw [J] at I; cases I
  | true =>
   rw [J,ag] at I
   simp only [aO,eL] at J
   simp only [aq,aF] at I
   obtain ⟨rfl,rfl⟩:=I
   exact Hl (C:=⟨Tryz.prog,fun _=>none⟩) hm hT (BX J.1 J.2 (len:=0) (l:=[]) (by simp [lenV,aG]) rfl (by omega) (by simp) (.inl rfl)) h hw
 ·rename_i s _
  cases J:(decide (0≤s)&&decide (s<4294967296)) with
  | false=>rw [J] at I; cases I
  | true =>
   rw [J,ag] at I
   simp only [aO,eL] at J
   simp only [aq,aF] at I
   obtain ⟨rfl,rfl⟩:=I
   exact Hl (C:=⟨Tryz.prog,fun _=>none⟩) hm hT (BX J.1 J.2 (len:=0) (l:=[]) (by simp [lenV,aG]) rfl (by omega) (by simp) (.inl rfl)) h hw
 ·cases I
end
end Go.Proofs.YtefepnnfphdkpaaGreat.Am
