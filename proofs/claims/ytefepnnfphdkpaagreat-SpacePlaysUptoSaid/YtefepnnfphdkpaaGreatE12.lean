/- SpacePlays: a part of its proof; conditions: its statement's. -/
import Derived.Test.YtefepnnfphdkpaaGreatE11
import Derived.Test.YtefepnnfphdkpaaGreatProg
import Derived.KernelRfl
set_option linter.defProp false
namespace Go.Proofs.YtefepnnfphdkpaaGreat.Am
open Go
def aV:=@Tryz.underlying28
def Bn:=@Tryz.func178
abbrev cZ:=Nat→Option (List V→H→Option (V×H))
noncomputable section
def P_ (v:V): Option (IntKind×Int):=V.rec (motive_1:=fun _=>Option (IntKind×Int)) (motive_2:=fun _=>PUnit)
 (fun _=>none) (fun k n=>some (k,n)) (fun _=>none) none (fun _ _=>none) none (fun _ _ _ _=>none) none (fun _=>none) (fun _ _ _ _ _=>none) none (fun _ _ _=>none) none (fun _ _=>none) (fun _ _=>none) (fun _=>none) (fun _ _=>none) (fun _=>none)
 PUnit.unit (fun _ _ _ _=>PUnit.unit) v
def Ik (k:IntKind): Nat:=IntKind.rec 0 1 2 3 4 5 6 7 k
def NU (op:BinOp): IntKind→Int→Int→Option V:=BinOp.rec (motive:=fun _=>IntKind→Int→Int→Option V)
 (fun k x y=>some (.int k (k.wrap (Int.add x y))))
 (fun k x y=>some (.int k (k.wrap (Int.sub x y))))
 (fun k x y=>intV .mul k x y) (fun k x y=>intV .quo k x y) (fun k x y=>intV .rem k x y)
 (fun k x y=>bitsV .and k x y) (fun k x y=>bitsV .or k x y) (fun k x y=>bitsV .xor k x y)
 (fun k x y=>intV .shl k x y) (fun k x y=>intV .shr k x y) (fun k x y=>bitsV .andNot k x y)
 (fun _ x y=>some (.bool (intBeq x y))) (fun _ x y=>some (.bool (!intBeq x y)))
 (fun _ x y=>some (.bool (decide (x<y)))) (fun _ x y=>some (.bool (decide (x≤y)))) (fun _ x y=>some (.bool (decide (x>y)))) (fun _ x y=>some (.bool (decide (x≥y)))) op
def CJ (op:BinOp): Bool:=BinOp.rec (motive:=fun _=>Bool) false false false false false false false false true true false false false false false false false op
def NV (P:Program)(h:H)(op:BinOp)(t:TypeId)(I J:Operand)(x y:V): Option V :=
 Option.rec (motive:=fun _=>Option V) (binV P h op t I J x y)
  (fun a=>Option.rec (motive:=fun _=>Option V) (binV P h op t I J x y)
   (fun b=>Bool.rec (motive:=fun _=>Option V) (Bool.rec (motive:=fun _=>Option V) none (NU op a.1 a.2 b.2) (Nat.beq (Ik a.1) (Ik b.1))) (shiftV op a.1 a.2 b.2) (CJ op)) (P_ y)) (P_ x)
theorem Tz (a b:IntKind): Nat.beq (Ik a) (Ik b)=ikBeq a b:=by cases a <;> cases b <;> rfl
theorem Rl (op:BinOp)(k:IntKind)(x y:Int): NU op k x y=intV op k x y:=by cases op <;> rfl
theorem Rm (P:Program)(h:H)(op:BinOp)(t:TypeId)(I J:Operand)(x y:V): NV P h op t I J x y=binV P h op t I J x y:=by
 cases x <;> try rfl
 cases y <;> try rfl
 rename_i k a j b
 show (Bool.rec (motive:=fun _=>Option V) (Bool.rec (motive:=fun _=>Option V) none (NU op k a b) (Nat.beq (Ik k) (Ik j))) (shiftV op k a b) (CJ op):Option V)=_
 rw [Tz,Rl]
 cases op <;> first
  | rfl
  | (cases hq:ikBeq k j <;> simp [binV,hq,CJ])
def NX (op:Op): cB→Self→Env→H→Option (V×H):=Op.rec (motive:=fun _=>cB→Self→Env→H→Option (V×H))
  (fun x _ _ env h=>aQ (evO env x) h)
  (fun x _ _ env h=>aQ (evO env x) h)
  (fun c a b _ _ env h=>match evO env c with
  | some (.bool t)=>aQ (evO env (cond t a b)) h
  | _=>none)
  (fun t C _ _ h=>match zeroT C.P t with
  | some z=>some (.ptr h.next 0,newRow h z.cells)
  | none=>none)
  (fun _ x _ _ env h=>match evO env x with
  | some v=>cond (v.cells.all storable) (some (.ptr h.next 0,newRow h v.cells)) none
  | none=>none)
  (fun t ps C _ env h=>match evParts env ps.toList with
  | some l=>aQ (buildV C.P t l) h
  | none=>none)
  (fun t n ps C _ env h=>match evParts env ps.toList with
  | some l=>buildSliceV C.P h t n l
  | none=>none)
  (fun t m k v C _ env h=>match evO env m,evO env k,evO env v with
  | some a,some b,some c=>nf (mapUpdateV C.P h t a b c)
  | _,_,_=>none)
  (fun t a C _ env h=>match evO env a with
  | some v=>aQ (loadV C.P h t v) h
  | none=>none)
  (fun t a x C _ env h=>match evO env a,evO env x with
  | some p,some v=>nf (fK C.P h t p v)
  | _,_=>none)
  (fun _ _ _ _ _=>none)
  (fun _ _ _ _ _=>none)
  (fun x _ _ env h=>match evO env x with
  | some (.ptr a b)=>some (.ptr a b,h)
  | _=>none)
  (fun op t x y _ C _ env h=>match evO env x,evO env y with
  | some a,some b=>aQ (NV C.P h op t x y a b) h
  | _,_=>none)
  (fun op _ x _ _ env h=>match evO env x with
  | some a=>aQ (unV op a) h
  | none=>none)
  (fun s d x C _ env h=>match evO env x with
  | some a=>match convV C.P h s d a with
   | some r=>some r
   | none=>convB C.P h s d a
  | none=>none)
  (fun d x C _ env h=>match evO env x with
  | some a=>aQ (arrPtrV C.P d a) h
  | none=>none)
  (fun t x C _ env h=>match evO env x with
  | some a=>aQ (makeIfaceV C.P t a) h
  | none=>none)
  (fun f a b _ _ env h=>match evArgs env a.toList,evArgs env b.toList with
  | some x,some y=>some (.fn f x y,h)
  | _,_=>none)
  (fun _ r _ _ _ h=>match r with
  | none=>some (.map h.next,h.new (.map [] 0))
  | some _=>none)
  (fun _ _ _ _ _ _=>none)
  (fun t l c C _ env h=>match evO env l,evO env c with
  | some a,some b=>makeSliceV C.P h t a b
  | _,_=>none)
  (fun t x lo hi mx C _ env h=>match evO env x,optV env lo,optV env hi,optV env mx with
  | some v,some a,some b,some c=>match iN a,iN b,iN c with
   | some a,some b,some c=>aQ (sliceV C.P h t v a b c) h
   | _,_,_=>none
  | _,_,_,_=>none)
  (fun t x i C _ env h=>match evO env x with
  | some v=>aQ (fieldAddrV C.P t v i) h
  | none=>none)
  (fun t x i C _ env h=>match evO env x with
  | some v=>aQ (oL C.P t v i) h
  | none=>none)
  (fun t x i C _ env h=>match evO env x,evO env i with
  | some v,some j=>aQ (indexAddrV C.P t v j) h
  | _,_=>none)
  (fun t x i C _ env h=>match evO env x,evO env i with
  | some v,some j=>aQ (indexV C.P t v j) h
  | _,_=>none)
  (fun t x k ok C _ env h=>match evO env x,evO env k with
  | some m,some j=>aQ (eB C.P h t m j ok) h
  | _,_=>none)
  (fun t m k v C _ env h=>match evO env m,evO env k,evO env v with
  | some a,some b,some c=>nf (mapUpdateV C.P h t a b c)
  | _,_,_=>none)
  (fun t m k C _ env h=>match evO env m,evO env k with
  | some a,some b=>mapEntryV C.P h t a b
  | _,_=>none)
  (fun _ m s v _ _ env h=>match evO env m,evO env s,evO env v with
  | some a,some b,some c=>nf (entryStoreV h a b c)
  | _,_,_=>none)
  (fun t x C _ env h=>match evO env x with
  | some v=>rangeV C.P h t v
  | none=>none)
  (fun it str _ _ env h=>match evO env it with
  | some v=>cond str (nextS h v) (nextV h v)
  | none=>none)
  (fun it _ _ env h=>match evO env it with
  | some v=>aQ (sy h v) h
  | none=>none)
  (fun x _ a ok C _ env h=>match evO env x with
  | some v=>aQ (assertV C.P v a ok) h
  | none=>none)
  (fun t i _ _ env h=>match evO env t with
  | some (.aY l)=>aQ (nth l i) h
  | _=>none)
  (fun c C self env h=>evCall C self env h c)
  (fun _ _ _ _ _=>none)
  (fun _ _ _ _ _=>none)
  (fun _ _ _ _ _=>none)
  (fun _ _ _ _ _ _=>none)
  (fun _ _ _ _ _ _ _=>none)
  (fun _ _ _ _ _ _=>none) op
theorem Ro (C:cB)(self:Self)(env:Env)(h:H)(o:Oper): NX o.op C self env h=evOp C self env h o:=by
  unfold evOp
  cases o.op <;> first
    | rfl
    | (rename_i op t x y u
       have I:∀(a b:Option V),(match a,b with
         | some a,some b=>aQ (NV C.P h op t x y a b) h
         | _,_=>none)=(match a,b with
         | some a,some b=>aQ (binV C.P h op t x y a b) h
         | _,_=>none):=fun a b=>by
           cases a <;> cases b <;> first
             | rfl
             | (simp only [Rm])
       exact I (evO env x) (evO env y))
def vh (C:cB)(self:Self)(ops l:List Oper): St→Option St:=List.rec (motive:=fun _=>St→Option St) (fun s=>some s)
 (fun o _ I s=>Bool.rec (motive:=fun _=>Option St) (Option.rec (motive:=fun _=>Option St) none I (s.put o.dst bK s.h))
  (Option.rec (motive:=fun _=>Option St) none (fun r=>Option.rec (motive:=fun _=>Option St) none I (s.put o.dst r.1 r.2)) (NX o.op C self s.env s.h)) (wantedV ops s.env o)) l
theorem Lp (C:cB)(self:Self)(ops:List Oper): ∀(l:List Oper) (s:St),vh C self ops l s=evOps C self ops l s:=by
 intro l
 induction l with
 | nil=>intro s; rfl
 | cons o l I =>
  intro s
  show (Bool.rec (motive:=fun _=>Option St) (Option.rec (motive:=fun _=>Option St) none (vh C self ops l) (s.put o.dst bK s.h))
   (Option.rec (motive:=fun _=>Option St) none (fun r=>Option.rec (motive:=fun _=>Option St) none (vh C self ops l) (s.put o.dst r.1 r.2)) (NX o.op C self s.env s.h)) (wantedV ops s.env o):Option St)=_
  rw [Ro,show vh C self ops l=evOps C self ops l from funext I]
  simp only [evOps]
  cases wantedV ops s.env o with
  | true =>
   cases evOp C self s.env s.h o with
   | none=>rfl
   | some r =>
    obtain ⟨v,h⟩:=r
    show (Option.rec (motive:=fun _=>Option St) none (evOps C self ops l) (s.put o.dst v h):Option St)=_
    simp only [ag]
    cases s.put o.dst v h <;> rfl
  | false =>
   simp only [ay]
   cases s.put o.dst bK s.h <;> rfl
def CK (c:Code): cB→Self→St→Option (Ex×St):=Code.rec (motive:=fun _=>cB→Self→St→Option (Ex×St))
 (fun _ _ s=>some (.normal,s))
 (fun _ ops draw C self s=>Option.rec (motive:=fun _=>Option (Ex×St)) none (fun s=>some (.normal,s)) (Bool.rec (motive:=fun _=>Option St) (vh C self ops.toList ops.toList s) (lp C self ops.toList s) draw))
 (fun a b _ _ _ self s=>Option.rec (motive:=fun _=>Option (Ex×St)) none (fun r=>Ex.rec (motive:=fun _=>Option (Ex×St)) (self b r.2) (fun i=>some (.exit i,r.2)) (some (.ret,r.2)) r.1) (self a s))
 (fun x a b _ _ _ self s=>match evO s.env x with
  | some (.bool t)=>self (cond t a b) s
  | _=>none)
 (fun id c _ _ self s=>match self c s with
  | some (.exit i,s')=>cond (Nat.beq i id) (some (.normal,s')) (some (.exit i,s'))
  | r=>r)
 (fun b _ _ self s=>Option.rec (motive:=fun _=>Option (Ex×St)) none (fun r=>Ex.rec (motive:=fun _=>Option (Ex×St)) (self (.loop b) r.2) (fun i=>some (.exit i,r.2)) (some (.ret,r.2)) r.1) (self b s))
 (fun _ _ _ _ _ _ _ _ _=>none)
 (fun id _ _ s=>some (.exit id,s))
 (fun b _ _ self s=>self b s)
 (fun _ _ _ s=>some (.normal,s))
 (fun _ _ _ _=>none)
 (fun _ _ s=>some (.ret,s))
 (fun _ _ _ _=>none) c
theorem Jx (C:cB)(self:Self)(c:Code)(s:St): CK c C self s=evStep C self c s:=by
 cases c with
 | region id ops draw =>
  show (Option.rec (motive:=fun _=>Option (Ex×St)) none (fun s=>some (.normal,s)) (Bool.rec (motive:=fun _=>Option St) (vh C self ops.toList ops.toList s) (lp C self ops.toList s) draw):Option (Ex×St))=_
  rw [Lp]
  cases draw with
  | true=>simp only [evStep,ag]; cases lp C self ops.toList s <;> rfl
  | false=>simp only [evStep,ay]; cases evOps C self ops.toList ops.toList s <;> rfl
 | seq a b =>
  show (Option.rec (motive:=fun _=>Option (Ex×St)) none (fun r=>Ex.rec (motive:=fun _=>Option (Ex×St)) (self b r.2) (fun i=>some (.exit i,r.2)) (some (.ret,r.2)) r.1) (self a s):Option (Ex×St))=_
  simp only [evStep]
  cases self a s with
  | none=>rfl
  | some r=>obtain ⟨ex,s'⟩:=r; cases ex <;> rfl
 | loop b =>
  show (Option.rec (motive:=fun _=>Option (Ex×St)) none (fun r=>Ex.rec (motive:=fun _=>Option (Ex×St)) (self (.loop b) r.2) (fun i=>some (.exit i,r.2)) (some (.ret,r.2)) r.1) (self b s):Option (Ex×St))=_
  simp only [evStep]
  cases self b s with
  | none=>rfl
  | some r=>obtain ⟨ex,s'⟩:=r; cases ex <;> rfl
 | _=>rfl
def Bo (C:cB)(n:Nat): Code→St→Option (Ex×St) :=
 Nat.rec (motive:=fun _=>Code→St→Option (Ex×St)) (fun _ _=>none) (fun _ I c s=>CK c C I s) n
theorem xw (C:cB): ∀n,Bo C n=ev C n:=by
 intro n
 induction n with
 | zero=>rfl
 | succ n I =>
  funext c s
  show CK c C (Bo C n) s=evStep C (ev C n) c s
  rw [I,Jx]
end
def crcStep : Nat→Nat→Nat
 | r,0=>r
 | r,k+1=>crcStep (cond (Nat.beq (r%2) 1) (Nat.xor (r/2) 3988292384) (r/2)) k
def crcL : Nat→List Nat→Nat
 | r,[]=>r
 | r,b::l=>crcL (crcStep (Nat.xor r b) 8) l
def bytesIn : List V→Option (List Nat)
 | []=>some []
 | .int .u8 n::l=>cond (decide (0≤n)&&decide (n<256)) (match bytesIn l with
  | some m=>some (n.toNat::m)
  | none=>none) none
 | _=>none
def sO (s:Int)(l:List Nat): V:=.int .u32 ((Nat.xor (crcL (Nat.xor s.toNat 4294967295) l) 4294967295:Nat):Int)
noncomputable def toldMore : List V→H→Option (V×H)
 | [.int .u32 s,.sl id off len _],h=>cond (decide (0≤s)&&decide (s<4294967296)&&Nat.ble len 4611686018427387904) (match rdN h id off len with
  | some cs=>match bytesIn cs with
   | some l=>some (sO s l,h)
   | none=>none
  | none=>none) none
 | [.int .u32 s,.bu],h=>cond (decide (0≤s)&&decide (s<4294967296)) (some (sO s [],h)) none
 | [.int .u32 s,.sle _],h=>cond (decide (0≤s)&&decide (s<4294967296)) (some (sO s [],h)) none
 | _,_=>none
theorem wrap_u32 {n:Nat}(h:n<4294967296): IntKind.wrap .u32 (n:Int)=(n:Int):=by
 simp only [IntKind.wrap,IntKind.bits,IntKind.signed,gT,dW,bG]
 omega
theorem xx {n:Nat}(h:n<4294967296): ((n:Int)%(2^(IntKind.u32).bits:Int)).toNat=n:=by
 simp only [IntKind.bits]
 omega
theorem nG {a b:Nat}(I:a<4294967296)(J:b<4294967296): Nat.xor a b<4294967296:=Nat.xor_lt_two_pow (n:=32) I J
theorem vU {a b:Nat}(I:a<4294967296)(J:b<4294967296): intV .xor .u32 (a:Int) (b:Int)=some (.int .u32 ((Nat.xor a b:Nat):Int)):=by
 simp only [intV,bitsV]
 rw [xx I,xx J,wrap_u32 (nG I J)]
theorem Lq {a:Nat}(I:a<4294967296): intV .and .u32 (a:Int) 1=some (.int .u32 ((a%2:Nat):Int)):=by
 have J:((1:Int)%(2^(IntKind.u32).bits:Int)).toNat=1:=by simp [IntKind.bits]
 simp only [intV,bitsV]
 rw [xx I,J]
 have:Nat.land a 1=a%2:=Nat.and_one_is_mod a
 rw [this,wrap_u32 (by omega)]
theorem Bp {a:Nat}: shiftV .shr .u32 (a:Int) 1=some (.int .u32 ((a/2:Nat):Int)):=by
 simp only [shiftV,IntKind.bits]
 have:(Int.toNat 1)=1:=rfl
 simp [this,yD]
theorem Rp {c:Ctx}{σ:H}{w:World}{id off k:Nat}{vs:List V}(h:Rel c σ w)(I:rdN σ id off k=some vs): vs.length=k∧∀j,j<k→wG σ id (off+j)=vs[j]?:=by
 unfold rdN at I
 split at I
 ·rename_i n cs st hg
  have hn:n=cs.length:=(h.obj id _ hg).1
  cases hq:Nat.ble (off+k) n with
  | false=>rw [hq] at I; cases I
  | true =>
   rw [hq,ag] at I
   have hle:=aF.1 hq
   simp only [ak] at I
   cases J:(Nat.beq off 0&&Nat.beq k n) with
   | true =>
    rw [J,ag] at I
    simp only [aJ,beq_iff] at J
    subst I
    refine ⟨by omega,fun j _ => ?_⟩
    unfold wG
    rw [hg]
    simp only [fG,J.1,dY]
   | false =>
    rw [J,ay] at I
    subst I
    refine ⟨by simp; omega,fun j hj => ?_⟩
    unfold wG
    rw [hg]
    simp only [fG]
    rw [kX,aq hj,jH]
 ·cases I
def unblk : Code→Code
 | .block _ c=>c
 | c=>c
def unloop : Code→Code
 | .loop c=>c
 | c=>c
noncomputable def iX : Code:=(Tryz.f178.body).getD .skip
noncomputable def jb : Code:=unloop (unblk (cR (leftC (cR (cR iX)))))
noncomputable def mG : Code:=unblk (leftC (cR (cR jb)))
noncomputable def nH : Code:=unloop (unblk (cR (cR (cR mG))))
theorem fJ (C:cB)(n:Nat)(c:Code)(s:St): ev C (n+1) c s=evStep C (ev C n) c s:=rfl
theorem wrap_i64 {n:Nat}(h:n<9223372036854775808): IntKind.wrap .i64 (n:Int)=(n:Int):=by
 have I:((n:Int)%(2^(IntKind.i64).bits:Int))=(n:Int):=by simp only [IntKind.bits]; omega
 have J:¬ ((n:Int)≥(2^((IntKind.i64).bits-1):Int)):=by simp only [IntKind.bits]; omega
 simp only [IntKind.wrap,I,J,pP,Ct,dW,bG]
theorem xy {n:Nat}(h:n<9223372036854775807): intV .add .i64 (n:Int) 1=some (.int .i64 ((n+1:Nat):Int)):=by
 have:((n:Int)+1)=((n+1:Nat):Int):=by omega
 simp only [intV,this,wrap_i64 (show n+1<9223372036854775808 by omega)]
section
variable {C:cB} {self:Self}
theorem bL {L rest:List Oper}{o:Oper}{d:Nat}{env:Env}{n:Nat}{h:H}(J:o.guard=none)(hd:o.dst=some d)(I:Nat.blt d n=true):
  evOps C self L (o::rest) ⟨env,n,h⟩=(evOp C self env h o).bind fun r=>evOps C self L rest ⟨env.set d (some r.1),n,r.2⟩:=by
 simp only [evOps,wantedV,J,ag]
 cases evOp C self env h o with
 | none=>rfl
 | some r=>simp only [St.put,hd,I,ag,ck]
end
noncomputable def TA : Code:=leftC nH
noncomputable def tS : Code:=cR (cR nH)
noncomputable def TB : Code:=leftC (unblk (leftC tS))
noncomputable def TC : Code:=cR (unblk (leftC tS))
noncomputable def NY : Code:=cR tS
section
variable {C:cB} (n:Nat) (env:Env) (h:H)
theorem Lr {j:Nat}(I:T.get env 20=some (.int .i64 j)): ev C (n+1) TA ⟨env,34,h⟩=some (.normal,⟨env.set 21 (some (.bool (decide ((j:Int)<8)))),34,h⟩):=by
 simp only [TA,nH,mG,jb,iX,Tryz.f178,ew,leftC,cR,unblk,unloop,fJ,evStep,ay]
 rw [bL rfl rfl rfl]
 simp only [evOp,evO,Env.v,I,ofValue,ofScalar,binV,ikBeq,ag,intV,aQ,ck,evOps]
theorem TD {x:Nat}(J:x<4294967296)(h5:T.get env 5=some (.int .u32 x)):
  ∃I,ev C (n+1) TB ⟨env,34,h⟩=some (.normal,⟨I,34,h⟩)∧T.get I 24=some (.bool (Nat.beq (x%2) 1))∧∀t,t≠22→t≠23→t≠24→T.get I t=T.get env t:=by
 refine ⟨((env.set 22 (some (.int .u32 x))).set 23 (some (.int .u32 ((x%2:Nat):Int)))).set 24 (some (.bool (Nat.beq (x%2) 1))),?_,by simp [aP],fun t h1 h2 h3=>by simp [aP,h1,h2,h3]⟩
 simp only [TB,tS,nH,mG,jb,iX,Tryz.f178,ew,leftC,cR,unblk,unloop,fJ,evStep,ay]
 rw [bL rfl rfl rfl]
 simp only [evOp,evO,Env.v,h5,aQ,ck]
 rw [bL rfl rfl rfl]
 simp only [evOp,evO,Env.v,aP,bE,ofValue,ofScalar,binV,ikBeq,ag,Lq J,aQ,ck]
 rw [bL rfl rfl rfl]
 simp only [evOp,evO,Env.v,aP,bE,ofValue,ofScalar,binV,ikBeq,ag,intV,aQ,ck,evOps]
 rfl
theorem Ls {x:Nat}(I:x<4294967296): Nat.xor (x/2) 3988292384<4294967296:=nG (by omega) (by omega)
theorem TE {x:Nat}{b:Bool}(hx:x<4294967296)(h5:T.get env 5=some (.int .u32 x))(I:T.get env 24=some (.bool b)):
  ∃J,ev C (n+2) TC ⟨env,34,h⟩=some (.normal,⟨J,34,h⟩)∧T.get J 5=some (.int .u32 ((cond b (Nat.xor (x/2) 3988292384) (x/2):Nat):Int))∧∀t,t<25→t≠5→T.get J t=T.get env t:=by
 simp only [TC,tS,nH,mG,jb,iX,Tryz.f178,ew,leftC,cR,unblk,unloop,fJ,evStep,evO,Env.v,I]
 cases b with
 | true =>
  refine ⟨(((env.set 25 (some (.int .u32 x))).set 26 (some (.int .u32 ((x/2:Nat):Int)))).set 27 (some (.int .u32 ((Nat.xor (x/2) 3988292384:Nat):Int)))).set 5 (some (.int .u32 ((Nat.xor (x/2) 3988292384:Nat):Int))),?_,by simp [aP],fun t h1 h2 => ?_⟩
  ·simp only [ag,ay]
   rw [bL rfl rfl rfl]
   simp only [evOp,evO,Env.v,h5,aQ,ck]
   rw [bL rfl rfl rfl]
   simp only [evOp,evO,Env.v,aP,bE,ofValue,ofScalar,binV,Bp,aQ,ck]
   rw [bL rfl rfl rfl]
   have:=vU (a:=x/2) (b:=3988292384) (by omega) (by omega)
   rw [show ((3988292384:Nat):Int)=3988292384 from rfl] at this
   simp only [evOp,evO,Env.v,aP,bE,ofValue,ofScalar,binV,ikBeq,ag,this,aQ,ck]
   rw [bL rfl rfl rfl]
   simp only [evOp,evO,Env.v,aP,bE,aQ,ck,evOps]
  ·have a1:t≠25:=by omega
   have a2:t≠26:=by omega
   have a3:t≠27:=by omega
   simp [aP,h2,a1,a2,a3]
 | false =>
  refine ⟨((env.set 28 (some (.int .u32 x))).set 29 (some (.int .u32 ((x/2:Nat):Int)))).set 5 (some (.int .u32 ((x/2:Nat):Int))),?_,by simp [aP],fun t h1 h2 => ?_⟩
  ·simp only [ay]
   rw [bL rfl rfl rfl]
   simp only [evOp,evO,Env.v,h5,aQ,ck]
   rw [bL rfl rfl rfl]
   simp only [evOp,evO,Env.v,aP,bE,ofValue,ofScalar,binV,Bp,aQ,ck]
   rw [bL rfl rfl rfl]
   simp only [evOp,evO,Env.v,aP,bE,aQ,ck,evOps]
  ·have a1:t≠28:=by omega
   have a2:t≠29:=by omega
   simp [aP,h2,a1,a2]
theorem Rq {j:Nat}(hj:j<8)(I:T.get env 20=some (.int .i64 j)):
  ∃J,ev C (n+1) NY ⟨env,34,h⟩=some (.normal,⟨J,34,h⟩)∧T.get J 20=some (.int .i64 ((j+1:Nat):Int))∧∀t,t≠20→t≠30→T.get J t=T.get env t:=by
 refine ⟨(env.set 30 (some (.int .i64 ((j+1:Nat):Int)))).set 20 (some (.int .i64 ((j+1:Nat):Int))),?_,by simp [aP],fun t h1 h2=>by simp [aP,h1,h2]⟩
 simp only [NY,tS,nH,mG,jb,iX,Tryz.f178,ew,leftC,cR,unblk,unloop,fJ,evStep,ay]
 rw [bL rfl rfl rfl]
 simp only [evOp,evO,Env.v,I,ofValue,ofScalar,binV,ikBeq,ag,xy (show j<9223372036854775807 by omega),aQ,ck]
 rw [bL rfl rfl rfl]
 simp only [evOp,evO,Env.v,aP,bE,aQ,ck,evOps]
section
variable {n:Nat} {s s':St}
theorem jc {a b:Code}(I:ev C n a s=some (.normal,s')): ev C (n+1) (.seq a b) s=ev C n b s':=by rw [fJ]; simp only [evStep,I]
theorem uw {a b:Code}{i:Nat}(I:ev C n a s=some (.exit i,s')): ev C (n+1) (.seq a b) s=some (.exit i,s'):=by rw [fJ]; simp only [evStep,I]
theorem vj {x:Operand}{a b:Code}{t:Bool}(I:evO s.env x=some (.bool t)): ev C (n+1) (.cond x a b) s=ev C n (cond t a b) s:=by rw [fJ]; simp only [evStep,I]
theorem Fb {i:Nat}{c:Code}(h:ev C n c s=some (.normal,s')): ev C (n+1) (.block i c) s=some (.normal,s'):=by rw [fJ]; simp only [evStep,h]
theorem wO {i:Nat}{c:Code}(h:ev C n c s=some (.exit i,s')): ev C (n+1) (.block i c) s=some (.normal,s'):=by rw [fJ]; simp only [evStep,h,cN,ag]
theorem Il {b:Code}(h:ev C n b s=some (.normal,s')): ev C (n+1) (.loop b) s=ev C n (.loop b) s':=by rw [fJ]; simp only [evStep,h]
theorem sP {b:Code}{i:Nat}(h:ev C n b s=some (.exit i,s')): ev C (n+1) (.loop b) s=some (.exit i,s'):=by rw [fJ]; simp only [evStep,h]
end
theorem DD : nH=.seq TA (.seq (.cond (.tmp 21) .skip (.exit 2)) tS):=rfl
theorem NZ : tS=.seq (.block 3 (.seq TB TC)) NY:=rfl
theorem Jy {x j:Nat}(hx:x<4294967296)(hj:j<8)(h5:T.get env 5=some (.int .u32 x))(WR:T.get env 20=some (.int .i64 j)):
  ∃e',ev C (n+9) nH ⟨env,34,h⟩=some (.normal,⟨e',34,h⟩)∧T.get e' 5=some (.int .u32 ((crcStep x 1:Nat):Int))∧T.get e' 20=some (.int .i64 ((j+1:Nat):Int)) ∧
   ∀t,t<20→t≠5→T.get e' t=T.get env t:=by
 have bC:decide ((j:Int)<8)=true:=by simp; omega
 have q7:=Lr (C:=C) (n+7) env h WR
 rw [bC] at q7
 have g5:T.get (env.set 21 (some (.bool true))) 5=some (.int .u32 x):=by simp [aP,h5]
 obtain ⟨e8,q8,ZF,J⟩:=TD (C:=C) (n+3) (env.set 21 (some (.bool true))) h hx g5
 have ZG:T.get e8 5=some (.int .u32 x):=by rw [J 5 (by omega) (by omega) (by omega),g5]
 obtain ⟨e9,q9,ZH,WT⟩:=TE (C:=C) (n+2) e8 h hx ZG ZF
 have ZI:T.get e9 20=some (.int .i64 j):=by
  rw [WT 20 (by omega) (by omega),J 20 (by omega) (by omega) (by omega)]
  simp [aP,WR]
 obtain ⟨ZJ,ZK,Yg,I⟩:=Rq (C:=C) (n+5) e9 h hj ZI
 refine ⟨ZJ,?_,?_,Yg,fun t h1 h2 => ?_⟩
 ·rw [DD,jc q7,jc (s':=⟨env.set 21 (some (.bool true)),34,h⟩) (by rw [vj (t:=true) (by simp [evO,Env.v,aP])]; rfl),NZ,
   jc (Fb (by rw [jc q8]; exact q9)),ZK]
 ·rw [I 5 (by omega) (by omega),ZH]
  simp only [crcStep]
 ·rw [I t (by omega) (by omega),WT t (by omega) h2,J t (by omega) (by omega) (by omega)]
  have:t≠21:=by omega
  simp [aP,this]
theorem Jz : ∀(k n:Nat) (env:Env) (x:Nat),k≤8→x<4294967296→T.get env 5=some (.int .u32 x)→T.get env 20=some (.int .i64 ((8-k:Nat):Int)) →
  ∃J,ev C (n+10+k) (.loop nH) ⟨env,34,h⟩=some (.exit 2,⟨J,34,h⟩)∧T.get J 5=some (.int .u32 ((crcStep x k:Nat):Int))∧∀t,t<20→t≠5→T.get J t=T.get env t:=by
 intro k
 induction k with
 | zero =>
  intro n env x _ hx h5 I
  have q7:=Lr (C:=C) (n+7) env h I
  refine ⟨env.set 21 (some (.bool false)),?_,by simp [aP,h5,crcStep],fun t h1 h2 => ?_⟩
  ·rw [jg]
   refine sP ?_
   rw [DD,jc q7]
   exact uw (by rw [vj (t:=false) (by simp [evO,Env.v,aP])]; rfl)
  ·have:t≠21:=by omega
   simp [aP,this]
 | succ k ih =>
  intro n env x hk hx h5 I
  obtain ⟨e1,q1,q2,q3,q4⟩:=Jy (C:=C) (n+1+k) env h hx (show 8-(k+1)<8 by omega) h5 I
  have h8:8-(k+1)+1=8-k:=by omega
  rw [h8] at q3
  have Fc:crcStep x 1<4294967296:=by
   simp only [crcStep]
   cases Nat.beq (x%2) 1 with
   | true=>exact Ls hx
   | false=>simp only [ay]; omega
  obtain ⟨e2,p1,p2,p3⟩:=ih n e1 (crcStep x 1) (by omega) Fc q2 q3
  refine ⟨e2,?_,?_,fun t h1 h2=>by rw [p3 t h1 h2,q4 t h1 h2]⟩
  ·rw [show n+10+(k+1)=(n+1+k+9)+1 from by omega,Il q1,show n+1+k+9=n+10+k from by omega]
   exact p1
  ·rw [p2]; simp only [crcStep]
end
noncomputable def TF : Code:=leftC jb
noncomputable def Es : Code:=cR (cR jb)
noncomputable def N2 : Code:=cR Es
noncomputable def TG : Code:=leftC mG
noncomputable def TH : Code:=leftC (cR mG)
noncomputable def TI : Code:=leftC (cR (cR mG))
theorem N3 : mG=.seq TG (.seq TH (.seq TI (.block 2 (.loop nH)))):=rfl
theorem xz : jb=.seq TF (.seq (.cond (.tmp 13) .skip (.exit 0)) Es):=rfl
theorem N4 : Es=.seq (.block 1 mG) N2:=rfl
theorem eR : bq Tryz.prog 5=some 1:=by kernel_rfl
theorem Im : b8 Tryz.prog 5=some false:=by kernel_rfl
section
variable {told:cZ} (n:Nat) (env:Env) (h:H)
theorem Fe {i len:Nat}(I:T.get env 12=some (.int .i64 i))(J:T.get env 11=some (.int .i64 len)):
  ev ⟨Tryz.prog,told⟩ (n+1) TF ⟨env,34,h⟩=some (.normal,⟨env.set 13 (some (.bool (decide ((i:Int)<(len:Int))))),34,h⟩):=by
 simp only [TF,jb,iX,Tryz.f178,ew,leftC,cR,unblk,unloop,fJ,evStep,ay]
 rw [bL rfl rfl rfl]
 simp only [evOp,evO,Env.v,J,I,binV,ikBeq,ag,intV,aQ,ck,evOps]
theorem TJ {i id off len b:Nat}{cap:Cap}(hi:i<len)(I:T.get env 12=some (.int .i64 i))(J:T.get env 10=some (.sl id off len cap))(hb:wG h id (off+i)=some (.int .u8 b)):
  ∃e',ev ⟨Tryz.prog,told⟩ (n+1) TG ⟨env,34,h⟩=some (.normal,⟨e',34,h⟩)∧T.get e' 7=some (.int .u8 b)∧∀t,t≠7→t≠14→t≠15→T.get e' t=T.get env t:=by
 refine ⟨((env.set 14 (some (.ptr id (off+i)))).set 15 (some (.int .u8 b))).set 7 (some (.int .u8 b)),?_,by simp [aP],fun t h1 h2 h3=>by simp [aP,h1,h2,h3]⟩
 simp only [TG,mG,jb,iX,Tryz.f178,ew,leftC,cR,unblk,unloop,fJ,evStep,ay]
 rw [bL rfl rfl rfl]
 have d1:decide ((0:Int)≤(i:Int))=true:=by simp
 have d2:decide ((i:Int)<(len:Int))=true:=by simp; exact hi
 simp only [evOp,evO,Env.v,J,I,indexAddrV,aV,eR,d1,d2,gA,ag,bP,cx,aQ,ck]
 rw [bL rfl rfl rfl]
 simp only [evOp,evO,Env.v,aP,bE,loadV,Im,hb,aQ,ck]
 rw [bL rfl rfl rfl]
 simp only [evOp,evO,Env.v,aP,bE,aQ,ck,evOps]
theorem TK {x b:Nat}(hx:x<4294967296)(hb:b<256)(h5:T.get env 5=some (.int .u32 x))(h7:T.get env 7=some (.int .u8 b)):
  ∃I,ev ⟨Tryz.prog,told⟩ (n+1) TH ⟨env,34,h⟩=some (.normal,⟨I,34,h⟩)∧T.get I 5=some (.int .u32 ((Nat.xor x b:Nat):Int))∧∀t,t<16→t≠5→T.get I t=T.get env t:=by
 refine ⟨((((env.set 16 (some (.int .u32 x))).set 17 (some (.int .u8 b))).set 18 (some (.int .u32 b))).set 19 (some (.int .u32 ((Nat.xor x b:Nat):Int)))).set 5 (some (.int .u32 ((Nat.xor x b:Nat):Int))),?_,by simp [aP],fun t h1 h2 => ?_⟩
 ·simp only [TH,mG,jb,iX,Tryz.f178,ew,leftC,cR,unblk,unloop,fJ,evStep,ay]
  rw [bL rfl rfl rfl]
  simp only [evOp,evO,Env.v,h5,aQ,ck]
  rw [bL rfl rfl rfl]
  have g7:T.get (env.set 16 (some (.int .u32 x))) 7=some (.int .u8 b):=by simp [aP,h7]
  simp only [evOp,evO,Env.v,g7,aQ,ck]
  rw [bL rfl rfl rfl]
  simp only [evOp,evO,Env.v,aP,bE,convV,Tryz.underlying5,Tryz.underlying231,wrap_u32 (show b<4294967296 by omega),ck]
  rw [bL rfl rfl rfl]
  have J:T.get (((env.set 16 (some (.int .u32 x))).set 17 (some (.int .u8 b))).set 18 (some (.int .u32 b))) 16=some (.int .u32 x):=by simp [aP]
  have ZL:T.get (((env.set 16 (some (.int .u32 x))).set 17 (some (.int .u8 b))).set 18 (some (.int .u32 b))) 18=some (.int .u32 b):=by simp [aP]
  simp only [evOp,evO,Env.v,J,ZL,binV,ikBeq,ag,vU hx (show b<4294967296 by omega),aQ,ck]
  rw [bL rfl rfl rfl]
  simp only [evOp,evO,Env.v,aP,bE,aQ,ck,evOps]
 ·have a1:t≠16:=by omega
  have a2:t≠17:=by omega
  have a3:t≠18:=by omega
  have a4:t≠19:=by omega
  simp [aP,h2,a1,a2,a3,a4]
theorem TL : ev ⟨Tryz.prog,told⟩ (n+1) TI ⟨env,34,h⟩=some (.normal,⟨env.set 20 (some (.int .i64 0)),34,h⟩):=by
 simp only [TI,mG,jb,iX,Tryz.f178,ew,leftC,cR,unblk,unloop,fJ,evStep,ay]
 rw [bL rfl rfl rfl]
 simp only [evOp,evO,ofValue,ofScalar,aQ,ck,evOps]
theorem Rr {i:Nat}(hi:i<9223372036854775807)(I:T.get env 12=some (.int .i64 i)):
  ∃J,ev ⟨Tryz.prog,told⟩ (n+1) N2 ⟨env,34,h⟩=some (.normal,⟨J,34,h⟩)∧T.get J 12=some (.int .i64 ((i+1:Nat):Int))∧∀t,t≠12→t≠31→T.get J t=T.get env t:=by
 refine ⟨(env.set 31 (some (.int .i64 ((i+1:Nat):Int)))).set 12 (some (.int .i64 ((i+1:Nat):Int))),?_,by simp [aP],fun t h1 h2=>by simp [aP,h1,h2]⟩
 simp only [N2,Es,jb,iX,Tryz.f178,ew,leftC,cR,unblk,unloop,fJ,evStep,ay]
 rw [bL rfl rfl rfl]
 simp only [evOp,evO,Env.v,I,ofValue,ofScalar,binV,ikBeq,ag,xy hi,aQ,ck]
 rw [bL rfl rfl rfl]
 simp only [evOp,evO,Env.v,aP,bE,aQ,ck,evOps]
theorem Bq : ∀(k x:Nat),x<4294967296→crcStep x k<4294967296:=by
 intro k
 induction k with
 | zero=>intro x I; exact I
 | succ k J =>
  intro x I
  simp only [crcStep]
  refine J _ ?_
  cases Nat.beq (x%2) 1 with
  | true=>exact Ls I
  | false=>simp only [ay]; omega
theorem N5 {x i id off len b:Nat}{cap:Cap}(hx:x<4294967296)(hb:b<256)(hi:i<len)(h5:T.get env 5=some (.int .u32 x))(J:T.get env 12=some (.int .i64 i))(Lt:T.get env 10=some (.sl id off len cap))
 (hr:wG h id (off+i)=some (.int .u8 b)):
  ∃e',ev ⟨Tryz.prog,told⟩ (n+22) mG ⟨env,34,h⟩=some (.normal,⟨e',34,h⟩)∧T.get e' 5=some (.int .u32 ((crcStep (Nat.xor x b) 8:Nat):Int))∧∀t,t=10∨t=11∨t=12→T.get e' t=T.get env t:=by
 obtain ⟨e4,q4,TM,I⟩:=TJ (told:=told) (n+20) env h hi J Lt hr
 obtain ⟨e5,q5,ZM,ZN⟩:=TK (told:=told) (n+19) e4 h hx hb (by rw [I 5 (by omega) (by omega) (by omega)]; exact h5) TM
 have q6:=TL (told:=told) (n+18) e5 h
 obtain ⟨e2,q2,Lu,DE⟩:=Jz (C:=⟨Tryz.prog,told⟩) h 8 n (e5.set 20 (some (.int .i64 0))) (Nat.xor x b) (by omega) (nG hx (by omega)) (by simp [aP,ZM]) (by simp [aP])
 refine ⟨e2,?_,Lu,fun t ht => ?_⟩
 ·rw [N3,jc q4,jc q5,jc q6]
  exact wO q2
 ·rw [DE t (by omega) (by omega)]
  have:t≠20:=by omega
  simp only [aP,this,bG]
  rw [ZN t (by omega) (by omega),I t (by omega) (by omega) (by omega)]
theorem JA {id off len:Nat}{cap:Cap}(hlen:len<9223372036854775807): ∀(l:List Nat) (i n:Nat) (env:Env) (x:Nat),i+l.length=len→x<4294967296→(∀b∈l,b<256) →
  (∀j b:Nat,l[j]?=some b→wG h id (off+(i+j))=some (.int .u8 (b:Int)))→T.get env 5=some (.int .u32 x)→T.get env 12=some (.int .i64 i)→T.get env 10=some (.sl id off len cap)→T.get env 11=some (.int .i64 len) →
  ∃e',ev ⟨Tryz.prog,told⟩ (n+30+l.length) (.loop jb) ⟨env,34,h⟩=some (.exit 0,⟨e',34,h⟩)∧T.get e' 5=some (.int .u32 ((crcL x l:Nat):Int)):=by
 intro l
 induction l with
 | nil =>
  intro i n env x hi hx _ _ h5 I Lt J
  have q3:=Fe (told:=told) (n+27) env h I J
  have hd:decide ((i:Int)<(len:Int))=false:=by simp at hi ⊢; omega
  rw [hd] at q3
  refine ⟨env.set 13 (some (.bool false)),?_,by simp [aP,h5,crcL]⟩
  refine sP ?_
  rw [xz,jc q3]
  exact uw (by rw [vj (t:=false) (by simp [evO,Env.v,aP])]; rfl)
 | cons b l ih =>
  intro i n env x hi hx Qa iT h5 I Lt J
  simp only [aH] at hi
  have q3:=Fe (told:=told) (n+l.length+28) env h I J
  have hd:decide ((i:Int)<(len:Int))=true:=by simp; omega
  rw [hd] at q3
  have hb:b<256:=Qa b (by simp)
  have hr:=iT 0 b (by simp)
  rw [jg] at hr
  obtain ⟨e1,q1,Qb,Lv⟩:=N5 (told:=told) (cap:=cap) (n+l.length+4) (env.set 13 (some (.bool true))) h hx hb (show i<len by omega) (by simp [aP,h5]) (by simp [aP,I]) (by simp [aP,Lt]) hr
  obtain ⟨e2,q2,Lu,DE⟩:=Rr (told:=told) (n+l.length+26) e1 h (show i<9223372036854775807 by omega) (by rw [Lv 12 (by omega)]; simp [aP,I])
  have js:crcStep (Nat.xor x b) 8<4294967296:=Bq 8 _ (nG hx (by omega))
  obtain ⟨e3,ZO,TN⟩:=ih (i+1) n e2 (crcStep (Nat.xor x b) 8) (by omega) js (fun c hc=>Qa c (by simp [hc])) (fun j c hj=>by
   have:=iT (j+1) c (by simpa using hj)
   rwa [show i+(j+1)=i+1+j from by omega] at this) (by rw [DE 5 (by omega) (by omega)]; exact Qb) Lu (by rw [DE 10 (by omega) (by omega),Lv 10 (by omega)]; simp [aP,Lt]) (by rw [DE 11 (by omega) (by omega),Lv 11 (by omega)]; simp [aP,J])
  refine ⟨e3,?_,by rw [TN]; simp only [crcL]⟩
  have TO:ev ⟨Tryz.prog,told⟩ (n+l.length+30) jb ⟨env,34,h⟩=some (.normal,⟨e2,34,h⟩):=by
   rw [xz,jc q3,jc (s':=⟨env.set 13 (some (.bool true)),34,h⟩) (by rw [vj (t:=true) (by simp [evO,Env.v,aP])]; rfl),N4,
    jc (Fb q1),q2]
  rw [aH,show n+30+(l.length+1)=(n+l.length+30)+1 from by omega,Il TO,show n+l.length+30=n+30+l.length from by omega]
  exact ZO
noncomputable def TP : Code:=leftC iX
noncomputable def TQ : Code:=leftC (cR iX)
noncomputable def TR : Code:=leftC (leftC (cR (cR iX)))
noncomputable def N6 : Code:=cR (cR (cR iX))
theorem N7 : iX=.seq TP (.seq TQ (.seq (.seq TR (.block 0 (.loop jb))) N6)):=rfl
theorem TS : ev ⟨Tryz.prog,told⟩ (n+1) TP ⟨env,34,h⟩=some (.normal,⟨env.set 4 (some (.int .u32 0)),34,h⟩):=by
 simp only [TP,iX,Tryz.f178,ew,leftC,fJ,evStep,ay]
 rw [bL rfl rfl rfl]
 simp only [evOp,evO,ofValue,ofScalar,aQ,ck,evOps]
theorem TT {x:Nat}(J:x<4294967296)(h0:T.get env 0=some (.int .u32 x)):
  ∃I,ev ⟨Tryz.prog,told⟩ (n+1) TQ ⟨env,34,h⟩=some (.normal,⟨I,34,h⟩)∧T.get I 5=some (.int .u32 ((Nat.xor x 4294967295:Nat):Int))∧∀t,t≠5→t≠8→t≠9→T.get I t=T.get env t:=by
 refine ⟨((env.set 8 (some (.int .u32 x))).set 9 (some (.int .u32 ((Nat.xor x 4294967295:Nat):Int)))).set 5 (some (.int .u32 ((Nat.xor x 4294967295:Nat):Int))),?_,by simp [aP],fun t h1 h2 h3=>by simp [aP,h1,h2,h3]⟩
 simp only [TQ,iX,Tryz.f178,ew,leftC,cR,fJ,evStep,ay]
 rw [bL rfl rfl rfl]
 simp only [evOp,evO,Env.v,h0,aQ,ck]
 rw [bL rfl rfl rfl]
 have:=vU (a:=x) (b:=4294967295) J (by omega)
 rw [show ((4294967295:Nat):Int)=4294967295 from rfl] at this
 simp only [evOp,evO,Env.v,aP,bE,ofValue,ofScalar,binV,ikBeq,ag,this,aQ,ck]
 rw [bL rfl rfl rfl]
 simp only [evOp,evO,Env.v,aP,bE,aQ,ck,evOps]
theorem TU {x:V}{len:Nat}(J:T.get env 1=some x)(hl:lenV Tryz.prog h 28 x=some (.int .i64 len)):
  ∃I,ev ⟨Tryz.prog,told⟩ (n+1) TR ⟨env,34,h⟩=some (.normal,⟨I,34,h⟩)∧T.get I 10=some x∧T.get I 11=some (.int .i64 len)∧T.get I 12=some (.int .i64 ((0:Nat):Int))∧T.get I 5=T.get env 5:=by
 refine ⟨((env.set 10 (some x)).set 11 (some (.int .i64 len))).set 12 (some (.int .i64 0)),?_,by simp [aP],by simp [aP],by simp [aP],by simp [aP]⟩
 simp only [TR,iX,Tryz.f178,ew,leftC,cR,fJ,evStep,ay]
 rw [bL rfl rfl rfl]
 simp only [evOp,evO,Env.v,J,aQ,ck]
 rw [bL rfl rfl rfl]
 simp only [evOp,evCall,evArgs,evO,Env.v,aP,bE,builtinV,hl,iI,ck]
 rw [bL rfl rfl rfl]
 simp only [evOp,evO,ofValue,ofScalar,aQ,ck,evOps]
theorem Rs {x:Nat}(J:x<4294967296)(h5:T.get env 5=some (.int .u32 x)):
  ∃I,ev ⟨Tryz.prog,told⟩ (n+2) N6 ⟨env,34,h⟩=some (.ret,⟨I,34,h⟩)∧T.get I 4=some (.int .u32 ((Nat.xor x 4294967295:Nat):Int)):=by
 refine ⟨((env.set 32 (some (.int .u32 x))).set 33 (some (.int .u32 ((Nat.xor x 4294967295:Nat):Int)))).set 4 (some (.int .u32 ((Nat.xor x 4294967295:Nat):Int))),?_,by simp [aP]⟩
 simp only [N6,iX,Tryz.f178,ew,cR,fJ,evStep,ay]
 rw [bL rfl rfl rfl]
 simp only [evOp,evO,Env.v,h5,aQ,ck]
 rw [bL rfl rfl rfl]
 have:=vU (a:=x) (b:=4294967295) J (by omega)
 rw [show ((4294967295:Nat):Int)=4294967295 from rfl] at this
 simp only [evOp,evO,Env.v,aP,bE,ofValue,ofScalar,binV,ikBeq,ag,this,aQ,ck]
 rw [bL rfl rfl rfl]
 simp only [evOp,evO,Env.v,aP,bE,aQ,ck,evOps]
end
theorem JB : ∀(cs:List V) (l:List Nat),bytesIn cs=some l→cs=l.map (fun (b:Nat)=>V.int .u8 (b:Int))∧∀b∈l,b<256:=by
 intro cs
 induction cs with
 | nil=>intro l h; simp [bytesIn] at h; subst h; simp
 | cons v cs ih =>
  intro l h
  unfold bytesIn at h
  split at h
  ·rename_i he; cases he
  ·rename_i n l' he
   simp only [uS] at he
   obtain ⟨rfl,rfl⟩:=he
   cases I:(decide (0≤n)&&decide (n<256)) with
   | false=>rw [I] at h; cases h
   | true =>
    rw [I,ag] at h
    simp only [aJ,eu] at I
    cases hm:bytesIn cs with
    | none=>simp [hm] at h
    | some m =>
     simp [hm] at h
     subst h
     obtain ⟨i1,i2⟩:=ih m hm
     refine ⟨?_,fun b J => ?_⟩
     ·simp only [bQ,←i1]
      congr 2
      omega
     ·rcases List.mem_cons.1 J with rfl | J
      ·omega
      ·exact i2 b J
  ·cases h
theorem CL : ∀(l:List Nat) (x:Nat),x<4294967296→(∀b∈l,b<256)→crcL x l<4294967296:=by
 intro l
 induction l with
 | nil=>intro x I _; exact I
 | cons b l ih =>
  intro x I J
  have h1:=J b (by simp)
  exact ih _ (Bq 8 _ (nG I (by omega))) (fun c hc=>J c (by simp [hc]))
theorem AH {σ : H} {s : Int} {x : V} {l : List Nat} {len : Nat} (hs0 : 0 ≤ s) (eF : s < 4294967296) (hl : lenV Tryz.prog σ 28 x = some (.int .i64 len)) (hlen : len = l.length) (jo : len < 9223372036854775807)
  (hb : ∀ b ∈ l, b < 256) (hx : l = [] ∨ ∃ id off cap, x = .sl id off len cap ∧ ∀ j b : Nat, l[j]? = some b → wG σ id (off + (0 + j)) = some (.int .u8 (b : Int))) :
  run ⟨Tryz.prog, fun _ => none⟩ (l.length + 40) 178 [.int .u32 s, x] σ = some (sO s l, σ) := by
 obtain ⟨u, rfl⟩ : ∃ u : Nat, s = (u : Int) := ⟨s.toNat, by omega⟩
 have hu : u < 4294967296 := by omega
 have q0 := TS (told := fun _ => none) (l.length + 38) (bindArgs [.int .u32 u, x] 0 .lf) σ
 obtain ⟨e1, q1, Qb, Lv⟩ := TT (told := fun _ => none) (l.length + 37) ((bindArgs [.int .u32 u, x] 0 .lf).set 4 (some (.int .u32 0))) σ hu (by simp [aP, bindArgs])
 obtain ⟨e2, q2, Lu, DE, WU, WV⟩ := TU (told := fun _ => none) (l.length + 35) e1 σ (x := x) (by rw [Lv 1 (by omega) (by omega) (by omega)]; simp [aP, bindArgs]) hl
 have I : Nat.xor u 4294967295 < 4294967296 := nG hu (by omega)
 have J : ∃ e', ev ⟨Tryz.prog, fun _ => none⟩ (5 + 30 + l.length) (.loop jb) ⟨e2, 34, σ⟩ = some (.exit 0, ⟨e', 34, σ⟩) ∧ T.get e' 5 = some (.int .u32 ((crcL (Nat.xor u 4294967295) l : Nat) : Int)) := by
  rcases hx with rfl | ⟨id, off, cap, rfl, iT⟩
  ·have q3 := Fe (told := fun _ => none) 32 e2 σ WU DE
   have hd : decide ((((0 : Nat) : Int)) < (len : Int)) = false := by subst hlen; rfl
   rw [hd] at q3
   refine ⟨e2.set 13 (some (.bool false)), ?_, by simp [aP, WV, Qb, crcL]⟩
   refine sP ?_
   rw [xz, jc q3]
   exact uw (by rw [vj (t := false) (by simp [evO, Env.v, aP])]; rfl)
  ·exact JA σ jo l 0 5 e2 _ (by omega) I hb iT (by rw [WV]; exact Qb) WU Lu DE
 obtain ⟨e3, q3, TN⟩ := J
 obtain ⟨e4, q4, TM⟩ := Rs (told := fun _ => none) (l.length + 35) e3 σ (CL l _ I hb) TN
 have VE : ev ⟨Tryz.prog, fun _ => none⟩ (l.length + 40) iX ⟨bindArgs [.int .u32 u, x] 0 .lf, 34, σ⟩ = some (.ret, ⟨e4, 34, σ⟩) := by
  rw [N7, jc q0, jc q1, jc (s' := ⟨e3, 34, σ⟩) (by
   rw [jc q2]
   rw [show 5 + 30 + l.length = l.length + 35 from by omega] at q3
   exact wO q3), q4]
 unfold run callF
 simp only [Bn]
 rw [show Tryz.f178.body = some iX from rfl]
 rw [show (Tryz.f178.name == "runtime.NumGoroutine" || Nat.blt Tryz.f178.ntmps [V.int .u32 (u : Int), x].length) = false from rfl]
 simp only [ay]
 rw [show Tryz.f178.ntmps = 34 from rfl, VE]
 simp only
 rw [show Tryz.f178.results = #[.tmp 4] from rfl]
 simp only [mapO, resV, Env.v, TM, sO, bP]
section
variable {C:cB} {c:Ctx} {σ:H} {w:World}
theorem He (hP:C.P=Tryz.prog)(hm:C.P.follows .mixedOrders=true){args:List V}{v:V}{eL:H}(I:toldMore args σ=some (v,eL))(h:Rel c σ w)(hw:∀x∈args,wf c x):
  fI C.P 178 args c w v eL:=by
 rw [hP] at hm ⊢
 have hT:fo ⟨Tryz.prog,fun _=>none⟩:=fun f g hg=>by cases hg
 unfold toldMore at I
 split at I
 ·rename_i s id off len cap
  cases xp:(decide (0≤s)&&decide (s<4294967296)&&Nat.ble len 4611686018427387904) with
  | false=>rw [xp] at I; cases I
  | true =>
   rw [xp,ag] at I
   simp only [aJ,eu,aF] at xp
   obtain ⟨J,jo⟩:=xp
   cases iT:rdN σ id off len with
   | none=>simp [iT] at I
   | some cs =>
    simp only [iT] at I
    cases hb:bytesIn cs with
    | none=>simp [hb] at I
    | some l =>
     simp only [hb,ak,aC] at I
     obtain ⟨rfl,rfl⟩:=I
     obtain ⟨b1,b2⟩:=JB cs l hb
     obtain ⟨d1,d2⟩:=Rp h iT
     have hl:len=l.length:=by rw [←d1,b1]; simp
     refine E_ (C:=⟨Tryz.prog,fun _=>none⟩) hm hT (AH J.1 J.2 (len:=len) (by simp [lenV,aV]) hl (by omega) b2 (.inr ⟨id,off,cap,rfl,fun j b hj => ?_⟩)) h hw
     ·rw [dY,d2 j (by rw [hl]; exact (List.getElem?_eq_some_iff.1 hj).1),b1]
      simp [hj]
 ·rename_i s
  cases J:(decide (0≤s)&&decide (s<4294967296)) with
  | false=>rw [J] at I; cases I
  | true =>
   rw [J,ag] at I
   simp only [aJ,eu] at J
   simp only [ak,aC] at I
   obtain ⟨rfl,rfl⟩:=I
   exact E_ (C:=⟨Tryz.prog,fun _=>none⟩) hm hT (AH J.1 J.2 (len:=0) (l:=[]) (by simp [lenV,aV]) rfl (by omega) (by simp) (.inl rfl)) h hw
 ·rename_i s _
  cases J:(decide (0≤s)&&decide (s<4294967296)) with
  | false=>rw [J] at I; cases I
  | true =>
   rw [J,ag] at I
   simp only [aJ,eu] at J
   simp only [ak,aC] at I
   obtain ⟨rfl,rfl⟩:=I
   exact E_ (C:=⟨Tryz.prog,fun _=>none⟩) hm hT (AH J.1 J.2 (len:=0) (l:=[]) (by simp [lenV,aV]) rfl (by omega) (by simp) (.inl rfl)) h hw
 ·cases I
end
end Go.Proofs.YtefepnnfphdkpaaGreat.Am
