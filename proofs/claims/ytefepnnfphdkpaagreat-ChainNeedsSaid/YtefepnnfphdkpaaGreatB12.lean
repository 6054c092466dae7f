/- ChainNeeds: a part of its proof; conditions: its statement's. -/
import Derived.Test.YtefepnnfphdkpaaGreatB11
import Derived.Test.YtefepnnfphdkpaaGreatProg
import Derived.KernelRfl
set_option linter.defProp false
namespace Go.Proofs.YtefepnnfphdkpaaGreat.Am
open Go
def aI:=@Tryz.underlying28
def ya:=@Tryz.func178
abbrev cK:=Nat→Option (List V→H→Option (V×H))
noncomputable section
def L7 (v:V): Option (IntKind×Int):=V.rec (motive_1:=fun _=>Option (IntKind×Int)) (motive_2:=fun _=>PUnit)
 (fun _=>none) (fun k n=>some (k,n)) (fun _=>none) none (fun _ _=>none) none (fun _ _ _ _=>none) none (fun _=>none) (fun _ _ _ _ _=>none) none (fun _ _ _=>none) none (fun _ _=>none) (fun _ _=>none) (fun _=>none) (fun _ _=>none) (fun _=>none)
 PUnit.unit (fun _ _ _ _=>PUnit.unit) v
def EN (k:IntKind): Nat:=IntKind.rec 0 1 2 3 4 5 6 7 k
def Kq (op:BinOp): IntKind→Int→Int→Option V:=BinOp.rec (motive:=fun _=>IntKind→Int→Int→Option V)
 (fun k x y=>some (.int k (k.wrap (Int.add x y))))
 (fun k x y=>some (.int k (k.wrap (Int.sub x y))))
 (fun k x y=>intV .mul k x y) (fun k x y=>intV .quo k x y) (fun k x y=>intV .rem k x y)
 (fun k x y=>bitsV .and k x y) (fun k x y=>bitsV .or k x y) (fun k x y=>bitsV .xor k x y)
 (fun k x y=>intV .shl k x y) (fun k x y=>intV .shr k x y) (fun k x y=>bitsV .andNot k x y)
 (fun _ x y=>some (.bool (intBeq x y))) (fun _ x y=>some (.bool (!intBeq x y)))
 (fun _ x y=>some (.bool (decide (x<y)))) (fun _ x y=>some (.bool (decide (x≤y)))) (fun _ x y=>some (.bool (decide (x>y)))) (fun _ x y=>some (.bool (decide (x≥y)))) op
def Al (op:BinOp): Bool:=BinOp.rec (motive:=fun _=>Bool) false false false false false false false false true true false false false false false false false op
def Kr (P:Program)(h:H)(op:BinOp)(t:TypeId)(I J:Operand)(x y:V): Option V :=
 Option.rec (motive:=fun _=>Option V) (binV P h op t I J x y)
  (fun a=>Option.rec (motive:=fun _=>Option V) (binV P h op t I J x y)
   (fun b=>Bool.rec (motive:=fun _=>Option V) (Bool.rec (motive:=fun _=>Option V) none (Kq op a.1 a.2 b.2) (Nat.beq (EN a.1) (EN b.1))) (shiftV op a.1 a.2 b.2) (Al op)) (L7 y)) (L7 x)
theorem OY (a b:IntKind): Nat.beq (EN a) (EN b)=ikBeq a b:=by cases a <;> cases b <;> rfl
theorem M6 (op:BinOp)(k:IntKind)(x y:Int): Kq op k x y=intV op k x y:=by cases op <;> rfl
theorem M7 (P:Program)(h:H)(op:BinOp)(t:TypeId)(I J:Operand)(x y:V): Kr P h op t I J x y=binV P h op t I J x y:=by
 cases x <;> try rfl
 cases y <;> try rfl
 rename_i k a j b
 show (Bool.rec (motive:=fun _=>Option V) (Bool.rec (motive:=fun _=>Option V) none (Kq op k a b) (Nat.beq (EN k) (EN j))) (shiftV op k a b) (Al op):Option V)=_
 rw [OY,M6]
 cases op <;> first
  | rfl
  | (cases hq:ikBeq k j <;> simp [binV,hq,Al])
def Ks (op:Op): bX→Self→Env→H→Option (V×H):=Op.rec (motive:=fun _=>bX→Self→Env→H→Option (V×H))
  (fun x _ _ env h=>aK (evO env x) h)
  (fun x _ _ env h=>aK (evO env x) h)
  (fun c a b _ _ env h=>match evO env c with
  | some (.bool t)=>aK (evO env (cond t a b)) h
  | _=>none)
  (fun t C _ _ h=>match zeroT C.P t with
  | some z=>some (.ptr h.next 0,newRow h z.cells)
  | none=>none)
  (fun _ x _ _ env h=>match evO env x with
  | some v=>cond (v.cells.all storable) (some (.ptr h.next 0,newRow h v.cells)) none
  | none=>none)
  (fun t ps C _ env h=>match evParts env ps.toList with
  | some l=>aK (buildV C.P t l) h
  | none=>none)
  (fun t n ps C _ env h=>match evParts env ps.toList with
  | some l=>buildSliceV C.P h t n l
  | none=>none)
  (fun t m k v C _ env h=>match evO env m,evO env k,evO env v with
  | some a,some b,some c=>k8 (mapUpdateV C.P h t a b c)
  | _,_,_=>none)
  (fun t a C _ env h=>match evO env a with
  | some v=>aK (loadV C.P h t v) h
  | none=>none)
  (fun t a x C _ env h=>match evO env a,evO env x with
  | some p,some v=>k8 (fM C.P h t p v)
  | _,_=>none)
  (fun _ _ _ _ _=>none)
  (fun _ _ _ _ _=>none)
  (fun x _ _ env h=>match evO env x with
  | some (.ptr a b)=>some (.ptr a b,h)
  | _=>none)
  (fun op t x y _ C _ env h=>match evO env x,evO env y with
  | some a,some b=>aK (Kr C.P h op t x y a b) h
  | _,_=>none)
  (fun op _ x _ _ env h=>match evO env x with
  | some a=>aK (unV op a) h
  | none=>none)
  (fun s d x C _ env h=>match evO env x with
  | some a=>match convV C.P h s d a with
   | some r=>some r
   | none=>convB C.P h s d a
  | none=>none)
  (fun d x C _ env h=>match evO env x with
  | some a=>aK (arrPtrV C.P d a) h
  | none=>none)
  (fun t x C _ env h=>match evO env x with
  | some a=>aK (makeIfaceV C.P t a) h
  | none=>none)
  (fun f a b _ _ env h=>match evArgs env a.toList,evArgs env b.toList with
  | some x,some y=>some (.fn f x y,h)
  | _,_=>none)
  (fun _ r _ _ _ h=>match r with
  | none=>some (.map h.next,h.new (.map [] 0))
  | some _=>none)
  (fun _ _ _ _ _ _=>none)
  (fun t l c C _ env h=>match evO env l,evO env c with
  | some a,some b=>makeSliceV C.P h t a b
  | _,_=>none)
  (fun t x lo hi mx C _ env h=>match evO env x,optV env lo,optV env hi,optV env mx with
  | some v,some a,some b,some c=>match gL a,gL b,gL c with
   | some a,some b,some c=>aK (sliceV C.P h t v a b c) h
   | _,_,_=>none
  | _,_,_,_=>none)
  (fun t x i C _ env h=>match evO env x with
  | some v=>aK (fieldAddrV C.P t v i) h
  | none=>none)
  (fun t x i C _ env h=>match evO env x with
  | some v=>aK (mA C.P t v i) h
  | none=>none)
  (fun t x i C _ env h=>match evO env x,evO env i with
  | some v,some j=>aK (indexAddrV C.P t v j) h
  | _,_=>none)
  (fun t x i C _ env h=>match evO env x,evO env i with
  | some v,some j=>aK (indexV C.P t v j) h
  | _,_=>none)
  (fun t x k ok C _ env h=>match evO env x,evO env k with
  | some m,some j=>aK (dK C.P h t m j ok) h
  | _,_=>none)
  (fun t m k v C _ env h=>match evO env m,evO env k,evO env v with
  | some a,some b,some c=>k8 (mapUpdateV C.P h t a b c)
  | _,_,_=>none)
  (fun t m k C _ env h=>match evO env m,evO env k with
  | some a,some b=>mapEntryV C.P h t a b
  | _,_=>none)
  (fun _ m s v _ _ env h=>match evO env m,evO env s,evO env v with
  | some a,some b,some c=>k8 (entryStoreV h a b c)
  | _,_,_=>none)
  (fun t x C _ env h=>match evO env x with
  | some v=>rangeV C.P h t v
  | none=>none)
  (fun it str _ _ env h=>match evO env it with
  | some v=>cond str (nextS h v) (nextV h v)
  | none=>none)
  (fun it _ _ env h=>match evO env it with
  | some v=>aK (xz h v) h
  | none=>none)
  (fun x _ a ok C _ env h=>match evO env x with
  | some v=>aK (assertV C.P v a ok) h
  | none=>none)
  (fun t i _ _ env h=>match evO env t with
  | some (.aX l)=>aK (nth l i) h
  | _=>none)
  (fun c C self env h=>evCall C self env h c)
  (fun _ _ _ _ _=>none)
  (fun _ _ _ _ _=>none)
  (fun _ _ _ _ _=>none)
  (fun _ _ _ _ _ _=>none)
  (fun _ _ _ _ _ _ _=>none)
  (fun _ _ _ _ _ _=>none) op
theorem M8 (C:bX)(self:Self)(env:Env)(h:H)(o:Oper): Ks o.op C self env h=evOp C self env h o:=by
  unfold evOp
  cases o.op <;> first
    | rfl
    | (rename_i op t x y u
       have I:∀(a b:Option V),(match a,b with
         | some a,some b=>aK (Kr C.P h op t x y a b) h
         | _,_=>none)=(match a,b with
         | some a,some b=>aK (binV C.P h op t x y a b) h
         | _,_=>none):=fun a b=>by
           cases a <;> cases b <;> first
             | rfl
             | (simp only [M7])
       exact I (evO env x) (evO env y))
def rZ (C:bX)(self:Self)(ops l:List Oper): St→Option St:=List.rec (motive:=fun _=>St→Option St) (fun s=>some s)
 (fun o _ I s=>Bool.rec (motive:=fun _=>Option St) (Option.rec (motive:=fun _=>Option St) none I (s.put o.dst bE s.h))
  (Option.rec (motive:=fun _=>Option St) none (fun r=>Option.rec (motive:=fun _=>Option St) none I (s.put o.dst r.1 r.2)) (Ks o.op C self s.env s.h)) (wantedV ops s.env o)) l
theorem Ik (C:bX)(self:Self)(ops:List Oper): ∀(l:List Oper) (s:St),rZ C self ops l s=evOps C self ops l s:=by
 intro l
 induction l with
 | nil=>intro s; rfl
 | cons o l I =>
  intro s
  show (Bool.rec (motive:=fun _=>Option St) (Option.rec (motive:=fun _=>Option St) none (rZ C self ops l) (s.put o.dst bE s.h))
   (Option.rec (motive:=fun _=>Option St) none (fun r=>Option.rec (motive:=fun _=>Option St) none (rZ C self ops l) (s.put o.dst r.1 r.2)) (Ks o.op C self s.env s.h)) (wantedV ops s.env o):Option St)=_
  rw [M8,show rZ C self ops l=evOps C self ops l from funext I]
  simp only [evOps]
  cases wantedV ops s.env o with
  | true =>
   cases evOp C self s.env s.h o with
   | none=>rfl
   | some r =>
    obtain ⟨v,h⟩:=r
    show (Option.rec (motive:=fun _=>Option St) none (evOps C self ops l) (s.put o.dst v h):Option St)=_
    simp only [af]
    cases s.put o.dst v h <;> rfl
  | false =>
   simp only [ay]
   cases s.put o.dst bE s.h <;> rfl
def An (c:Code): bX→Self→St→Option (Ex×St):=Code.rec (motive:=fun _=>bX→Self→St→Option (Ex×St))
 (fun _ _ s=>some (.normal,s))
 (fun _ ops draw C self s=>Option.rec (motive:=fun _=>Option (Ex×St)) none (fun s=>some (.normal,s)) (Bool.rec (motive:=fun _=>Option St) (rZ C self ops.toList ops.toList s) (jC C self ops.toList s) draw))
 (fun a b _ _ _ self s=>Option.rec (motive:=fun _=>Option (Ex×St)) none (fun r=>Ex.rec (motive:=fun _=>Option (Ex×St)) (self b r.2) (fun i=>some (.exit i,r.2)) (some (.ret,r.2)) r.1) (self a s))
 (fun x a b _ _ _ self s=>match evO s.env x with
  | some (.bool t)=>self (cond t a b) s
  | _=>none)
 (fun id c _ _ self s=>match self c s with
  | some (.exit i,s')=>cond (Nat.beq i id) (some (.normal,s')) (some (.exit i,s'))
  | r=>r)
 (fun b _ _ self s=>Option.rec (motive:=fun _=>Option (Ex×St)) none (fun r=>Ex.rec (motive:=fun _=>Option (Ex×St)) (self (.loop b) r.2) (fun i=>some (.exit i,r.2)) (some (.ret,r.2)) r.1) (self b s))
 (fun _ _ _ _ _ _ _ _ _=>none)
 (fun id _ _ s=>some (.exit id,s))
 (fun b _ _ self s=>self b s)
 (fun _ _ _ s=>some (.normal,s))
 (fun _ _ _ _=>none)
 (fun _ _ s=>some (.ret,s))
 (fun _ _ _ _=>none) c
theorem Gb (C:bX)(self:Self)(c:Code)(s:St): An c C self s=evStep C self c s:=by
 cases c with
 | region id ops draw =>
  show (Option.rec (motive:=fun _=>Option (Ex×St)) none (fun s=>some (.normal,s)) (Bool.rec (motive:=fun _=>Option St) (rZ C self ops.toList ops.toList s) (jC C self ops.toList s) draw):Option (Ex×St))=_
  rw [Ik]
  cases draw with
  | true=>simp only [evStep,af]; cases jC C self ops.toList s <;> rfl
  | false=>simp only [evStep,ay]; cases evOps C self ops.toList ops.toList s <;> rfl
 | seq a b =>
  show (Option.rec (motive:=fun _=>Option (Ex×St)) none (fun r=>Ex.rec (motive:=fun _=>Option (Ex×St)) (self b r.2) (fun i=>some (.exit i,r.2)) (some (.ret,r.2)) r.1) (self a s):Option (Ex×St))=_
  simp only [evStep]
  cases self a s with
  | none=>rfl
  | some r=>obtain ⟨ex,s'⟩:=r; cases ex <;> rfl
 | loop b =>
  show (Option.rec (motive:=fun _=>Option (Ex×St)) none (fun r=>Ex.rec (motive:=fun _=>Option (Ex×St)) (self (.loop b) r.2) (fun i=>some (.exit i,r.2)) (some (.ret,r.2)) r.1) (self b s):Option (Ex×St))=_
  simp only [evStep]
  cases self b s with
  | none=>rfl
  | some r=>obtain ⟨ex,s'⟩:=r; cases ex <;> rfl
 | _=>rfl
def r5 (C:bX)(n:Nat): Code→St→Option (Ex×St) :=
 Nat.rec (motive:=fun _=>Code→St→Option (Ex×St)) (fun _ _=>none) (fun _ I c s=>An c C I s) n
theorem pY (C:bX): ∀n,r5 C n=ev C n:=by
 intro n
 induction n with
 | zero=>rfl
 | succ n I =>
  funext c s
  show An c C (r5 C n) s=evStep C (ev C n) c s
  rw [I,Gb]
end
def crcStep : Nat→Nat→Nat
 | r,0=>r
 | r,k+1=>crcStep (cond (Nat.beq (r%2) 1) (Nat.xor (r/2) 3988292384) (r/2)) k
def crcL : Nat→List Nat→Nat
 | r,[]=>r
 | r,b::l=>crcL (crcStep (Nat.xor r b) 8) l
def bytesIn : List V→Option (List Nat)
 | []=>some []
 | .int .u8 n::l=>cond (decide (0≤n)&&decide (n<256)) (match bytesIn l with
  | some m=>some (n.toNat::m)
  | none=>none) none
 | _=>none
def pZ (s:Int)(l:List Nat): V:=.int .u32 ((Nat.xor (crcL (Nat.xor s.toNat 4294967295) l) 4294967295:Nat):Int)
noncomputable def toldMore : List V→H→Option (V×H)
 | [.int .u32 s,.sl id off len _],h=>cond (decide (0≤s)&&decide (s<4294967296)&&Nat.ble len 4611686018427387904) (match rdN h id off len with
  | some cs=>match bytesIn cs with
   | some l=>some (pZ s l,h)
   | none=>none
  | none=>none) none
 | [.int .u32 s,.bu],h=>cond (decide (0≤s)&&decide (s<4294967296)) (some (pZ s [],h)) none
 | [.int .u32 s,.sle _],h=>cond (decide (0≤s)&&decide (s<4294967296)) (some (pZ s [],h)) none
 | _,_=>none
theorem wrap_u32 {n:Nat}(h:n<4294967296): IntKind.wrap .u32 (n:Int)=(n:Int):=by
 simp only [IntKind.wrap,IntKind.bits,IntKind.signed,fK,dI,bC]
 omega
theorem uj {n:Nat}(h:n<4294967296): ((n:Int)%(2^(IntKind.u32).bits:Int)).toNat=n:=by
 simp only [IntKind.bits]
 omega
theorem lG {a b:Nat}(I:a<4294967296)(J:b<4294967296): Nat.xor a b<4294967296:=Nat.xor_lt_two_pow (n:=32) I J
theorem sO {a b:Nat}(I:a<4294967296)(J:b<4294967296): intV .xor .u32 (a:Int) (b:Int)=some (.int .u32 ((Nat.xor a b:Nat):Int)):=by
 simp only [intV,bitsV]
 rw [uj I,uj J,wrap_u32 (lG I J)]
theorem Il {a:Nat}(I:a<4294967296): intV .and .u32 (a:Int) 1=some (.int .u32 ((a%2:Nat):Int)):=by
 have J:((1:Int)%(2^(IntKind.u32).bits:Int)).toNat=1:=by simp [IntKind.bits]
 simp only [intV,bitsV]
 rw [uj I,J]
 have:Nat.land a 1=a%2:=Nat.and_one_is_mod a
 rw [this,wrap_u32 (by omega)]
theorem yb {a:Nat}: shiftV .shr .u32 (a:Int) 1=some (.int .u32 ((a/2:Nat):Int)):=by
 simp only [shiftV,IntKind.bits]
 have:(Int.toNat 1)=1:=rfl
 simp [this,y8]
theorem M9 {c:Ctx}{σ:H}{w:World}{id off k:Nat}{vs:List V}(h:Rel c σ w)(I:rdN σ id off k=some vs): vs.length=k∧∀j,j<k→th σ id (off+j)=vs[j]?:=by
 unfold rdN at I
 split at I
 ·rename_i n cs st hg
  have hn:n=cs.length:=(h.obj id _ hg).1
  cases hq:Nat.ble (off+k) n with
  | false=>rw [hq] at I; cases I
  | true =>
   rw [hq,af] at I
   have hle:=aE.1 hq
   simp only [aj] at I
   cases J:(Nat.beq off 0&&Nat.beq k n) with
   | true =>
    rw [J,af] at I
    simp only [aG,beq_iff] at J
    subst I
    refine ⟨by omega,fun j _ => ?_⟩
    unfold th
    rw [hg]
    simp only [fh,J.1,dB]
   | false =>
    rw [J,ay] at I
    subst I
    refine ⟨by simp; omega,fun j hj => ?_⟩
    unfold th
    rw [hg]
    simp only [fh]
    rw [jx,ax hj,jy]
 ·cases I
def unblk : Code→Code
 | .block _ c=>c
 | c=>c
def unloop : Code→Code
 | .loop c=>c
 | c=>c
noncomputable def gH : Code:=(Tryz.f178.body).getD .skip
noncomputable def gO : Code:=unloop (unblk (cq (leftC (cq (cq gH)))))
noncomputable def ku : Code:=unblk (leftC (cq (cq gO)))
noncomputable def lH : Code:=unloop (unblk (cq (cq (cq ku))))
theorem eH (C:bX)(n:Nat)(c:Code)(s:St): ev C (n+1) c s=evStep C (ev C n) c s:=rfl
theorem wrap_i64 {n:Nat}(h:n<9223372036854775808): IntKind.wrap .i64 (n:Int)=(n:Int):=by
 have I:((n:Int)%(2^(IntKind.i64).bits:Int))=(n:Int):=by simp only [IntKind.bits]; omega
 have J:¬ ((n:Int)≥(2^((IntKind.i64).bits-1):Int)):=by simp only [IntKind.bits]; omega
 simp only [IntKind.wrap,I,J,l8,zZ,dI,bC]
theorem uk {n:Nat}(h:n<9223372036854775807): intV .add .i64 (n:Int) 1=some (.int .i64 ((n+1:Nat):Int)):=by
 have:((n:Int)+1)=((n+1:Nat):Int):=by omega
 simp only [intV,this,wrap_i64 (show n+1<9223372036854775808 by omega)]
section
variable {C:bX} {self:Self}
theorem bx {L rest:List Oper}{o:Oper}{d:Nat}{env:Env}{n:Nat}{h:H}(J:o.guard=none)(hd:o.dst=some d)(I:Nat.blt d n=true):
  evOps C self L (o::rest) ⟨env,n,h⟩=(evOp C self env h o).bind fun r=>evOps C self L rest ⟨env.set d (some r.1),n,r.2⟩:=by
 simp only [evOps,wantedV,J,af]
 cases evOp C self env h o with
 | none=>rfl
 | some r=>simp only [St.put,hd,I,af,bR]
end
noncomputable def OZ : Code:=leftC lH
noncomputable def qI : Code:=cq (cq lH)
noncomputable def O0 : Code:=leftC (unblk (leftC qI))
noncomputable def O1 : Code:=cq (unblk (leftC qI))
noncomputable def Kt : Code:=cq qI
section
variable {C:bX} (n:Nat) (env:Env) (h:H)
theorem Im {j:Nat}(I:T.get env 20=some (.int .i64 j)): ev C (n+1) OZ ⟨env,34,h⟩=some (.normal,⟨env.set 21 (some (.bool (decide ((j:Int)<8)))),34,h⟩):=by
 simp only [OZ,lH,ku,gO,gH,Tryz.f178,dV,leftC,cq,unblk,unloop,eH,evStep,ay]
 rw [bx rfl rfl rfl]
 simp only [evOp,evO,Env.v,I,ofValue,ofScalar,binV,ikBeq,af,intV,aK,bR,evOps]
theorem O2 {x:Nat}(J:x<4294967296)(h5:T.get env 5=some (.int .u32 x)):
  ∃I,ev C (n+1) O0 ⟨env,34,h⟩=some (.normal,⟨I,34,h⟩)∧T.get I 24=some (.bool (Nat.beq (x%2) 1))∧∀t,t≠22→t≠23→t≠24→T.get I t=T.get env t:=by
 refine ⟨((env.set 22 (some (.int .u32 x))).set 23 (some (.int .u32 ((x%2:Nat):Int)))).set 24 (some (.bool (Nat.beq (x%2) 1))),?_,by simp [aJ],fun t h1 h2 h3=>by simp [aJ,h1,h2,h3]⟩
 simp only [O0,qI,lH,ku,gO,gH,Tryz.f178,dV,leftC,cq,unblk,unloop,eH,evStep,ay]
 rw [bx rfl rfl rfl]
 simp only [evOp,evO,Env.v,h5,aK,bR]
 rw [bx rfl rfl rfl]
 simp only [evOp,evO,Env.v,aJ,bz,ofValue,ofScalar,binV,ikBeq,af,Il J,aK,bR]
 rw [bx rfl rfl rfl]
 simp only [evOp,evO,Env.v,aJ,bz,ofValue,ofScalar,binV,ikBeq,af,intV,aK,bR,evOps]
 rfl
theorem Io {x:Nat}(I:x<4294967296): Nat.xor (x/2) 3988292384<4294967296:=lG (by omega) (by omega)
theorem O3 {x:Nat}{b:Bool}(hx:x<4294967296)(h5:T.get env 5=some (.int .u32 x))(I:T.get env 24=some (.bool b)):
  ∃J,ev C (n+2) O1 ⟨env,34,h⟩=some (.normal,⟨J,34,h⟩)∧T.get J 5=some (.int .u32 ((cond b (Nat.xor (x/2) 3988292384) (x/2):Nat):Int))∧∀t,t<25→t≠5→T.get J t=T.get env t:=by
 simp only [O1,qI,lH,ku,gO,gH,Tryz.f178,dV,leftC,cq,unblk,unloop,eH,evStep,evO,Env.v,I]
 cases b with
 | true =>
  refine ⟨(((env.set 25 (some (.int .u32 x))).set 26 (some (.int .u32 ((x/2:Nat):Int)))).set 27 (some (.int .u32 ((Nat.xor (x/2) 3988292384:Nat):Int)))).set 5 (some (.int .u32 ((Nat.xor (x/2) 3988292384:Nat):Int))),?_,by simp [aJ],fun t h1 h2 => ?_⟩
  ·simp only [af,ay]
   rw [bx rfl rfl rfl]
   simp only [evOp,evO,Env.v,h5,aK,bR]
   rw [bx rfl rfl rfl]
   simp only [evOp,evO,Env.v,aJ,bz,ofValue,ofScalar,binV,yb,aK,bR]
   rw [bx rfl rfl rfl]
   have:=sO (a:=x/2) (b:=3988292384) (by omega) (by omega)
   rw [show ((3988292384:Nat):Int)=3988292384 from rfl] at this
   simp only [evOp,evO,Env.v,aJ,bz,ofValue,ofScalar,binV,ikBeq,af,this,aK,bR]
   rw [bx rfl rfl rfl]
   simp only [evOp,evO,Env.v,aJ,bz,aK,bR,evOps]
  ·have a1:t≠25:=by omega
   have a2:t≠26:=by omega
   have a3:t≠27:=by omega
   simp [aJ,h2,a1,a2,a3]
 | false =>
  refine ⟨((env.set 28 (some (.int .u32 x))).set 29 (some (.int .u32 ((x/2:Nat):Int)))).set 5 (some (.int .u32 ((x/2:Nat):Int))),?_,by simp [aJ],fun t h1 h2 => ?_⟩
  ·simp only [ay]
   rw [bx rfl rfl rfl]
   simp only [evOp,evO,Env.v,h5,aK,bR]
   rw [bx rfl rfl rfl]
   simp only [evOp,evO,Env.v,aJ,bz,ofValue,ofScalar,binV,yb,aK,bR]
   rw [bx rfl rfl rfl]
   simp only [evOp,evO,Env.v,aJ,bz,aK,bR,evOps]
  ·have a1:t≠28:=by omega
   have a2:t≠29:=by omega
   simp [aJ,h2,a1,a2]
theorem M_ {j:Nat}(hj:j<8)(I:T.get env 20=some (.int .i64 j)):
  ∃J,ev C (n+1) Kt ⟨env,34,h⟩=some (.normal,⟨J,34,h⟩)∧T.get J 20=some (.int .i64 ((j+1:Nat):Int))∧∀t,t≠20→t≠30→T.get J t=T.get env t:=by
 refine ⟨(env.set 30 (some (.int .i64 ((j+1:Nat):Int)))).set 20 (some (.int .i64 ((j+1:Nat):Int))),?_,by simp [aJ],fun t h1 h2=>by simp [aJ,h1,h2]⟩
 simp only [Kt,qI,lH,ku,gO,gH,Tryz.f178,dV,leftC,cq,unblk,unloop,eH,evStep,ay]
 rw [bx rfl rfl rfl]
 simp only [evOp,evO,Env.v,I,ofValue,ofScalar,binV,ikBeq,af,uk (show j<9223372036854775807 by omega),aK,bR]
 rw [bx rfl rfl rfl]
 simp only [evOp,evO,Env.v,aJ,bz,aK,bR,evOps]
section
variable {n:Nat} {s s':St}
theorem gP {a b:Code}(I:ev C n a s=some (.normal,s')): ev C (n+1) (.seq a b) s=ev C n b s':=by rw [eH]; simp only [evStep,I]
theorem qZ {a b:Code}{i:Nat}(I:ev C n a s=some (.exit i,s')): ev C (n+1) (.seq a b) s=some (.exit i,s'):=by rw [eH]; simp only [evStep,I]
theorem r6 {x:Operand}{a b:Code}{t:Bool}(I:evO s.env x=some (.bool t)): ev C (n+1) (.cond x a b) s=ev C n (cond t a b) s:=by rw [eH]; simp only [evStep,I]
theorem Cl {i:Nat}{c:Code}(h:ev C n c s=some (.normal,s')): ev C (n+1) (.block i c) s=some (.normal,s'):=by rw [eH]; simp only [evStep,h]
theorem tC {i:Nat}{c:Code}(h:ev C n c s=some (.exit i,s')): ev C (n+1) (.block i c) s=some (.normal,s'):=by rw [eH]; simp only [evStep,h,dc,af]
theorem EO {b:Code}(h:ev C n b s=some (.normal,s')): ev C (n+1) (.loop b) s=ev C n (.loop b) s':=by rw [eH]; simp only [evStep,h]
theorem p9 {b:Code}{i:Nat}(h:ev C n b s=some (.exit i,s')): ev C (n+1) (.loop b) s=some (.exit i,s'):=by rw [eH]; simp only [evStep,h]
end
theorem A3 : lH=.seq OZ (.seq (.cond (.tmp 21) .skip (.exit 2)) qI):=rfl
theorem Ku : qI=.seq (.block 3 (.seq O0 O1)) Kt:=rfl
theorem Gc {x j:Nat}(hx:x<4294967296)(hj:j<8)(h5:T.get env 5=some (.int .u32 x))(RY:T.get env 20=some (.int .i64 j)):
  ∃e',ev C (n+9) lH ⟨env,34,h⟩=some (.normal,⟨e',34,h⟩)∧T.get e' 5=some (.int .u32 ((crcStep x 1:Nat):Int))∧T.get e' 20=some (.int .i64 ((j+1:Nat):Int)) ∧
   ∀t,t<20→t≠5→T.get e' t=T.get env t:=by
 have bk:decide ((j:Int)<8)=true:=by simp; omega
 have q7:=Im (C:=C) (n+7) env h RY
 rw [bk] at q7
 have g5:T.get (env.set 21 (some (.bool true))) 5=some (.int .u32 x):=by simp [aJ,h5]
 obtain ⟨e8,q8,UI,J⟩:=O2 (C:=C) (n+3) (env.set 21 (some (.bool true))) h hx g5
 have UJ:T.get e8 5=some (.int .u32 x):=by rw [J 5 (by omega) (by omega) (by omega),g5]
 obtain ⟨e9,q9,UK,RZ⟩:=O3 (C:=C) (n+2) e8 h hx UJ UI
 have UL:T.get e9 20=some (.int .i64 j):=by
  rw [RZ 20 (by omega) (by omega),J 20 (by omega) (by omega) (by omega)]
  simp [aJ,RY]
 obtain ⟨UM,UN,Tn,I⟩:=M_ (C:=C) (n+5) e9 h hj UL
 refine ⟨UM,?_,?_,Tn,fun t h1 h2 => ?_⟩
 ·rw [A3,gP q7,gP (s':=⟨env.set 21 (some (.bool true)),34,h⟩) (by rw [r6 (t:=true) (by simp [evO,Env.v,aJ])]; rfl),Ku,
   gP (Cl (by rw [gP q8]; exact q9)),UN]
 ·rw [I 5 (by omega) (by omega),UK]
  simp only [crcStep]
 ·rw [I t (by omega) (by omega),RZ t (by omega) h2,J t (by omega) (by omega) (by omega)]
  have:t≠21:=by omega
  simp [aJ,this]
theorem Gd : ∀(k n:Nat) (env:Env) (x:Nat),k≤8→x<4294967296→T.get env 5=some (.int .u32 x)→T.get env 20=some (.int .i64 ((8-k:Nat):Int)) →
  ∃J,ev C (n+10+k) (.loop lH) ⟨env,34,h⟩=some (.exit 2,⟨J,34,h⟩)∧T.get J 5=some (.int .u32 ((crcStep x k:Nat):Int))∧∀t,t<20→t≠5→T.get J t=T.get env t:=by
 intro k
 induction k with
 | zero =>
  intro n env x _ hx h5 I
  have q7:=Im (C:=C) (n+7) env h I
  refine ⟨env.set 21 (some (.bool false)),?_,by simp [aJ,h5,crcStep],fun t h1 h2 => ?_⟩
  ·rw [iC]
   refine p9 ?_
   rw [A3,gP q7]
   exact qZ (by rw [r6 (t:=false) (by simp [evO,Env.v,aJ])]; rfl)
  ·have:t≠21:=by omega
   simp [aJ,this]
 | succ k ih =>
  intro n env x hk hx h5 I
  obtain ⟨e1,q1,q2,q3,q4⟩:=Gc (C:=C) (n+1+k) env h hx (show 8-(k+1)<8 by omega) h5 I
  have h8:8-(k+1)+1=8-k:=by omega
  rw [h8] at q3
  have EP:crcStep x 1<4294967296:=by
   simp only [crcStep]
   cases Nat.beq (x%2) 1 with
   | true=>exact Io hx
   | false=>simp only [ay]; omega
  obtain ⟨e2,p1,p2,p3⟩:=ih n e1 (crcStep x 1) (by omega) EP q2 q3
  refine ⟨e2,?_,?_,fun t h1 h2=>by rw [p3 t h1 h2,q4 t h1 h2]⟩
  ·rw [show n+10+(k+1)=(n+1+k+9)+1 from by omega,EO q1,show n+1+k+9=n+10+k from by omega]
   exact p1
  ·rw [p2]; simp only [crcStep]
end
noncomputable def O4 : Code:=leftC gO
noncomputable def BM : Code:=cq (cq gO)
noncomputable def Kv : Code:=cq BM
noncomputable def O5 : Code:=leftC ku
noncomputable def O6 : Code:=leftC (cq ku)
noncomputable def O7 : Code:=leftC (cq (cq ku))
theorem Kw : ku=.seq O5 (.seq O6 (.seq O7 (.block 2 (.loop lH)))):=rfl
theorem um : gO=.seq O4 (.seq (.cond (.tmp 13) .skip (.exit 0)) BM):=rfl
theorem Kx : BM=.seq (.block 1 ku) Kv:=rfl
theorem dA : br Tryz.prog 5=some 1:=by kernel_rfl
theorem ER : b6 Tryz.prog 5=some false:=by kernel_rfl
section
variable {told:cK} (n:Nat) (env:Env) (h:H)
theorem Cm {i len:Nat}(I:T.get env 12=some (.int .i64 i))(J:T.get env 11=some (.int .i64 len)):
  ev ⟨Tryz.prog,told⟩ (n+1) O4 ⟨env,34,h⟩=some (.normal,⟨env.set 13 (some (.bool (decide ((i:Int)<(len:Int))))),34,h⟩):=by
 simp only [O4,gO,gH,Tryz.f178,dV,leftC,cq,unblk,unloop,eH,evStep,ay]
 rw [bx rfl rfl rfl]
 simp only [evOp,evO,Env.v,J,I,binV,ikBeq,af,intV,aK,bR,evOps]
theorem O8 {i id off len b:Nat}{cap:Cap}(hi:i<len)(I:T.get env 12=some (.int .i64 i))(J:T.get env 10=some (.sl id off len cap))(hb:th h id (off+i)=some (.int .u8 b)):
  ∃e',ev ⟨Tryz.prog,told⟩ (n+1) O5 ⟨env,34,h⟩=some (.normal,⟨e',34,h⟩)∧T.get e' 7=some (.int .u8 b)∧∀t,t≠7→t≠14→t≠15→T.get e' t=T.get env t:=by
 refine ⟨((env.set 14 (some (.ptr id (off+i)))).set 15 (some (.int .u8 b))).set 7 (some (.int .u8 b)),?_,by simp [aJ],fun t h1 h2 h3=>by simp [aJ,h1,h2,h3]⟩
 simp only [O5,ku,gO,gH,Tryz.f178,dV,leftC,cq,unblk,unloop,eH,evStep,ay]
 rw [bx rfl rfl rfl]
 have d1:decide ((0:Int)≤(i:Int))=true:=by simp
 have d2:decide ((i:Int)<(len:Int))=true:=by simp; exact hi
 simp only [evOp,evO,Env.v,J,I,indexAddrV,aI,dA,d1,d2,gW,af,cW,c6,aK,bR]
 rw [bx rfl rfl rfl]
 simp only [evOp,evO,Env.v,aJ,bz,loadV,ER,hb,aK,bR]
 rw [bx rfl rfl rfl]
 simp only [evOp,evO,Env.v,aJ,bz,aK,bR,evOps]
theorem O9 {x b:Nat}(hx:x<4294967296)(hb:b<256)(h5:T.get env 5=some (.int .u32 x))(h7:T.get env 7=some (.int .u8 b)):
  ∃I,ev ⟨Tryz.prog,told⟩ (n+1) O6 ⟨env,34,h⟩=some (.normal,⟨I,34,h⟩)∧T.get I 5=some (.int .u32 ((Nat.xor x b:Nat):Int))∧∀t,t<16→t≠5→T.get I t=T.get env t:=by
 refine ⟨((((env.set 16 (some (.int .u32 x))).set 17 (some (.int .u8 b))).set 18 (some (.int .u32 b))).set 19 (some (.int .u32 ((Nat.xor x b:Nat):Int)))).set 5 (some (.int .u32 ((Nat.xor x b:Nat):Int))),?_,by simp [aJ],fun t h1 h2 => ?_⟩
 ·simp only [O6,ku,gO,gH,Tryz.f178,dV,leftC,cq,unblk,unloop,eH,evStep,ay]
  rw [bx rfl rfl rfl]
  simp only [evOp,evO,Env.v,h5,aK,bR]
  rw [bx rfl rfl rfl]
  have g7:T.get (env.set 16 (some (.int .u32 x))) 7=some (.int .u8 b):=by simp [aJ,h7]
  simp only [evOp,evO,Env.v,g7,aK,bR]
  rw [bx rfl rfl rfl]
  simp only [evOp,evO,Env.v,aJ,bz,convV,Tryz.underlying5,Tryz.underlying231,wrap_u32 (show b<4294967296 by omega),bR]
  rw [bx rfl rfl rfl]
  have J:T.get (((env.set 16 (some (.int .u32 x))).set 17 (some (.int .u8 b))).set 18 (some (.int .u32 b))) 16=some (.int .u32 x):=by simp [aJ]
  have UO:T.get (((env.set 16 (some (.int .u32 x))).set 17 (some (.int .u8 b))).set 18 (some (.int .u32 b))) 18=some (.int .u32 b):=by simp [aJ]
  simp only [evOp,evO,Env.v,J,UO,binV,ikBeq,af,sO hx (show b<4294967296 by omega),aK,bR]
  rw [bx rfl rfl rfl]
  simp only [evOp,evO,Env.v,aJ,bz,aK,bR,evOps]
 ·have a1:t≠16:=by omega
  have a2:t≠17:=by omega
  have a3:t≠18:=by omega
  have a4:t≠19:=by omega
  simp [aJ,h2,a1,a2,a3,a4]
theorem O_ : ev ⟨Tryz.prog,told⟩ (n+1) O7 ⟨env,34,h⟩=some (.normal,⟨env.set 20 (some (.int .i64 0)),34,h⟩):=by
 simp only [O7,ku,gO,gH,Tryz.f178,dV,leftC,cq,unblk,unloop,eH,evStep,ay]
 rw [bx rfl rfl rfl]
 simp only [evOp,evO,ofValue,ofScalar,aK,bR,evOps]
theorem Na {i:Nat}(hi:i<9223372036854775807)(I:T.get env 12=some (.int .i64 i)):
  ∃J,ev ⟨Tryz.prog,told⟩ (n+1) Kv ⟨env,34,h⟩=some (.normal,⟨J,34,h⟩)∧T.get J 12=some (.int .i64 ((i+1:Nat):Int))∧∀t,t≠12→t≠31→T.get J t=T.get env t:=by
 refine ⟨(env.set 31 (some (.int .i64 ((i+1:Nat):Int)))).set 12 (some (.int .i64 ((i+1:Nat):Int))),?_,by simp [aJ],fun t h1 h2=>by simp [aJ,h1,h2]⟩
 simp only [Kv,BM,gO,gH,Tryz.f178,dV,leftC,cq,unblk,unloop,eH,evStep,ay]
 rw [bx rfl rfl rfl]
 simp only [evOp,evO,Env.v,I,ofValue,ofScalar,binV,ikBeq,af,uk hi,aK,bR]
 rw [bx rfl rfl rfl]
 simp only [evOp,evO,Env.v,aJ,bz,aK,bR,evOps]
theorem yc : ∀(k x:Nat),x<4294967296→crcStep x k<4294967296:=by
 intro k
 induction k with
 | zero=>intro x I; exact I
 | succ k J =>
  intro x I
  simp only [crcStep]
  refine J _ ?_
  cases Nat.beq (x%2) 1 with
  | true=>exact Io I
  | false=>simp only [ay]; omega
theorem Ky {x i id off len b:Nat}{cap:Cap}(hx:x<4294967296)(hb:b<256)(hi:i<len)(h5:T.get env 5=some (.int .u32 x))(J:T.get env 12=some (.int .i64 i))(Ip:T.get env 10=some (.sl id off len cap))
 (hr:th h id (off+i)=some (.int .u8 b)):
  ∃e',ev ⟨Tryz.prog,told⟩ (n+22) ku ⟨env,34,h⟩=some (.normal,⟨e',34,h⟩)∧T.get e' 5=some (.int .u32 ((crcStep (Nat.xor x b) 8:Nat):Int))∧∀t,t=10∨t=11∨t=12→T.get e' t=T.get env t:=by
 obtain ⟨e4,q4,Pa,I⟩:=O8 (told:=told) (n+20) env h hi J Ip hr
 obtain ⟨e5,q5,UP,UQ⟩:=O9 (told:=told) (n+19) e4 h hx hb (by rw [I 5 (by omega) (by omega) (by omega)]; exact h5) Pa
 have q6:=O_ (told:=told) (n+18) e5 h
 obtain ⟨e2,q2,Iq,A4⟩:=Gd (C:=⟨Tryz.prog,told⟩) h 8 n (e5.set 20 (some (.int .i64 0))) (Nat.xor x b) (by omega) (lG hx (by omega)) (by simp [aJ,UP]) (by simp [aJ])
 refine ⟨e2,?_,Iq,fun t ht => ?_⟩
 ·rw [Kw,gP q4,gP q5,gP q6]
  exact tC q2
 ·rw [A4 t (by omega) (by omega)]
  have:t≠20:=by omega
  simp only [aJ,this,bC]
  rw [UQ t (by omega) (by omega),I t (by omega) (by omega) (by omega)]
theorem Ge {id off len:Nat}{cap:Cap}(hlen:len<9223372036854775807): ∀(l:List Nat) (i n:Nat) (env:Env) (x:Nat),i+l.length=len→x<4294967296→(∀b∈l,b<256) →
  (∀j b:Nat,l[j]?=some b→th h id (off+(i+j))=some (.int .u8 (b:Int)))→T.get env 5=some (.int .u32 x)→T.get env 12=some (.int .i64 i)→T.get env 10=some (.sl id off len cap)→T.get env 11=some (.int .i64 len) →
  ∃e',ev ⟨Tryz.prog,told⟩ (n+30+l.length) (.loop gO) ⟨env,34,h⟩=some (.exit 0,⟨e',34,h⟩)∧T.get e' 5=some (.int .u32 ((crcL x l:Nat):Int)):=by
 intro l
 induction l with
 | nil =>
  intro i n env x hi hx _ _ h5 I Ip J
  have q3:=Cm (told:=told) (n+27) env h I J
  have hd:decide ((i:Int)<(len:Int))=false:=by simp at hi ⊢; omega
  rw [hd] at q3
  refine ⟨env.set 13 (some (.bool false)),?_,by simp [aJ,h5,crcL]⟩
  refine p9 ?_
  rw [um,gP q3]
  exact qZ (by rw [r6 (t:=false) (by simp [evO,Env.v,aJ])]; rfl)
 | cons b l ih =>
  intro i n env x hi hx L8 fT h5 I Ip J
  simp only [aQ] at hi
  have q3:=Cm (told:=told) (n+l.length+28) env h I J
  have hd:decide ((i:Int)<(len:Int))=true:=by simp; omega
  rw [hd] at q3
  have hb:b<256:=L8 b (by simp)
  have hr:=fT 0 b (by simp)
  rw [iC] at hr
  obtain ⟨e1,q1,L9,Ir⟩:=Ky (told:=told) (cap:=cap) (n+l.length+4) (env.set 13 (some (.bool true))) h hx hb (show i<len by omega) (by simp [aJ,h5]) (by simp [aJ,I]) (by simp [aJ,Ip]) hr
  obtain ⟨e2,q2,Iq,A4⟩:=Na (told:=told) (n+l.length+26) e1 h (show i<9223372036854775807 by omega) (by rw [Ir 12 (by omega)]; simp [aJ,I])
  have iI:crcStep (Nat.xor x b) 8<4294967296:=yc 8 _ (lG hx (by omega))
  obtain ⟨e3,UR,Pb⟩:=ih (i+1) n e2 (crcStep (Nat.xor x b) 8) (by omega) iI (fun c hc=>L8 c (by simp [hc])) (fun j c hj=>by
   have:=fT (j+1) c (by simpa using hj)
   rwa [show i+(j+1)=i+1+j from by omega] at this) (by rw [A4 5 (by omega) (by omega)]; exact L9) Iq (by rw [A4 10 (by omega) (by omega),Ir 10 (by omega)]; simp [aJ,Ip]) (by rw [A4 11 (by omega) (by omega),Ir 11 (by omega)]; simp [aJ,J])
  refine ⟨e3,?_,by rw [Pb]; simp only [crcL]⟩
  have Pc:ev ⟨Tryz.prog,told⟩ (n+l.length+30) gO ⟨env,34,h⟩=some (.normal,⟨e2,34,h⟩):=by
   rw [um,gP q3,gP (s':=⟨env.set 13 (some (.bool true)),34,h⟩) (by rw [r6 (t:=true) (by simp [evO,Env.v,aJ])]; rfl),Kx,
    gP (Cl q1),q2]
  rw [aQ,show n+30+(l.length+1)=(n+l.length+30)+1 from by omega,EO Pc,show n+l.length+30=n+30+l.length from by omega]
  exact UR
noncomputable def Pd : Code:=leftC gH
noncomputable def Pe : Code:=leftC (cq gH)
noncomputable def Pf : Code:=leftC (leftC (cq (cq gH)))
noncomputable def Kz : Code:=cq (cq (cq gH))
theorem KA : gH=.seq Pd (.seq Pe (.seq (.seq Pf (.block 0 (.loop gO))) Kz)):=rfl
theorem Pg : ev ⟨Tryz.prog,told⟩ (n+1) Pd ⟨env,34,h⟩=some (.normal,⟨env.set 4 (some (.int .u32 0)),34,h⟩):=by
 simp only [Pd,gH,Tryz.f178,dV,leftC,eH,evStep,ay]
 rw [bx rfl rfl rfl]
 simp only [evOp,evO,ofValue,ofScalar,aK,bR,evOps]
theorem Ph {x:Nat}(J:x<4294967296)(h0:T.get env 0=some (.int .u32 x)):
  ∃I,ev ⟨Tryz.prog,told⟩ (n+1) Pe ⟨env,34,h⟩=some (.normal,⟨I,34,h⟩)∧T.get I 5=some (.int .u32 ((Nat.xor x 4294967295:Nat):Int))∧∀t,t≠5→t≠8→t≠9→T.get I t=T.get env t:=by
 refine ⟨((env.set 8 (some (.int .u32 x))).set 9 (some (.int .u32 ((Nat.xor x 4294967295:Nat):Int)))).set 5 (some (.int .u32 ((Nat.xor x 4294967295:Nat):Int))),?_,by simp [aJ],fun t h1 h2 h3=>by simp [aJ,h1,h2,h3]⟩
 simp only [Pe,gH,Tryz.f178,dV,leftC,cq,eH,evStep,ay]
 rw [bx rfl rfl rfl]
 simp only [evOp,evO,Env.v,h0,aK,bR]
 rw [bx rfl rfl rfl]
 have:=sO (a:=x) (b:=4294967295) J (by omega)
 rw [show ((4294967295:Nat):Int)=4294967295 from rfl] at this
 simp only [evOp,evO,Env.v,aJ,bz,ofValue,ofScalar,binV,ikBeq,af,this,aK,bR]
 rw [bx rfl rfl rfl]
 simp only [evOp,evO,Env.v,aJ,bz,aK,bR,evOps]
theorem Pj {x:V}{len:Nat}(J:T.get env 1=some x)(hl:lenV Tryz.prog h 28 x=some (.int .i64 len)):
  ∃I,ev ⟨Tryz.prog,told⟩ (n+1) Pf ⟨env,34,h⟩=some (.normal,⟨I,34,h⟩)∧T.get I 10=some x∧T.get I 11=some (.int .i64 len)∧T.get I 12=some (.int .i64 ((0:Nat):Int))∧T.get I 5=T.get env 5:=by
 refine ⟨((env.set 10 (some x)).set 11 (some (.int .i64 len))).set 12 (some (.int .i64 0)),?_,by simp [aJ],by simp [aJ],by simp [aJ],by simp [aJ]⟩
 simp only [Pf,gH,Tryz.f178,dV,leftC,cq,eH,evStep,ay]
 rw [bx rfl rfl rfl]
 simp only [evOp,evO,Env.v,J,aK,bR]
 rw [bx rfl rfl rfl]
 simp only [evOp,evCall,evArgs,evO,Env.v,aJ,bz,builtinV,hl,gV,bR]
 rw [bx rfl rfl rfl]
 simp only [evOp,evO,ofValue,ofScalar,aK,bR,evOps]
theorem Nb {x:Nat}(J:x<4294967296)(h5:T.get env 5=some (.int .u32 x)):
  ∃I,ev ⟨Tryz.prog,told⟩ (n+2) Kz ⟨env,34,h⟩=some (.ret,⟨I,34,h⟩)∧T.get I 4=some (.int .u32 ((Nat.xor x 4294967295:Nat):Int)):=by
 refine ⟨((env.set 32 (some (.int .u32 x))).set 33 (some (.int .u32 ((Nat.xor x 4294967295:Nat):Int)))).set 4 (some (.int .u32 ((Nat.xor x 4294967295:Nat):Int))),?_,by simp [aJ]⟩
 simp only [Kz,gH,Tryz.f178,dV,cq,eH,evStep,ay]
 rw [bx rfl rfl rfl]
 simp only [evOp,evO,Env.v,h5,aK,bR]
 rw [bx rfl rfl rfl]
 have:=sO (a:=x) (b:=4294967295) J (by omega)
 rw [show ((4294967295:Nat):Int)=4294967295 from rfl] at this
 simp only [evOp,evO,Env.v,aJ,bz,ofValue,ofScalar,binV,ikBeq,af,this,aK,bR]
 rw [bx rfl rfl rfl]
 simp only [evOp,evO,Env.v,aJ,bz,aK,bR,evOps]
end
theorem Gf : ∀(cs:List V) (l:List Nat),bytesIn cs=some l→cs=l.map (fun (b:Nat)=>V.int .u8 (b:Int))∧∀b∈l,b<256:=by
 intro cs
 induction cs with
 | nil=>intro l h; simp [bytesIn] at h; subst h; simp
 | cons v cs ih =>
  intro l h
  unfold bytesIn at h
  split at h
  ·rename_i he; cases he
  ·rename_i n l' he
   simp only [vm] at he
   obtain ⟨rfl,rfl⟩:=he
   cases I:(decide (0≤n)&&decide (n<256)) with
   | false=>rw [I] at h; cases h
   | true =>
    rw [I,af] at h
    simp only [aG,ej] at I
    cases hm:bytesIn cs with
    | none=>simp [hm] at h
    | some m =>
     simp [hm] at h
     subst h
     obtain ⟨i1,i2⟩:=ih m hm
     refine ⟨?_,fun b J => ?_⟩
     ·simp only [b8,←i1]
      congr 2
      omega
     ·rcases List.mem_cons.1 J with rfl | J
      ·omega
      ·exact i2 b J
  ·cases h
theorem Ao : ∀(l:List Nat) (x:Nat),x<4294967296→(∀b∈l,b<256)→crcL x l<4294967296:=by
 intro l
 induction l with
 | nil=>intro x I _; exact I
 | cons b l ih =>
  intro x I J
  have h1:=J b (by simp)
  exact ih _ (yc 8 _ (lG I (by omega))) (fun c hc=>J c (by simp [hc]))
theorem wW {σ : H} {s : Int} {x : V} {l : List Nat} {len : Nat} (WX : 0 ≤ s) (jO : s < 4294967296) (hl : lenV Tryz.prog σ 28 x = some (.int .i64 len)) (hlen : len = l.length) (gA : len < 9223372036854775807)
  (hb : ∀ b ∈ l, b < 256) (hx : l = [] ∨ ∃ id off cap, x = .sl id off len cap ∧ ∀ j b : Nat, l[j]? = some b → th σ id (off + (0 + j)) = some (.int .u8 (b : Int))) :
  run ⟨Tryz.prog, fun _ => none⟩ (l.length + 40) 178 [.int .u32 s, x] σ = some (pZ s l, σ) := by
 obtain ⟨u, rfl⟩ : ∃ u : Nat, s = (u : Int) := ⟨s.toNat, by omega⟩
 have hu : u < 4294967296 := by omega
 have q0 := Pg (told := fun _ => none) (l.length + 38) (bindArgs [.int .u32 u, x] 0 .lf) σ
 obtain ⟨e1, q1, L9, Ir⟩ := Ph (told := fun _ => none) (l.length + 37) ((bindArgs [.int .u32 u, x] 0 .lf).set 4 (some (.int .u32 0))) σ hu (by simp [aJ, bindArgs])
 obtain ⟨e2, q2, Iq, A4, R1, R2⟩ := Pj (told := fun _ => none) (l.length + 35) e1 σ (x := x) (by rw [Ir 1 (by omega) (by omega) (by omega)]; simp [aJ, bindArgs]) hl
 have I : Nat.xor u 4294967295 < 4294967296 := lG hu (by omega)
 have J : ∃ e', ev ⟨Tryz.prog, fun _ => none⟩ (5 + 30 + l.length) (.loop gO) ⟨e2, 34, σ⟩ = some (.exit 0, ⟨e', 34, σ⟩) ∧ T.get e' 5 = some (.int .u32 ((crcL (Nat.xor u 4294967295) l : Nat) : Int)) := by
  rcases hx with rfl | ⟨id, off, cap, rfl, fT⟩
  ·have q3 := Cm (told := fun _ => none) 32 e2 σ R1 A4
   have hd : decide ((((0 : Nat) : Int)) < (len : Int)) = false := by subst hlen; rfl
   rw [hd] at q3
   refine ⟨e2.set 13 (some (.bool false)), ?_, by simp [aJ, R2, L9, crcL]⟩
   refine p9 ?_
   rw [um, gP q3]
   exact qZ (by rw [r6 (t := false) (by simp [evO, Env.v, aJ])]; rfl)
  ·exact Ge σ gA l 0 5 e2 _ (by omega) I hb fT (by rw [R2]; exact L9) R1 Iq A4
 obtain ⟨e3, q3, Pb⟩ := J
 obtain ⟨e4, q4, Pa⟩ := Nb (told := fun _ => none) (l.length + 35) e3 σ (Ao l _ I hb) Pb
 have QM : ev ⟨Tryz.prog, fun _ => none⟩ (l.length + 40) gH ⟨bindArgs [.int .u32 u, x] 0 .lf, 34, σ⟩ = some (.ret, ⟨e4, 34, σ⟩) := by
  rw [KA, gP q0, gP q1, gP (s' := ⟨e3, 34, σ⟩) (by
   rw [gP q2]
   rw [show 5 + 30 + l.length = l.length + 35 from by omega] at q3
   exact tC q3), q4]
 unfold run callF
 simp only [ya]
 rw [show Tryz.f178.body = some gH from rfl]
 rw [show (Tryz.f178.name == "runtime.NumGoroutine" || Nat.blt Tryz.f178.ntmps [V.int .u32 (u : Int), x].length) = false from rfl]
 simp only [ay]
 rw [show Tryz.f178.ntmps = 34 from rfl, QM]
 simp only
 rw [show Tryz.f178.results = #[.tmp 4] from rfl]
 simp only [mapO, resV, Env.v, Pa, pZ, cW]
section
variable {C:bX} {c:Ctx} {σ:H} {w:World}
theorem DZ (hP:C.P=Tryz.prog)(hm:C.P.follows .mixedOrders=true){args:List V}{v:V}{dH:H}(I:toldMore args σ=some (v,dH))(h:Rel c σ w)(hw:∀x∈args,wf c x):
  fV C.P 178 args c w v dH:=by
 rw [hP] at hm ⊢
 have hT:eU ⟨Tryz.prog,fun _=>none⟩:=fun f g hg=>by cases hg
 unfold toldMore at I
 split at I
 ·rename_i s id off len cap
  cases xT:(decide (0≤s)&&decide (s<4294967296)&&Nat.ble len 4611686018427387904) with
  | false=>rw [xT] at I; cases I
  | true =>
   rw [xT,af] at I
   simp only [aG,ej,aE] at xT
   obtain ⟨J,gA⟩:=xT
   cases fT:rdN σ id off len with
   | none=>simp [fT] at I
   | some cs =>
    simp only [fT] at I
    cases hb:bytesIn cs with
    | none=>simp [hb] at I
    | some l =>
     simp only [hb,aj,aA] at I
     obtain ⟨rfl,rfl⟩:=I
     obtain ⟨b1,b2⟩:=Gf cs l hb
     obtain ⟨d1,d2⟩:=M9 h fT
     have hl:len=l.length:=by rw [←d1,b1]; simp
     refine Ck (C:=⟨Tryz.prog,fun _=>none⟩) hm hT (wW J.1 J.2 (len:=len) (by simp [lenV,aI]) hl (by omega) b2 (.inr ⟨id,off,cap,rfl,fun j b hj => ?_⟩)) h hw
     ·rw [dB,d2 j (by rw [hl]; exact (List.getElem?_eq_some_iff.1 hj).1),b1]
      simp [hj]
 ·rename_i s
  cases J:(decide (0≤s)&&decide (s<4294967296)) with
  | false=>rw [J] at I; cases I
  | true =>
   rw [J,af] at I
   simp only [aG,ej] at J
   simp only [aj,aA] at I
   obtain ⟨rfl,rfl⟩:=I
   exact Ck (C:=⟨Tryz.prog,fun _=>none⟩) hm hT (wW J.1 J.2 (len:=0) (l:=[]) (by simp [lenV,aI]) rfl (by omega) (by simp) (.inl rfl)) h hw
 ·rename_i s _
  cases J:(decide (0≤s)&&decide (s<4294967296)) with
  | false=>rw [J] at I; cases I
  | true =>
   rw [J,af] at I
   simp only [aG,ej] at J
   simp only [aj,aA] at I
   obtain ⟨rfl,rfl⟩:=I
   exact Ck (C:=⟨Tryz.prog,fun _=>none⟩) hm hT (wW J.1 J.2 (len:=0) (l:=[]) (by simp [lenV,aI]) rfl (by omega) (by simp) (.inl rfl)) h hw
 ·cases I
end
end Go.Proofs.YtefepnnfphdkpaaGreat.Am
