/- After a crash the log has the records of the groups that are there and no others, with their numbers and data; the conditions are those of the given statement, for arguments that a machine can hold. Part 13 of 54. -/
import Derived.Test.YtconhghphklfjaaGreatL12
namespace Go.Proofs.YtconhghphklfjaaGreat.Am
open Go
noncomputable section
def JS (v:V): Option (IntKind×Int):=V.rec (motive_1:=fun _=>Option (IntKind×Int)) (motive_2:=fun _=>PUnit)
 (fun _=>none) (fun k n=>some (k,n)) (fun _=>none) none (fun _ _=>none) none (fun _ _ _ _=>none) none (fun _=>none) (fun _ _ _ _ _=>none) none (fun _ _ _=>none) none (fun _ _=>none) (fun _ _=>none) (fun _=>none) (fun _ _=>none) (fun _=>none)
 PUnit.unit (fun _ _ _ _=>PUnit.unit) v
def Cy (k:IntKind): Nat:=IntKind.rec 0 1 2 3 4 5 6 7 k
def HU (op:BinOp): IntKind→Int→Int→Option V:=BinOp.rec (motive:=fun _=>IntKind→Int→Int→Option V)
 (fun k x y=>some (.int k (k.wrap (Int.add x y))))
 (fun k x y=>some (.int k (k.wrap (Int.sub x y))))
 (fun k x y=>intV .mul k x y) (fun k x y=>intV .quo k x y) (fun k x y=>intV .rem k x y)
 (fun k x y=>bitsV .and k x y) (fun k x y=>bitsV .or k x y) (fun k x y=>bitsV .xor k x y)
 (fun k x y=>intV .shl k x y) (fun k x y=>intV .shr k x y) (fun k x y=>bitsV .andNot k x y)
 (fun _ x y=>some (.bool (intBeq x y))) (fun _ x y=>some (.bool (!intBeq x y)))
 (fun _ x y=>some (.bool (decide (x<y)))) (fun _ x y=>some (.bool (decide (x≤y)))) (fun _ x y=>some (.bool (decide (x>y)))) (fun _ x y=>some (.bool (decide (x≥y)))) op
def wF (op:BinOp): Bool:=BinOp.rec (motive:=fun _=>Bool) false false false false false false false false true true false false false false false false false op
def HV (P:Program)(h:H)(op:BinOp)(t:TypeId)(I J:Operand)(x y:V): Option V :=
 Option.rec (motive:=fun _=>Option V) (binV P h op t I J x y)
  (fun a=>Option.rec (motive:=fun _=>Option V) (binV P h op t I J x y)
   (fun b=>Bool.rec (motive:=fun _=>Option V) (Bool.rec (motive:=fun _=>Option V) none (HU op a.1 a.2 b.2) (Nat.beq (Cy a.1) (Cy b.1))) (shiftV op a.1 a.2 b.2) (wF op)) (JS y)) (JS x)
theorem ML (a b:IntKind): Nat.beq (Cy a) (Cy b)=ikBeq a b:=by cases a <;> cases b <;> rfl
theorem KX (op:BinOp)(k:IntKind)(x y:Int): HU op k x y=intV op k x y:=by cases op <;> rfl
theorem KY (P:Program)(h:H)(op:BinOp)(t:TypeId)(I J:Operand)(x y:V): HV P h op t I J x y=binV P h op t I J x y:=by
 cases x <;> try rfl
 cases y <;> try rfl
 rename_i k a j b
 show (Bool.rec (motive:=fun _=>Option V) (Bool.rec (motive:=fun _=>Option V) none (HU op k a b) (Nat.beq (Cy k) (Cy j))) (shiftV op k a b) (wF op):Option V)=_
 rw [ML,KX]
 cases op <;> first
  | rfl
  | (cases U:ikBeq k j <;> simp [binV,U,wF])
def HW (op:Op): cf→Self→Env→H→Option (V×H):=Op.rec (motive:=fun _=>cf→Self→Env→H→Option (V×H))
  (fun x _ _ env h=>aB (evO env x) h)
  (fun x _ _ env h=>aB (evO env x) h)
  (fun c a b _ _ env h=>match evO env c with
  | some (.bool t)=>aB (evO env (cond t a b)) h
  | _=>none)
  (fun t C _ _ h=>match zeroT C.P t with
  | some z=>some (.ptr h.next 0,newRow h z.cells)
  | none=>none)
  (fun _ x _ _ env h=>match evO env x with
  | some v=>cond (v.cells.all storable) (some (.ptr h.next 0,newRow h v.cells)) none
  | none=>none)
  (fun t ps C _ env h=>match evParts env ps.toList with
  | some l=>aB (buildV C.P t l) h
  | none=>none)
  (fun t n ps C _ env h=>match evParts env ps.toList with
  | some l=>buildSliceV C.P h t n l
  | none=>none)
  (fun t m k v C _ env h=>match evO env m,evO env k,evO env v with
  | some a,some b,some c=>jf (mapUpdateV C.P h t a b c)
  | _,_,_=>none)
  (fun t a C _ env h=>match evO env a with
  | some v=>aB (loadV C.P h t v) h
  | none=>none)
  (fun t a x C _ env h=>match evO env a,evO env x with
  | some p,some v=>jf (fl C.P h t p v)
  | _,_=>none)
  (fun _ _ _ _ _=>none)
  (fun _ _ _ _ _=>none)
  (fun x _ _ env h=>match evO env x with
  | some (.ptr a b)=>some (.ptr a b,h)
  | _=>none)
  (fun op t x y _ C _ env h=>match evO env x,evO env y with
  | some a,some b=>aB (HV C.P h op t x y a b) h
  | _,_=>none)
  (fun op _ x _ _ env h=>match evO env x with
  | some a=>aB (unV op a) h
  | none=>none)
  (fun s d x C _ env h=>match evO env x with
  | some a=>match convV C.P h s d a with
   | some r=>some r
   | none=>convB C.P h s d a
  | none=>none)
  (fun d x C _ env h=>match evO env x with
  | some a=>aB (arrPtrV C.P d a) h
  | none=>none)
  (fun t x C _ env h=>match evO env x with
  | some a=>aB (makeIfaceV C.P t a) h
  | none=>none)
  (fun f a b _ _ env h=>match evArgs env a.toList,evArgs env b.toList with
  | some x,some y=>some (.fn f x y,h)
  | _,_=>none)
  (fun _ r _ _ _ h=>match r with
  | none=>some (.map h.next,h.new (.map [] 0))
  | some _=>none)
  (fun _ _ _ _ _ _=>none)
  (fun t l c C _ env h=>match evO env l,evO env c with
  | some a,some b=>makeSliceV C.P h t a b
  | _,_=>none)
  (fun t x lo hi mx C _ env h=>match evO env x,optV env lo,optV env hi,optV env mx with
  | some v,some a,some b,some c=>match er a,er b,er c with
   | some a,some b,some c=>aB (sliceV C.P h t v a b c) h
   | _,_,_=>none
  | _,_,_,_=>none)
  (fun t x i C _ env h=>match evO env x with
  | some v=>aB (fieldAddrV C.P t v i) h
  | none=>none)
  (fun t x i C _ env h=>match evO env x with
  | some v=>aB (kP C.P t v i) h
  | none=>none)
  (fun t x i C _ env h=>match evO env x,evO env i with
  | some v,some j=>aB (indexAddrV C.P t v j) h
  | _,_=>none)
  (fun t x i C _ env h=>match evO env x,evO env i with
  | some v,some j=>aB (indexV C.P t v j) h
  | _,_=>none)
  (fun t x k ok C _ env h=>match evO env x,evO env k with
  | some m,some j=>aB (cV C.P h t m j ok) h
  | _,_=>none)
  (fun t m k v C _ env h=>match evO env m,evO env k,evO env v with
  | some a,some b,some c=>jf (mapUpdateV C.P h t a b c)
  | _,_,_=>none)
  (fun t m k C _ env h=>match evO env m,evO env k with
  | some a,some b=>mapEntryV C.P h t a b
  | _,_=>none)
  (fun _ m s v _ _ env h=>match evO env m,evO env s,evO env v with
  | some a,some b,some c=>jf (entryStoreV h a b c)
  | _,_,_=>none)
  (fun t x C _ env h=>match evO env x with
  | some v=>rangeV C.P h t v
  | none=>none)
  (fun it str _ _ env h=>match evO env it with
  | some v=>cond str (nextS h v) (nextV h v)
  | none=>none)
  (fun it _ _ env h=>match evO env it with
  | some v=>aB (nA h v) h
  | none=>none)
  (fun x _ a ok C _ env h=>match evO env x with
  | some v=>aB (assertV C.P v a ok) h
  | none=>none)
  (fun t i _ _ env h=>match evO env t with
  | some (.aW l)=>aB (nth l i) h
  | _=>none)
  (fun c C self env h=>evCall C self env h c)
  (fun _ _ _ _ _=>none)
  (fun _ _ _ _ _=>none)
  (fun _ _ _ _ _=>none)
  (fun _ _ _ _ _ _=>none)
  (fun _ _ _ _ _ _ _=>none)
  (fun _ _ _ _ _ _=>none) op
theorem KZ (C:cf)(self:Self)(env:Env)(h:H)(o:Oper): HW o.op C self env h=evOp C self env h o:=by
  unfold evOp
  cases o.op <;> first
    | rfl
    | (rename_i op t x y u
       have I:∀(a b:Option V),(match a,b with
         | some a,some b=>aB (HV C.P h op t x y a b) h
         | _,_=>none)=(match a,b with
         | some a,some b=>aB (binV C.P h op t x y a b) h
         | _,_=>none):=fun a b=>by
           cases a <;> cases b <;> first
             | rfl
             | (simp only [KY])
       exact I (evO env x) (evO env y))
def o3 (C:cf)(self:Self)(ops l:List Oper): St→Option St:=List.rec (motive:=fun _=>St→Option St) (fun s=>some s)
 (fun o _ I s=>Bool.rec (motive:=fun _=>Option St) (Option.rec (motive:=fun _=>Option St) none I (s.put o.dst bt s.h))
  (Option.rec (motive:=fun _=>Option St) none (fun r=>Option.rec (motive:=fun _=>Option St) none I (s.put o.dst r.1 r.2)) (HW o.op C self s.env s.h)) (wantedV ops s.env o)) l
theorem FA (C:cf)(self:Self)(ops:List Oper): ∀(l:List Oper) (s:St),o3 C self ops l s=evOps C self ops l s:=by
 intro l
 induction l with
 | nil=>intro s; rfl
 | cons o l I =>
  intro s
  show (Bool.rec (motive:=fun _=>Option St) (Option.rec (motive:=fun _=>Option St) none (o3 C self ops l) (s.put o.dst bt s.h))
   (Option.rec (motive:=fun _=>Option St) none (fun r=>Option.rec (motive:=fun _=>Option St) none (o3 C self ops l) (s.put o.dst r.1 r.2)) (HW o.op C self s.env s.h)) (wantedV ops s.env o):Option St)=_
  rw [KZ,show o3 C self ops l=evOps C self ops l from funext I]
  simp only [evOps]
  cases wantedV ops s.env o with
  | true =>
   cases evOp C self s.env s.h o with
   | none=>rfl
   | some r =>
    obtain ⟨v,h⟩:=r
    show (Option.rec (motive:=fun _=>Option St) none (evOps C self ops l) (s.put o.dst v h):Option St)=_
    simp only [cond_true]
    cases s.put o.dst v h <;> rfl
  | false =>
   simp only [cond_false]
   cases s.put o.dst bt s.h <;> rfl
def wG (c:Code): cf→Self→St→Option (Ex×St):=Code.rec (motive:=fun _=>cf→Self→St→Option (Ex×St))
 (fun _ _ s=>some (.normal,s))
 (fun _ ops draw C self s=>Option.rec (motive:=fun _=>Option (Ex×St)) none (fun s=>some (.normal,s)) (Bool.rec (motive:=fun _=>Option St) (o3 C self ops.toList ops.toList s) (iA C self ops.toList s) draw))
 (fun a b _ _ _ self s=>Option.rec (motive:=fun _=>Option (Ex×St)) none (fun r=>Ex.rec (motive:=fun _=>Option (Ex×St)) (self b r.2) (fun i=>some (.exit i,r.2)) (some (.ret,r.2)) r.1) (self a s))
 (fun x a b _ _ _ self s=>match evO s.env x with
  | some (.bool t)=>self (cond t a b) s
  | _=>none)
 (fun id c _ _ self s=>match self c s with
  | some (.exit i,s')=>cond (Nat.beq i id) (some (.normal,s')) (some (.exit i,s'))
  | r=>r)
 (fun b _ _ self s=>Option.rec (motive:=fun _=>Option (Ex×St)) none (fun r=>Ex.rec (motive:=fun _=>Option (Ex×St)) (self (.loop b) r.2) (fun i=>some (.exit i,r.2)) (some (.ret,r.2)) r.1) (self b s))
 (fun _ _ _ _ _ _ _ _ _=>none)
 (fun id _ _ s=>some (.exit id,s))
 (fun b _ _ self s=>self b s)
 (fun _ _ _ s=>some (.normal,s))
 (fun _ _ _ _=>none)
 (fun _ _ s=>some (.ret,s))
 (fun _ _ _ _=>none) c
theorem DD (C:cf)(self:Self)(c:Code)(s:St): wG c C self s=evStep C self c s:=by
 cases c with
 | region id ops draw =>
  show (Option.rec (motive:=fun _=>Option (Ex×St)) none (fun s=>some (.normal,s)) (Bool.rec (motive:=fun _=>Option St) (o3 C self ops.toList ops.toList s) (iA C self ops.toList s) draw):Option (Ex×St))=_
  rw [FA]
  cases draw with
  | true=>simp only [evStep,cond_true]; cases iA C self ops.toList s <;> rfl
  | false=>simp only [evStep,cond_false]; cases evOps C self ops.toList ops.toList s <;> rfl
 | seq a b =>
  show (Option.rec (motive:=fun _=>Option (Ex×St)) none (fun r=>Ex.rec (motive:=fun _=>Option (Ex×St)) (self b r.2) (fun i=>some (.exit i,r.2)) (some (.ret,r.2)) r.1) (self a s):Option (Ex×St))=_
  simp only [evStep]
  cases self a s with
  | none=>rfl
  | some r=>obtain ⟨ex,s'⟩:=r; cases ex <;> rfl
 | loop b =>
  show (Option.rec (motive:=fun _=>Option (Ex×St)) none (fun r=>Ex.rec (motive:=fun _=>Option (Ex×St)) (self (.loop b) r.2) (fun i=>some (.exit i,r.2)) (some (.ret,r.2)) r.1) (self b s):Option (Ex×St))=_
  simp only [evStep]
  cases self b s with
  | none=>rfl
  | some r=>obtain ⟨ex,s'⟩:=r; cases ex <;> rfl
 | _=>rfl
def Cz (C:cf)(n:Nat): Code→St→Option (Ex×St) :=
 Nat.rec (motive:=fun _=>Code→St→Option (Ex×St)) (fun _ _=>none) (fun _ I c s=>wG c C I s) n
theorem vc (C:cf): ∀n,Cz C n=ev C n:=by
 intro n
 induction n with
 | zero=>rfl
 | succ n I =>
  funext c s
  show wG c C (Cz C n) s=evStep C (ev C n) c s
  rw [I,DD]
def HX (C:cf)(n:Nat)(f:FuncId)(args:List V)(h:H): Option (V×H):=callF C (Cz C n) f args h
theorem K0 (C:cf)(n:Nat)(f:FuncId)(args:List V)(h:H): HX C n f args h=run C n f args h:=by
 unfold HX run
 rw [vc]
end
def leftC : Code→Code
 | .seq a _=>a
 | c=>c
def bH : Code→Code
 | .seq _ b=>b
 | c=>c
end Go.Proofs.YtconhghphklfjaaGreat.Am
namespace Go.Proofs.YtconhghphklfjaaGreat.Am
open Go

/- Heaps compared. -/
def S8 : Option Obj→Option Obj
 | some (.iter _ _ _ _)=>none
 | v=>v
def flatM {α β:Type}(f:α→Option (List β)): List α→Option (List β)
 | []=>some []
 | x::l=>match f x with
  | none=>none
  | some a=>match flatM f l with
   | none=>none
   | some b=>some (a++b)
theorem FB {α β:Type}{f:α→Option (List β)}: ∀(l:List α) (R:List β),flatM f l=some R→∀x∈l,∃r,f x=some r∧∀y∈r,y∈R:=by
 intro l
 induction l with
 | nil=>intro R _ x I; cases I
 | cons z l ih =>
  intro R h x I
  simp only [flatM] at h
  cases J:f z with
  | none=>simp [J] at h
  | some a =>
   cases U:flatM f l with
   | none=>simp [J,U] at h
   | some b =>
    simp only [J,U,Option.some.injEq] at h
    subst h
    rcases List.mem_cons.1 I with rfl | I
    ·exact ⟨a,J,fun y hy=>List.mem_append_left _ hy⟩
    ·obtain ⟨r,h1,h2⟩:=ih b U x I
     exact ⟨r,h1,fun y hy=>List.mem_append_right _ (h2 y hy)⟩
section
variable (C:cf) (self:Self)
noncomputable def opAll (env:Env)(h:H)(o:Oper): Option (List (V×H)):=match o.op with
 | .next it false=>match evO env it with
  | some (.ptr r off)=>cond (Nat.beq off 0) (nextAll h r) none
  | _=>none
 | _=>match evOp C self env h o with
  | some q=>some [q]
  | none=>none
noncomputable def opsAll (ops:List Oper): List Oper→St→Option (List St)
 | [],s=>some [s]
 | o::l,s=>cond (wantedV ops s.env o)
  (match opAll C self s.env s.h o with
   | some I=>flatM (fun q=>match s.put o.dst q.1 q.2 with
    | some s'=>opsAll ops l s'
    | none=>none) I
   | none=>none)
  (match s.put o.dst bt s.h with
   | some s'=>opsAll ops l s'
   | none=>none)
end
section
variable {C:cf} {self:Self}
theorem HY (hS:fH C.P self)(hT:eM C){c:Ctx}{σ:H}{w:World}{env:Env}{a:Act}{o:Oper}{qs:List (V×H)}(h:Rel c σ w)(he:sx c env a o)(I:opAll C self env σ o=some qs):
  (∃q∈qs,pV C.P o a c w q.1 q.2)∧∀d,o.op≠.defer d:=by
 unfold opAll at I
 split at I
 ·rename_i it ho
  refine ⟨?_,fun d hd=>by rw [ho] at hd; cases hd⟩
  split at I
  ·rename_i r off hx
   cases U:Nat.beq off 0 with
   | false=>rw [U] at I; cases I
   | true =>
    rw [U,cond_true] at I
    have:=beq_iff.1 U
    subst this
    obtain ⟨f1,f2⟩:=he it (by simp [ho,Op.operands]) _ hx
    obtain ⟨q,ve,hg⟩:=tL (P:=C.P) h I o.type
    exact ⟨q,ve,cY (s:=Instr.next (conc c (.ptr r 0)) false o.type) (by simp only [execOp,ho,f1]) hg⟩
  ·cases I
 ·cases J:evOp C self env σ o with
  | none=>rw [J] at I; cases I
  | some q =>
   rw [J] at I
   simp only [Option.some.injEq] at I
   subst I
   obtain ⟨v,fg⟩:=q
   exact ⟨⟨(v,fg),List.mem_singleton.2 rfl,sA hS hT h he J⟩,jo J⟩
theorem FC (hS:fH C.P self)(hT:eM C){ops:Array Oper}{Q:Exit→Act→World→Prop}: ∀(l:List Oper) (k:Nat) (s:St) (L:List St) (c:Ctx) (a:Act) (w:World),
  (∀j,l[j]?=ops[k+j]?)→opsAll C self ops.toList l s=some L→Rel c s.h w→cW c s.env s.ak a →
  (∀s'∈L,∀c' a' w',Rel c' s'.h w'→cW c' s'.env s'.ak a'→cm c w c' w'→a'.defers=a.defers→Q .normal a' w') →
  wpOpsIn (Fr none) 0 C.P ops Q (List.range' k l.length) a w:=by
 intro l
 induction l with
 | nil =>
  intro k s L c a w _ I h he hQ
  simp only [opsAll,Option.some.injEq] at I
  subst I
  simp only [List.length_nil,List.range'_zero,wpOpsIn]
  exact hQ s (List.mem_singleton.2 rfl) c a w h he (cm.refl c w) rfl
 | cons o l ih =>
  intro k s L c a w hl I h he hQ
  have h0:ops[k]?=some o:=by simpa using (hl 0).symm
  have qH:∀j,l[j]?=ops[k+1+j]?:=fun j=>by have:=hl (j+1); simpa [Nat.add_assoc,Nat.add_comm 1 j] using this
  simp only [List.length_cons,List.range'_succ,wpOpsIn,h0]
  rw [uU he]
  simp only [opsAll] at I
  cases hw:wantedV ops.toList s.env o with
  | true =>
   rw [hw,cond_true] at I
   simp only [if_true]
   cases ho:opAll C self s.env s.h o with
   | none=>simp [ho] at I
   | some qs =>
    simp only [ho] at I
    obtain ⟨⟨q,hq,FD⟩,nH⟩:=HY hS hT h (he.Cn o) ho
    obtain ⟨r,U,FE⟩:=FB qs L I q hq
    refine FD.wpIn nH ?_
    intro c' w' r1 r2 r3
    cases hp:s.put o.dst q.1 q.2 with
    | none=>simp [hp] at U
    | some J =>
     simp only [hp] at U
     obtain ⟨p1,p2,p3⟩:=St.uK (he.ext r2.ext) r3 hp
     refine ih (k+1) J r c' _ w' qH U (by rw [p2]; exact r1) p1 ?_
     intro s' xx kV uV uW q1 q2 q3 q4
     exact hQ s' (FE s' xx) kV uV uW q1 q2 (r2.trans q3) (by rw [q4]; cases o.dst <;> rfl)
  | false =>
   rw [hw,cond_false] at I
   simp only [Bool.false_eq_true,if_false]
   refine ⟨fun _ _=>trivial,?_⟩
   cases hp:s.put o.dst bt s.h with
   | none=>simp [hp] at I
   | some J =>
    simp only [hp] at I
    obtain ⟨p1,p2,p3⟩:=St.uK he (show wf c bt by simp [bt,wf,dH]) hp
    rw [kQ] at p1
    refine ih (k+1) J L c _ w qH I (by rw [p2]; exact h) p1 ?_
    intro s' xx kV uV uW q1 q2 q3 q4
    exact hQ s' xx kV uV uW q1 q2 q3 (by rw [q4]; cases o.dst <;> rfl)
end
theorem Rel.OL {c:Ctx}{σ I:H}{w:World}(h:Rel c σ w)(J:I.next=σ.next)(hs:∀id o,T.get I.tr id=some o→T.get σ.tr id=some o): Rel c I w :=
 ⟨J.trans h.next,fun id o ho=>h.live id o (hs id o ho),h.gL,h.zz,fun i j o o' hi U he=>h.inj i j o o' (hs i o hi) (hs j o' U) he,
  fun id o ho=>h.obj id o (hs id o ho),fun id cs st ho=>h.one id cs st (hs id _ ho),fun id o ho=>h.fx id o (hs id o ho)⟩
end Go.Proofs.YtconhghphklfjaaGreat.Am
namespace Go.Proofs.YtconhghphklfjaaGreat.Am
open Go
def iW (f g:Self): Prop:=∀c s r,f c s=some r→g c s=some r
section
variable {C:cf} {f g:Self}
theorem mW (h : iW f g) {k : Nat} {args : List V} {σ : H} {r : V × H} (I : callF C f k args σ = some r) : callF C g k args σ = some r := by
 unfold callF at I ⊢
 cases J : C.told k with
 | some t => simp only [J] at I ⊢; exact I
 | none =>
  simp only [J] at I ⊢
  cases U : C.P.funcs[k]? with
  | none => simp [U] at I
  | some fn =>
   simp only [U] at I ⊢
   cases hb : fn.body with
   | none => simp [hb] at I
   | some c =>
    simp only [hb] at I ⊢
    cases hq : (fn.name == "runtime.NumGoroutine" || Nat.blt fn.ntmps args.length) with
    | true => simp [hq] at I
    | false =>
     simp only [hq, cond_false] at I ⊢
     cases hs : f c ⟨bindArgs args 0 .lf, fn.ntmps, σ⟩ with
     | none => simp [hs] at I
     | some q => rw [h _ _ _ hs]; rw [hs] at I; exact I
theorem BA (h:iW f g){id:Nat}{args:List V}{σ:H}{r:V×H}(I:roundV f id args σ=some r): roundV g id args σ=some r:=by
 unfold roundV at I ⊢
 cases ho:σ.tr.get id with
 | none=>simp [ho] at I
 | some o =>
  simp only [ho] at I ⊢
  cases o with
  | loop busy ak env ps as bd =>
   cases busy with
   | true=>cases I
   | false =>
    simp only at I ⊢
    cases he:bindPs ak ps args env with
    | none=>simp [he] at I
    | some e =>
     simp only [he] at I ⊢
     cases h1:f as ⟨e,ak,σ⟩ with
     | none=>simp [h1] at I
     | some q =>
      rw [h as _ _ h1]
      simp only [h1] at I
      split at I
      ·rename_i SL hq
       simp only [Option.some.injEq] at hq
       subst hq
       split at I
       ·rename_i L9 U L_ Ma Mb VY
        split at I
        ·rename_i Dc J
         rw [h bd _ _ J]
         exact I
        ·first
          | (cases I; done)
          | (rename_i J; cases I)
       ·cases I
      ·cases I
  | _=>cases I
theorem iK (h:iW f g){env:Env}{σ:H}{o:Oper}{r:V×H}(I:evOp C f env σ o=some r): evOp C g env σ o=some r:=by
 unfold evOp at I ⊢
 cases FD:o.op <;> simp only [FD] at I ⊢ <;> try exact I
 rename_i cl
 unfold evCall at I ⊢
 cases ha:evArgs env cl.args.toList with
 | none=>simp [ha] at I
 | some args =>
  simp only [ha] at I ⊢
  cases hc:cl.callee with
  | builtin b=>simp only [hc] at I ⊢; exact I
  | value x =>
   simp only [hc] at I ⊢
   cases J:evO env x with
   | none=>simp [J] at I
   | some fv =>
    simp only [J] at I ⊢
    unfold callV at I ⊢
    split at I
    ·rename_i k first captured
     cases U:gW C.P k with
     | true =>
      rw [U,cond_true] at I
      simp only [U,cond_true]
      exact mW h I
     | false =>
      rw [U,cond_false] at I
      simp only [U,cond_false]
      exact I
    ·exact BA h I
    ·cases I
  | invoke x m =>
   simp only [hc] at I ⊢
   split at I
   ·rename_i t v J
    try simp only [J]
    cases hm:methV C.P t m with
    | none=>simp [hm] at I
    | some k=>simp only [hm] at I ⊢; exact mW h I
   ·cases I
theorem mX (h:iW f g){L:List Oper}: ∀(l:List Oper) (s s':St),evOps C f L l s=some s'→evOps C g L l s=some s':=by
 intro l
 induction l with
 | nil=>intro s s' I; exact I
 | cons o l U =>
  intro s s' I
  simp only [evOps] at I ⊢
  cases hw:wantedV L s.env o with
  | true =>
   simp only [hw,cond_true] at I ⊢
   cases ho:evOp C f s.env s.h o with
   | none=>simp [ho] at I
   | some q =>
    obtain ⟨v,h1⟩:=q
    rw [iK h ho]
    simp only [ho] at I ⊢
    cases J:s.put o.dst v h1 with
    | none=>simp [J] at I
    | some s1=>simp only [J] at I ⊢; exact U _ _ I
  | false =>
   simp only [hw,cond_false] at I ⊢
   cases J:s.put o.dst bt s.h with
   | none=>simp [J] at I
   | some s1=>simp only [J] at I ⊢; exact U _ _ I
theorem pX (h:iW f g){L:List Oper}: ∀(l:List Oper) (s:St) (hs:List H) (r:List (Env×V)×List H×St),trace C f L l s hs=some r→trace C g L l s hs=some r:=by
 intro l
 induction l with
 | nil=>intro s hs r I; exact I
 | cons o l ih =>
  intro s hs r I
  simp only [trace] at I ⊢
  have key:∀q,cond (wantedV L s.env o) (evOp C f s.env s.h o) (some (bt,s.h))=some q→cond (wantedV L s.env o) (evOp C g s.env s.h o) (some (bt,s.h))=some q:=by
   intro q J
   cases hw:wantedV L s.env o with
   | true=>simp only [hw,cond_true] at J ⊢; exact iK h J
   | false=>simp only [hw,cond_false] at J ⊢; exact J
  cases U:cond (wantedV L s.env o) (evOp C f s.env s.h o) (some (bt,s.h)) with
  | none=>simp [U] at I
  | some q =>
   obtain ⟨v,h1⟩:=q
   rw [key _ U]
   simp only [U] at I ⊢
   cases hp:s.put o.dst v h1 with
   | none=>simp [hp] at I
   | some s1 =>
    simp only [hp] at I ⊢
    cases ht:trace C f L l s1 (cond (isEff C o.op) (hs++[h1]) hs) with
    | none=>simp [ht] at I
    | some z=>rw [ih _ _ _ ht]; rw [ht] at I; exact I
theorem BB (h:iW f g){L:List Oper}{o:Oper}{x:Env×V}: ∀(l:List H),sameIn C f L o x l=true→sameIn C g L o x l=true:=by
 intro l
 induction l with
 | nil=>intro I; exact I
 | cons y l U =>
  intro I
  simp only [sameIn] at I ⊢
  cases hw:wantedV L x.1 o with
  | false=>simp
  | true =>
   simp only [hw,cond_true] at I ⊢
   cases ho:evOp C f x.1 y o with
   | none=>simp [ho] at I
   | some q =>
    rw [iK h ho]
    simp only [ho] at I ⊢
    cases J:q.1.beq x.2 with
    | false=>simp only [J] at I; cases I
    | true=>simp only [J,cond_true] at I ⊢; exact U I
theorem BC (h:iW f g){L:List Oper}{as es:List Nat}{hs:List H}: ∀(l:List Oper) (tr:List (Env×V)) (i:Nat),stayOk C f L as es hs l tr i=true→stayOk C g L as es hs l tr i=true:=by
 intro l
 induction l with
 | nil=>intro tr i I; cases tr <;> exact I
 | cons o l U =>
  intro tr i I
  cases tr with
  | nil=>exact I
  | cons x tr =>
   simp only [stayOk] at I ⊢
   cases he:isEff C o.op with
   | true=>simp only [he,cond_true] at I ⊢; exact U _ _ I
   | false =>
    simp only [he,cond_false] at I ⊢
    cases h1:(g6 ((nth as i).getD 0) es&&Nat.beq (eT ((nth as i).getD 0) es) (gu as i es)) with
    | true=>simp only [h1,cond_true] at I ⊢; exact U _ _ I
    | false =>
     simp only [h1,cond_false] at I ⊢
     cases J:(g6 ((nth as i).getD 0) es&&sameIn C f L o x ((hs.drop (eT ((nth as i).getD 0) es)).take (gu as i es+1-eT ((nth as i).getD 0) es))) with
     | false=>rw [J] at I; cases I
     | true =>
      rw [J,cond_true] at I
      rw [Bool.and_eq_true] at J
      rw [J.1,BB h _ J.2]
      exact U _ _ I
theorem BD (h:iW f g){L:List Oper}{s s':St}(I:iA C f L s=some s'): iA C g L s=some s':=by
 unfold iA at I ⊢
 cases J:lN C L with
 | false=>rw [J] at I; cases I
 | true =>
  simp only [J,cond_true] at I ⊢
  cases U:trace C f L L s [s.h] with
  | none=>simp [U] at I
  | some q =>
   rw [pX h _ _ _ _ U]
   simp only [U] at I ⊢
   cases hq:stayOk C f L (ancs L []) (b_ C L 0) q.2.1 L q.1 0 with
   | false=>rw [hq] at I; cases I
   | true=>rw [BC h _ _ _ hq]; rw [hq] at I; exact I
theorem BE (h:iW f g): iW (evStep C f) (evStep C g):=by
 intro c s r I
 cases c with
 | region id ops draw =>
  simp only [evStep] at I ⊢
  cases draw with
  | true =>
   simp only [cond_true] at I ⊢
   cases U:iA C f ops.toList s with
   | none=>simp [U] at I
   | some s1=>rw [BD h U]; rw [U] at I; exact I
  | false =>
   simp only [cond_false] at I ⊢
   cases U:evOps C f ops.toList ops.toList s with
   | none=>simp [U] at I
   | some s1=>rw [mX h _ _ _ U]; rw [U] at I; exact I
 | seq a b =>
  simp only [evStep] at I ⊢
  cases J:f a s with
  | none=>simp [J] at I
  | some q =>
   obtain ⟨ex,s1⟩:=q
   rw [h _ _ _ J]
   rw [J] at I
   cases ex with
   | normal=>exact h _ _ _ I
   | exit i=>exact I
   | ret=>exact I
 | cond x a b =>
  simp only [evStep] at I ⊢
  split at I
  ·exact h _ _ _ I
  ·cases I
 | block id b =>
  simp only [evStep] at I ⊢
  cases J:f b s with
  | none=>simp [J] at I
  | some q=>rw [h _ _ _ J]; rw [J] at I; exact I
 | loop b =>
  simp only [evStep] at I ⊢
  cases J:f b s with
  | none=>simp [J] at I
  | some q =>
   obtain ⟨ex,s1⟩:=q
   rw [h _ _ _ J]
   rw [J] at I
   cases ex with
   | normal=>exact h _ _ _ I
   | exit i=>exact I
   | ret=>exact I
 | scope b=>exact h _ _ _ I
 | _=>exact I
theorem DE : ∀n,iW (ev C n) (ev C (n+1)):=by
 intro n
 induction n with
 | zero=>intro c s r I; cases I
 | succ n J=>exact BE J
theorem dW {n m:Nat}(hle:n≤m): iW (ev C n) (ev C m):=by
 induction hle with
 | refl=>intro c s r I; exact I
 | step _ J=>intro c s r I; exact DE _ c s r (J c s r I)
end
end Go.Proofs.YtconhghphklfjaaGreat.Am
