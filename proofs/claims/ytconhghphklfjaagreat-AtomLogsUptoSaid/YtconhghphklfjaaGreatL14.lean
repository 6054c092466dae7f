/- After a crash the log has the records of the groups that are there and no others, with their numbers and data; the conditions are those of the given statement, for arguments that a machine can hold. Part 14 of 54. -/
import Derived.Test.YtconhghphklfjaaGreatL13
namespace Go.Proofs.YtconhghphklfjaaGreat.Am
open Go
def look : List (Nat×V)→Nat→Option V
 | [],_=>none
 | x::E,k=>cond (Nat.beq x.1 k) (some x.2) (look E k)
def gN (env:Env)(E:List (Nat×V)): Prop:=∀t v,look E t=some v→T.get env t=some v
theorem gN.set {env:Env}{E:List (Nat×V)}(h:gN env E)(d:Nat)(v:V): gN (env.set d (some v)) ((d,v)::E):=by
 intro t u I
 simp only [look] at I
 rw [aC]
 by_cases J:d=t
 ·subst J
  rw [eH rfl,cond_true] at I
  simpa using I
 ·rw [bT J,cond_false] at I
  rw [if_neg (fun e=>J e.symm)]
  exact h t u I
theorem gN.sub {env:Env}{E I:List (Nat×V)}(h:gN env E)(hs:∀t v,look I t=some v→look E t=some v): gN env I:=fun t v J=>h t v (hs t v J)
def lookO (E:List (Nat×V)): Operand→Option V
 | .tmp t=>look E t
 | .const c=>ofValue c
 | .global _=>none
 | .func f=>some (.fn (.func f) [] [])
theorem bf {env:Env}{E:List (Nat×V)}(h:gN env E){x:Operand}{v:V}(I:lookO E x=some v): evO env x=some v:=by
 cases x with
 | tmp t=>simp only [lookO] at I; simp only [evO,Env.v,h t v I]
 | const c=>exact I
 | global g=>cases I
 | func f=>exact I
def lookArgs (E:List (Nat×V)): List Operand→Option (List V)
 | []=>some []
 | x::l=>match lookO E x with
  | none=>none
  | some v=>match lookArgs E l with
   | none=>none
   | some m=>some (v::m)
theorem jU {env:Env}{E:List (Nat×V)}(h:gN env E): ∀ {l:List Operand} {m:List V},lookArgs E l=some m→evArgs env l=some m:=by
 intro l
 induction l with
 | nil=>intro m hm; exact hm
 | cons x l U =>
  intro m hm
  simp only [lookArgs] at hm
  cases I:lookO E x with
  | none=>simp [I] at hm
  | some v =>
   cases J:lookArgs E l with
   | none=>simp [I,J] at hm
   | some k=>simp only [I,J] at hm; simp only [evArgs,bf h I,U J]; exact hm
def lookParts (E:List (Nat×V)): List (Nat×Operand)→Option (List (Nat×V))
 | []=>some []
 | x::l=>match lookO E x.2 with
  | none=>none
  | some v=>match lookParts E l with
   | none=>none
   | some m=>some ((x.1,v)::m)
theorem ry {env:Env}{E:List (Nat×V)}(h:gN env E): ∀ {l:List (Nat×Operand)} {m:List (Nat×V)},lookParts E l=some m→evParts env l=some m:=by
 intro l
 induction l with
 | nil=>intro m hm; exact hm
 | cons x l U =>
  intro m hm
  obtain ⟨i,x⟩:=x
  simp only [lookParts] at hm
  cases I:lookO E x with
  | none=>simp [I] at hm
  | some v =>
   cases J:lookParts E l with
   | none=>simp [I,J] at hm
   | some k=>simp only [I,J] at hm; simp only [evParts,bf h I,U J]; exact hm
def lookOpt (E:List (Nat×V)): Option Operand→Option (Option V)
 | none=>some none
 | some x=>match lookO E x with
  | some v=>some (some v)
  | none=>none
theorem pY {env:Env}{E:List (Nat×V)}(h:gN env E){x:Option Operand}{v:Option V}(I:lookOpt E x=some v): optV env x=some v:=by
 cases x with
 | none=>exact I
 | some x =>
  simp only [lookOpt] at I
  cases J:lookO E x with
  | none=>simp [J] at I
  | some u=>simp only [J] at I; simp only [optV,bf h J]; exact I
section
variable (P:Program)
def gn (E:List (Nat×V))(x:Operand)(g:V→Option (V×H)): Option (V×H):=match lookO E x with
 | some v=>g v
 | none=>none
def ou (E:List (Nat×V))(x y:Operand)(g:V→V→Option (V×H)): Option (V×H):=match lookO E x with
 | some v=>match lookO E y with
  | some u=>g v u
  | none=>none
 | none=>none
noncomputable def opE (E:List (Nat×V))(h:H)(o:Op): Option (V×H):=match o with
 | .move x | .assign x=>gn E x fun v=>some (v,h)
 | .pick c a b=>gn E c fun v=>match v with
  | .bool t=>gn E (cond t a b) fun v=>some (v,h)
  | _=>none
 | .alloc t=>match zeroT P t with
  | some z=>some (.ptr h.next 0,newRow h z.cells)
  | none=>none
 | .box _ x=>gn E x fun v=>cond (v.cells.all storable) (some (.ptr h.next 0,newRow h v.cells)) none
 | .build t ps=>match lookParts E ps.toList with
  | some l=>aB (buildV P t l) h
  | none=>none
 | .buildSlice t n ps=>match lookParts E ps.toList with
  | some l=>buildSliceV P h t n l
  | none=>none
 | .load t a=>gn E a fun v=>aB (loadV P h t v) h
 | .store t a x=>ou E a x fun p v=>jf (fl P h t p v)
 | .nilCheck x=>gn E x fun v=>match v with
  | .ptr a b=>some (.ptr a b,h)
  | _=>none
 | .binOp op t x y _=>ou E x y fun a b=>aB (binV P h op t x y a b) h
 | .unOp op _ x=>gn E x fun a=>aB (unV op a) h
 | .convert s d x=>gn E x fun a=>match convV P h s d a with
   | some r=>some r
   | none=>convB P h s d a
 | .sliceToArrayPointer d x=>gn E x fun a=>aB (arrPtrV P d a) h
 | .makeInterface t x=>gn E x fun a=>aB (makeIfaceV P t a) h
 | .makeFunc f a b=>match lookArgs E a.toList with
  | some x=>match lookArgs E b.toList with
   | some y=>some (.fn f x y,h)
   | none=>none
  | none=>none
 | .makeMap _ r=>match r with
  | none=>some (.map h.next,h.new (.map [] 0))
  | some _=>none
 | .makeSlice t l c=>ou E l c fun a b=>makeSliceV P h t a b
 | .slice t x lo hi mx=>gn E x fun v=>match lookOpt E lo with
  | some a=>match lookOpt E hi with
   | some b=>match lookOpt E mx with
    | some c=>match er a with
     | some a=>match er b with
      | some b=>match er c with
       | some c=>aB (sliceV P h t v a b c) h
       | none=>none
      | none=>none
     | none=>none
    | none=>none
   | none=>none
  | none=>none
 | .fieldAddr t x i=>gn E x fun v=>aB (fieldAddrV P t v i) h
 | .field t x i=>gn E x fun v=>aB (kP P t v i) h
 | .indexAddr t x i=>ou E x i fun v j=>aB (indexAddrV P t v j) h
 | .index t x i=>ou E x i fun v j=>aB (indexV P t v j) h
 | .lookup t x k ok=>ou E x k fun m j=>aB (cV P h t m j ok) h
 | .extract t i=>gn E t fun v=>match v with
  | .aW l=>aB (nth l i) h
  | _=>none
 | .typeAssert x _ a ok=>gn E x fun v=>aB (assertV P v a ok) h
 | .call c=>match c.callee with
  | .builtin b=>match lookArgs E c.args.toList with
   | some args=>builtinV P h b c.argTypes args
   | none=>none
  | _=>none
 | _=>none
end
theorem fC {E:List (Nat×V)}{x:Operand}{g:V→Option (V×H)}{r:V×H}(h:gn E x g=some r): ∃v,lookO E x=some v∧g v=some r:=by
 unfold gn at h
 cases I:lookO E x with
 | none=>simp [I] at h
 | some v=>simp only [I] at h; exact ⟨v,rfl,h⟩
theorem nf {E:List (Nat×V)}{x y:Operand}{g:V→V→Option (V×H)}{r:V×H}(h:ou E x y g=some r): ∃v u,lookO E x=some v∧lookO E y=some u∧g v u=some r:=by
 unfold ou at h
 cases I:lookO E x with
 | none=>simp [I] at h
 | some v =>
  cases J:lookO E y with
  | none=>simp [I,J] at h
  | some u=>simp only [I,J] at h; exact ⟨v,u,rfl,rfl,h⟩
set_option maxHeartbeats 1000000 in
theorem vf {C:cf}{self:Self}{env:Env}{E:List (Nat×V)}{h:H}{o:Oper}{r:V×H}(hE:gN env E)(U:opE C.P E h o.op=some r): evOp C self env h o=some r:=by
 unfold opE at U
 unfold evOp
 split at U
 ·rename_i x I; obtain ⟨v,h1,J⟩:=fC U; simp only [I,bf hE h1,aB]; exact J
 ·rename_i x I; obtain ⟨v,h1,J⟩:=fC U; simp only [I,bf hE h1,aB]; exact J
 ·rename_i c a b I
  obtain ⟨v,h1,J⟩:=fC U
  split at J
  ·rename_i t
   obtain ⟨u,h3,h4⟩:=fC J
   simp only [I,bf hE h1,bf hE h3,aB]; exact h4
  ·cases J
 ·rename_i t I; simp only [I]; exact U
 ·rename_i t x I; obtain ⟨v,h1,J⟩:=fC U; simp only [I,bf hE h1]; exact J
 ·rename_i t ps I
  cases hp:lookParts E ps.toList with
  | none=>simp [hp] at U
  | some l=>simp only [hp] at U; simp only [I,ry hE hp]; exact U
 ·rename_i t n ps I
  cases hp:lookParts E ps.toList with
  | none=>simp [hp] at U
  | some l=>simp only [hp] at U; simp only [I,ry hE hp]; exact U
 ·rename_i t a I; obtain ⟨v,h1,J⟩:=fC U; simp only [I,bf hE h1]; exact J
 ·rename_i t a x I; obtain ⟨v,u,h1,J,h3⟩:=nf U; simp only [I,bf hE h1,bf hE J]; exact h3
 ·rename_i x I
  obtain ⟨v,h1,J⟩:=fC U
  split at J
  ·simp only [I,bf hE h1]; exact J
  ·cases J
 ·rename_i op t x y u I; obtain ⟨v,u,h1,J,h3⟩:=nf U; simp only [I,bf hE h1,bf hE J]; exact h3
 ·rename_i op t x I; obtain ⟨v,h1,J⟩:=fC U; simp only [I,bf hE h1]; exact J
 ·rename_i s d x I; obtain ⟨v,h1,J⟩:=fC U; simp only [I,bf hE h1]; exact J
 ·rename_i d x I; obtain ⟨v,h1,J⟩:=fC U; simp only [I,bf hE h1]; exact J
 ·rename_i t x I; obtain ⟨v,h1,J⟩:=fC U; simp only [I,bf hE h1]; exact J
 ·rename_i f a b I
  cases ha:lookArgs E a.toList with
  | none=>simp [ha] at U
  | some x =>
   cases hb:lookArgs E b.toList with
   | none=>simp [ha,hb] at U
   | some y=>simp only [ha,hb] at U; simp only [I,jU hE ha,jU hE hb]; exact U
 ·rename_i t r I
  simp only [I]
  exact U
 ·rename_i t l c I; obtain ⟨v,u,h1,J,h3⟩:=nf U; simp only [I,bf hE h1,bf hE J]; exact h3
 ·rename_i t x lo hi mx I
  obtain ⟨v,h1,J⟩:=fC U
  cases ha:lookOpt E lo with
  | none=>simp [ha] at J
  | some a =>
   cases hb:lookOpt E hi with
   | none=>simp [ha,hb] at J
   | some b =>
    cases hc:lookOpt E mx with
    | none=>simp [ha,hb,hc] at J
    | some c =>
     simp only [ha,hb,hc] at J
     simp only [I,bf hE h1,pY hE ha,pY hE hb,pY hE hc]
     cases pa:er a with
     | none=>simp [pa] at J
     | some a =>
      cases pb:er b with
      | none=>simp [pa,pb] at J
      | some b =>
       cases pc:er c with
       | none=>simp [pa,pb,pc] at J
       | some c=>simp only [pa,pb,pc] at J ⊢; exact J
 ·rename_i t x i I; obtain ⟨v,h1,J⟩:=fC U; simp only [I,bf hE h1]; exact J
 ·rename_i t x i I; obtain ⟨v,h1,J⟩:=fC U; simp only [I,bf hE h1]; exact J
 ·rename_i t x i I; obtain ⟨v,u,h1,J,h3⟩:=nf U; simp only [I,bf hE h1,bf hE J]; exact h3
 ·rename_i t x i I; obtain ⟨v,u,h1,J,h3⟩:=nf U; simp only [I,bf hE h1,bf hE J]; exact h3
 ·rename_i t x k ok I; obtain ⟨v,u,h1,J,h3⟩:=nf U; simp only [I,bf hE h1,bf hE J]; exact h3
 ·rename_i t i I
  obtain ⟨v,h1,J⟩:=fC U
  split at J
  ·simp only [I,bf hE h1]; exact J
  ·cases J
 ·rename_i x t a ok I; obtain ⟨v,h1,J⟩:=fC U; simp only [I,bf hE h1]; exact J
 ·rename_i cl I
  split at U
  ·rename_i b hc
   cases ha:lookArgs E cl.args.toList with
   | none=>simp [ha] at U
   | some args=>simp only [ha] at U; simp only [I,evCall,hc,jU hE ha]; exact U
  ·cases U
 ·cases U
def fb (C:cf)(f:FuncId)(args:List V)(h:H)(v:V)(h':H): Prop:=∃N,callF C (ev C N) f args h=some (v,h')
def Call (C:cf)(f:FuncId)(args:List V)(h:H)(R:V→H→Prop): Prop:=∃v h',fb C f args h v h'∧R v h'
theorem Call.mono {C:cf}{f:FuncId}{args:List V}{h:H}{R I:V→H→Prop}(J:Call C f args h R)(U:∀v h',R v h'→I v h'): Call C f args h I:=by
 obtain ⟨v,h',h1,h2⟩:=J
 exact ⟨v,h',h1,U v h' h2⟩
theorem fb.told {C:cf}{f:FuncId}{fn:Func}{g:List V→H→Option (V×H)}{args:List V}{h:H}{v:V}{h':H}(I:C.told f=some g)(J:C.P.funcs[f]?=some fn)(U:fn.body.isSome=true)(hr:g args h=some (v,h')): fb C f args h v h':=by
 refine ⟨0,?_⟩
 unfold callF
 have:gW C.P f=true:=by unfold gW; simp only [J]; exact U
 simp only [I,this,cond_true]
 exact hr
theorem fb.body {C:cf}{f:FuncId}{args:List V}{h:H}{v:V}{h':H}(hd:fb C f args h v h'): gW C.P f=true:=by
 obtain ⟨N,I⟩:=hd
 unfold callF at I
 cases U:C.told f with
 | some g =>
  simp only [U] at I
  cases J:gW C.P f with
  | true=>rfl
  | false=>rw [J] at I; cases I
 | none =>
  simp only [U] at I
  unfold gW
  cases hf:C.P.funcs[f]? with
  | none=>simp [hf] at I
  | some fn =>
   simp only [hf] at I ⊢
   cases J:fn.body with
   | none=>simp [J] at I
   | some c=>rfl
theorem gG (C:cf)(n:Nat)(c:Code)(s:St): ev C (n+1) c s=evStep C (ev C n) c s:=rfl
def WP (C:cf)(ak:Nat)(code:Code)(E:List (Nat×V))(h:H)(Q:Ex→List (Nat×V)→H→Prop): Prop :=
 ∀env,gN env E→∃N ex I h' J,ev C N code ⟨env,ak,h⟩=some (ex,⟨I,ak,h'⟩)∧gN I J∧Q ex J h'
def ae (C:cf)(ak:Nat)(L l:List Oper)(E:List (Nat×V))(h:H)(Q:List (Nat×V)→H→Prop): Prop :=
 ∀env,gN env E→∃N I h' J,evOps C (ev C N) L l ⟨env,ak,h⟩=some ⟨I,ak,h'⟩∧gN I J∧Q J h'
section
variable {C:cf} {ak:Nat} {E:List (Nat×V)} {h:H} {Q:Ex→List (Nat×V)→H→Prop} {R:List (Nat×V)→H→Prop} {L l:List Oper}
theorem WP.sub {code:Code}{I:List (Nat×V)}(hs:∀t v,look I t=some v→look E t=some v)(hw:WP C ak code I h Q): WP C ak code E h Q:=fun env J=>hw env (J.sub hs)
theorem WP.skip (I:Q .normal E h): WP C ak .skip E h Q:=fun env J=>⟨1,.normal,env,h,E,rfl,J,I⟩
theorem WP.ret (I:Q .ret E h): WP C ak .ret E h Q:=fun env J=>⟨1,.ret,env,h,E,rfl,J,I⟩
theorem WP.exit {i:Nat}(I:Q (.exit i) E h): WP C ak (.exit i) E h Q:=fun env J=>⟨1,.exit i,env,h,E,rfl,J,I⟩
theorem WP.region {id:Nat}{ops:Array Oper}(U:ops.toList=l)(hw:ae C ak l l E h fun J h'=>Q .normal J h'): WP C ak (.region id ops false) E h Q:=by
 intro env hE
 obtain ⟨N,I,h',J,h1,h2,h3⟩:=hw env hE
 refine ⟨N+1,.normal,I,h',J,?_,h2,h3⟩
 subst U
 rw [gG]
 simp only [evStep,cond_false,h1]
theorem WP.seq {a b:Code}(hw:WP C ak a E h fun ex J h'=>match ex with
  | .normal=>WP C ak b J h' Q
  | ex=>Q ex J h'): WP C ak (.seq a b) E h Q:=by
 intro env hE
 obtain ⟨N,ex,I,h',J,h1,h2,h3⟩:=hw env hE
 cases ex with
 | normal =>
  obtain ⟨M,JT,U,MM,E2,g1,g2,g3⟩:=h3 I h2
  refine ⟨Nat.max N M+1,JT,U,MM,E2,?_,g2,g3⟩
  rw [gG]
  simp only [evStep,dW (Nat.le_max_left N M) _ _ _ h1]
  exact dW (Nat.le_max_right N M) _ _ _ g1
 | exit i =>
  refine ⟨N+1,.exit i,I,h',J,?_,h2,h3⟩
  rw [gG]
  simp only [evStep,h1]
 | ret =>
  refine ⟨N+1,.ret,I,h',J,?_,h2,h3⟩
  rw [gG]
  simp only [evStep,h1]
theorem WP.cond {x:Operand}{a b:Code}{t:Bool}(U:lookO E x=some (.bool t))(hw:WP C ak (_root_.cond t a b) E h Q): WP C ak (.cond x a b) E h Q:=by
 intro env J
 obtain ⟨N,ex,I,h',E',h1,h2,h3⟩:=hw env J
 refine ⟨N+1,ex,I,h',E',?_,h2,h3⟩
 rw [gG]
 simp only [evStep,bf J U]
 exact h1
theorem WP.block {i:Nat}{b:Code}(hw:WP C ak b E h fun ex J h'=>match ex with
  | .exit j=>_root_.cond (Nat.beq j i) (Q .normal J h') (Q (.exit j) J h')
  | ex=>Q ex J h'): WP C ak (.block i b) E h Q:=by
 intro env hE
 obtain ⟨N,ex,I,h',J,h1,h2,U⟩:=hw env hE
 cases ex with
 | exit j =>
  cases hj:Nat.beq j i with
  | true =>
   simp only [hj,cond_true] at U
   refine ⟨N+1,.normal,I,h',J,?_,h2,U⟩
   rw [gG]
   simp only [evStep,h1,hj,cond_true]
  | false =>
   simp only [hj,cond_false] at U
   refine ⟨N+1,.exit j,I,h',J,?_,h2,U⟩
   rw [gG]
   simp only [evStep,h1,hj,cond_false]
 | normal =>
  refine ⟨N+1,.normal,I,h',J,?_,h2,U⟩
  rw [gG]
  simp only [evStep,h1]
 | ret =>
  refine ⟨N+1,.ret,I,h',J,?_,h2,U⟩
  rw [gG]
  simp only [evStep,h1]
theorem WP.scope {b:Code}(hw:WP C ak b E h Q): WP C ak (.scope b) E h Q:=by
 intro env J
 obtain ⟨N,ex,I,h',U,h1,h2,h3⟩:=hw env J
 exact ⟨N+1,ex,I,h',U,h1,h2,h3⟩
theorem WP.loop {b:Code}(hw:WP C ak b E h fun ex J h'=>match ex with
  | .normal=>WP C ak (.loop b) J h' Q
  | ex=>Q ex J h'): WP C ak (.loop b) E h Q:=by
 intro env hE
 obtain ⟨N,ex,I,h',J,h1,h2,h3⟩:=hw env hE
 cases ex with
 | normal =>
  obtain ⟨M,JT,U,MM,E2,g1,g2,g3⟩:=h3 I h2
  refine ⟨Nat.max N M+1,JT,U,MM,E2,?_,g2,g3⟩
  rw [gG]
  simp only [evStep,dW (Nat.le_max_left N M) _ _ _ h1]
  exact dW (Nat.le_max_right N M) _ _ _ g1
 | exit i =>
  refine ⟨N+1,.exit i,I,h',J,?_,h2,h3⟩
  rw [gG]
  simp only [evStep,h1]
 | ret =>
  refine ⟨N+1,.ret,I,h',J,?_,h2,h3⟩
  rw [gG]
  simp only [evStep,h1]
theorem ae.nil (I:R E h): ae C ak L [] E h R:=fun env J=>⟨0,env,h,E,rfl,J,I⟩
def wantE (L:List Oper)(E:List (Nat×V))(g:Option (Nat×Bool)): Option Bool:=match g with
 | none=>some true
 | some (j,want)=>match (nth L j).bind (·.dst) with
  | some d=>match look E d with
   | some (.bool b)=>some (b == want)
   | some _=>some false
   | none=>none
  | none=>none
theorem gO {env:Env}{o:Oper}{b:Bool}(hE:gN env E)(hw:wantE L E o.guard=some b): wantedV L env o=b:=by
 unfold wantE at hw
 unfold wantedV
 split at hw
 ·rename_i I; simp only [I]; simpa using hw
 ·rename_i j want I
  simp only [I]
  split at hw
  ·rename_i d hd
   simp only [hd]
   split at hw
   ·rename_i b' J
    simp only [Env.v,hE d _ J]
    simpa using hw
   ·rename_i v U J
    simp only [Env.v,hE d _ J]
    cases v <;> first | simpa using hw | exact absurd rfl (U _)
   ·cases hw
  ·cases hw
theorem ae.op {o:Oper}{rest:List Oper}{d:Nat}{v:V}{h₁:H}(U:wantE L E o.guard=some true)(hd:o.dst=some d)(hn:Nat.blt d ak=true)(ho:opE C.P E h o.op=some (v,h₁))
 (hw:ae C ak L rest ((d,v)::E) h₁ R): ae C ak L (o::rest) E h R:=by
 intro env J
 obtain ⟨N,I,h',E',h1,h2,h3⟩:=hw (env.set d (some v)) (J.set d v)
 refine ⟨N,I,h',E',?_,h2,h3⟩
 simp only [evOps,gO J U,cond_true,vf J ho,St.put,hd,hn]
 exact h1
theorem ae.MN {o:Oper}{rest:List Oper}{v:V}{h₁:H}(U:wantE L E o.guard=some true)(hd:o.dst=none)(ho:opE C.P E h o.op=some (v,h₁))
 (hw:ae C ak L rest E h₁ R): ae C ak L (o::rest) E h R:=by
 intro env J
 obtain ⟨N,I,h',E',h1,h2,h3⟩:=hw env J
 refine ⟨N,I,h',E',?_,h2,h3⟩
 simp only [evOps,gO J U,cond_true,vf J ho,St.put,hd]
 exact h1
theorem ae.no {o:Oper}{rest:List Oper}{d:Nat}(U:wantE L E o.guard=some false)(hd:o.dst=some d)(hn:Nat.blt d ak=true)
 (hw:ae C ak L rest ((d,bt)::E) h R): ae C ak L (o::rest) E h R:=by
 intro env J
 obtain ⟨N,I,h',E',h1,h2,h3⟩:=hw (env.set d (some bt)) (J.set d bt)
 refine ⟨N,I,h',E',?_,h2,h3⟩
 simp only [evOps,gO J U,cond_false,St.put,hd,hn,cond_true]
 exact h1
theorem xy {o:Oper}{cl:Go.Call}{x:Operand}{k:FuncId}{first cap args:List V}{v:V}{h₁:H}{env:Env}(U:gN env E)(J:o.op=.call cl)(hc:cl.callee=.value x)
 (hx:lookO E x=some (.fn (.func k) first cap))(ha:lookArgs E cl.args.toList=some args)(I:fb C k (first++(args++cap)) h v h₁):
  ∃N,evOp C (ev C N) env h o=some (v,h₁):=by
 have hb:=I.body
 obtain ⟨N,hN⟩:=I
 refine ⟨N,?_⟩
 simp only [evOp,J,evCall,jU U ha,hc,bf U hx,callV,hb,cond_true]
 exact hN
theorem ae.call {o:Oper}{rest:List Oper}{d:Nat}{cl:Go.Call}{x:Operand}{k:FuncId}{first cap args:List V}{tj:V→H→Prop}(hg:wantE L E o.guard=some true)(hd:o.dst=some d)(hn:Nat.blt d ak=true)
 (U:o.op=.call cl)(hc:cl.callee=.value x)(hx:lookO E x=some (.fn (.func k) first cap))(ha:lookArgs E cl.args.toList=some args)
 (I:Call C k (first++(args++cap)) h tj)(hw:∀v h₁,tj v h₁→ae C ak L rest ((d,v)::E) h₁ R): ae C ak L (o::rest) E h R:=by
 intro env hE
 obtain ⟨v,h₁,vg,hr⟩:=I
 obtain ⟨N,hN⟩:=xy hE U hc hx ha vg
 obtain ⟨M,J,h',E',h1,h2,h3⟩:=hw v h₁ hr (env.set d (some v)) (hE.set d v)
 refine ⟨Nat.max N M,J,h',E',?_,h2,h3⟩
 simp only [evOps,gO hE hg,cond_true,iK (dW (Nat.le_max_left N M)) hN,St.put,hd,hn]
 exact mX (dW (Nat.le_max_right N M)) _ _ _ h1
end
def Has (E:List (Nat×V)): List (Nat×V)→Prop
 | []=>True
 | p::F=>look E p.1=some p.2∧Has E F
theorem Has.sub {E:List (Nat×V)}: ∀ {F:List (Nat×V)},Has E F→∀t v,look F t=some v→look E t=some v:=by
 intro F
 induction F with
 | nil=>intro _ t v h; cases h
 | cons p F U =>
  intro I t v h
  simp only [look] at h
  by_cases J:p.1=t
  ·subst J
   rw [eH rfl,cond_true] at h
   rw [I.1]; exact h
  ·rw [bT J,cond_false] at h
   exact U I.2 t v h
theorem WP.has {C:cf}{ak:Nat}{code:Code}{E F:List (Nat×V)}{h:H}{Q:Ex→List (Nat×V)→H→Prop}(I:Has E F)(hw:WP C ak code F h Q): WP C ak code E h Q:=WP.sub I.sub hw
theorem OM {P:Program}{s:St}{E:List (Nat×V)}(I:gN s.env E){t:Nat}{v:V}(h:look E t=some v): resV P s (.tmp t)=some v:=by
 simp only [resV,Env.v,I t v h]
noncomputable def resE (P:Program)(E:List (Nat×V))(h:H): ResultVar→Option V
 | .tmp t=>look E t
 | .cell a t=>match look E a with
  | some p=>loadV P h t p
  | none=>none
theorem K1 {P:Program}{E:List (Nat×V)}{s:St}(U:gN s.env E){x:ResultVar}{v:V}(I:resE P E s.h x=some v): resV P s x=some v:=by
 cases x with
 | tmp t=>exact OM U I
 | cell a t =>
  simp only [resE] at I
  cases J:look E a with
  | none=>simp [J] at I
  | some p=>simp only [J] at I; simp only [resV,Env.v,U a p J]; exact I
noncomputable def gw (P:Program)(E:List (Nat×V))(h:H)(rs:List ResultVar): Option V:=match mapO (resE P E h) rs with
 | some [v]=>some v
 | some vs=>some (.aW vs)
 | none=>none
theorem wH {P:Program}{E:List (Nat×V)}{s:St}(U:gN s.env E): ∀ {rs:List ResultVar} {vs:List V},mapO (resE P E s.h) rs=some vs→mapO (resV P s) rs=some vs:=by
 intro rs
 induction rs with
 | nil=>intro vs h; exact h
 | cons x rs ih =>
  intro vs h
  simp only [mapO] at h
  cases I:resE P E s.h x with
  | none=>simp [I] at h
  | some v =>
   cases J:mapO (resE P E s.h) rs with
   | none=>simp [I,J] at h
   | some m=>simp only [I,J] at h; simp only [mapO,K1 U I,ih J]; exact h
def argE : List V→Nat→List (Nat×V)
 | [],_=>[]
 | v::l,k=>(k,v)::argE l (k+1)
theorem FF : ∀(l:List V) (k t:Nat),look (argE l k) t=if k≤t∧t<k+l.length then l[t-k]? else none:=by
 intro l
 induction l with
 | nil=>intro k t; simp [argE,look]
 | cons v l J =>
  intro k t
  simp only [argE,look]
  by_cases h:k=t
  ·subst h; simp
  ·rw [bT h,cond_false,J]
   by_cases I:k+1≤t∧t<k+1+l.length
   ·rw [if_pos I,if_pos (by simp; omega),show t-k=(t-(k+1))+1 from by omega]; simp
   ·rw [if_neg I]
    split
    ·simp at *; omega
    ·rfl
theorem sD (l:List V): gN (bindArgs l 0 .lf) (argE l 0):=by
 intro t v h
 rw [FF] at h
 rw [nG]
 split at h
 ·rename_i I; rw [if_pos I]; exact h
 ·cases h
theorem Call.of_wp {C : cf} {f : FuncId} {fn : Func} {code : Code} {args : List V} {h : H} {R : V → H → Prop} (ht : C.told f = none) (hf : C.P.funcs[f]? = some fn) (hb : fn.body = some code)
  (hq : (fn.name == "runtime.NumGoroutine" || Nat.blt fn.ntmps args.length) = false)
  (hw : WP C fn.ntmps code (argE args 0) h fun ex E' h' => (match ex with | .exit _ => False | _ => True) ∧ ∃ v, gw C.P E' h' fn.results.toList = some v ∧ R v h') : Call C f args h R := by
 obtain ⟨N, ex, J, h', E', h1, h2, h3, v, I, h5⟩ := hw _ (sD args)
 refine ⟨v, h', ⟨N, ?_⟩, h5⟩
 unfold callF
 simp only [ht, hf, hb, hq, cond_false, h1]
 unfold gw at I
 cases hm : mapO (resE C.P E' h') fn.results.toList with
 | none => simp [hm] at I
 | some vs =>
  rw [hm] at I
  have U := wH (P := C.P) (s := ⟨J, fn.ntmps, h'⟩) h2 hm
  cases ex with
  | exit i => exact h3.elim
  | normal =>
   simp only [U]
   match vs, I with
   | [], I => simpa using I
   | [x], I => simpa using I
   | x :: y :: l, I => simpa using I
  | ret =>
   simp only [U]
   match vs, I with
   | [], I => simpa using I
   | [x], I => simpa using I
   | x :: y :: l, I => simpa using I
end Go.Proofs.YtconhghphklfjaaGreat.Am
