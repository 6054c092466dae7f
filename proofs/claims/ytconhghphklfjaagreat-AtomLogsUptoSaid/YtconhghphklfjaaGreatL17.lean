/- After a crash the log has the records of the groups that are there and no others, with their numbers and data; the conditions are those of the given statement, for arguments that a machine can hold. Part 17 of 54. -/
import Derived.Test.YtconhghphklfjaaGreatL16
namespace Go.Proofs.YtconhghphklfjaaGreat.Am
open Go
section
variable {C:cf} {ak:Nat} {L l rest:List Oper} {o:Oper} {E:List (Nat×V)} {h h₁:H} {d:Nat}
def OpR (C:cf)(E:List (Nat×V))(h:H)(o:Oper)(R:V→H→Prop): Prop:=∃v h₁,R v h₁∧∀env,gN env E→∃N,evOp C (ev C N) env h o=some (v,h₁)
theorem OpR.call {cl:Go.Call}{x:Operand}{k:FuncId}{first cap args:List V}{R:V→H→Prop}(J:o.op=.call cl)(hc:cl.callee=.value x)(hx:lookO E x=some (.fn (.func k) first cap))
 (ha:lookArgs E cl.args.toList=some args)(I:Am.Call C k (first++(args++cap)) h R): OpR C E h o R:=by
 obtain ⟨v,h₁,U,hr⟩:=I
 exact ⟨v,h₁,hr,fun env hE=>xy hE J hc hx ha U⟩
theorem OpR.of {v:V}{R:V→H→Prop}(ho:opE C.P E h o.op=some (v,h₁))(I:R v h₁): OpR C E h o R:=⟨v,h₁,I,fun _ J=>⟨0,vf J ho⟩⟩
theorem ae.any {R:List (Nat×V)→H→Prop}{tj:V→H→Prop}(hg:wantE L E o.guard=some true)(hd:o.dst=some d)(hn:Nat.blt d ak=true)(ho:OpR C E h o tj)
 (hw:∀v h₁,tj v h₁→ae C ak L rest ((d,v)::E) h₁ R): ae C ak L (o::rest) E h R:=by
 intro env J
 obtain ⟨v,h₁,hr,U⟩:=ho
 obtain ⟨N,hN⟩:=U env J
 obtain ⟨M,I,h',E',h1,h2,h3⟩:=hw v h₁ hr (env.set d (some v)) (J.set d v)
 refine ⟨Nat.max N M,I,h',E',?_,h2,h3⟩
 simp only [evOps,gO J hg,cond_true,iK (dW (Nat.le_max_left N M)) hN,St.put,hd,hn]
 exact mX (dW (Nat.le_max_right N M)) _ _ _ h1
def DL : List (Env×V)→List (List (Nat×V)×V)→Prop
 | [],[]=>True
 | x::l,y::m=>gN x.1 y.1∧x.2=y.2∧DL l m
 | _,_=>False
def au (C:cf)(ak:Nat)(L l:List Oper)(E:List (Nat×V))(h:H)(hs:List H)(Q:List (Nat×V)→H→List (List (Nat×V)×V)→List H→Prop): Prop :=
 ∀env,gN env E→∃N I h' U tr ts J,trace C (ev C N) L l ⟨env,ak,h⟩ hs=some (tr,J,⟨I,ak,h'⟩)∧gN I U∧DL tr ts∧Q U h' ts J
variable {hs:List H} {Q:List (Nat×V)→H→List (List (Nat×V)×V)→List H→Prop}
theorem au.nil (I:Q E h [] hs): au C ak L [] E h hs Q:=fun env J=>⟨0,env,h,E,[],[],hs,rfl,J,trivial,I⟩
theorem au.any {tj:V→H→Prop}{e:Bool}(hg:wantE L E o.guard=some true)(hd:o.dst=some d)(hn:Nat.blt d ak=true)(he:isEff C o.op=e)(ho:OpR C E h o tj)
 (hw:∀v h₁,tj v h₁→au C ak L rest ((d,v)::E) h₁ (cond e (hs++[h₁]) hs) fun E' h' ts I=>Q E' h' ((E,v)::ts) I): au C ak L (o::rest) E h hs Q:=by
 intro env U
 obtain ⟨v,h₁,hr,iV⟩:=ho
 obtain ⟨N,hN⟩:=iV env U
 obtain ⟨M,J,h',E',tr,ts,I,h1,h2,h3,h4⟩:=hw v h₁ hr (env.set d (some v)) (U.set d v)
 refine ⟨Nat.max N M,J,h',E',(env,v)::tr,(E,v)::ts,I,?_,h2,⟨U,rfl,h3⟩,h4⟩
 simp only [trace,gO U hg,cond_true,iK (dW (Nat.le_max_left N M)) hN,St.put,hd,hn,he]
 rw [pX (dW (Nat.le_max_right N M)) _ _ _ _ h1]
theorem au.fI {tj:V→H→Prop}{e:Bool}(hg:wantE L E o.guard=some true)(hd:o.dst=none)(he:isEff C o.op=e)(ho:OpR C E h o tj)
 (hw:∀v h₁,tj v h₁→au C ak L rest E h₁ (cond e (hs++[h₁]) hs) fun E' h' ts I=>Q E' h' ((E,v)::ts) I): au C ak L (o::rest) E h hs Q:=by
 intro env U
 obtain ⟨v,h₁,hr,iV⟩:=ho
 obtain ⟨N,hN⟩:=iV env U
 obtain ⟨M,J,h',E',tr,ts,I,h1,h2,h3,h4⟩:=hw v h₁ hr env U
 refine ⟨Nat.max N M,J,h',E',(env,v)::tr,(E,v)::ts,I,?_,h2,⟨U,rfl,h3⟩,h4⟩
 simp only [trace,gO U hg,cond_true,iK (dW (Nat.le_max_left N M)) hN,St.put,hd,he]
 rw [pX (dW (Nat.le_max_right N M)) _ _ _ _ h1]
theorem au.op {v:V}(J:wantE L E o.guard=some true)(U:o.dst=some d)(hn:Nat.blt d ak=true)(he:isEff C o.op=false)(ho:opE C.P E h o.op=some (v,h))
 (hw:au C ak L rest ((d,v)::E) h hs fun E' h' ts I=>Q E' h' ((E,v)::ts) I): au C ak L (o::rest) E h hs Q :=
 au.any J U hn he (OpR.of (R:=fun v' h'=>v'=v∧h'=h) ho ⟨rfl,rfl⟩) (fun v' h' hr=>by obtain ⟨rfl,rfl⟩:=hr; exact hw)
theorem au.no {e:Bool}(hg:wantE L E o.guard=some false)(hd:o.dst=some d)(hn:Nat.blt d ak=true)(he:isEff C o.op=e)
 (hw:au C ak L rest ((d,bt)::E) h (cond e (hs++[h]) hs) fun U h' ts I=>Q U h' ((E,bt)::ts) I): au C ak L (o::rest) E h hs Q:=by
 intro env hE
 obtain ⟨M,J,h',U,tr,ts,I,h1,h2,h3,h4⟩:=hw (env.set d (some bt)) (hE.set d bt)
 refine ⟨M,J,h',U,(env,bt)::tr,(E,bt)::ts,I,?_,h2,⟨hE,rfl,h3⟩,h4⟩
 simp only [trace,gO hE hg,cond_false,St.put,hd,hn,cond_true,he]
 rw [h1]
def zS (C:cf)(L:List Oper)(o:Oper)(x:List (Nat×V)×V)(h:H): Prop :=
 wantE L x.1 o.guard=some false∨(wantE L x.1 o.guard=some true∧(∃h',opE C.P x.1 h o.op=some (x.2,h'))∧x.2.beq x.2=true)
def yK (C:cf)(L:List Oper)(an es:List Nat)(hs:List H): List Oper→List (List (Nat×V)×V)→Nat→Prop
 | o::l,x::tr,i=>(isEff C o.op=true∨(g6 ((nth an i).getD 0) es&&Nat.beq (eT ((nth an i).getD 0) es) (gu an i es))=true ∨
   (g6 ((nth an i).getD 0) es=true∧∀h∈(hs.drop (eT ((nth an i).getD 0) es)).take (gu an i es+1-eT ((nth an i).getD 0) es),zS C L o x h))∧yK C L an es hs l tr (i+1)
 | [],[],_=>True
 | _,_,_=>False
theorem FM {self:Self}{x:Env×V}{y:List (Nat×V)×V}(J:gN x.1 y.1)(hv:x.2=y.2): ∀(hs:List H),(∀h∈hs,zS C L o y h)→sameIn C self L o x hs=true:=by
 intro hs
 induction hs with
 | nil=>intro _; rfl
 | cons h hs ih =>
  intro I
  simp only [sameIn]
  rcases I h List.mem_cons_self with U | ⟨U,⟨h',ho⟩,hb⟩
  ·rw [gO J U,cond_false]
  ·rw [gO J U,cond_true,vf J ho]
   simp only
   rw [hv,hb,cond_true]
   exact ih (fun h hh=>I h (List.mem_cons_of_mem _ hh))
theorem FN {self:Self}{an es:List Nat}: ∀(l:List Oper) (tr:List (Env×V)) (J:List (List (Nat×V)×V)) (i:Nat),DL tr J→yK C L an es hs l J i→stayOk C self L an es hs l tr i=true:=by
 intro l
 induction l with
 | nil=>intro tr J i hn U; cases tr <;> cases J <;> first | rfl | (exact U.elim) | (exact hn.elim)
 | cons o l ih =>
  intro tr J i hn U
  cases tr with
  | nil=>cases J with
   | nil=>exact U.elim
   | cons y J=>exact hn.elim
  | cons x tr =>
   cases J with
   | nil=>exact hn.elim
   | cons y J =>
    obtain ⟨n1,n2,n3⟩:=hn
    obtain ⟨s1,s2⟩:=U
    simp only [stayOk]
    have I:=ih tr J (i+1) n3 s2
    cases he:isEff C o.op with
    | true=>rw [cond_true]; exact I
    | false =>
     rw [cond_false]
     rcases s1 with s1 | s1 | ⟨s1,s3⟩
     ·rw [he] at s1; cases s1
     ·rw [s1,cond_true]; exact I
     ·cases hq:(g6 ((nth an i).getD 0) es&&Nat.beq (eT ((nth an i).getD 0) es) (gu an i es)) with
      | true=>rw [cond_true]; exact I
      | false=>rw [cond_false,s1,FM n1 n2 _ s3,Bool.and_self,cond_true]; exact I
theorem WP.draw {id:Nat}{ops:Array Oper}{Q:Ex→List (Nat×V)→H→Prop}(hl:ops.toList=L)(J:lN C L=true)
 (hw:au C ak L L E h [h] fun U h' ts hs=>yK C L (ancs L []) (b_ C L 0) hs L ts 0∧Q .normal U h'): WP C ak (.region id ops true) E h Q:=by
 intro env hE
 obtain ⟨N,I,h',U,tr,ts,xx,h1,h2,h3,h4,h5⟩:=hw env hE
 refine ⟨N+1,.normal,I,h',U,?_,h2,h5⟩
 subst hl
 rw [gG]
 simp only [evStep,cond_true,iA,J,h1,FN _ _ _ _ h3 h4]
end
def planOk (C:cf)(an es:List Nat): List Oper→List (Option (Nat×Nat))→Nat→Bool
 | [],[],_=>true
 | o::l,p::ps,i=>(match p with
   | none=>isEff C o.op||(g6 ((nth an i).getD 0) es&&Nat.beq (eT ((nth an i).getD 0) es) (gu an i es))
   | some (lo,n)=>g6 ((nth an i).getD 0) es&&Nat.beq lo (eT ((nth an i).getD 0) es)&&Nat.beq n (gu an i es+1-eT ((nth an i).getD 0) es))&&planOk C an es l ps (i+1)
 | _,_,_=>false
def vl (C:cf)(L:List Oper)(hs:List H): List Oper→List (List (Nat×V)×V)→List (Option (Nat×Nat))→Prop
 | o::l,x::tr,p::ps=>(match p with
   | none=>True
   | some (lo,n)=>∀h∈(hs.drop lo).take n,zS C L o x h)∧vl C L hs l tr ps
 | [],[],_=>True
 | _,_,_=>False
theorem vl.stay {C:cf}{L:List Oper}{hs:List H}{an es:List Nat}: ∀(l:List Oper) (I:List (List (Nat×V)×V)) (ps:List (Option (Nat×Nat))) (i:Nat),planOk C an es l ps i=true→vl C L hs l I ps→yK C L an es hs l I i:=by
 intro l
 induction l with
 | nil=>intro I ps i h1 U; cases I with
  | nil=>trivial
  | cons x I=>exact U.elim
 | cons o l ih =>
  intro I ps i h1 U
  cases I with
  | nil=>cases ps <;> exact U.elim
  | cons x I =>
   cases ps with
   | nil=>exact U.elim
   | cons p ps =>
    simp only [planOk,Bool.and_eq_true] at h1
    obtain ⟨J,a2⟩:=h1
    obtain ⟨b1,b2⟩:=U
    refine ⟨?_,ih I ps (i+1) a2 b2⟩
    cases p with
    | none =>
     simp only [Bool.or_eq_true] at J
     rcases J with J | J
     ·exact .inl J
     ·exact .inr (.inl J)
    | some q =>
     obtain ⟨lo,n⟩:=q
     simp only [Bool.and_eq_true,beq_iff] at J
     obtain ⟨⟨c1,c2⟩,c3⟩:=J
     refine .inr (.inr ⟨c1,?_⟩)
     subst c2
     subst c3
     exact b1
theorem WP.drawn {C:cf}{ak:Nat}{L:List Oper}{E:List (Nat×V)}{h:H}{id:Nat}{ops:Array Oper}{Q:Ex→List (Nat×V)→H→Prop}(ps:List (Option (Nat×Nat)))(hl:ops.toList=L)(J:lN C L=true)
 (hp:planOk C (ancs L []) (b_ C L 0) L ps 0=true)
 (hw:au C ak L L E h [h] fun U h' ts hs=>vl C L hs L ts ps∧Q .normal U h'): WP C ak (.region id ops true) E h Q:=by
 refine WP.draw hl J ?_
 intro env hE
 obtain ⟨N,I,h',U,tr,ts,xx,h1,h2,h3,h4,h5⟩:=hw env hE
 exact ⟨N,I,h',U,tr,ts,xx,h1,h2,h3,vl.stay _ _ _ _ hp h4,h5⟩
theorem cR {a b:H}{l:List H}{p:H→Prop}(J:p a)(U:p b): ∀x∈((a::b::l).drop 0).take 2,p x:=by
 intro x I
 simp only [List.drop_zero,List.take_succ_cons,List.take_zero,List.mem_cons,List.not_mem_nil,or_false] at I
 rcases I with rfl | rfl
 ·exact J
 ·exact U
theorem rD {a b c:H}{l:List H}{p:H→Prop}(J:p a)(U:p b)(hc:p c): ∀x∈((a::b::c::l).drop 0).take 3,p x:=by
 intro x I
 simp only [List.drop_zero,List.take_succ_cons,List.take_zero,List.mem_cons,List.not_mem_nil,or_false] at I
 rcases I with rfl | rfl | rfl
 ·exact J
 ·exact U
 ·exact hc
theorem cE (k:IntKind): ikBeq k k=true:=by cases k <;> rfl
theorem ie (n:Int): intBeq n n=true:=by cases n <;> simp [intBeq]
theorem tO (c:Cap): c.beq c=true:=by cases c <;> simp [Cap.beq]
theorem vm (a b c:Nat)(d:Cap): (V.sl a b c d).beq (.sl a b c d)=true:=by simp [V.beq,tO]
theorem cg {h:H}{v:V}{l:List Nat}(I:View h v l): v.beq v=true:=by
 obtain ⟨_,I⟩:=I
 rcases I with ⟨rfl | ⟨J,rfl⟩,_⟩ | ⟨id,off,cap,n,cs,st,rfl,_⟩
 ·simp [V.beq]
 ·simp [V.beq]
 ·exact vm _ _ _ _
section
variable {C:cf} {ak:Nat} {L rest:List Oper} {E:List (Nat×V)} {h:H} {hs:List H} {Q:List (Nat×V)→H→List (List (Nat×V)×V)→List H→Prop} {o:Oper} {d i:Nat} {v u r:V} {x y a b:Operand} {t t':TypeId}
theorem zM (e:(o.op,wantE L E o.guard,o.dst,Nat.blt d ak,isEff C o.op,lookO E x)=(Op.move x,some true,some d,true,false,some v))(hw:au C ak L rest ((d,v)::E) h hs fun J h' U I=>Q J h' ((E,v)::U) I): au C ak L (o::rest) E h hs Q:=by
  simp only [Prod.mk.injEq] at e; exact au.op e.2.1 e.2.2.1 e.2.2.2.1 e.2.2.2.2.1 (by rw [e.1]; exact aV e.2.2.2.2.2) hw
theorem zA (e:(o.op,wantE L E o.guard,o.dst,Nat.blt d ak,isEff C o.op,lookO E x)=(Op.assign x,some true,some d,true,false,some v))(hw:au C ak L rest ((d,v)::E) h hs fun J h' U I=>Q J h' ((E,v)::U) I): au C ak L (o::rest) E h hs Q:=by
  simp only [Prod.mk.injEq] at e; exact au.op e.2.1 e.2.2.1 e.2.2.2.1 e.2.2.2.2.1 (by rw [e.1]; exact c_ e.2.2.2.2.2) hw
theorem zN {j k:Nat}(e:(o.op,wantE L E o.guard,o.dst,Nat.blt d ak,isEff C o.op,lookO E x)=(Op.nilCheck x,some true,some d,true,false,some (V.ptr j k)))(hw:au C ak L rest ((d,.ptr j k)::E) h hs fun J h' U I=>Q J h' ((E,.ptr j k)::U) I): au C ak L (o::rest) E h hs Q:=by
  simp only [Prod.mk.injEq] at e; exact au.op e.2.1 e.2.2.1 e.2.2.2.1 e.2.2.2.2.1 (by rw [e.1]; exact kX e.2.2.2.2.2) hw
theorem zF (e:(o.op,wantE L E o.guard,o.dst,Nat.blt d ak,isEff C o.op,lookO E x)=(Op.fieldAddr t x i,some true,some d,true,false,some v))(J:fieldAddrV C.P t v i=some r)(hw:au C ak L rest ((d,r)::E) h hs fun U h' ts I=>Q U h' ((E,r)::ts) I): au C ak L (o::rest) E h hs Q:=by
  simp only [Prod.mk.injEq] at e; exact au.op e.2.1 e.2.2.1 e.2.2.2.1 e.2.2.2.2.1 (by rw [e.1]; exact iO e.2.2.2.2.2 J) hw
theorem zL (e:(o.op,wantE L E o.guard,o.dst,Nat.blt d ak,isEff C o.op,lookO E x)=(Op.load t x,some true,some d,true,false,some v))(J:loadV C.P h t v=some r)(hw:au C ak L rest ((d,r)::E) h hs fun U h' ts I=>Q U h' ((E,r)::ts) I): au C ak L (o::rest) E h hs Q:=by
  simp only [Prod.mk.injEq] at e; exact au.op e.2.1 e.2.2.1 e.2.2.2.1 e.2.2.2.2.1 (by rw [e.1]; exact aI e.2.2.2.2.2 J) hw
theorem zO (e:(wantE L E o.guard,o.dst,Nat.blt d ak,isEff C o.op)=(some true,some d,true,false))(ho:opE C.P E h o.op=some (v,h))(hw:au C ak L rest ((d,v)::E) h hs fun J h' U I=>Q J h' ((E,v)::U) I): au C ak L (o::rest) E h hs Q:=by
  simp only [Prod.mk.injEq] at e; exact au.op e.1 e.2.1 e.2.2.1 e.2.2.2 ho hw
end
end Go.Proofs.YtconhghphklfjaaGreat.Am
