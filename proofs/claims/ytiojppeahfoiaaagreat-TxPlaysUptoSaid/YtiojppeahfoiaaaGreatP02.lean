/- TxPlays: a part of its proof; conditions: its statement's. -/
import Derived.Test.YtiojppeahfoiaaaGreatP01
import Derived.Scope
import Derived.Test.YtiojppeahfoiaaaGreatProg
import Derived.KernelRfl
import Derived.Shelf.SlIterI.Sorted
import Derived.Defers
import Derived.Recover
set_option linter.defProp false
namespace Go.Proofs.YtiojppeahfoiaaaGreat.Am
open Go Proofs.Tryz
def aZ:=@underlying23
def Ga:=@func217
abbrev bU:=Nat->Option (List V->H->Option (V×H))
variable {ps:Array (Nat×Operand)} {ops:Array Oper} {st:Bool} {C:eP} {code:Code} {c₀:Ctx} {env:Env} {a8:Ex->List (Nat×V)->H->Prop} {fn:Func} {f:FuncId} {h h' σ h₁ c5:H} {κ:IntKind} {E E':List (Nat×V)} {R:List (Nat×V)->H->Prop} {d₀:List Deferred} {hs:List H} {eW es l:List Nat} {L rest:List Oper} {args cap vs cs ds:List V} {a b i c k id n d off j g pH k' q:Nat} {Hs:Nat->H} {early:Nat->Option (Nat×FV)} {Fl:Nat->Prop} {vv:Nat->V} {o':Obj} {o:Oper} {x y:Operand} {P:Program} {φ:Prop} {self:Self} {s s':St} {α:Type} {td:TypeDesc} {t t' e kt et:TypeId} {r u z:V} {AN:V->H->Prop} {w₀:World}
theorem Wd {a b:IntKind}(h:ikBeq a b=true): a=b:=by cases a<;>cases b<;>first|rfl|(simp[ikBeq] at h)
theorem yj {a b:Int}(h:intBeq a b=true): a=b:=by
 cases a<;>cases b<;>simp[intBeq] at h<;>rw[h]
theorem Gb : ∀ {a b:List Nat},natsBeq a b=true->a=b
 |[],[],_=>rfl
 |[],_::_,h=>by simp[natsBeq] at h
 |_::_,[],h=>by simp[natsBeq] at h
 |x::a,y::b,h=>by
  simp only[natsBeq] at h;cases I:Nat.beq x y with
  |false=>grind
  |true=>rw[I,ak] at h;rw[beq_iff.1 I,Gb h]
theorem SQ {a b:Cap}(h:a.beq b=true): a=b:=by
 cases a<;>cases b<;>simp[Cap.beq] at h
 .rw[h]
 .grind
mutual
theorem Ib : ∀(a b:V),V.beq a b=true->a=b
 |.bool a,b,h=>by cases b<;>simp[V.beq] at h;rw[h]
 |.int j a,b,h=>by
  cases b<;>simp[V.beq] at h
  rw[Wd h.1,yj h.2]
 |.str a,b,h=>by cases b<;>simp[V.beq] at h;rw[Gb h]
 |.aW,b,h=>by cases b<;>simp[V.beq] at h;rfl
 |.ptr x y,b,h=>by cases b<;>simp[V.beq] at h;rw[h.1,h.2]
 |.aP,b,h=>by cases b<;>simp[V.beq] at h;rfl
 |.sl x y z u,b,h=>by
  cases b<;>simp[V.beq] at h
  rw[h.1.1.1,h.1.1.2,h.1.2,SQ h.2]
 |.lM,b,h=>by cases b<;>simp[V.beq] at h;rfl
 |.map x,b,h=>by cases b<;>simp[V.beq] at h;rw[h]
 |.fn f x y,b,h=>by
  cases f with
  |func k=>cases b with
   |fn g u v=>cases g with
    |func j =>
     simp[V.beq] at h;rw[h.1.1,xm x u h.1.2,xm y v h.2]
    |_=>simp[V.beq] at h
   |_=>simp[V.beq] at h
  |_=>cases b<;>simp[V.beq] at h
 |.I7,b,h=>by cases b<;>simp[V.beq] at h;rfl
 |.iface t v,b,h=>by
  cases b<;>simp[V.beq] at h
  rw[h.1,Ib v _ h.2]
 |.jZ,b,h=>by cases b<;>simp[V.beq] at h;rfl
 |.agg l,b,h=>by cases b<;>simp[V.beq] at h;rw[xm l _ h]
 |.aR l,b,h=>by cases b<;>simp[V.beq] at h;rw[xm l _ h]
 |.BP _,b,h=>by cases b<;>simp[V.beq] at h
 |.sle a,b,h=>by cases b<;>simp[V.beq] at h;rw[h]
 |.wX k x,b,h=>by
  cases b with
  |wX j y =>
   simp[V.beq] at h;rw[h.2];cases k<;>cases j<;>first|rfl|(simp[fkBeq] at h)
  |_=>simp[V.beq] at h
theorem xm : ∀(a b:List V),V.beqL a b=true->a=b
 |[],b,h=>by cases b<;>simp[V.beqL] at h;rfl
 |x::a,b,h=>by
  cases b with
  |nil=>simp[V.beqL] at h
  |cons y b =>
   simp only[V.beqL] at h;cases I:V.beq x y with
   |false=>rw[I] at h;cases h
   |true=>rw[I,ak] at h;rw[Ib x y I,xm a b h]
end
theorem Ic {m:Nat}: ∀(es:List Nat),(∀idx p,idx<ng m es->es[idx]?=some p->bit m p=true)/\ng m es<=es.length:=by
 intro es;induction es<;>grind[ng]
theorem We {m:Nat}: ∀(es:List Nat),uF m es=true->∀(I J p q:Nat),I<=J->es[I]?=some p->es[J]?=some q->bit m q=true->bit m p=true:=by
 intro es;induction es<;>grind[uF]
theorem OW : ∀(es:List Nat),sG eW i es<=es.length/\∀p,es[sG eW i es]?=some p->bit ((nth eW p).getD 0) i=true:=by
 intro es;induction es<;>grind[sG]
section
theorem SR {x:Env×V}: ∀(l:List H),sameIn C self L o x l=true->wantedV L x.1 o=true->∀h∈l,∃h',evOp C self x.1 h o=some (x.2,h'):=by
 intro l;induction l with
 |nil=>simp
 |cons y l I =>
  intro hs hw h hm;simp only[sameIn,hw,ak] at hs;cases he:evOp C self x.1 y o with
  |none=>grind
  |some r =>
   grind[Ib]
theorem Jl : ∀(l:List Oper) (tr:List (Env×V)) (k:Nat),stayOk C self L eW es hs l tr k=true ->
  ∀j o x,l[j]?=some o->tr[j]?=some x->isEff C o.op=false ->
   uF ((nth eW (k+j)).getD 0) es=true/\(ng ((nth eW (k+j)).getD 0) es=sG eW (k+j) es \/
    sameIn C self L o x ((hs.drop (ng ((nth eW (k+j)).getD 0) es)).take (sG eW (k+j) es+1-ng ((nth eW (k+j)).getD 0) es))=true):=by
 intro l;induction l with
 |nil=>simp
 |cons y l I =>
  intro tr k h j o x ho J he;cases tr with
  |nil=>grind
  |cons z tr =>
   simp only[stayOk] at h;cases j<;>grind[beq_iff]
theorem aaw {ops:List Oper}: ∀(l:List Oper) (tr:List (Env×V)),allW ops l tr=true->∀(i:Nat) (o:Oper) (x:Env×V),l[i]?=some o->tr[i]?=some x->isAlloc true o=true->wantedV ops x.1 o=true:=by
 intro l;induction l with
 |nil=>simp
 |cons y l I =>
  intro tr h i o x ho J ha;cases tr<;>grind[allW]
theorem Kg (h:isAlloc false o=true): isAlloc true o=true/\o.guard=none:=by
 grind[isAlloc]
theorem Wf {z:St}(hr:qH C self L s=some z):
    ∃Fl st vv Hs,iZ C self Fl L s st vv (eX C L 0) Hs/\st L.length=z/\L.all (λo => !KQ o.op)=true:=by
  unfold qH at hr;cases htr:trace C self L L s [s.h] with
  |none=>grind
  |some q =>
      obtain⟨tr,hs,z'⟩:=q;simp only[htr] at hr;cases J:stayOk C self L (ancs L []) (eX C L 0) hs L tr 0 with
      |false=>grind
      |true =>
        rw[J,ak] at hr;obtain⟨fl,dG,hW,hr⟩:∃fl,nT C fl L=true/\(∀(i:Nat) (o:Oper) (x:Env×V),L[i]?=some o->tr[i]?=some x->isAlloc fl o=true->isAlloc true o=true/\wantedV L x.1 o=true)/\z'=z:=by
          cases h0:nT C false L with
          |true =>
            rw[h0,ak] at hr;refine⟨false,h0,λi o x _ _ ha=>?_,fY hr⟩<;>grind[Kg,wantedV]
          |false =>
            grind[aaw]
        subst hr;simp only[nT,b9] at dG;obtain⟨⟨⟨s1,s2⟩,s3⟩,s4⟩:=dG;obtain⟨st,t1,t2,t3,t4,t5⟩:=Wb L 0 s [s.h] tr hs z' htr;simp only[f_] at t2 t5;have Zf:∀i o,L[i]?=some o->∀e∈o.after,h_ e=true->e.on<i:=λi o ho e he hb=>by
          have:=K8 L 0 s1 i o ho e he hb;omega
        have aiz:∀i o,L[i]?=some o->∀j,bit ((nth (ancs L []) i).getD 0) j=true->j<i:=λi o ho j hj =>
          (K7 Zf (λ_=>True) i o ho (λ_ _ _ _ _ _ _ _=>trivial) (λ_ _ _=>trivial) j hj).2
        have I:=(B4 (C:=C) L 0).1;have Ji:∀p,p∈eX C L 0↔∃o,L[p]?=some o/\isEff C o.op=true:=λp=>by
          grind[SL]
        have hHs:∀k p,(eX C L 0)[k]?=some p->hs[k+1]?=some (st (p+1)).h:=λk p hp=>by
          grind
        have hH0:hs[0]?=some s.h:=Q;have aie:hs.length=(eX C L 0).length+1:=Q;have vR:∀i o,L[i]?=some o->∃h,(st i).put o.dst (((tr[i]?).map (·.2)).getD cA) h=some (st (i+1)) /\
            (wantedV L (st i).env o=true->evOp C self (st i).env (st i).h o=some (((tr[i]?).map (·.2)).getD cA,h))/\(wantedV L (st i).env o=false->((tr[i]?).map (·.2)).getD cA=cA/\h=(st i).h):=λi o ho=>by
          grind
        -- all but 'same'; it is wanted for 'heapAt'
        have aiA:(∀i o,L[i]?=some o->isEff C o.op=false->∀k,k<=(eX C L 0).length->(∀idx p,idx<k->(eX C L 0)[idx]?=some p->bit ((nth (ancs L []) p).getD 0) i=false) ->
              (∀idx p,k<=idx->(eX C L 0)[idx]?=some p->bit ((nth (ancs L []) i).getD 0) p=false) ->
              wantedV L (st i).env o=true->∃h',evOp C self (st i).env ((hs[k]?).getD s.h) o=some (((tr[i]?).map (·.2)).getD cA,h')) ->
            iZ C self (λi=>∃o,L[i]?=some o/\isAlloc fl o=true) L s st (λi=>((tr[i]?).map (·.2)).getD cA) (eX C L 0) (λk=>(hs[k]?).getD s.h):=λQd =>
          { back:=Zf
            Qn:=λj o ho i x hi hx=>by
              have:=Ql L 0 s2 j o ho i x Y hx;grind
            DH:=λi o ho ⟨o',K9,ha⟩=>by
              grind
            SN:=λi o ho ⟨o',K9,ha⟩ j u hu bY=>by
              rw[ho] at K9;obtain rfl:=fY K9;rcases NN L 0 s3 i o ho ha j u hu Y with h|h<;>grind[SM]
            uX:=Ji
            sorted:=I
            start:=t1
            step:=vR
            Qo:=Q
            F8:=λk p hp=>by grind
            gap:=λi o ho he=>by
              obtain⟨v,h,e1,_⟩:=t5 i o ho;have:=(Jl L tr 0 J i o _ ho e1 he).1;grind[We]
            same:=Qd }
        refine⟨_,st,_,_,aiA λi o ho he k hk h1 h2 hw=>?_,t2,s4⟩;obtain⟨v,h,e1,e2,e3,e4⟩:=t5 i o ho;obtain⟨g1,g2⟩:=Jl L tr 0 J i o _ ho e1 he;simp only[f_] at g1 g2;have agl:ng ((nth (ancs L []) i).getD 0) (eX C L 0)<=k:=zV λbY=>by
          obtain⟨p,hp⟩:∃p,(eX C L 0)[k]?=some p:=⟨_,aI (by grind[Ic])⟩<;>grind[Ic]
        have aiB:k<=sG (ancs L []) i (eX C L 0):=zV λbY=>by
          grind[OW]
        have V3:((tr[i]?).map (·.2)).getD cA=v:=Q;rw[V3];rcases g2 with g2|g2
        . -- its place is known
          have Y_:(st i).h=(hs[k]?).getD s.h:=by
            have bY:∀idx p,idx<k->(eX C L 0)[idx]?=some p->p<i:=λidx p bY hp=>by
              grind[Ic]
            have hge:∀idx p,k<=idx->(eX C L 0)[idx]?=some p->i<=p:=λidx p hle hp=>by
              obtain⟨q,hq⟩:∃q,(eX C L 0)[k]?=some q:=⟨_,aI Q⟩;have hb:=(OW (eW:=ancs L []) (i:=i) (eX C L 0)).2 q Q;obtain⟨x,hx,_⟩:=(Ji q).1 (bz hq)<;>grind[List.pairwise_iff_getElem]
            exact F9 (Hs:=λk=>(hs[k]?).getD s.h) vR (λp=>Ji p) I t1 Q (λk p hp=>Q) i k Q hk bY hge
          rw[<-Y_];exact⟨h,e3 hw⟩
        . have hm:(hs[k]?).getD s.h∈(hs.drop (ng ((nth (ancs L []) i).getD 0) (eX C L 0))).take (sG (ancs L []) i (eX C L 0)+1-ng ((nth (ancs L []) i).getD 0) (eX C L 0)):=by
            have agm:k<hs.length:=Y;refine bz (i:=k-ng ((nth (ancs L []) i).getD 0) (eX C L 0)) ?_;rw[List.getElem?_take,bk Y,List.getElem?_drop,Nat.add_sub_cancel' agl,aI agm];simp
          exact SR _ g2 hw _ hm
theorem aax {S:Nat->Prop}(hb:∀i o,L[i]?=some o->∀e∈o.after,h_ e=true->e.on<i)(I:∀i o,¬ m8 L S i o): ∀i,i<L.length->S i:=by
 intro i;induction i using Nat.strongRecOn with
 |_ i ih =>
  refine λhi=>OJ λJ=>?_;refine I i L[i] ⟨aI hi,J,λe he Zg=>?_⟩<;>grind
theorem iG.done {st:Nat->St}{c:Ctx}{w:World}{S:Nat->Prop}{a:Act}
 (D:iZ C self Fl L s st vv es Hs)(I:iG C self Fl L s st vv es Hs c₀ w₀ d₀ S early k c a w)(mu:∀p,es[k]?=some p->¬ S p)(oP:∀i,i<L.length->S i):
  Rel c (st L.length).h w/\dA c (st L.length).env (st L.length).au a:=by
 have bY:∀p∈es,p<L.length:=λp J=>by
  obtain⟨o,ho,_⟩:=(D.uX p).1 J<;>grind
 have ahZ:∀p,early p=none:=λp=>by
  cases h:early p with
  |none=>rfl
  |some b =>
   obtain⟨_,idx,h1,h2⟩:=I.wL p b h<;>grind
 refine⟨?_,?_⟩
 .rw[D.K_ L.length k (az _) I.OR (λidx p _ J=>bY p (bz J)) (λidx p hle J=>Q)];exact I.rel
 .have hv:∀t,a.tmps.getD t undef=conc c ((st L.length).env.v t)/\wf c ((st L.length).env.v t):=λt=>by
   rcases I.tmp t with⟨i,o,g1,g2,g3,g4,g5⟩|⟨g1,g2,g3⟩
   .have:(st L.length).env.v t=vv i:=by
     rcases D.Kt t L.length (az _) with⟨j,oj,h1,h2,h3,h4,h5⟩|⟨h1,_⟩<;>grind
    rcases g5 with⟨b,e1,_⟩|⟨_,e2,e3⟩
    .grind
    .grind
   .have:(st L.length).env.v t=s.env.v t:=by
     rcases D.Kt t L.length (az _) with⟨j,oj,h1,h2,h3,h4,h5⟩|⟨_,h⟩<;>grind
    rw[this];exact⟨g2,g3⟩
  exact⟨by rw[I.size,D.au L.length (az _)],λt=>(hv t).1,λt=>(hv t).2⟩
theorem iG.congr {st:Nat->St}{c:Ctx}{w:World}{S S':Nat->Prop}{a:Act}
 (I:iG C self Fl L s st vv es Hs c₀ w₀ d₀ S early k c a w)(h:∀j,S j↔S' j): iG C self Fl L s st vv es Hs c₀ w₀ d₀ S' early k c a w:=by
 have:S=S':=funext λj=>propext (h j);rw[<-this];exact I
theorem Wg (hS:jx C.P self)(hT:er C){r:Option Nat}(hL:ops.toList=L){a8:Exit->Act->World->Prop}{st:Nat->St}(D:iZ C self Fl L s st vv es Hs)
 (hQ:∀c a w,Rel c (st L.length).h w->dA c (st L.length).env (st L.length).au a->cq c₀ w₀ c w->a.defers=d₀->a8 .normal a w):
  ∀(fuel:Nat) (J:Array Bool) (early:Nat->Option (Nat×FV)) (k:Nat) (c:Ctx) (a:Act) (w:World),J.size=L.length->J.count false<=fuel ->
   iG C self Fl L s st vv es Hs c₀ w₀ d₀ (λj=>J.getD j false=true) early k c a w->wpAnyIn (Fr r) 0 C.P .any ops a8 fuel J a w:=by
 intro fuel;induction fuel with
 |zero =>
  intro J early k c a w eR agn I;have oP:∀i,i<L.length->J.getD i false=true:=λi hi=>by
   have h0:J.count false=0:=Y;have:false∉J:=Array.count_eq_zero.1 h0;rw[zD,HL Y];grind
  obtain⟨pG,k',c',I',mu⟩:=iG.Jk D (es.length-k) k early c U I;obtain⟨r1,r2⟩:=I'.done D mu oP;refine⟨List.eq_nil_iff_forall_not_mem.2 λj hj=>?_,hQ c' a w r1 r2 I'.OS I'.defers⟩;obtain⟨h1,o,h2,_⟩:=mem_ready.1 hj;have bY:j<L.length:=Q;have h3:=oP j bY;rw[zD,HL Y] at h1 h3;simp at h1 h3;rw[h1] at h3;cases h3
 |succ fuel ih =>
  intro J early k c a w eR agn I;obtain⟨pG,k',c',I',mu⟩:=iG.Jk D (es.length-k) k early c U I;have acZ:∀j,j∈Region.ready .any ops J↔∃o,m8 L (λj=>J.getD j false=true) j o:=λj=>by
   rw[mem_ready];constructor
   .rintro⟨h1,o,h2,h3⟩;refine⟨o,Q,λh4=>?_,λe he hb=>h3 e he ?_⟩
    .grind
    .rw[<-hb];cases e;rename_i on g;cases g<;>rfl
   .rintro⟨o,R⟩;have h2:=R.at_;rw[<-hL,oB] at h2;refine⟨?_,o,h2,λe he hb=>R.Qr e he ?_⟩
    .have h4:=R.not;grind
    .rw[<-hb];cases e;rename_i on g;cases g<;>rfl
  refine⟨λFg=>?_,λi hi=>?_⟩
  .have oP:=aax (S:=λj=>J.getD j false=true) D.back (λi o R=>by
    grind)
   obtain⟨r1,r2⟩:=I'.done D mu oP;exact hQ c' a w r1 r2 I'.OS I'.defers
  .obtain⟨o,R⟩:=(acZ i).1 hi;have bY:i<J.size:=by rw[eR];exact(List.getElem?_eq_some_iff.1 R.at_).1
   have ah0:J[i]=false:=by
    have:=R.not;rw[zD,HL bY] at this;simpa using this
   refine I'.acX hS hT hL D mu R λaay k'' vI B3 xk I''=>ih (J.setIfInBounds i true) aay k'' vI B3 xk Q ?_ (I''.congr λj=>?_)
   .grind
   .by_cases vJ:j=i
    .subst vJ;simp[zD,bY]
    simp_all[rQ]
theorem SS (hS:jx C.P self)(hT:er C)(hm:C.P.follows .mixedOrders=true){r:Option Nat}(hr:qH C self ops.toList s=some s'){a8:Exit->Act->World->Prop}{c:Ctx}{a:Act}{w:World}(h:Rel c s.h w)(he:dA c s.env s.au a)
 (hQ:∀c' a' w',Rel c' s'.h w'->dA c' s'.env s'.au a'->cq c w c' w'->a'.defers=a.defers->a8 .normal a' w'):
  (Code.region id ops true).wpIn (Fr r) 0 C.P a8 a w:=by
 obtain⟨Fl,st,vv,Hs,D,hz,_⟩:=Wf hr;refine wpIn_region_any hm ?_;have J:cq c w c { w with drawn:=w.drawn+1 }:=cq.drew c w;have q_:Rel c s.h { w with drawn:=w.drawn+1 }:=h.drew;refine Wg hS hT U D (c₀:=c) (w₀:=w) (d₀:=a.defers) (λc' a' w' r1 r2 r3 r4=>hQ c' a' w' Q Q r3 r4)
  ops.size (Array.replicate ops.size false) (λ_=>none) 0 c a _ cb cb ?_
 have I:∀j,¬ (Array.replicate ops.size false).getD j false=true:=λj=>by
  rw[zD,Array.getElem?_replicate];split<;>simp
 refine⟨λi o hi=>absurd hi (I i),λidx p h=>Y,dz _,λidx p _ _ hp=>absurd hp (I p),(λp b h=>by cases h),(by rw[D.Qo];exact q_),he.size,
  λt=>.inr ⟨λj o hj=>absurd hj (I j),he.val t,he.uS t⟩,(λp b h=>by cases h),(λp q b b' h=>by cases h),J,U⟩
end
end Go.Proofs.YtiojppeahfoiaaaGreat.Am
namespace Go.Proofs.YtiojppeahfoiaaaGreat.Am
open Go Proofs.Tryz
variable {ps:Array (Nat×Operand)} {ops:Array Oper} {st:Bool} {C:eP} {code:Code} {c₀:Ctx} {env:Env} {a8:Ex->List (Nat×V)->H->Prop} {fn:Func} {f:FuncId} {h h' σ h₁ c5:H} {κ:IntKind} {E E':List (Nat×V)} {R:List (Nat×V)->H->Prop} {d₀:List Deferred} {hs:List H} {eW es l:List Nat} {L rest:List Oper} {args cap vs cs ds:List V} {a b i c k id n d off j g pH k' q:Nat} {Hs:Nat->H} {early:Nat->Option (Nat×FV)} {Fl:Nat->Prop} {vv:Nat->V} {o':Obj} {o:Oper} {x y:Operand} {P:Program} {φ:Prop} {self:Self} {s s':St} {α:Type} {td:TypeDesc} {t t' e kt et:TypeId} {r u z:V} {AN:V->H->Prop} {w₀:World}
section
variable {b:Frame} {a:Act} {k:List Item} {cs:List Frame} {w:World}
theorem qJ {c:Code}: step P (lone (b.atR a (.code (.scope c)::k)) cs w)=.next (lone (b.atR a (.code c::.inScope c::k)) cs w) :=
 by rfl
theorem Kh {c:Code}: step P (lone (b.atR a (.inScope c::k)) cs w)=.next (lone (b.atR a k) cs w) :=
 by rfl
end
theorem Qs {r:Option Nat}{c:Code}{a8:Exit->Act->World->Prop}{a:Act}{w:World}(h:c.wpIn (Fr r) 0 P (Exit.noGoto a8) a w): (Code.scope c).wpIn (Fr r) 0 P a8 a w:=by
 intro b k cs hro hb hr;obtain⟨e,J,uW,hq,I⟩:=h b (.inScope c::k) cs hro hb hr;cases e with
 |normal=>exact⟨.normal,J,uW,hq,.of_steps (.one (fenced_calm hb hr U) qJ) (StepsIn.trans I (.one (fenced_calm hb hr U) Kh))⟩
 |exit id=>exact⟨.exit id,J,uW,hq,.of_steps (.one (fenced_calm hb hr U) qJ) ⟨λk' hk=>I.1 k' (by simpa[exitTo] using hk),λhr hk=>I.2 hr (by simpa[exitTo] using hk)⟩⟩
 |goto l=>exact hq.elim
 |ret=>exact⟨_,J,uW,hq,.of_steps (.one (fenced_calm hb hr U) qJ) I⟩
 |panic ch=>exact⟨_,J,uW,hq,.of_steps (.one (fenced_calm hb hr U) qJ) I⟩
 |outgrown=>exact⟨_,J,uW,hq,.of_steps (.one (fenced_calm hb hr U) qJ) I⟩
def Gc (P:Program)(self:Self)(m:Nat): Prop:=∀(b:Code) (s:St) (ex:Ex) (s':St),self (.loop b) s=some (ex,s') ->
 ∀(r:Option Nat) (c:Ctx) (a:Act) (w:World) (a8:Exit->Act->World->Prop),Rel c s.h w->dA c s.env s.au a ->
  (∀e a' w',(e=exOf ex/\a'.defers=a.defers/\∃c',Rel c' s'.h w'/\dA c' s'.env s'.au a'/\cq c w c' w')->a8 e a' w')->Code.roundsIn (Fr r) 0 P b a8 m a w
section
theorem EB {m:Nat}(hS:jx C.P self)(hL:Gc C.P self m): Gc C.P (evStep C self) (m+1):=by
 intro b s ex s' hr r c a w a8 h he hQ;unfold evStep at hr;simp only at hr;cases hb:self b s with
 |none=>grind
 |some q =>
  obtain⟨I,J⟩:=q;rw[hb] at hr;refine wpIn_mono (hS b s I J hb r c a w h he) ?_;rintro e En uW ⟨rfl,q2,c₁,q3,q4,q5⟩;cases I with
  |normal =>
   refine hL b J ex s' hr r c₁ En uW a8 q3 q4 ?_;rintro F5 Kf acR ⟨p1,p2,c₂,p3,p4,p5⟩;exact hQ _ _ _ ⟨p1,Q,c₂,p3,p4,q5.trans p5⟩
  |exit i =>
   obtain⟨rfl,rfl⟩:=hr;exact hQ _ _ _ ⟨U,q2,c₁,q3,q4,q5⟩
  |ret =>
   obtain⟨rfl,rfl⟩:=hr;exact hQ _ _ _ ⟨U,q2,c₁,q3,q4,q5⟩
theorem SU {m:Nat}(hm:C.P.follows .mixedOrders=true)(hT:er C)(hS:jx C.P self)(hL:Gc C.P self m): jx C.P (evStep C self):=by
 intro code s ex s' I r c a w h he;have same:∀ {ex:Ex} {s':St},(Ex.normal,s)=(ex,s')->exOf ex=.normal/\s'=s:=λe=>by cases e;exact⟨U,U⟩
 cases code with
 |skip =>
  simp only[evStep,aC,bO] at I;obtain⟨rfl,rfl⟩:=I;exact wpIn_skip ⟨U,U,c,h,he,cq.refl c w⟩
 |label l =>
  simp only[evStep,aC,bO] at I;obtain⟨rfl,rfl⟩:=I;exact wpIn_label ⟨U,U,c,h,he,cq.refl c w⟩
 |region id ops draw =>
  unfold evStep at I;simp only at I;cases draw with
  |true =>
   rw[ak] at I;cases hd:qH C self ops.toList s with
   |none=>simp[hd] at I
   |some J =>
    simp only[hd,aC,bO] at I;obtain⟨rfl,rfl⟩:=I;exact SS hS hT hm hd h he λc' a' w' r1 r2 r3 r4=>⟨U,r4,c',r1,r2,r3⟩
  |false =>
   rw[bq] at I;cases hd:evOps C self ops.toList ops.toList s with
   |none=>simp[hd] at I
   |some J =>
    simp only[hd,aC,bO] at I;obtain⟨rfl,rfl⟩:=I;refine wpIn_region ?_;rw[HO,<-Dm];exact V9 hS hT ops.toList 0 s J c a w (λj=>by rw[f_,oB]) hd h he λc' a' w' r1 r2 r3 r4=>⟨U,r4,c',r1,r2,r3⟩
 |seq x y =>
  unfold evStep at I;simp only at I;cases hx:self x s with
  |none=>rw[hx] at I;simp at I
  |some r =>
   obtain⟨Jm,J⟩:=r;rw[hx] at I;refine wpIn_seq (wpIn_mono (hS x s Jm J hx r c a w h he) ?_);rintro e En uW ⟨rfl,q2,c₁,q3,q4,q5⟩;cases Jm with
   |normal =>
    simp only at I;refine wpIn_mono (hS y J ex s' I r c₁ En uW q3 q4) ?_;rintro e Kf acR ⟨rfl,p2,c₂,p3,p4,p5⟩;exact⟨U,by rw[p2,q2],c₂,p3,p4,q5.trans p5⟩
   |exit i =>
    simp only[aC,bO] at I;obtain⟨rfl,rfl⟩:=I;exact⟨U,q2,c₁,q3,q4,q5⟩
   |ret =>
    simp only[aC,bO] at I;obtain⟨rfl,rfl⟩:=I;exact⟨U,q2,c₁,q3,q4,q5⟩
 |cond x y z =>
  unfold evStep at I;simp only at I;split at I
  .rename_i t hx;obtain⟨e1,_⟩:=Ab he hx;refine wpIn_cond (t:=t) (by rw[e1];rfl) ?_;have:=hS (cond t y z) s ex s' I r c a w h he;cases t<;>simpa using this
  .cases I
 |block id b =>
  unfold evStep at I;simp only at I;cases hb:self b s with
  |none=>rw[hb] at I;simp at I
  |some r =>
   obtain⟨Jm,J⟩:=r;rw[hb] at I;refine wpIn_block (wpIn_mono (hS b s Jm J hb r c a w h he) ?_);rintro e En uW ⟨rfl,q2,c₁,q3,q4,q5⟩;cases Jm with
   |normal =>
    simp only[aC,bO] at I;obtain⟨rfl,rfl⟩:=I;simp only[exOf,Exit.inBlock];exact⟨aa,q2,c₁,q3,q4,q5⟩
   |exit i =>
    simp only at I;by_cases hi:i=id
    .rw[vA hi,ak] at I;simp only[aC,bO] at I;obtain⟨rfl,rfl⟩:=I;simp only[exOf,Exit.inBlock,hi,cZ];exact⟨aa,q2,c₁,q3,q4,q5⟩
    .rw[eE hi,bq] at I;simp only[aC,bO] at I;obtain⟨rfl,rfl⟩:=I;simp only[exOf,Exit.inBlock,hi,gJ];exact⟨aa,q2,c₁,q3,q4,q5⟩
   |ret =>
    simp only[aC,bO] at I;obtain⟨rfl,rfl⟩:=I;simp only[exOf,Exit.inBlock];exact⟨aa,q2,c₁,q3,q4,q5⟩
 |loop b =>
  exact wpIn_loop_rounds (m+1) (EB hS hL b s ex s' I r c a w _ h he (λ_ _ _ hq=>hq))
 |exit id =>
  simp only[evStep,aC,bO] at I;obtain⟨rfl,rfl⟩:=I;exact wpIn_exit ⟨U,U,c,h,he,cq.refl c w⟩
 |scope b =>
  unfold evStep at I;simp only at I;refine Qs (wpIn_mono (hS b s ex s' I r c a w h he) ?_);rintro e En uW ⟨rfl,q2,c₁,q3,q4,q5⟩;cases ex<;>exact⟨U,q2,c₁,q3,q4,q5⟩
 |ret =>
  simp only[evStep,aC,bO] at I;obtain⟨rfl,rfl⟩:=I;exact wpIn_ret ⟨U,U,c,h,he,cq.refl c w⟩
 |_=>simp[evStep] at I
theorem uY (hm:C.P.follows .mixedOrders=true)(J:er C): ∀n,jx C.P (ev C n)/\Gc C.P (ev C n) n:=by
 intro n;induction n with
 |zero=>exact⟨λ_ _ _ _ h=>by simp[ev] at h,λ_ _ _ _ h=>by simp[ev] at h⟩
 |succ n I=>exact⟨SU hm J I.1 I.2,EB I.1 I.2⟩
theorem yl (hm:C.P.follows .mixedOrders=true)(I:er C)(n:Nat): K2 C.P (ev C n)/\True:=⟨(uY hm I n).1.wide,aa⟩
theorem Lc (hm:C.P.follows .mixedOrders=true)(J:er C){v:V}(hr:run C n f args h=some (v,h')){c:Ctx}{w:World}
 (I:Rel c h w)(hw:∀x∈args,wf c x): gd C.P f args c w v h' :=
 (callF_ok (yl hm J n).1 J hr I hw).1
theorem Rel.empty (w:World): Rel ⟨λ_=>(0,0),λ_=>0,0,λ_=>false⟩ ⟨0,.lf⟩ w :=
 ⟨U,λid o h=>by simp[T.wZ] at h,λid h=>absurd h (HU _),λid h=>absurd h (HU _),λi j o o' h=>by simp[T.wZ] at h,λid o h=>by simp[T.wZ] at h,λid cs st h=>cb,λid o h=>cb⟩
end
def leftC : Code->Code
 |.seq a _=>a
 |c=>c
def cM : Code->Code
 |.seq _ b=>b
 |c=>c
def oo (f g:Self): Prop:=∀c s r,f c s=some r->g c s=some r
section
variable {f g:Self}
theorem sJ (h : oo f g) {r : V × H} (I : callF C f k args σ = some r) : callF C g k args σ = some r := by
 unfold callF at I ⊢
 cases J : C.told k with
 | some t => grind
 | none =>
  simp only [J] at I ⊢
  cases hf : C.P.funcs[k]? with
  | none => grind
  | some fn =>
   simp only [hf] at I ⊢
   cases hb : fn.body with
   | none => grind
   | some c =>
    simp only [hb] at I ⊢
    cases hq : (fn.name == "runtime.NumGoroutine" || Nat.blt fn.ntmps args.length) with
    | true => grind
    | false =>
     simp only [hq, bq] at I ⊢
     cases hs : f c ⟨bindArgs args 0 .lf, fn.ntmps, σ⟩ with
     | none => grind
     | some q => rw [h _ _ _ hs]; rw [hs] at I; exact I
theorem NO (h:oo f g){r:V×H}(J:roundV f id args σ=some r): roundV g id args σ=some r:=by
 unfold roundV at J ⊢;cases ho:σ.tr.get id with
 |none=>grind
 |some o =>
  simp only[ho] at J ⊢;cases o with
  |loop busy au env ps eW bd =>
   cases busy with
   |true=>cases J
   |false =>
    cases he:bindPs au ps args env with
    |none=>grind
    |some e =>
     simp only[he] at J ⊢;cases h1:f eW ⟨e,au,σ⟩ with
     |none=>grind
     |some q =>
      rw[h eW _ _ h1];simp only[h1] at J;split at J
      .split at J
       .split at J
        .rename_i Qh I;rw[h bd _ _ I];exact J
        .rename_i Qh I;rw[h bd _ _ I];exact J
        .grind
       .cases J
      .cases J
  |_=>cases J
theorem nN (h:oo f g){r:V×H}(I:evOp C f env σ o=some r): evOp C g env σ o=some r:=by
 unfold evOp at I ⊢;cases J:o.op<;>simp only[J] at I ⊢<;>try exact I
 rename_i cl;unfold evCall at I ⊢;cases ha:evArgs env cl.args.toList with
 |none=>grind
 |some args =>
  cases hc:cl.callee with
  |builtin b=>grind
  |value x =>
   cases hx:evO env x with
   |none=>grind
   |some fv =>
    unfold callV at I ⊢;grind[sJ,NO]
  |invoke x m =>
   grind[sJ]
theorem sK (h:oo f g): ∀(l:List Oper) (s s':St),evOps C f L l s=some s'->evOps C g L l s=some s':=by
 intro l;induction l with
 |nil=>intro s s' I;exact I
 |cons o l J =>
  intro s s' I;simp only[evOps] at I ⊢;cases hw:wantedV L s.env o with
  |true =>
   cases ho:evOp C f s.env s.h o<;>grind[nN]
  |false =>
   grind
theorem AO (h:oo f g): ∀(l:List Oper) (s:St) (hs:List H) (r:List (Env×V)×List H×St),trace C f L l s hs=some r->trace C g L l s hs=some r:=by
 intro l;induction l with
 |nil=>intro s hs r I;exact I
 |cons o l J =>
  intro s hs r I;simp only[trace] at I ⊢;have key:∀q,cond (wantedV L s.env o) (evOp C f s.env s.h o) (some (cA,s.h))=some q->cond (wantedV L s.env o) (evOp C g s.env s.h o) (some (cA,s.h))=some q:=by
   grind[nN]
  cases hc:cond (wantedV L s.env o) (evOp C f s.env s.h o) (some (cA,s.h)) with
  |none=>grind
  |some q =>
   grind
theorem NP (h:oo f g){x:Env×V}: ∀(l:List H),sameIn C f L o x l=true->sameIn C g L o x l=true:=by
 intro l;induction l with
 |nil=>intro I;exact I
 |cons y l J =>
  intro I;simp only[sameIn] at I ⊢;cases hw:wantedV L x.1 o with
  |false=>simp
  |true =>
   cases ho:evOp C f x.1 y o<;>grind[nN]
theorem NQ (h:oo f g): ∀(l:List Oper) (tr:List (Env×V)) (i:Nat),stayOk C f L eW es hs l tr i=true->stayOk C g L eW es hs l tr i=true:=by
 intro l;induction l with
 |nil=>intro tr i I;cases tr<;>exact I
 |cons o l J =>
  intro tr i I;cases tr<;>grind[stayOk,NP]
theorem NR (h:oo f g)(I:qH C f L s=some s'): qH C g L s=some s':=by
 grind[qH,AO,NQ]
theorem NS (h:oo f g): oo (evStep C f) (evStep C g):=by
 intro c s r I;cases c with
 |region id ops draw =>
  grind[evStep,NR,sK]
 |seq a b =>
  simp only[evStep] at I ⊢;cases J:f a s with
  |none=>grind
  |some q =>
   obtain⟨ex,s1⟩:=q;rw[h _ _ _ J];rw[J] at I;cases ex with
   |normal=>exact h _ _ _ I
   |exit i=>exact I
   |ret=>exact I
 |cond x a b =>
  simp only[evStep] at I ⊢;split at I
  .exact h _ _ _ I
  .cases I
 |block id b =>
  simp only[evStep] at I ⊢;cases J:f b s with
  |none=>grind
  |some q=>rw[h _ _ _ J];rw[J] at I;exact I
 |loop b =>
  simp only[evStep] at I ⊢;cases J:f b s with
  |none=>grind
  |some q =>
   obtain⟨ex,s1⟩:=q;rw[h _ _ _ J];rw[J] at I;cases ex with
   |normal=>exact h _ _ _ I
   |exit i=>exact I
   |ret=>exact I
 |scope b=>exact h _ _ _ I
 |_=>exact I
theorem Qt : ∀n,oo (ev C n) (ev C (n+1)):=by
 intro n;induction n with
 |zero=>intro c s r I;cases I
 |succ n J=>exact NS J
theorem fy {m:Nat}(hle:n<=m): oo (ev C n) (ev C m):=by
 induction hle with
 |refl=>intro c s r I;exact I
 |step _ J=>intro c s r I;exact Qt _ c s r (J c s r I)
end
def look : List (Nat×V)->Nat->Option V
 |[],_=>none
 |x::E,k=>cond (Nat.beq x.1 k) (some x.2) (look E k)
def jl (env:Env)(E:List (Nat×V)): Prop:=∀t v,look E t=some v->T.get env t=some v
theorem jl.set (h:jl env E)(d:Nat)(v:V): jl (env.set d (some v)) ((d,v)::E):=by
 intro t u I;simp only[look] at I;rw[aY];by_cases hd:d=t
 .simp_all
 .rw[eE hd,bq] at I;rw[ax (λe=>hd e.symm)];exact h t u I
theorem jl.sub (h:jl env E)(hs:∀t v,look E' t=some v->look E t=some v): jl env E':=λt v I=>h t v (hs t v I)
def bp (E:List (Nat×V)): Operand->Option V
 |.tmp t=>look E t
 |.const c=>ofValue c
 |.global _=>none
 |.func f=>some (.fn (.func f) [] [])
theorem bX (h:jl env E){v:V}(I:bp E x=some v): evO env x=some v:=by
 cases x with
 |tmp t=>simp only[evO,Env.v,h t v I]
 |const c=>exact I
 |global g=>cases I
 |func f=>exact I
def lookArgs (E:List (Nat×V)): List Operand->Option (List V)
 |[]=>some []
 |x::l=>match bp E x with
  |none=>none
  |some v=>match lookArgs E l with
   |none=>none
   |some m=>some (v::m)
theorem lz (h:jl env E): ∀ {l:List Operand} {m:List V},lookArgs E l=some m->evArgs env l=some m:=by
 intro l;induction l<;>grind[lookArgs,evArgs,bX]
def lookParts (E:List (Nat×V)): List (Nat×Operand)->Option (List (Nat×V))
 |[]=>some []
 |x::l=>match bp E x.2 with
  |none=>none
  |some v=>match lookParts E l with
   |none=>none
   |some m=>some ((x.1,v)::m)
theorem B6 (h:jl env E): ∀ {l:List (Nat×Operand)} {m:List (Nat×V)},lookParts E l=some m->evParts env l=some m:=by
 intro l;induction l<;>grind[lookParts,evParts,bX]
def lookOpt (E:List (Nat×V)): Option Operand->Option (Option V)
 |none=>some none
 |some x=>match bp E x with
  |some v=>some (some v)
  |none=>none
theorem AP (h:jl env E){x:Option Operand}{v:Option V}(I:lookOpt E x=some v): optV env x=some v:=by
 cases x<;>grind[lookOpt,optV,bX]
section
variable (P:Program)
def kq (E:List (Nat×V))(x:Operand)(g:V->Option (V×H)): Option (V×H):=match bp E x with
 |some v=>g v
 |none=>none
def ym (E:List (Nat×V))(x y:Operand)(g:V->V->Option (V×H)): Option (V×H):=match bp E x with
 |some v=>match bp E y with
  |some u=>g v u
  |none=>none
 |none=>none
noncomputable def opE (E:List (Nat×V))(h:H)(o:Op): Option (V×H):=match o with
 |.move x|.assign x=>kq E x λv=>some (v,h)
 |.pick c a b=>kq E c λv=>match v with
  |.bool t=>kq E (cond t a b) λv=>some (v,h)
  |_=>none
 |.alloc t=>match zeroT P t with
  |some z=>some (.ptr h.next 0,newRow h z.cells)
  |none=>none
 |.box _ x=>kq E x λv=>cond (v.cells.all storable) (some (.ptr h.next 0,newRow h v.cells)) none
 |.build t ps=>match lookParts E ps.toList with
  |some l=>bE (buildV P t l) h
  |none=>none
 |.buildSlice t n ps=>match lookParts E ps.toList with
  |some l=>buildSliceV P h t n l
  |none=>none
 |.load t a=>kq E a λv=>bE (loadV P h t v) h
 |.store t a x=>ym E a x λp v=>xV (ga P h t p v)
 |.nilCheck x=>kq E x λv=>match v with
  |.ptr a b=>some (.ptr a b,h)
  |_=>none
 |.binOp op t x y _=>ym E x y λa b=>bE (binV P h op t x y a b) h
 |.unOp op _ x=>kq E x λa=>bE (unV op a) h
 |.convert s d x=>kq E x λa=>match convV P h s d a with
   |some r=>some r
   |none=>convB P h s d a
 |.sliceToArrayPointer d x=>kq E x λa=>bE (arrPtrV P d a) h
 |.makeInterface t x=>kq E x λa=>bE (makeIfaceV P t a) h
 |.makeFunc f a b=>match lookArgs E a.toList with
  |some x=>match lookArgs E b.toList with
   |some y=>some (.fn f x y,h)
   |none=>none
  |none=>none
 |.makeMap _ r=>match r with
  |none=>some (.map h.next,h.new (.map [] 0))
  |some _=>none
 |.makeSlice t l c=>ym E l c λa b=>makeSliceV P h t a b
 |.slice t x lo hi mx=>kq E x λv=>match lookOpt E lo with
  |some a=>match lookOpt E hi with
   |some b=>match lookOpt E mx with
    |some c=>match mq a with
     |some a=>match mq b with
      |some b=>match mq c with
       |some c=>bE (sliceV P h t v a b c) h
       |none=>none
      |none=>none
     |none=>none
    |none=>none
   |none=>none
  |none=>none
 |.fieldAddr t x i=>kq E x λv=>bE (fieldAddrV P t v i) h
 |.field t x i=>kq E x λv=>bE (uQ P t v i) h
 |.indexAddr t x i=>ym E x i λv j=>bE (indexAddrV P t v j) h
 |.index t x i=>ym E x i λv j=>bE (indexV P t v j) h
 |.lookup t x k ok=>ym E x k λm j=>bE (eO P h t m j ok) h
 |.extract t i=>kq E t λv=>match v with
  |.aR l=>bE (nth l i) h
  |_=>none
 |.typeAssert x _ a ok=>kq E x λv=>bE (assertV P v a ok) h
 |.call c=>match c.callee with
  |.builtin b=>match lookArgs E c.args.toList with
   |some args=>builtinV P h b c.argTypes args
   |none=>none
  |_=>none
 |_=>none
end
theorem jy {g:V->Option (V×H)}{r:V×H}(h:kq E x g=some r): ∃v,bp E x=some v/\g v=some r:=by
 grind[kq]
theorem wM {g:V->V->Option (V×H)}{r:V×H}(h:ym E x y g=some r): ∃v u,bp E x=some v/\bp E y=some u/\g v u=some r:=by
 grind[ym]
set_option maxHeartbeats 1000000 in
theorem Gd {r:V×H}(hE:jl env E)(J:opE C.P E h o.op=some r): evOp C self env h o=some r:=by
 unfold opE at J;unfold evOp;split at J
 .rename_i x I;obtain⟨v,h1,h2⟩:=jy J;simp only[I,bX hE h1,bE];exact h2
 .rename_i x I;obtain⟨v,h1,h2⟩:=jy J;simp only[I,bX hE h1,bE];exact h2
 .rename_i c a b I;obtain⟨v,h1,h2⟩:=jy J;split at h2
  .rename_i t;obtain⟨u,h3,h4⟩:=jy h2;simp only[I,bX hE h1,bX hE h3,bE];exact h4
  .cases h2
 .rename_i t I;simp only[I];exact J
 .rename_i t x I;obtain⟨v,h1,h2⟩:=jy J;simp only[I,bX hE h1];exact h2
 .rename_i t ps I;cases hp:lookParts E ps.toList with
  |none=>simp[hp] at J
  |some l=>simp only[hp] at J;simp only[I,B6 hE hp];exact J
 .rename_i t n ps I;cases hp:lookParts E ps.toList with
  |none=>simp[hp] at J
  |some l=>simp only[hp] at J;simp only[I,B6 hE hp];exact J
 .rename_i t a I;obtain⟨v,h1,h2⟩:=jy J;simp only[I,bX hE h1];exact h2
 .rename_i t a x I;obtain⟨v,u,h1,h2,h3⟩:=wM J;simp only[I,bX hE h1,bX hE h2];exact h3
 .rename_i x I;obtain⟨v,h1,h2⟩:=jy J;split at h2
  .simp only[I,bX hE h1];exact h2
  .cases h2
 .rename_i op t x y u I;obtain⟨v,u,h1,h2,h3⟩:=wM J;simp only[I,bX hE h1,bX hE h2];exact h3
 .rename_i op t x I;obtain⟨v,h1,h2⟩:=jy J;simp only[I,bX hE h1];exact h2
 .rename_i s d x I;obtain⟨v,h1,h2⟩:=jy J;simp only[I,bX hE h1];exact h2
 .rename_i d x I;obtain⟨v,h1,h2⟩:=jy J;simp only[I,bX hE h1];exact h2
 .rename_i t x I;obtain⟨v,h1,h2⟩:=jy J;simp only[I,bX hE h1];exact h2
 .rename_i f a b I;cases ha:lookArgs E a.toList with
  |none=>simp[ha] at J
  |some x =>
   cases hb:lookArgs E b.toList with
   |none=>simp[ha,hb] at J
   |some y=>simp only[ha,hb] at J;simp only[I,lz hE ha,lz hE hb];exact J
 .rename_i t r I;simp only[I];exact J
 .rename_i t l c I;obtain⟨v,u,h1,h2,h3⟩:=wM J;simp only[I,bX hE h1,bX hE h2];exact h3
 .rename_i t x lo hi mx I;obtain⟨v,h1,h2⟩:=jy J;cases ha:lookOpt E lo with
  |none=>simp[ha] at h2
  |some a =>
   cases hb:lookOpt E hi with
   |none=>simp[ha,hb] at h2
   |some b =>
    cases hc:lookOpt E mx with
    |none=>simp[ha,hb,hc] at h2
    |some c =>
     simp only[ha,hb,hc] at h2;simp only[I,bX hE h1,AP hE ha,AP hE hb,AP hE hc];cases pa:mq a with
     |none=>simp[pa] at h2
     |some a =>
      cases pb:mq b with
      |none=>simp[pa,pb] at h2
      |some b =>
       cases pc:mq c with
       |none=>simp[pa,pb,pc] at h2
       |some c=>simp only[pa,pb,pc] at h2 ⊢;exact h2
 .rename_i t x i I;obtain⟨v,h1,h2⟩:=jy J;simp only[I,bX hE h1];exact h2
 .rename_i t x i I;obtain⟨v,h1,h2⟩:=jy J;simp only[I,bX hE h1];exact h2
 .rename_i t x i I;obtain⟨v,u,h1,h2,h3⟩:=wM J;simp only[I,bX hE h1,bX hE h2];exact h3
 .rename_i t x i I;obtain⟨v,u,h1,h2,h3⟩:=wM J;simp only[I,bX hE h1,bX hE h2];exact h3
 .rename_i t x k ok I;obtain⟨v,u,h1,h2,h3⟩:=wM J;simp only[I,bX hE h1,bX hE h2];exact h3
 .rename_i t i I;obtain⟨v,h1,h2⟩:=jy J;split at h2
  .simp only[I,bX hE h1];exact h2
  .cases h2
 .rename_i x t a ok I;obtain⟨v,h1,h2⟩:=jy J;simp only[I,bX hE h1];exact h2
 .rename_i cl I;split at J
  .rename_i b hc;cases ha:lookArgs E cl.args.toList with
   |none=>simp[ha] at J
   |some args=>simp only[ha] at J;simp only[I,evCall,hc,lz hE ha];exact J
  .cases J
 .cases J
def eY (C:eP)(f:FuncId)(args:List V)(h:H)(v:V)(h':H): Prop:=∃N,callF C (ev C N) f args h=some (v,h')
def Call (C:eP)(f:FuncId)(args:List V)(h:H)(R:V->H->Prop): Prop:=∃v h',eY C f args h v h'/\R v h'
variable {cl:Go.Call}
theorem Call.mono {R I:V->H->Prop}(J:Call C f args h R)(hr:∀v h',R v h'->I v h'): Call C f args h I:=by
 obtain⟨v,h',h1,h2⟩:=J;exact⟨v,h',h1,hr v h' h2⟩
theorem eY.told {g:List V->H->Option (V×H)}{v:V}(I:C.told f=some g)(J:C.P.funcs[f]?=some fn)(hb:fn.body.isSome=true)(hr:g args h=some (v,h')): eY C f args h v h':=by
 refine⟨0,?_⟩<;>grind[callF,hasBody]
theorem eY.body {v:V}(hd:eY C f args h v h'): hasBody C.P f=true:=by
 obtain⟨N,I⟩:=hd<;>grind[callF,hasBody]
theorem jz (C:eP)(n:Nat)(c:Code)(s:St): ev C (n+1) c s=evStep C (ev C n) c s:=rfl
def WP (C:eP)(au:Nat)(code:Code)(E:List (Nat×V))(h:H)(a8:Ex->List (Nat×V)->H->Prop): Prop :=
 ∀env,jl env E->∃N ex I h' E',ev C N code ⟨env,au,h⟩=some (ex,⟨I,au,h'⟩)/\jl I E'/\a8 ex E' h'
def aq (C:eP)(au:Nat)(L l:List Oper)(E:List (Nat×V))(h:H)(a8:List (Nat×V)->H->Prop): Prop :=
 ∀env,jl env E->∃N I h' E',evOps C (ev C N) L l ⟨env,au,h⟩=some ⟨I,au,h'⟩/\jl I E'/\a8 E' h'
section
variable {au:Nat} {l:List Oper}
theorem WP.sub {I:List (Nat×V)}(hs:∀t v,look I t=some v->look E t=some v)(hw:WP C au code I h a8): WP C au code E h a8:=λenv J=>hw env (J.sub hs)
theorem WP.skip (I:a8 .normal E h): WP C au .skip E h a8:=λenv J=>⟨1,.normal,env,h,E,U,J,I⟩
theorem WP.ret (I:a8 .ret E h): WP C au .ret E h a8:=λenv J=>⟨1,.ret,env,h,E,U,J,I⟩
theorem WP.exit (I:a8 (.exit i) E h): WP C au (.exit i) E h a8:=λenv J=>⟨1,.exit i,env,h,E,U,J,I⟩
theorem WP.region (hl:ops.toList=l)(hw:aq C au l l E h λE' h'=>a8 .normal E' h'): WP C au (.region id ops false) E h a8:=by
 intro env J;obtain⟨N,I,h',E',h1,h2,h3⟩:=hw env J;refine⟨N+1,.normal,I,h',E',?_,h2,h3⟩<;>grind[jz,evStep]
theorem WP.seq {a b:Code}(hw:WP C au a E h λex E' h'=>match ex with
  |.normal=>WP C au b E' h' a8
  |ex=>a8 ex E' h'): WP C au (.seq a b) E h a8:=by
 intro env hE;obtain⟨N,ex,I,h',E',h1,h2,h3⟩:=hw env hE;cases ex with
 |normal =>
  obtain⟨M,vK,J,OX,E2,g1,g2,g3⟩:=h3 I h2;refine⟨Nat.max N M+1,vK,J,OX,E2,?_,g2,g3⟩;rw[jz];simp only[evStep,fy (pZ N M) _ _ _ h1];exact fy (pY N M) _ _ _ g1
 |exit i =>
  refine⟨N+1,.exit i,I,h',E',?_,h2,h3⟩<;>grind[jz,evStep]
 |ret =>
  refine⟨N+1,.ret,I,h',E',?_,h2,h3⟩<;>grind[jz,evStep]
theorem WP.cond {a b:Code}{t:Bool}(hx:bp E x=some (.bool t))(hw:WP C au (_root_.cond t a b) E h a8): WP C au (.cond x a b) E h a8:=by
 intro env J;obtain⟨N,ex,I,h',E',h1,h2,h3⟩:=hw env J;refine⟨N+1,ex,I,h',E',?_,h2,h3⟩<;>grind[jz,evStep,bX]
theorem WP.block {b:Code}(hw:WP C au b E h λex E' h'=>match ex with
  |.exit j=>_root_.cond (Nat.beq j i) (a8 .normal E' h') (a8 (.exit j) E' h')
  |ex=>a8 ex E' h'): WP C au (.block i b) E h a8:=by
 intro env hE;obtain⟨N,ex,I,h',E',h1,h2,J⟩:=hw env hE;cases ex with
 |exit j =>
  cases hj:Nat.beq j i with
  |true =>
   simp only[hj,ak] at J;refine⟨N+1,.normal,I,h',E',?_,h2,J⟩<;>grind[jz,evStep]
  |false =>
   simp only[hj,bq] at J;refine⟨N+1,.exit j,I,h',E',?_,h2,J⟩<;>grind[jz,evStep]
 |normal =>
  refine⟨N+1,.normal,I,h',E',?_,h2,J⟩<;>grind[jz,evStep]
 |ret =>
  refine⟨N+1,.ret,I,h',E',?_,h2,J⟩<;>grind[jz,evStep]
theorem WP.scope {b:Code}(hw:WP C au b E h a8): WP C au (.scope b) E h a8:=by
 intro env J;obtain⟨N,ex,I,h',E',h1,h2,h3⟩:=hw env J;exact⟨N+1,ex,I,h',E',h1,h2,h3⟩
theorem WP.loop {b:Code}(hw:WP C au b E h λex E' h'=>match ex with
  |.normal=>WP C au (.loop b) E' h' a8
  |ex=>a8 ex E' h'): WP C au (.loop b) E h a8:=by
 intro env hE;obtain⟨N,ex,I,h',E',h1,h2,h3⟩:=hw env hE;cases ex with
 |normal =>
  obtain⟨M,vK,J,OX,E2,g1,g2,g3⟩:=h3 I h2;refine⟨Nat.max N M+1,vK,J,OX,E2,?_,g2,g3⟩;rw[jz];simp only[evStep,fy (pZ N M) _ _ _ h1];exact fy (pY N M) _ _ _ g1
 |exit i =>
  refine⟨N+1,.exit i,I,h',E',?_,h2,h3⟩<;>grind[jz,evStep]
 |ret =>
  refine⟨N+1,.ret,I,h',E',?_,h2,h3⟩<;>grind[jz,evStep]
theorem aq.nil (I:R E h): aq C au L [] E h R:=λenv J=>⟨0,env,h,E,U,J,I⟩
def wantE (L:List Oper)(E:List (Nat×V))(g:Option (Nat×Bool)): Option Bool:=match g with
 |none=>some true
 |some (j,want)=>match (nth L j).bind (·.dst) with
  |some d=>match look E d with
   |some (.bool b)=>some (b == want)
   |some _=>some false
   |none=>none
  |none=>none
theorem lR {b:Bool}(J:jl env E)(hw:wantE L E o.guard=some b): wantedV L env o=b:=by
 unfold wantE at hw;unfold wantedV;split at hw
 .grind
 .rename_i j want hg;simp only[hg];split at hw
  .rename_i d hd;simp only[hd];split at hw
   .rename_i b' I;simp only[Env.v,J d _ I];simpa using hw
   .rename_i v nL I;simp only[Env.v,J d _ I];grind
   .cases hw
  .cases hw
theorem aq.op {v:V}(hg:wantE L E o.guard=some true)(hd:o.dst=some d)(hn:Nat.blt d au=true)(ho:opE C.P E h o.op=some (v,h₁))
 (hw:aq C au L rest ((d,v)::E) h₁ R): aq C au L (o::rest) E h R:=by
 intro env J;obtain⟨N,I,h',E',h1,h2,h3⟩:=hw (env.set d (some v)) (J.set d v)<;>grind[evOps,lR,Gd,St.put]
theorem aq.SV {v:V}(hg:wantE L E o.guard=some true)(hd:o.dst=none)(ho:opE C.P E h o.op=some (v,h₁))
 (hw:aq C au L rest E h₁ R): aq C au L (o::rest) E h R:=by
 intro env J;obtain⟨N,I,h',E',h1,h2,h3⟩:=hw env J<;>grind[evOps,lR,Gd,St.put]
theorem aq.no (hg:wantE L E o.guard=some false)(hd:o.dst=some d)(hn:Nat.blt d au=true)
 (hw:aq C au L rest ((d,cA)::E) h R): aq C au L (o::rest) E h R:=by
 intro env J;obtain⟨N,I,h',E',h1,h2,h3⟩:=hw (env.set d (some cA)) (J.set d cA)<;>grind[evOps,lR,St.put]
theorem Jn {k:FuncId}{first:List V}{v:V}(hE:jl env E)(J:o.op=.call cl)(hc:cl.callee=.value x)
 (hx:bp E x=some (.fn (.func k) first cap))(ha:lookArgs E cl.args.toList=some args)(I:eY C k (first++(args++cap)) h v h₁):
  ∃N,evOp C (ev C N) env h o=some (v,h₁):=by
 have hb:=I.body;obtain⟨N,hN⟩:=I<;>grind[evOp,evCall,lz,bX,callV]
theorem aq.call {k:FuncId}{first:List V}(hg:wantE L E o.guard=some true)(hd:o.dst=some d)(hn:Nat.blt d au=true)
 (SW:o.op=.call cl)(hc:cl.callee=.value x)(hx:bp E x=some (.fn (.func k) first cap))(ha:lookArgs E cl.args.toList=some args)
 (I:Call C k (first++(args++cap)) h AN)(hw:∀v h₁,AN v h₁->aq C au L rest ((d,v)::E) h₁ R): aq C au L (o::rest) E h R:=by
 intro env hE;obtain⟨v,h₁,B7,hr⟩:=I;obtain⟨N,hN⟩:=Jn hE SW hc hx ha B7;obtain⟨M,J,h',E',h1,h2,h3⟩:=hw v h₁ hr (env.set d (some v)) (hE.set d v);refine⟨Nat.max N M,J,h',E',?_,h2,h3⟩;simp only[evOps,lR hE hg,ak,nN (fy (pZ N M)) hN,St.put,hd,hn];exact sK (fy (pY N M)) _ _ _ h1
end
def Has (E:List (Nat×V)): List (Nat×V)->Prop
 |[]=>True
 |p::F=>look E p.1=some p.2/\Has E F
theorem Has.sub : ∀ {F:List (Nat×V)},Has E F->∀t v,look F t=some v->look E t=some v:=by
 intro F;induction F with
 |nil=>intro _ t v h;cases h
 |cons p F ih =>
  intro I t v h;simp only[look] at h;by_cases J:p.1=t
  .subst J;rw[vA U,ak] at h;rw[I.1];exact h
  .rw[eE J,bq] at h;exact ih I.2 t v h
theorem WP.has {au:Nat}{F:List (Nat×V)}(I:Has E F)(hw:WP C au code F h a8): WP C au code E h a8:=WP.sub I.sub hw
theorem aeI (I:jl s.env E){t:Nat}{v:V}(h:look E t=some v): resV P s (.tmp t)=some v:=by
 simp only[resV,Env.v,I t v h]
noncomputable def resE (P:Program)(E:List (Nat×V))(h:H): ResultVar->Option V
 |.tmp t=>look E t
 |.cell a t=>match look E a with
  |some p=>loadV P h t p
  |none=>none
theorem aaz (J:jl s.env E){x:ResultVar}{v:V}(I:resE P E s.h x=some v): resV P s x=some v:=by
 cases x with
 |tmp t=>exact aeI J I
 |cell a t =>
  simp only[resE] at I;cases ha:look E a with
  |none=>grind
  |some p=>simp only[ha] at I;simp only[resV,Env.v,J a p ha];exact I
noncomputable def resLE (P:Program)(E:List (Nat×V))(h:H)(rs:List ResultVar): Option V:=match mapO (resE P E h) rs with
 |some [v]=>some v
 |some vs=>some (.aR vs)
 |none=>none
theorem wN (I:jl s.env E): ∀ {rs:List ResultVar} {vs:List V},mapO (resE P E s.h) rs=some vs->mapO (resV P s) rs=some vs:=by
 intro rs;induction rs<;>grind[mapO,aaz]
def argE : List V->Nat->List (Nat×V)
 |[],_=>[]
 |v::l,k=>(k,v)::argE l (k+1)
theorem SX : ∀(l:List V) (k t:Nat),look (argE l k) t=if k<=t/\t<k+l.length then l[t-k]? else none:=by
 intro l;induction l with
 |nil=>simp[argE,look]
 |cons v l I =>
  intro k t;simp only[argE,look];by_cases h:k=t
  .simp_all
  grind[eE]
theorem uc (l:List V): jl (bindArgs l 0 .lf) (argE l 0):=by
 intro t v h;grind[SX,xg]
theorem Call.of_wp {R : V → H → Prop} (ht : C.told f = none) (hf : C.P.funcs[f]? = some fn) (hb : fn.body = some code)
  (hq : (fn.name == "runtime.NumGoroutine" || Nat.blt fn.ntmps args.length) = false)
  (hw : WP C fn.ntmps code (argE args 0) h fun ex E' h' => (match ex with | .exit _ => False | _ => True) ∧ ∃ v, resLE C.P E' h' fn.results.toList = some v ∧ R v h') : Call C f args h R := by
 obtain ⟨N, ex, I, h', E', h1, h2, h3, v, J, h5⟩ := hw _ (uc args)
 refine ⟨v, h', ⟨N, ?_⟩, h5⟩
 unfold callF
 unfold resLE at J
 cases hm : mapO (resE C.P E' h') fn.results.toList with
 | none => grind
 | some vs =>
  have yn := wN (P := C.P) (s := ⟨I, fn.ntmps, h'⟩) h2 hm
  cases ex with
  | exit i => grind
  | normal =>
   grind
  | ret =>
   grind
noncomputable section
end
def crcStep : Nat->Nat->Nat
 |r,0=>r
 |r,k+1=>crcStep (cond (Nat.beq (r%2) 1) (Nat.xor (r/2) 3988292384) (r/2)) k
def crcL : Nat->List Nat->Nat
 |r,[]=>r
 |r,b::l=>crcL (crcStep (Nat.xor r b) 8) l
def bytesIn : List V->Option (List Nat)
 |[]=>some []
 |.int .u8 n::l=>cond (decide (0<=n)&&decide (n<256)) (match bytesIn l with
  |some m=>some (n.toNat::m)
  |none=>none) none
 |_=>none
def Ai (s:Int)(l:List Nat): V:=.int .u32 ((Nat.xor (crcL (Nat.xor s.toNat 4294967295) l) 4294967295:Nat):Int)
noncomputable def toldMore : List V->H->Option (V×H)
 |[.int .u32 s,.sl id off len _],h=>cond (decide (0<=s)&&decide (s<4294967296)&&Nat.ble len 4611686018427387904) (match rdN h id off len with
  |some cs=>match bytesIn cs with
   |some l=>some (Ai s l,h)
   |none=>none
  |none=>none) none
 |[.int .u32 s,.aP],h=>cond (decide (0<=s)&&decide (s<4294967296)) (some (Ai s [],h)) none
 |[.int .u32 s,.sle _],h=>cond (decide (0<=s)&&decide (s<4294967296)) (some (Ai s [],h)) none
 |_,_=>none
theorem wrap_u32 (h:n<4294967296): IntKind.wrap .u32 (n:Int)=(n:Int):=by
 grind[IntKind.wrap,IntKind.bits,IntKind.signed]
theorem Jo (h:n<4294967296): ((n:Int)%(2^(IntKind.u32).bits:Int)).toNat=n:=by
 grind[IntKind.bits]
theorem qK (I:a<4294967296)(J:b<4294967296:=by omega): Nat.xor a b<4294967296:=Nat.xor_lt_two_pow (n:=32) I J
theorem AQ (I:a<4294967296)(J:b<4294967296): intV .xor .u32 (a:Int) (b:Int)=some (.int .u32 ((Nat.xor a b:Nat):Int)):=by
 grind[intV,bitsV,Jo,wrap_u32,qK]
theorem SY (I:a<4294967296): intV .and .u32 (a:Int) 1=some (.int .u32 ((a%2:Nat):Int)):=by
 have h1:((1:Int)%(2^(IntKind.u32).bits:Int)).toNat=1:=by rfl
 simp only[intV,bitsV];rw[Jo I,h1];have:Nat.land a 1=a%2:=Nat.and_one_is_mod a;rw[this,wrap_u32 Y]
theorem Ge : shiftV .shr .u32 (a:Int) 1=some (.int .u32 ((a/2:Nat):Int)):=by
 grind[shiftV,IntKind.bits]
theorem aaA {c:Ctx}{w:World}(h:Rel c σ w)(I:rdN σ id off k=some vs): vs.length=k/\∀j,j<k->z8 σ id (off+j)=vs[j]?:=by
 unfold rdN at I;split at I
 .rename_i n cs st J;have hn:n=cs.length:=(h.obj id _ J).1;grind[aN,beq_iff,z8,iD]
 .cases I
def unblk : Code->Code
 |.block _ c=>c
 |c=>c
def unloop : Code->Code
 |.loop c=>c
 |c=>c
noncomputable def kT : Code:=(f217.body).getD .skip
noncomputable def kJ : Code:=unloop (unblk (cM (leftC (cM (cM kT)))))
noncomputable def qi : Code:=unblk (leftC (cM (cM kJ)))
noncomputable def qL : Code:=unloop (unblk (cM (cM (cM qi))))
theorem iS (C:eP)(n:Nat)(c:Code)(s:St): ev C (n+1) c s=evStep C (ev C n) c s:=rfl
theorem wrap_i64 (h:n<9223372036854775808): IntKind.wrap .i64 (n:Int)=(n:Int):=by
 grind[IntKind.bits,IntKind.wrap]
theorem B8 (h:n<9223372036854775807): intV .add .i64 (n:Int) 1=some (.int .i64 ((n+1:Nat):Int)):=by
 have:((n:Int)+1)=((n+1:Nat):Int):=Y;simp only[intV,this,wrap_i64 (show n+1<9223372036854775808 by omega)]
section
theorem b_ (J:o.guard=none)(hd:o.dst=some d)(I:Nat.blt d n=true):
  evOps C self L (o::rest) ⟨env,n,h⟩=(evOp C self env h o).bind λr=>evOps C self L rest ⟨env.set d (some r.1),n,r.2⟩:=by
 grind[evOps,wantedV,St.put]
end
noncomputable def mR7 : Code:=leftC qL
noncomputable def yo : Code:=cM (cM qL)
noncomputable def mR8 : Code:=leftC (unblk (leftC yo))
noncomputable def mIf : Code:=cM (unblk (leftC yo))
noncomputable def Wh : Code:=cM yo
section
variable (n:Nat) (env:Env) (h:H)
theorem SZ (I:T.get env 20=some (.int .i64 j)): ev C (n+1) mR7 ⟨env,34,h⟩=some (.normal,⟨env.set 21 (some (.bool (decide ((j:Int)<8)))),34,h⟩):=by
 simp only[mR7,qL,qi,kJ,kT,f217,eV,leftC,cM,unblk,unloop,iS,evStep,bq];rw[b_ U U U];simp only[evOp,evO,Env.v,I,ofValue,ofScalar,binV,ikBeq,ak,intV,bE,c9,evOps]
theorem ac0 {x:Nat}(J:x<4294967296)(h5:T.get env 5=some (.int .u32 x)):
  ∃I,ev C (n+1) mR8 ⟨env,34,h⟩=some (.normal,⟨I,34,h⟩)/\T.get I 24=some (.bool (Nat.beq (x%2) 1))/\∀t,t≠22->t≠23->t≠24->T.get I t=T.get env t:=by
 refine⟨((env.set 22 (some (.int .u32 x))).set 23 (some (.int .u32 ((x%2:Nat):Int)))).set 24 (some (.bool (Nat.beq (x%2) 1))),?_,by simp[aY],λt h1 h2 h3=>by simp[aY,h1,h2,h3]⟩;simp only[mR8,yo,qL,qi,kJ,kT,f217,eV,leftC,cM,unblk,unloop,iS,evStep,bq];rw[b_ U U U];simp only[evOp,evO,Env.v,h5,bE,c9];rw[b_ U U U];simp only[evOp,evO,Env.v,aY,cZ,ofValue,ofScalar,binV,ikBeq,ak,SY J,bE,c9];rw[b_ U U U];simp only[evOp,evO,Env.v,aY,cZ,ofValue,ofScalar,binV,ikBeq,ak,intV,bE,c9,evOps];rfl
theorem S0 {x:Nat}(I:x<4294967296): Nat.xor (x/2) 3988292384<4294967296:=qK Y
theorem ac1 {x:Nat}{b:Bool}(hx:x<4294967296)(h5:T.get env 5=some (.int .u32 x))(I:T.get env 24=some (.bool b)):
  ∃J,ev C (n+2) mIf ⟨env,34,h⟩=some (.normal,⟨J,34,h⟩)/\T.get J 5=some (.int .u32 ((cond b (Nat.xor (x/2) 3988292384) (x/2):Nat):Int))/\∀t,t<25->t≠5->T.get J t=T.get env t:=by
 simp only[mIf,yo,qL,qi,kJ,kT,f217,eV,leftC,cM,unblk,unloop,iS,evStep,evO,Env.v,I];cases b with
 |true =>
  refine⟨(((env.set 25 (some (.int .u32 x))).set 26 (some (.int .u32 ((x/2:Nat):Int)))).set 27 (some (.int .u32 ((Nat.xor (x/2) 3988292384:Nat):Int)))).set 5 (some (.int .u32 ((Nat.xor (x/2) 3988292384:Nat):Int))),?_,by simp[aY],λt h1 h2=>?_⟩
  .simp only[ak,bq];rw[b_ U U U];simp only[evOp,evO,Env.v,h5,bE,c9];rw[b_ U U U];simp only[evOp,evO,Env.v,aY,cZ,ofValue,ofScalar,binV,Ge,bE,c9];rw[b_ U U U];have:=AQ (a:=x/2) (b:=3988292384) Y Y;rw[show((3988292384:Nat):Int)=3988292384 from U] at this;simp only[evOp,evO,Env.v,aY,cZ,ofValue,ofScalar,binV,ikBeq,ak,this,bE,c9];rw[b_ U U U];simp only[evOp,evO,Env.v,aY,cZ,bE,c9,evOps]
  grind[aY]
 |false =>
  refine⟨((env.set 28 (some (.int .u32 x))).set 29 (some (.int .u32 ((x/2:Nat):Int)))).set 5 (some (.int .u32 ((x/2:Nat):Int))),?_,by simp[aY],λt h1 h2=>?_⟩
  .simp only[bq];rw[b_ U U U];simp only[evOp,evO,Env.v,h5,bE,c9];rw[b_ U U U];simp only[evOp,evO,Env.v,aY,cZ,ofValue,ofScalar,binV,Ge,bE,c9];rw[b_ U U U];simp only[evOp,evO,Env.v,aY,cZ,bE,c9,evOps]
  grind[aY]
theorem aaB (hj:j<8)(I:T.get env 20=some (.int .i64 j)):
  ∃J,ev C (n+1) Wh ⟨env,34,h⟩=some (.normal,⟨J,34,h⟩)/\T.get J 20=some (.int .i64 ((j+1:Nat):Int))/\∀t,t≠20->t≠30->T.get J t=T.get env t:=by
 refine⟨(env.set 30 (some (.int .i64 ((j+1:Nat):Int)))).set 20 (some (.int .i64 ((j+1:Nat):Int))),?_,by simp[aY],λt h1 h2=>by simp[aY,h1,h2]⟩;simp only[Wh,yo,qL,qi,kJ,kT,f217,eV,leftC,cM,unblk,unloop,iS,evStep,bq];rw[b_ U U U];simp only[evOp,evO,Env.v,I,ofValue,ofScalar,binV,ikBeq,ak,B8 (show j<9223372036854775807 by omega),bE,c9];rw[b_ U U U];simp only[evOp,evO,Env.v,aY,cZ,bE,c9,evOps]
section
variable {n:Nat}
theorem lS {a b:Code}(I:ev C n a s=some (.normal,s')): ev C (n+1) (.seq a b) s=ev C n b s':=by grind[iS,evStep]
theorem yP {a b:Code}(I:ev C n a s=some (.exit i,s')): ev C (n+1) (.seq a b) s=some (.exit i,s'):=by grind[iS,evStep]
theorem Aj {a b:Code}{t:Bool}(I:evO s.env x=some (.bool t)): ev C (n+1) (.cond x a b) s=ev C n (cond t a b) s:=by grind[iS,evStep]
theorem Ld {c:Code}(h:ev C n c s=some (.normal,s')): ev C (n+1) (.block i c) s=some (.normal,s'):=by grind[iS,evStep]
theorem BA {c:Code}(h:ev C n c s=some (.exit i,s')): ev C (n+1) (.block i c) s=some (.normal,s'):=by simp_all[iS,evStep]
theorem OY {b:Code}(h:ev C n b s=some (.normal,s')): ev C (n+1) (.loop b) s=ev C n (.loop b) s':=by grind[iS,evStep]
theorem xn {b:Code}(h:ev C n b s=some (.exit i,s')): ev C (n+1) (.loop b) s=some (.exit i,s'):=by grind[iS,evStep]
end
theorem Jp : qL=.seq mR7 (.seq (.cond (.tmp 21) .skip (.exit 2)) yo):=rfl
theorem Wi : yo=.seq (.block 3 (.seq mR8 mIf)) Wh:=rfl
theorem Qu {x:Nat}(hx:x<4294967296)(hj:j<8)(h5:T.get env 5=some (.int .u32 x))(h20:T.get env 20=some (.int .i64 j)):
  ∃J,ev C (n+9) qL ⟨env,34,h⟩=some (.normal,⟨J,34,h⟩)/\T.get J 5=some (.int .u32 ((crcStep x 1:Nat):Int))/\T.get J 20=some (.int .i64 ((j+1:Nat):Int)) /\
   ∀t,t<20->t≠5->T.get J t=T.get env t:=by
 have bY:decide ((j:Int)<8)=true:=Q;have q7:=SZ (C:=C) (n+7) env h h20;rw[bY] at q7;have g5:T.get (env.set 21 (some (.bool true))) 5=some (.int .u32 x):=by simp[aY,h5]
 obtain⟨e8,q8,q8a,q8b⟩:=ac0 (C:=C) (n+3) (env.set 21 (some (.bool true))) h hx g5;have g5':T.get e8 5=some (.int .u32 x):=Q;obtain⟨e9,q9,q9a,q9b⟩:=ac1 (C:=C) (n+2) e8 h hx g5' q8a;have g20:T.get e9 20=some (.int .i64 j):=by
  grind[aY]
 obtain⟨e11,q11,I,aiC⟩:=aaB (C:=C) (n+5) e9 h hj g20;refine⟨e11,?_,?_,I,λt h1 h2=>?_⟩
 .rw[Jp,lS q7,lS (s':=⟨env.set 21 (some (.bool true)),34,h⟩) (by rw[Aj (t:=true) (by simp[evO,Env.v,aY])];rfl),Wi,
   lS (Ld (by rw[lS q8];exact q9)),q11]
 .grind[crcStep]
 .grind[aY]
theorem Qv : ∀(k n:Nat) (env:Env) (x:Nat),k<=8->x<4294967296->T.get env 5=some (.int .u32 x)->T.get env 20=some (.int .i64 ((8-k:Nat):Int)) ->
  ∃J,ev C (n+10+k) (.loop qL) ⟨env,34,h⟩=some (.exit 2,⟨J,34,h⟩)/\T.get J 5=some (.int .u32 ((crcStep x k:Nat):Int))/\∀t,t<20->t≠5->T.get J t=T.get env t:=by
 intro k;induction k with
 |zero =>
  intro n env x _ hx h5 I;have q7:=SZ (C:=C) (n+7) env h I;refine⟨env.set 21 (some (.bool false)),?_,by simp[aY,h5,crcStep],λt h1 h2=>?_⟩
  .refine xn ?_;rw[Jp,lS q7];exact yP (by rw[Aj (t:=false) (by simp[evO,Env.v,aY])];rfl)
  grind[aY]
 |succ k ih =>
  intro n env x hk hx h5 I;obtain⟨e1,q1,q2,q3,q4⟩:=Qu (C:=C) (n+1+k) env h hx (show 8-(k+1)<8 by omega) h5 I;have h8:8-(k+1)+1=8-k:=Y;rw[h8] at q3;have Le:crcStep x 1<4294967296:=by
   grind[crcStep,S0]
  obtain⟨e2,p1,p2,p3⟩:=ih n e1 (crcStep x 1) Y Le q2 q3;refine⟨e2,?_,?_,λt h1 h2=>Q⟩
  .grind[OY]
  .rw[p2];simp only[crcStep]
end
noncomputable def mR3 : Code:=leftC kJ
noncomputable def Ku : Code:=cM (cM kJ)
noncomputable def Wj : Code:=cM Ku
noncomputable def mR4 : Code:=leftC qi
noncomputable def mR5 : Code:=leftC (cM qi)
noncomputable def mR6 : Code:=leftC (cM (cM qi))
theorem Wk : qi=.seq mR4 (.seq mR5 (.seq mR6 (.block 2 (.loop qL)))):=rfl
theorem B9 : kJ=.seq mR3 (.seq (.cond (.tmp 13) .skip (.exit 0)) Ku):=rfl
theorem Wl : Ku=.seq (.block 1 qi) Wj:=rfl
theorem fK : bf prog 5=some 1:=bo
theorem OZ : isAggT prog 5=some false:=bo
section
variable {told:bU} (n:Nat) (env:Env) (h:H)
theorem Lf {len:Nat}(I:T.get env 12=some (.int .i64 i))(J:T.get env 11=some (.int .i64 len)):
  ev ⟨prog,told⟩ (n+1) mR3 ⟨env,34,h⟩=some (.normal,⟨env.set 13 (some (.bool (decide ((i:Int)<(len:Int))))),34,h⟩):=by
 simp only[mR3,kJ,kT,f217,eV,leftC,cM,unblk,unloop,iS,evStep,bq];rw[b_ U U U];simp_all[evOp,evO,Env.v,binV,ikBeq,intV,bE,evOps]
theorem ac2 {len:Nat}{cap:Cap}(hi:i<len)(I:T.get env 12=some (.int .i64 i))(J:T.get env 10=some (.sl id off len cap))(hb:z8 h id (off+i)=some (.int .u8 b)):
  ∃e',ev ⟨prog,told⟩ (n+1) mR4 ⟨env,34,h⟩=some (.normal,⟨e',34,h⟩)/\T.get e' 7=some (.int .u8 b)/\∀t,t≠7->t≠14->t≠15->T.get e' t=T.get env t:=by
 refine⟨((env.set 14 (some (.ptr id (off+i)))).set 15 (some (.int .u8 b))).set 7 (some (.int .u8 b)),?_,by simp[aY],λt h1 h2 h3=>by simp[aY,h1,h2,h3]⟩;simp only[mR4,qi,kJ,kT,f217,eV,leftC,cM,unblk,unloop,iS,evStep,bq];rw[b_ U U U];have d1:decide ((0:Int)<=(i:Int))=true:=cb;have d2:decide ((i:Int)<(len:Int))=true:=Q;simp only[evOp,evO,Env.v,J,I,indexAddrV,aZ,fK,d1,d2,oE,ak,cN,gF,bE,c9];rw[b_ U U U];simp only[evOp,evO,Env.v,aY,cZ,loadV,OZ,hb,bE,c9];rw[b_ U U U];simp only[evOp,evO,Env.v,aY,cZ,bE,c9,evOps]
theorem ac3 {x:Nat}(hx:x<4294967296)(hb:b<256)(h5:T.get env 5=some (.int .u32 x))(h7:T.get env 7=some (.int .u8 b)):
  ∃I,ev ⟨prog,told⟩ (n+1) mR5 ⟨env,34,h⟩=some (.normal,⟨I,34,h⟩)/\T.get I 5=some (.int .u32 ((Nat.xor x b:Nat):Int))/\∀t,t<16->t≠5->T.get I t=T.get env t:=by
 refine⟨((((env.set 16 (some (.int .u32 x))).set 17 (some (.int .u8 b))).set 18 (some (.int .u32 b))).set 19 (some (.int .u32 ((Nat.xor x b:Nat):Int)))).set 5 (some (.int .u32 ((Nat.xor x b:Nat):Int))),?_,by simp[aY],λt h1 h2=>?_⟩
 .simp only[mR5,qi,kJ,kT,f217,eV,leftC,cM,unblk,unloop,iS,evStep,bq];rw[b_ U U U];simp only[evOp,evO,Env.v,h5,bE,c9];rw[b_ U U U];have g7:T.get (env.set 16 (some (.int .u32 x))) 7=some (.int .u8 b):=by simp[aY,h7]
  simp only[evOp,evO,Env.v,g7,bE,c9];rw[b_ U U U];simp only[evOp,evO,Env.v,aY,cZ,convV,underlying5,underlying285,wrap_u32 (show b<4294967296 by omega),c9];rw[b_ U U U];have J:T.get (((env.set 16 (some (.int .u32 x))).set 17 (some (.int .u8 b))).set 18 (some (.int .u32 b))) 16=some (.int .u32 x):=by simp[aY]
  have g18:T.get (((env.set 16 (some (.int .u32 x))).set 17 (some (.int .u8 b))).set 18 (some (.int .u32 b))) 18=some (.int .u32 b):=by simp[aY]
  simp only[evOp,evO,Env.v,J,g18,binV,ikBeq,ak,AQ hx (show b<4294967296 by omega),bE,c9];rw[b_ U U U];simp only[evOp,evO,Env.v,aY,cZ,bE,c9,evOps]
 grind[aY]
theorem ac4 : ev ⟨prog,told⟩ (n+1) mR6 ⟨env,34,h⟩=some (.normal,⟨env.set 20 (some (.int .i64 0)),34,h⟩):=by
 rfl
theorem aaC (hi:i<9223372036854775807)(I:T.get env 12=some (.int .i64 i)):
  ∃J,ev ⟨prog,told⟩ (n+1) Wj ⟨env,34,h⟩=some (.normal,⟨J,34,h⟩)/\T.get J 12=some (.int .i64 ((i+1:Nat):Int))/\∀t,t≠12->t≠31->T.get J t=T.get env t:=by
 refine⟨(env.set 31 (some (.int .i64 ((i+1:Nat):Int)))).set 12 (some (.int .i64 ((i+1:Nat):Int))),?_,by simp[aY],λt h1 h2=>by simp[aY,h1,h2]⟩;simp only[Wj,Ku,kJ,kT,f217,eV,leftC,cM,unblk,unloop,iS,evStep,bq];rw[b_ U U U];simp only[evOp,evO,Env.v,I,ofValue,ofScalar,binV,ikBeq,ak,B8 hi,bE,c9];rw[b_ U U U];simp only[evOp,evO,Env.v,aY,cZ,bE,c9,evOps]
theorem Gf : ∀(k x:Nat),x<4294967296->crcStep x k<4294967296:=by
 intro k;induction k<;>grind[crcStep,S0]
theorem Wm {x len:Nat}{cap:Cap}(hx:x<4294967296)(hb:b<256)(hi:i<len)(h5:T.get env 5=some (.int .u32 x))(I:T.get env 12=some (.int .i64 i))(J:T.get env 10=some (.sl id off len cap))
 (hr:z8 h id (off+i)=some (.int .u8 b)):
  ∃e',ev ⟨prog,told⟩ (n+22) qi ⟨env,34,h⟩=some (.normal,⟨e',34,h⟩)/\T.get e' 5=some (.int .u32 ((crcStep (Nat.xor x b) 8:Nat):Int))/\∀t,t=10\/t=11\/t=12->T.get e' t=T.get env t:=by
 obtain⟨e4,q4,q4a,q4b⟩:=ac2 (told:=told) (n+20) env h hi I J hr;obtain⟨e5,q5,q5a,q5b⟩:=ac3 (told:=told) (n+19) e4 h hx hb Q q4a;have q6:=ac4 (told:=told) (n+18) e5 h;obtain⟨e2,q2,Zh,Zi⟩:=Qv (C:=⟨prog,told⟩) h 8 n (e5.set 20 (some (.int .i64 0))) (Nat.xor x b) Y (qK hx) (by simp[aY,q5a]) (by simp[aY])<;>simp_all[aY,Wk,lS,BA]
theorem Qw {len:Nat}{cap:Cap}(hlen:len<9223372036854775807): ∀(l:List Nat) (i n:Nat) (env:Env) (x:Nat),i+l.length=len->x<4294967296->(∀b∈l,b<256) ->
  (∀j b:Nat,l[j]?=some b->z8 h id (off+(i+j))=some (.int .u8 (b:Int)))->T.get env 5=some (.int .u32 x)->T.get env 12=some (.int .i64 i)->T.get env 10=some (.sl id off len cap)->T.get env 11=some (.int .i64 len) ->
  ∃e',ev ⟨prog,told⟩ (n+30+l.length) (.loop kJ) ⟨env,34,h⟩=some (.exit 0,⟨e',34,h⟩)/\T.get e' 5=some (.int .u32 ((crcL x l:Nat):Int)):=by
 intro l;induction l with
 |nil =>
  intro i n env x hi hx _ _ h5 I Zj h11;have q3:=Lf (told:=told) (n+27) env h I h11;have hd:decide ((i:Int)<(len:Int))=false:=Q;rw[hd] at q3;refine⟨env.set 13 (some (.bool false)),xn ?_,by simp[aY,h5,crcL]⟩;rw[B9,lS q3];exact yP (by rw[Aj (t:=false) (by simp[evO,Env.v,aY])];rfl)
 |cons b l ih =>
  intro i n env x hi hx Jq mZ h5 I Zj h11;simp only[cK] at hi;have q3:=Lf (told:=told) (n+l.length+28) env h I h11;have hd:decide ((i:Int)<(len:Int))=true:=Q;rw[hd] at q3;have hb:b<256:=Jq b cb;have hr:=mZ 0 b cb;rw[wF] at hr;obtain⟨e1,q1,q1a,q1b⟩:=Wm (told:=told) (cap:=cap) (n+l.length+4) (env.set 13 (some (.bool true))) h hx hb (show i<len by omega) (by simp[aY,h5]) (by simp[aY,I]) (by simp[aY,Zj]) hr;obtain⟨e2,q2,Zh,Zi⟩:=aaC (told:=told) (n+l.length+26) e1 h (show i<9223372036854775807 by omega) (by grind[aY]);have qx:crcStep (Nat.xor x b) 8<4294967296:=Gf 8 _ (qK hx);obtain⟨e3,q3',q3a⟩:=ih (i+1) n e2 (crcStep (Nat.xor x b) 8) Y qx (λc hc=>Jq c Q) (λj c hj=>by
   have:=mZ (j+1) c Q
   rwa [show i+(j+1)=i+1+j from by omega] at this) Q Zh (by grind[aY]) (by grind[aY])
  refine⟨e3,?_,by rw[q3a];simp only[crcL]⟩;have J:ev ⟨prog,told⟩ (n+l.length+30) kJ ⟨env,34,h⟩=some (.normal,⟨e2,34,h⟩):=by
   rw[B9,lS q3,lS (s':=⟨env.set 13 (some (.bool true)),34,h⟩) (by rw[Aj (t:=true) (by simp[evO,Env.v,aY])];rfl),Wl,
    lS (Ld q1),q2]
  rw[cK,show n+30+(l.length+1)=(n+l.length+30)+1 from by omega,OY J,show n+l.length+30=n+30+l.length from by omega];exact q3'
noncomputable def mR0 : Code:=leftC kT
noncomputable def mR1 : Code:=leftC (cM kT)
noncomputable def mR2 : Code:=leftC (leftC (cM (cM kT)))
noncomputable def Wn : Code:=cM (cM (cM kT))
theorem Wo : kT=.seq mR0 (.seq mR1 (.seq (.seq mR2 (.block 0 (.loop kJ))) Wn)):=rfl
theorem ac5 : ev ⟨prog,told⟩ (n+1) mR0 ⟨env,34,h⟩=some (.normal,⟨env.set 4 (some (.int .u32 0)),34,h⟩):=by
 rfl
theorem ac6 {x:Nat}(J:x<4294967296)(h0:T.get env 0=some (.int .u32 x)):
  ∃I,ev ⟨prog,told⟩ (n+1) mR1 ⟨env,34,h⟩=some (.normal,⟨I,34,h⟩)/\T.get I 5=some (.int .u32 ((Nat.xor x 4294967295:Nat):Int))/\∀t,t≠5->t≠8->t≠9->T.get I t=T.get env t:=by
 refine⟨((env.set 8 (some (.int .u32 x))).set 9 (some (.int .u32 ((Nat.xor x 4294967295:Nat):Int)))).set 5 (some (.int .u32 ((Nat.xor x 4294967295:Nat):Int))),?_,by simp[aY],λt h1 h2 h3=>by simp[aY,h1,h2,h3]⟩;simp only[mR1,kT,f217,eV,leftC,cM,iS,evStep,bq];rw[b_ U U U];simp only[evOp,evO,Env.v,h0,bE,c9];rw[b_ U U U];have:=AQ (a:=x) (b:=4294967295) J Y;rw[show((4294967295:Nat):Int)=4294967295 from U] at this;simp only[evOp,evO,Env.v,aY,cZ,ofValue,ofScalar,binV,ikBeq,ak,this,bE,c9];rw[b_ U U U];simp only[evOp,evO,Env.v,aY,cZ,bE,c9,evOps]
theorem ac7 {x:V}{len:Nat}(h1:T.get env 1=some x)(J:lenV prog h 23 x=some (.int .i64 len)):
  ∃I,ev ⟨prog,told⟩ (n+1) mR2 ⟨env,34,h⟩=some (.normal,⟨I,34,h⟩)/\T.get I 10=some x/\T.get I 11=some (.int .i64 len)/\T.get I 12=some (.int .i64 ((0:Nat):Int))/\T.get I 5=T.get env 5:=by
 refine⟨((env.set 10 (some x)).set 11 (some (.int .i64 len))).set 12 (some (.int .i64 0)),?_,by simp[aY],by simp[aY],by simp[aY],by simp[aY]⟩;simp only[mR2,kT,f217,eV,leftC,cM,iS,evStep,bq];rw[b_ U U U];simp only[evOp,evO,Env.v,h1,bE,c9];rw[b_ U U U];simp only[evOp,evCall,evArgs,evO,Env.v,aY,cZ,builtinV,J,tV,c9];rw[b_ U U U];simp only[evOp,evO,ofValue,ofScalar,bE,c9,evOps]
theorem aaD {x:Nat}(J:x<4294967296)(h5:T.get env 5=some (.int .u32 x)):
  ∃I,ev ⟨prog,told⟩ (n+2) Wn ⟨env,34,h⟩=some (.ret,⟨I,34,h⟩)/\T.get I 4=some (.int .u32 ((Nat.xor x 4294967295:Nat):Int)):=by
 refine⟨((env.set 32 (some (.int .u32 x))).set 33 (some (.int .u32 ((Nat.xor x 4294967295:Nat):Int)))).set 4 (some (.int .u32 ((Nat.xor x 4294967295:Nat):Int))),?_,by simp[aY]⟩;simp only[Wn,kT,f217,eV,cM,iS,evStep,bq];rw[b_ U U U];simp only[evOp,evO,Env.v,h5,bE,c9];rw[b_ U U U];have:=AQ (a:=x) (b:=4294967295) J Y;rw[show((4294967295:Nat):Int)=4294967295 from U] at this;simp only[evOp,evO,Env.v,aY,cZ,ofValue,ofScalar,binV,ikBeq,ak,this,bE,c9];rw[b_ U U U];simp only[evOp,evO,Env.v,aY,cZ,bE,c9,evOps]
end
theorem Qx : ∀(cs:List V) (l:List Nat),bytesIn cs=some l->cs=l.map (λ(b:Nat)=>V.int .u8 (b:Int))/\∀b∈l,b<256:=by
 intro cs;induction cs with
 |nil=>grind[bytesIn]
 |cons v cs I =>
  intro l h;unfold bytesIn at h;grind
theorem Ie : ∀(l:List Nat) (x:Nat),x<4294967296->(∀b∈l,b<256)->crcL x l<4294967296:=by
 intro l;induction l with
 |nil=>intro x I _;exact I
 |cons b l ih =>
  intro x I J;have h1:=J b cb;exact ih _ (Gf 8 _ (qK I)) (λc hc=>J c Q)
theorem Fi {s : Int} {x : V} {len : Nat} (hs0 : 0 ≤ s) (gC : s < 4294967296) (hl : lenV Tryz.prog σ 23 x = some (.int .i64 len)) (hlen : len = l.length) (mu : len < 9223372036854775807)
  (hb : ∀ b ∈ l, b < 256) (hx : l = [] ∨ ∃ id off cap, x = .sl id off len cap ∧ ∀ j b : Nat, l[j]? = some b → z8 σ id (off + (0 + j)) = some (.int .u8 (b : Int))) :
  run ⟨Tryz.prog, fun _ => none⟩ (l.length + 40) 217 [.int .u32 s, x] σ = some (Ai s l, σ) := by
 obtain ⟨u, rfl⟩ : ∃ u : Nat, s = (u : Int) := ⟨s.toNat, by omega⟩
 have hu : u < 4294967296 := by omega
 have q0 := ac5 (told := fun _ => none) (l.length + 38) (bindArgs [.int .u32 u, x] 0 .lf) σ
 obtain ⟨e1, q1, q1a, q1b⟩ := ac6 (told := fun _ => none) (l.length + 37) ((bindArgs [.int .u32 u, x] 0 .lf).set 4 (some (.int .u32 0))) σ hu (by rfl)
 obtain ⟨e2, q2, Zh, Zi, q2c, q2d⟩ := ac7 (told := fun _ => none) (l.length + 35) e1 σ (x := x) (by grind [aY, bindArgs]) hl
 have I : Nat.xor u 4294967295 < 4294967296 := qK hu (by omega)
 have J : ∃ e', ev ⟨Tryz.prog, fun _ => none⟩ (5 + 30 + l.length) (.loop kJ) ⟨e2, 34, σ⟩ = some (.exit 0, ⟨e', 34, σ⟩) ∧ T.get e' 5 = some (.int .u32 ((crcL (Nat.xor u 4294967295) l : Nat) : Int)) := by
  rcases hx with rfl | ⟨id, off, cap, rfl, mZ⟩
  ·have q3 := Lf (told := fun _ => none) 32 e2 σ q2c Zi
   have hd : decide ((((0 : Nat) : Int)) < (len : Int)) = false := by grind
   rw [hd] at q3
   refine ⟨e2.set 13 (some (.bool false)), ?_, by simp [aY, q2d, q1a, crcL]⟩
   refine xn ?_
   rw [B9, lS q3]
   exact yP (by rw [Aj (t := false) (by simp [evO, Env.v, aY])]; rfl)
  ·exact Qw σ mu l 0 5 e2 _ (by omega) I hb mZ (by grind) q2c Zh Zi
 obtain ⟨e3, q3, q3a⟩ := J
 obtain ⟨e4, q4, q4a⟩ := aaD (told := fun _ => none) (l.length + 35) e3 σ (Ie l _ I hb) q3a
 have aeJ : ev ⟨Tryz.prog, fun _ => none⟩ (l.length + 40) kT ⟨bindArgs [.int .u32 u, x] 0 .lf, 34, σ⟩ = some (.ret, ⟨e4, 34, σ⟩) := by
  rw [Wo, lS q0, lS q1, lS (s' := ⟨e3, 34, σ⟩) (by
   rw [lS q2]
   grind [BA]), q4]
 unfold run callF
 simp only [Ga]
 rw [show Tryz.f217.body = some kT from rfl]
 rw [show (Tryz.f217.name == "runtime.NumGoroutine" || Nat.blt Tryz.f217.ntmps [V.int .u32 (u : Int), x].length) = false from rfl]
 simp only [bq]
 rw [show Tryz.f217.ntmps = 34 from rfl, aeJ]
 simp only
 rw [show Tryz.f217.results = #[.tmp 4] from rfl]
 simp only [mapO, resV, Env.v, q4a, Ai, cN]
section
variable {c:Ctx} {w:World}
theorem NT (hP:C.P=prog)(hm:C.P.follows .mixedOrders=true){v:V}(I:toldMore args σ=some (v,c5))(h:Rel c σ w)(hw:∀x∈args,wf c x):
  gd C.P 217 args c w v c5:=by
 rw[hP] at hm ⊢;have hT:er ⟨prog,λ_=>none⟩:=λf g hg=>by cases hg
 unfold toldMore at I;split at I
 .rename_i s id off len cap;cases J:(decide (0<=s)&&decide (s<4294967296)&&Nat.ble len 4611686018427387904) with
  |false=>grind
  |true =>
   rw[J,ak] at I;simp only[b9,pW,aN] at J;obtain⟨hd,mu⟩:=J;cases mZ:rdN σ id off len with
   |none=>grind
   |some cs =>
    simp only[mZ] at I;cases hb:bytesIn cs with
    |none=>grind
    |some l =>
     simp only[hb,aC,bO] at I;obtain⟨rfl,rfl⟩:=I;obtain⟨b1,b2⟩:=Qx cs l hb;obtain⟨d1,d2⟩:=aaA h mZ;have hl:len=l.length:=Q;refine Lc (C:=⟨prog,λ_=>none⟩) hm hT (Fi hd.1 hd.2 (len:=len) (by simp[lenV,aZ]) hl Y b2 (.inr ⟨id,off,cap,U,λj b hj=>?_⟩)) h hw
     .grind
 .rename_i s;cases hd:(decide (0<=s)&&decide (s<4294967296)) with
  |false=>grind
  |true =>
   rw[hd,ak] at I;simp only[b9,pW] at hd;obtain⟨rfl,rfl⟩:=I;exact Lc (C:=⟨prog,λ_=>none⟩) hm hT (Fi hd.1 hd.2 (len:=0) (l:=[]) (by simp[lenV,aZ]) U Y cb (.inl U)) h hw
 .rename_i s _;cases hd:(decide (0<=s)&&decide (s<4294967296)) with
  |false=>grind
  |true =>
   rw[hd,ak] at I;simp only[b9,pW] at hd;obtain⟨rfl,rfl⟩:=I;exact Lc (C:=⟨prog,λ_=>none⟩) hm hT (Fi hd.1 hd.2 (len:=0) (l:=[]) (by simp[lenV,aZ]) U Y cb (.inl U)) h hw
 .cases I
end
end Go.Proofs.YtiojppeahfoiaaaGreat.Am
namespace Go.Proofs.YtiojppeahfoiaaaGreat.Am
open Go Go.Maps Go.RowKit Proofs.Tryz
variable {ps:Array (Nat×Operand)} {ops:Array Oper} {st:Bool} {C:eP} {code:Code} {c₀:Ctx} {env:Env} {a8:Ex->List (Nat×V)->H->Prop} {fn:Func} {f:FuncId} {cl:Go.Call} {h h' σ h₁ c5:H} {κ:IntKind} {E E':List (Nat×V)} {R:List (Nat×V)->H->Prop} {d₀:List Deferred} {hs:List H} {eW es l:List Nat} {L rest:List Oper} {args cap vs cs ds:List V} {a b i c k id n d off j g pH k' q:Nat} {Hs:Nat->H} {early:Nat->Option (Nat×FV)} {Fl:Nat->Prop} {vv:Nat->V} {o':Obj} {o:Oper} {x y:Operand} {P:Program} {φ:Prop} {self:Self} {s s':St} {α:Type} {td:TypeDesc} {t t' e kt et:TypeId} {r u z:V} {AN:V->H->Prop} {w₀:World}
def keyInts : List (V×V×Nat)->Option (List Int)
 |[]=>some []
 |(.int .i64 n,_,_)::l=>cond (Lit.int .i64 n).wf (match keyInts l with
  |some m=>some (n::m)
  |none=>none) none
 |_=>none
def bornUp (clock:Nat): Nat->List (V×V×Nat)->Bool
 |_,[]=>true
 |b,(_,_,x)::l=>cond (Nat.ble b x&&Nat.blt x clock) (bornUp clock (x+1) l) false
def insI (x:Int): List Int->List Int
 |[]=>[x]
 |y::l=>cond (decide (x<=y)) (x::y::l) (y::insI x l)
def oQ : List Int->List Int
 |[]=>[]
 |x::l=>insI x (oQ l)
def uZ : List Int->Bool
 |[]=>true
 |x::l=>l.all (λy=>decide (x<y))&&uZ l
def d_ (l:List Int): List V:=l.map (V.int .i64)
noncomputable def toldSorted (gs:List Nat): List V->H->Option (V×H)
 |[.fn (.func g) [] [.ptr b 0]],h=>match h.tr.get b with
  |some (.cells n [.map id] false)=>match h.tr.get id with
   |some (.map es clock)=>cond (Nat.beq n 1&&AD gs g&&bornUp clock 0 es&&Nat.ble es.length 1048576) (match keyInts es with
    |some ks=>cond (uZ (oQ ks)) (match ks with
     |[]=>some (.aP,h)
     |_=>some (.sl h.next 0 ks.length (.rest 1 0),newRow h (d_ (oQ ks)))) none
    |none=>none) none
   |_=>none
  |_=>none
 |_,_=>none
theorem B_ (x:Int): ∀l:List Int,(insI x l).Perm (x::l)
 |[]=>.refl _
 |y::l=>by
  simp only[insI];cases decide (x<=y) with
  |true=>rfl
  |false=>exact((B_ x l).cons y).trans (.swap x y l)
theorem fB : ∀l:List Int,(oQ l).Perm l
 |[]=>.refl _
 |x::l=>(B_ x _).trans ((fB l).cons x)
theorem Jr : ∀l:List Int,uZ l=true->l.Pairwise (· < ·)
 |[],_=>.nil
 |x::l,h=>by
  simp only[uZ,b9,List.all_eq_true,pW] at h;exact List.pairwise_cons.2 ⟨h.1,Jr l h.2⟩
theorem Ak : ∀ {l m:List Int},l.Perm m->l.Pairwise (· <= ·)->m.Pairwise (· <= ·)->l=m
 |[],m,I,_,_=>I.nil_eq
 |a::r,[],I,_,_=>absurd I.symm.nil_eq cb
 |a::r,b::s,I,h1,h2=>by
  obtain⟨a1,a2⟩:=List.pairwise_cons.1 h1;obtain⟨b1,b2⟩:=List.pairwise_cons.1 h2;have J:a=b:=by
   have ha:a∈b::s:=I.mem_iff.1 cb;have hb:b∈a::r:=I.mem_iff.2 cb;grind
  subst J;rw[Ak (List.Perm.cons_inv I) a2 b2]
theorem Js {clock:Nat}: ∀(l:List (V×V×Nat)) (b:Nat),bornUp clock b l=true->(∀x∈l,b<=x.2.2/\x.2.2<clock)/\(l.map (·.2.2)).Nodup
 |[],_,_=>⟨cb,cb⟩
 |(k,v,x)::l,b,h=>by
  simp only[bornUp] at h;cases I:(Nat.ble b x&&Nat.blt x clock) with
  |false=>grind
  |true =>
   rw[I,ak] at h;simp only[b9,aN,jd] at I;obtain⟨i1,i2⟩:=Js l (x+1) h<;>grind
theorem Gg {c:Ctx}: ∀(l:List (V×V×Nat)) (ks:List Int),keyInts l=some ks->l.map (λx=>conc c x.1)=ks.map (Value.int .i64)/\∀n∈ks,(Lit.int .i64 n).wf=true
 |[],ks,h=>by grind[keyInts]
 |(k,v,b)::l,ks,h=>by
  unfold keyInts at h;split at h
  .grind
  .rename_i n v' b' l' he;cases hw:(Lit.int .i64 n).wf with
   |false=>grind
   |true =>
    cases hm:keyInts l with
    |none=>grind
    |some m =>
     obtain⟨i1,i2⟩:=Gg (c:=c) l m hm<;>grind[conc]
  .cases h
section
variable {c:Ctx} {w w':World}
theorem Rel.below (h:Rel c σ w)(I:Below w.heap.size w w'): Rel c σ w'/\cq c w c w':=by
 have rows:∀b,b<w.heap.size->rowSize w' b=rowSize w b:=λb J=>by unfold rowSize;rw[I.block b J]
 refine⟨⟨h.next,h.live,λid hi=>gW (h.lP id hi) I.size,λid hi=>by rw[rows _ (h.lP id hi)];exact h.zz id hi,h.inj,
  λid o ho=>(h.obj id o ho).later (Ext.refl c) (h.live id o ho) (I.block _ (h.lP id (h.live id o ho))),h.one,h.fx⟩,
  ⟨Ext.refl c,I.size,rows,λb J _=>I.block b J,λid h1 h2=>Y,I.os,I.output⟩⟩
theorem Rel.take {C:Array Value}{T:TypeId}(h:Rel c σ w)(hb:b<w.heap.size)(hr:∀id,id<c.N->(c.ρ id).1≠b)(J:∀v∈cs,wf c v/\storable v=true)
 (hg:w.heap[b]?=some (.cells C T (0,0)))(hC:C.toList.take cs.length=cs.map (conc c)): Rel (c.grow b 0 C.size) (Am.newRow σ cs) w:=by
 have e:=uH hr 0 C.size;have hN:(c.grow b 0 C.size).N=c.N+1:=rfl;have hle:cs.length<=C.size:=by
  have:=gY List.length hC;simp at this;omega
 have key:∀i o,(Am.newRow σ cs).tr.get i=some o->(i=c.N/\o=.cells cs.length cs false)\/(i<c.N/\σ.tr.get i=some o):=by
  intro i o hi;rw[Am.newRow,fu,h.next] at hi
  by_cases h1:i=c.N
  .grind
  .simp[h1] at hi;exact .inr ⟨h.live i o hi,hi⟩
 refine⟨by simp[Am.newRow,H.new,Ctx.grow,h.next],λi o hi=>?_,λi hi=>?_,λi hi=>?_,λi j o o' hi hj he=>?_,λi o hi=>?_,λi Bu pz hi hx=>?_,λi o hi hx=>?_⟩
 .grind
 .by_cases h1:i=c.N
  .grind[bF]
  .rw[dF c _ _ _ Y];exact h.lP i Y
 .by_cases h1:i=c.N
  .grind[Ctx.grow,rowSize]
  .rw[dF c _ _ _ Y,<-h.zz i Y];simp[Ctx.grow,hr i Y]
 .rcases key i o hi with⟨I,_⟩|⟨I,a2⟩<;>rcases key j o' hj with⟨b1,_⟩|⟨b1,b2⟩
  .omega
  .grind[bF,dF]
  .grind[bF,dF]
  .rw[dF c _ _ _ I,dF c _ _ _ b1] at he;rw[gQ c _ _ _ I,gQ c _ _ _ b1];exact h.inj i j _ _ a2 b2 he
 .rcases key i o hi with⟨rfl,rfl⟩|⟨I,a2⟩
  .refine⟨U,λv hv=>⟨(bT e v (J v hv).1).2,(J v hv).2⟩,C,T,(0,0),by rw[bF];exact hg,by grind[bF],λj v hj=>?_,U⟩;rw[bF,(bT e v (J v (bz hj)).1).1];have h1:(C.toList.take cs.length)[j]?=some (conc c v):=Q;grind
  .exact(h.obj i o a2).later e I U
 .rcases key i _ hi with⟨rfl,_⟩|⟨I,a2⟩
  .rw[bF]
  .rw[gQ c _ _ _ I] at hx;rw[dF c _ _ _ I];exact h.one i Bu pz a2 hx
 .rcases key i o hi with⟨rfl,_⟩|⟨I,a2⟩
  .grind[AG]
  .rw[gQ c _ _ _ I] at hx;exact h.fx i o a2 hx
def qM (_:Value): Option (DataW Unit×List MemPlace):=some (.nil,[])
def Jt (P:Program)(f K:Nat)(gs:List Nat): Prop:=∀g∈gs,∀(J b nn:Nat) (D0:DataW Unit) (w:World),J<w.heap.size->w.cell? ⟨J,0,none⟩=some (.map (some b)) ->
 w.ownsMap P K qM b nn D0->Maps.size D0<=maxLen->Maps.size D0*8<=140737488355328 ->
 Calls P f #[.func (.func g) #[] #[.pointer (some ⟨J,0,none⟩)]] w λe w'=>∃(v:Value) (I:List Int),e=.returned v/\I.Perm (intKeys D0) /\
  w'.ownsRow w.heap.size K 1 v I.length ((I.mergeSort (λx y=>decide (x<=y))).map encZ)/\(v=.slice none 0 0↔I=[])/\Below w.heap.size w w'
theorem Ki {f K:Nat}{gs:List Nat}(hK:P.underlying K=some (.int .i64))(hS:Jt P f K gs){v:V}(I:toldSorted gs args σ=some (v,c5))
 (h:Rel c σ w): gd P f args c w v c5:=by
 unfold toldSorted at I;split at I
 .rename_i g b;split at I
  .rename_i n id Zk;split at I
   .rename_i es clock hgm;cases hq:(Nat.beq n 1&&AD gs g&&bornUp clock 0 es&&Nat.ble es.length 1048576) with
    |false=>grind
    |true =>
     rw[hq,ak] at I;simp only[b9,beq_iff,aN,Fh] at hq;obtain⟨⟨⟨q1,q2⟩,q3⟩,q4⟩:=hq;subst q1;cases hk:keyInts es with
     |none=>grind
     |some ks =>
      simp only[hk] at I;cases J:uZ (oQ ks) with
      |false=>grind
      |true =>
       simp only[J,ak] at I;obtain⟨k1,k2⟩:=Gg (c:=c) es ks hk;obtain⟨b1,b2⟩:=Js es 0 q3;have bY:=Jr _ J;have mh:ks.Nodup:=(fB ks).nodup_iff.1 (bY.imp λ{a b} jS=>Y);have Kv:=h.one b _ _ Zk (h.E_ Zk cb);have AF:=cell_of h Zk (j:=0) (v:=.map id) U;have ago:iK c b 0=⟨(c.ρ b).1,0,none⟩:=by simp[iK,Kv]
       rw[ago] at AF;have ac8:w.cell? ⟨(c.ρ b).1,0,none⟩=some (.map (some (c.ρ id).1)):=by simpa[conc] using AF
       obtain⟨m1,m2⟩:=h.obj id _ hgm;have Kw:∀x∈es,∃n,n∈ks/\(cJ c x).key=.int .i64 n:=λx hx=>by
        have:conc c x.1∈ks.map (Value.int .i64):=Q;obtain⟨n,hn,he⟩:=List.mem_map.1 this;exact⟨n,hn,he.symm⟩
       have mZ:∀x∈es,∀n,(cJ c x).key=.int .i64 n->n∈ks->WideElems.rd P K qM (cJ c x)=some (.int .i64 n,.nil):=λx hx n hn hm=>by
        grind[WideElems.rd,Maps.keyOf_int_mk,qM]
       have agp:w.ownsMap P K qM (c.ρ id).1 es.length (.map (((es.map (cJ c)).toArray.toList.map (WideElems.rg P K qM)).foldr DataW.insert [])):=by
        refine⟨(es.map (cJ c)).toArray,clock,m2,⟨by simp[maxLen];omega,⟨λx hx=>?_,?_,?_⟩,λx hx=>?_⟩,cb,U⟩
        .simp only[List.mem_map] at hx;obtain⟨y,hy,rfl⟩:=hx;exact(b1 y hy).2
        .grind[cJ]
        .have:(es.map (cJ c)).toArray.toList.map (·.key)=ks.map (Value.int .i64):=by simp_all[cJ,Function.comp_def]
         grind
        grind
       have eR:Maps.size (H:=Unit) (.map (((es.map (cJ c)).toArray.toList.map (WideElems.rg P K qM)).foldr DataW.insert []))=es.length:=by
        rw[Maps.size_eq,(WideShapes.sorted_perm _).length_eq];simp
       have vX:(intKeys (H:=Unit) (.map (((es.map (cJ c)).toArray.toList.map (WideElems.rg P K qM)).foldr DataW.insert []))).Perm ks:=by
        refine((WideShapes.sorted_perm _).map _).trans ?_;have:(((es.map (cJ c)).toArray.toList.map (WideElems.rg P K qM)).map λp=>intOf p.1)=ks:=by
         have hpt:∀x∈es,Value.int .i64 (intOf (WideElems.rg P K qM (cJ c x)).1)=conc c x.1:=λx hx=>by
          obtain⟨n,hn,he⟩:=Kw x hx;rw[WideElems.rg_of (mZ x hx n he hn)];exact he.symm
         have h1:((((es.map (cJ c)).toArray.toList.map (WideElems.rg P K qM)).map λp=>intOf p.1).map (Value.int .i64))=ks.map (Value.int .i64):=by
          grind[List.map_congr_left]
         grind[List.map_inj_right]
        rw[this]
       have aeK:=hS g q2 (c.ρ b).1 (c.ρ id).1 es.length _ w (h.lP b (h.live b _ Zk)) ac8 agp (by rw[eR];simp[maxLen];omega) Y;have yf:([V.fn (.func g) [] [.ptr b 0]].map (conc c)).toArray = #[.func (.func g) #[] #[.pointer (some ⟨(c.ρ b).1,0,none⟩)]]:=by simp[conc,concL,Kv]
       unfold gd;rw[yf];refine aeK.mono ?_;rintro e w' ⟨rv,ss,rfl,s1,s2,s3,s4⟩;obtain⟨g1,g2⟩:=h.below s4;have hss:ss.Perm ks:=s1.trans vX;have hms:ss.mergeSort (λx y=>decide (x<=y))=oQ ks:=by
        refine Ak (((List.mergeSort_perm ss _).trans hss).trans (fB ks).symm) ?_ (bY.imp λ{a b} jS=>Y)<;>grind[List.pairwise_mergeSort]
       rw[hms] at s2;split at I
       .-- no key
        have Fg:ss=[]:=by simp_all
        grind[conc,wf]
       .obtain⟨rfl,rfl⟩:=I;have kI:ss.length=ks.length:=hss.length_eq;rcases s2.2 with⟨e1,_⟩|⟨gb,cap,cur,rfl,l1,l2,l3,l4,l5,l6⟩
        .grind
        have agq:gb<w'.heap.size:=(Array.getElem?_eq_some_iff.1 l2).1;have I_:∀i,i<c.N->(c.ρ i).1≠gb:=λi hi e=>by have:=h.lP i hi;omega
        have tJ:∀x∈d_ (oQ ks),wf c x/\storable x=true:=λx hx=>by
         obtain⟨n,_,rfl⟩:=List.mem_map.1 hx<;>grind[wf,storable]
        have Al:(d_ (oQ ks)).length=ks.length:=by simp[d_,(fB ks).length_eq]
        have aeL:cur.toList.take (d_ (oQ ks)).length=(d_ (oQ ks)).map (conc c):=by
         simp_all[d_,conc]
        have R:=g1.take agq I_ tJ l2 aeL;have AK:(c.grow gb 0 cur.size).room σ.next 0 1=cap:=by
         simp only[Ctx.room,h.next,Ctx.grow,cZ]
         simp[l5]
        refine⟨c.grow gb 0 cur.size,?_,?_,R,g2.Ks I_ l1⟩
        .simp only[conc,AK];simp[h.next,Ctx.grow,kI]
        .exact⟨by rw[h.next];simp[Ctx.grow],az _,Y⟩
   .cases I
  .cases I
 .cases I
end
end Go.Proofs.YtiojppeahfoiaaaGreat.Am
namespace Go.Proofs.YtiojppeahfoiaaaGreat.Am
open Go Proofs.Tryz
variable {ps:Array (Nat×Operand)} {ops:Array Oper} {st:Bool} {C:eP} {code:Code} {c₀:Ctx} {env:Env} {a8:Ex->List (Nat×V)->H->Prop} {fn:Func} {f:FuncId} {cl:Go.Call} {h h' σ h₁ c5:H} {κ:IntKind} {E E':List (Nat×V)} {R:List (Nat×V)->H->Prop} {d₀:List Deferred} {hs:List H} {eW es l:List Nat} {L rest:List Oper} {args cap vs cs ds:List V} {a b i c k id n d off j g pH k' q:Nat} {Hs:Nat->H} {early:Nat->Option (Nat×FV)} {Fl:Nat->Prop} {vv:Nat->V} {o':Obj} {o:Oper} {x y:Operand} {P:Program} {φ:Prop} {self:Self} {s s':St} {α:Type} {td:TypeDesc} {t t' e kt et:TypeId} {r u z:V} {AN:V->H->Prop} {w₀:World}
abbrev u6 := List (Nat×List V×List V)
noncomputable def resOf (P:Program)(s:St)(rs:List ResultVar): Option V:=match mapO (resV P s) rs with
 |some [v]=>some v
 |some vs=>some (.aR vs)
 |none=>none
noncomputable def evOpsD (C:eP)(self:Self)(L:List Oper): List Oper->St->u6->Option (St×u6)
 |[],s,d=>some (s,d)
 |o::rest,s,d=>match o.op with
  |.defer cl=>match o.guard,o.dst,cl.callee,evArgs s.env cl.args.toList with
   |none,none,.value x,some args=>match evO s.env x with
    |some (.fn (.func g) first cap)=>evOpsD C self L rest s ((g,first++args,cap)::d)
    |_=>none
   |_,_,_,_=>none
  |_=>cond (wantedV L s.env o)
   (match evOp C self s.env s.h o with
    |some (v,h)=>match s.put o.dst v h with
     |some s'=>evOpsD C self L rest s' d
     |none=>none
    |none=>none)
   (match s.put o.dst cA s.h with
    |some s'=>evOpsD C self L rest s' d
    |none=>none)
noncomputable def evTop (C:eP)(n:Nat): Nat->Code->St->u6->Option (Ex×St×u6)
 |0,_,_,_=>none
 |m+1,c,s,d=>match c with
  |.seq a b=>match evTop C n m a s d with
   |some (.normal,s',I)=>evTop C n m b s' I
   |r=>r
  |.region _ ops false=>match evOpsD C (ev C n) ops.toList ops.toList s d with
   |some (s',I)=>some (.normal,s',I)
   |none=>none
  |c=>match ev C n c s with
   |some (ex,s')=>some (ex,s',d)
   |none=>none
def quietParts : Code->Option (Nat×Nat×Code)
 |.seq (.region _ ops false) rest=>match ops.toList with
  |[I,J]=>match I.op,I.guard,I.dst,J.op,J.guard,J.dst with
   |.call cl,none,some pH,.assign (.tmp t),none,some Ig=>match cl.callee,cl.args.toList with
    |.builtin .recover,[]=>cond (Nat.beq t pH) (some (pH,Ig,rest)) none
    |_,_=>none
   |_,_,_,_,_,_=>none
  |_=>none
 |_=>none
noncomputable def defCall (C : eP) (n : Nat) (g : Nat) (args : List V) (h : H) : Option H := match C.P.funcs[g]? with
 | none => none
 | some fn => match fn.body with
  | none => none
  | some code => match quietParts code with
   | some (pH, I, rest) => cond (Nat.blt pH fn.ntmps && Nat.blt I fn.ntmps && Nat.ble args.length fn.ntmps && !(fn.name == "runtime.NumGoroutine"))
    (match ev C n rest ⟨((bindArgs args 0 .lf).set pH (some .jZ)).set I (some .jZ), fn.ntmps, h⟩ with
     | some (.normal, s) | some (.ret, s) => match resOf C.P s fn.results.toList with
      | some _ => some s.h
      | none => none
     | _ => none) none
   | none => match callF C (ev C n) g args h with
    | some (_, h') => some h'
    | none => none
noncomputable def runDefs (C:eP)(n:Nat): u6->H->Option H
 |[],h=>some h
 |(g,args,cap)::d,h=>match C.told g with
  |some _=>none
  |none=>match defCall C n g (args++cap) h with
   |some h'=>runDefs C n d h'
   |none=>none
noncomputable def toldDefer (C:eP)(n f:Nat)(args:List V)(h:H): Option (V×H):=match C.P.funcs[f]? with
 |none=>none
 |some fn=>match fn.body with
  |none=>none
  |some c=>cond (Nat.blt fn.ntmps args.length) none (match evTop C n 1000 c ⟨bindArgs args 0 .lf,fn.ntmps,h⟩ [] with
   |some (.exit _,_,_)=>none
   |some (_,s,d)=>match runDefs C n d s.h with
    |some h'=>match resOf C.P ⟨s.env,s.au,h'⟩ fn.results.toList with
     |some v=>some (v,h')
     |none=>none
    |none=>none
   |none=>none)
section
variable {c:Ctx} {w:World}
theorem Fj {a:Act}{v:V}(h:Rel c s.h w)(he:dA c s.env s.au a)(J:resOf P s fn.results.toList=some v):
  (results fn a.tmps).run P w=.ok (conc c v) w/\wf c v:=by
 unfold resOf at J;cases I:mapO (resV P s) fn.results.toList with
 |none=>grind
 |some vs =>
  obtain⟨q1,q2⟩:=nU h he I;rcases vs with _|⟨v0,_|⟨v1,vs⟩⟩<;>grind[conc,wf,fI,iR]
structure uI (c:Ctx)(d:u6)(ds:List Deferred): Prop where
 eq:ds=d.map λx=>{ target:=.fn (.func x.1) (x.2.2.map (conc c)).toArray,args:=(x.2.1.map (conc c)).toArray }
 Ju:∀x∈d,(∀v∈x.2.1,wf c v)/\∀v∈x.2.2,wf c v
theorem uI.ext {c':Ctx}{d:u6}{ds:List Deferred}(h:uI c d ds)(e:Ext c c'): uI c' d ds where
 eq:=by
  rw[h.eq];refine Dl λx I=>?_;rw[(nh e (h.Ju x I).1).1,(nh e (h.Ju x I).2).1]
 Ju:=λx I=>⟨(nh e (h.Ju x I).1).2,(nh e (h.Ju x I).2).2⟩
theorem S1 {a:Act}(he:dA c env n a): ∀(l:List Operand) (vs:List V),evArgs env l=some vs->l.map a.eval=vs.map (conc c)/\∀v∈vs,wf c v:=by
 intro l;induction l<;>grind[evArgs,Ab]
theorem S2 (hS:jx C.P self)(hT:er C){a8:Exit->Act->World->Prop}: ∀(l:List Oper) (k:Nat) (s s':St) (d d':u6) (c:Ctx) (a:Act) (w:World),
  (∀j,l[j]?=ops[k+j]?)->evOpsD C self ops.toList l s d=some (s',d')->Rel c s.h w->dA c s.env s.au a->uI c d a.defers ->
  (∀c' a' w',Rel c' s'.h w'->dA c' s'.env s'.au a'->cq c w c' w'->uI c' d' a'.defers->a8 .normal a' w') ->
  wpOpsIn (Fr none) 0 C.P ops a8 (List.range' k l.length) a w:=by
 intro l;induction l with
 |nil =>
  grind[evOpsD,wpOpsIn,cq.refl]
 |cons o l ih =>
  intro k s s' d d' c a w hl I h he hd hQ;have h0:ops[k]?=some o:=by simpa using(hl 0).symm
  have B2:∀j,l[j]?=ops[k+1+j]?:=λj=>by have:=hl (j+1);grind
  simp only[cK,wB,wpOpsIn,h0];rw[sI he];have common:(cond (wantedV ops.toList s.env o)
    (match evOp C self s.env s.h o with
     |some (v,h)=>match s.put o.dst v h with
      |some s'=>evOpsD C self ops.toList l s' d
      |none=>none
     |none=>none)
    (match s.put o.dst cA s.h with
     |some s'=>evOpsD C self ops.toList l s' d
     |none=>none))=some (s',d') ->
    (if wantedV ops.toList s.env o=true then o.wpIn (Fr none) 0 C.P a w (wpOpsIn (Fr none) 0 C.P ops a8 (List.range' (k+1) l.length)) a8 else(∀f,o.about C.P w a.eval=some f->(Fr none).fn f)/\wpOpsIn (Fr none) 0 C.P ops a8 (List.range' (k+1) l.length) (a.put o.dst undef) w):=by
   intro I;cases hw:wantedV ops.toList s.env o with
   |true =>
    rw[hw,ak] at I;cases ho:evOp C self s.env s.h o with
    |none=>grind
    |some r =>
     obtain⟨v,c5⟩:=r;simp only[ho] at I;cases hp:s.put o.dst v c5 with
     |none=>grind
     |some J =>
      simp only[hp] at I;refine(wJ hS hT h (he.F4 o) ho).wpIn (lQ ho) λc' w' r1 r2 r3=>?_;obtain⟨p1,p2,p3⟩:=St.uT (he.ext r2.ext) r3 hp;exact ih (k+1) J s' d d' c' _ w' B2 I Q p1 (by rw[put_defers];exact hd.ext r2.ext) λvI B3 xk q1 q2 q3 q4=>hQ vI B3 xk q1 q2 (r2.trans q3) q4
   |false =>
    refine⟨λ_ _=>trivial,?_⟩;cases hp:s.put o.dst cA s.h with
    |none=>grind
    |some J =>
     obtain⟨p1,p2,p3⟩:=St.uT he (show wf c cA by simp[cA,wf,gj]) hp<;>grind[vO,put_defers]
  unfold evOpsD at I;split at I
  .split at I
   .rename_i x args hg V0 ahS yf;split at I
    .rename_i g first cap hfv
     have aeM:wantedV ops.toList s.env o=true:=by simp[wantedV,hg]
     simp only[aeM,cZ];obtain⟨e1,e2⟩:=S1 he _ _ yf;obtain⟨f1,f2⟩:=Ab he hfv;have fw:(∀x∈first,wf c x)/\(∀x∈cap,wf c x):=by
      grind[wf,iR]
     have w_:(execOp a.eval o).run C.P w=.ok (.defer { target:=.fn (.func g) (cap.map (conc c)).toArray,args:=((first++args).map (conc c)).toArray }) w:=by
      simp_all[conc,fI,execOp,resolve,Deferred.ofValue]
     refine⟨λ_ _=>trivial,?_⟩;rw[show(Fr none).round=none from U,Oper.semAt_none,w_];simp only[Oper.uponIn,V0,Act.put];refine ih (k+1) s s' ((g,first++args,cap)::d) d' c _ w B2 I h ⟨he.size,he.val,he.uS⟩ ⟨by simp[hd.eq],λx hx=>?_⟩ ?_
     .rcases List.mem_cons.1 hx with rfl|hx
      .grind
      .exact hd.Ju x hx
     .omega
    .cases I
   .cases I
  .grind
theorem Wp (hm:C.P.follows .mixedOrders=true)(hT:er C): ∀(m:Nat) (code:Code) (s:St) (d:u6) (ex:Ex) (s':St) (d':u6),evTop C n m code s d=some (ex,s',d') ->
  ∀(c:Ctx) (a:Act) (w:World),Rel c s.h w->dA c s.env s.au a->uI c d a.defers ->
   code.wp C.P (λe a' w'=>e=exOf ex/\∃c',Rel c' s'.h w'/\dA c' s'.env s'.au a'/\cq c w c' w'/\uI c' d' a'.defers) a w:=by
 have hS:=(yl (C:=C) hm hT n).1;intro m;induction m with
 |zero=>grind[evTop]
 |succ m ih =>
  intro code s d ex s' d' J c a w h he hd;have rest:(match ev C n code s with
    |some (ex,s')=>some (ex,s',d)
    |none=>none)=some (ex,s',d')->code.wp C.P (λe a' w'=>e=exOf ex/\∃c',Rel c' s'.h w'/\dA c' s'.env s'.au a'/\cq c w c' w'/\uI c' d' a'.defers) a w:=by
   intro J;cases qI:ev C n code s with
   |none=>grind
   |some r =>
    rw[qI] at J;obtain⟨rfl,rfl,rfl⟩:=J;refine Code.wp_mono ?_ (hS _ _ _ _ qI c a w h he);rintro e a' w' ⟨rfl,q2,c',q3,q4,q5⟩;exact⟨U,c',q3,q4,q5,by rw[q2];exact hd.ext q5.ext⟩
  unfold evTop at J;split at J
  .rename_i x y;cases hx:evTop C n m x s d with
   |none=>grind
   |some r =>
    obtain⟨Jm,I,pH⟩:=r;rw[hx] at J;refine wp_seq (Code.wp_mono ?_ (ih x s d Jm I pH hx c a w h he hd));rintro e En uW ⟨rfl,c₁,q3,q4,q5,q6⟩;cases Jm with
    |normal =>
     refine Code.wp_mono ?_ (ih y I pH ex s' d' J c₁ En uW q3 q4 q6);rintro e Kf acR ⟨rfl,c₂,p3,p4,p5,p6⟩;exact⟨U,c₂,p3,p4,q5.trans p5,p6⟩
    |exit i =>
     obtain⟨rfl,rfl,rfl⟩:=J;exact⟨U,c₁,q3,q4,q5,q6⟩
    |ret =>
     obtain⟨rfl,rfl,rfl⟩:=J;exact⟨U,c₁,q3,q4,q5,q6⟩
  .rename_i id ops;cases hx:evOpsD C (ev C n) ops.toList ops.toList s d with
   |none=>grind
   |some r =>
    obtain⟨I,pH⟩:=r;rw[hx] at J;simp only[aC,bO] at J;obtain⟨rfl,rfl,rfl⟩:=J;refine wpIn_wide.1 (show(Code.region id ops false).wpIn (Fr none) 0 C.P _ a w from wpIn_region ?_);rw[HO,<-Dm];exact S2 (uY (C:=C) hm hT n).1 hT ops.toList 0 s I d pH c a w (λj=>cb) hx h he hd λc' a' w' r1 r2 r3 r4=>⟨U,c',r1,r2,r3,r4⟩
  .grind
theorem Wq (hm : C.P.follows .mixedOrders = true) (hT : er C) {v : V} (hg : C.told g = none) (I : callF C (ev C n) g args σ = some (v, c5)) (h : Rel c σ w) (hw : ∀ x ∈ args, wf c x) :
  CallsD C.P g (args.map (conc c)).toArray .returning w (fun e u' w' => u' = .returning ∧ (∃ x, e = .returned x) ∧ ∃ c', Rel c' c5 w' ∧ cq c w c' w') ∧ ∀ (x : Array Value) (w : World), (callFunc g x).run C.P w = .ok (.enter g x) w := by
 have hS := (yl (C := C) hm hT n).1
 have hen := (callF_ok hS hT I h hw).2
 unfold callF at I
 rw [hg] at I
 cases hf : C.P.funcs[g]? with
 | none => grind
 | some fn =>
  simp only [hf] at I
  cases hb : fn.body with
  | none => grind
  | some code =>
   simp only [hb] at I
   cases hq : (fn.name == "runtime.NumGoroutine" || Nat.blt fn.ntmps args.length) with
   | true => grind
   | false =>
    have hle : args.length ≤ fn.ntmps := by
     grind [jd]
    have J := jm (c := c) hle hw
    have done : ∀ ex s, ev C n code ⟨bindArgs args 0 .lf, fn.ntmps, σ⟩ = some (ex, s) → (ex = .normal ∨ ex = .ret) →
      (match mapO (resV C.P s) fn.results.toList with
       | some [v] => some (v, s.h)
       | some vs => some (.aR vs, s.h)
       | none => none) = some (v, c5) →
      CallsD C.P g (args.map (conc c)).toArray .returning w (fun e u' w' => u' = .returning ∧ (∃ x, e = .returned x) ∧ ∃ c', Rel c' c5 w' ∧ cq c w c' w') := by
     intro ex s hs hex hmr
     have K3 := hS code _ ex s hs c _ w h J
     have sN : resOf C.P s fn.results.toList = some v ∧ s.h = c5 := by
      grind [resOf]
     have xo := callsD_of_wp (u := .returning) (R := fun e w' => (∃ x, e = .returned x) ∧ ∃ c', Rel c' c5 w' ∧ cq c w c' w') hf hb (Code.wp_mono (Q' := bodyPost C.P fn fun e w' => (∃ x, e = .returned x) ∧ ∃ c', Rel c' c5 w' ∧ cq c w c' w') ?_ K3)
     ·omega
     ·rintro e a' w' ⟨rfl, hd, c', r1, r2, r3⟩
      have Kr : a'.defers = [] ∧ ∃ x, (results fn a'.tmps).run C.P w' = .ok x w' ∧ (∃ y, Ending.returned x = .returned y) ∧ ∃ c', Rel c' c5 w' ∧ cq c w c' w' :=
       ⟨hd, _, (Fj r1 r2 sN.1).1, ⟨_, rfl⟩, c', by grind, r3⟩
      grind [bodyPost, exOf]
    split at I
    ·grind
    ·grind
    ·grind
theorem Kj {ρ:Operand->Value}(ho:o.op=.call cl)(I:cl.callee=.builtin .recover)(J:cl.args.toList=[])(w:World): (execOp ρ o).run P w=.ok .recover w:=by
 simp_all[execOp,resolve,invoke,builtin]
theorem S3 (hm:C.P.follows .mixedOrders=true)(hT:er C){Ig:Nat}{rest:Code}{ex:Ex}{I:St}{v:V}(hf:C.P.funcs[g]?=some fn)(hb:fn.body=some code)
 (J:quietParts code=some (pH,Ig,rest))(h1:pH<fn.ntmps)(h2:Ig<fn.ntmps)(hle:args.length<=fn.ntmps)
 (Qy:ev C n rest ⟨((bindArgs args 0 .lf).set pH (some .jZ)).set Ig (some .jZ),fn.ntmps,σ⟩=some (ex,I))(hex:ex=.normal\/ex=.ret)(sN:resOf C.P I fn.results.toList=some v)
 (h:Rel c σ w)(hw:∀x∈args,wf c x):
  CallsD C.P g (args.map (conc c)).toArray .returning w (λe u' w'=>u'=.returning/\(∃x,e=.returned x)/\∃c',Rel c' I.h w'/\cq c w c' w'):=by
 have hS:=(yl (C:=C) hm hT n).1;unfold quietParts at J;split at J
 .rename_i id ops aeN;split at J
  .rename_i HY Fc aiD;split at J
   .rename_i cl ah1 t ah2 q6 q2 q4 q9 q3 q5;split at J
    .rename_i q7 q8;cases ht:Nat.beq t ah1 with
     |false=>grind
     |true =>
      rw[ht,ak] at J;simp only[aC,bO] at J;obtain⟨rfl,rfl,rfl⟩:=J;have:=beq_iff.1 ht;subst this;have aeO:ops = #[HY,Fc]:=Q;subst aeO;refine callsD_of_wpS hf hb λc₀ cs hu=>(wpS_seq ?_);have acE:=jm (c:=c) hle hw;generalize hA:({ tmps:=(args.map (conc c)).toArray++Array.replicate (fn.ntmps-(args.map (conc c)).toArray.size) undef,defers:=[] }:Act)=A at acE ⊢;have hAd:A.defers=[]:=Q;have xh:=(acE.put (d:=t) (v:=.jZ) h1 (by simp[wf])).put (d:=ah2) (v:=.jZ) h2 (by simp[wf]);have w_:=hS _ _ _ _ Qy c _ w h xh;rw[show conc c .jZ=.nilIface from by rfl] at w_;have Ws:recoverD (c₀::cs)=none:=by simp[recoverD,hu]
      have h5:(A.put (some t) .nilIface).eval (.tmp t)=.nilIface:=by
       have:=(acE.put (d:=t) (v:=.jZ) h1 (by simp[wf])).val t;grind[conc,Act.eval,Env.v,aY]
      refine wpS_region ?_;rw[show List.range (#[HY,Fc]:Array Oper).size=[0,1] from U];simp only[wpOpsS,oA,oz,rI,Region.wanted,q2,q3,cZ];rw[Kj q6 q7 q8];simp only[Ws,q4];have agr:(execOp (A.put (some t) .nilIface).eval Fc).run C.P w=.ok (.value .nilIface) w:=by simp[execOp,q9,h5]
      rw[agr];simp only[Oper.upon,q5,Exit.thenS];refine wpS_of_wp (Code.wp_mono ?_ w_);rintro e a' w' ⟨rfl,dd,c',r1,e2,p1⟩;have Kr:a'.defers=[]/\∃u',c₀::cs={ c₀ with mode:=u' }::cs/\∃v,(results fn a'.tmps).run C.P w'=.ok v w'/\(u'=.returning/\(∃x,Ending.returned v=.returned x)/\∃c',Rel c' I.h w'/\cq c w c' w') :=
       ⟨dd.trans hAd,.returning,by rw[<-hu],_,(Fj r1 e2 sN).1,U,⟨_,U⟩,c',r1,p1⟩
      rcases hex with rfl|rfl
      .exact Kr
      .exact Kr
    .cases J
   .cases J
  .cases J
 .cases J
theorem Qz (hm : C.P.follows .mixedOrders = true) (hT : er C) (hg : C.told g = none) (I : defCall C n g args σ = some c5) (h : Rel c σ w) (hw : ∀ x ∈ args, wf c x) :
  CallsD C.P g (args.map (conc c)).toArray .returning w (fun e u' w' => u' = .returning ∧ (∃ x, e = .returned x) ∧ ∃ c', Rel c' c5 w' ∧ cq c w c' w') ∧ ∀ (x : Array Value) (w : World), (callFunc g x).run C.P w = .ok (.enter g x) w := by
 unfold defCall at I
 cases hf : C.P.funcs[g]? with
 | none => grind
 | some fn =>
  simp only [hf] at I
  cases hb : fn.body with
  | none => grind
  | some code =>
   simp only [hb] at I
   split at I
   ·rename_i pH J rest hq
    cases hc : (Nat.blt pH fn.ntmps && Nat.blt J fn.ntmps && Nat.ble args.length fn.ntmps && !(fn.name == "runtime.NumGoroutine")) with
    | false => grind
    | true =>
     rw [hc, ak] at I
     simp only [b9, jd, aN, Bool.not_eq_true'] at hc
     refine ⟨?_, fun x w => by simp_all [callFunc]⟩ <;> grind [S3]
   grind [Wq]
theorem S4 (hm:C.P.follows .mixedOrders=true)(hT:er C){v:V}(sN:resOf C.P ⟨s.env,s.au,h'⟩ fn.results.toList=some v):
  ∀(d:u6) (h:H) (c:Ctx) (a:Act) (ds:List Deferred) (w:World),runDefs C n d h=some h'->Rel c h w->dA c s.env s.au a->uI c d ds->cq c₀ w₀ c w ->
   Leaves C.P fn a.tmps (λe w'=>∃c',e=.returned (conc c' v)/\wf c' v/\Rel c' h' w'/\cq c₀ w₀ c' w') ds .returning w:=by
 intro d;induction d with
 |nil =>
  intro h c a ds w J I he hd hs;simp only[runDefs,aC] at J;subst J;have:ds=[]:=by rw[hd.eq];rfl
  subst this;obtain⟨q1,q2⟩:=Fj (s:=⟨s.env,s.au,h⟩) I he sN;exact⟨_,q1,c,U,q2,I,hs⟩
 |cons x d ih =>
  intro h c a ds w J I he hd hs;obtain⟨g,args,cap⟩:=x;simp only[runDefs] at J;cases ht:C.told g with
  |some t=>grind
  |none =>
   rw[ht] at J;cases hc:defCall C n g (args++cap) h with
   |none=>grind
   |some h₁ =>
    rw[hc] at J;have nj:=hd.Ju (g,args,cap) cb;obtain⟨k1,k2⟩:=Qz hm hT ht hc I (λx hx=>by
     grind)
    have hds:ds={ target:=.fn (.func g) (cap.map (conc c)).toArray,args:=(args.map (conc c)).toArray }::d.map λx=>{ target:=.fn (.func x.1) (x.2.2.map (conc c)).toArray,args:=(x.2.1.map (conc c)).toArray }:=by rw[hd.eq];rfl
    rw[hds];refine leaves_cons (f:=g) (args:=((args++cap).map (conc c)).toArray) cb ?_ ?_
    .grind[invoke]
    .refine k1.mono ?_;rintro e u' uW ⟨rfl,⟨y,rfl⟩,c₁,r1,r2⟩;have hd':uI c d (d.map λx=>{ target:=.fn (.func x.1) (x.2.2.map (conc c)).toArray,args:=(x.2.1.map (conc c)).toArray }):=⟨U,λz hz=>hd.Ju z Q⟩;exact ih h₁ c₁ a _ uW J r1 (he.ext r2.ext) (hd'.ext r2.ext) (hs.trans r2)
theorem Ca (hm:C.P.follows .mixedOrders=true)(hT:er C){f:Nat}{v:V}(J:toldDefer C n f args σ=some (v,c5))(h:Rel c σ w)(hw:∀x∈args,wf c x):
  gd C.P f args c w v c5:=by
 unfold toldDefer at J;cases hf:C.P.funcs[f]? with
 |none=>grind
 |some fn =>
  simp only[hf] at J;cases hb:fn.body with
  |none=>grind
  |some code =>
   simp only[hb] at J;cases hq:Nat.blt fn.ntmps args.length with
   |true=>grind
   |false =>
    rw[hq,bq] at J;have hle:args.length<=fn.ntmps:=by
     grind[jd]
    have vB:=jm (c:=c) hle hw;refine calls_of_wp_defers hf hb ?_;have done:∀ex s d,evTop C n 1000 code ⟨bindArgs args 0 .lf,fn.ntmps,σ⟩ []=some (ex,s,d)->(ex=.normal\/ex=.ret) ->
      (match runDefs C n d s.h with
       |some h'=>match resOf C.P ⟨s.env,s.au,h'⟩ fn.results.toList with
        |some v=>some (v,h')
        |none=>none
       |none=>none)=some (v,c5) ->
      code.wp C.P (bodyPostD C.P fn λe w'=>∃c',e=.returned (conc c' v)/\wf c' v/\Rel c' c5 w'/\cq c w c' w')
       { tmps:=(args.map (conc c)).toArray++Array.replicate (fn.ntmps-(args.map (conc c)).toArray.size) undef,defers:=[] } w:=by
     refine λex s d hs hex I=>Code.wp_mono ?_ (Wp hm hT 1000 code _ [] ex s d hs c _ w h vB ⟨U,λx hx=>by cases hx⟩);cases mZ:runDefs C n d s.h with
     |none=>grind
     |some h' =>
      rw[mZ] at I;simp only at I;cases hro:resOf C.P ⟨s.env,s.au,h'⟩ fn.results.toList with
      |none=>grind
      |some v' =>
       rw[hro] at I;obtain⟨rfl,rfl⟩:=I<;>grind[S4,bodyPostD,exOf]
    split at J
    .cases J
    .rename_i ex s d nL hs;cases ex<;>grind
    .cases J
end

/- Heaps compared. -/
def noIter : Option Obj->Option Obj
 |some (.iter _ _ _ _)=>none
 |v=>v
def flatM {α β:Type}(f:α->Option (List β)): List α->Option (List β)
 |[]=>some []
 |x::l=>match f x with
  |none=>none
  |some a=>match flatM f l with
   |none=>none
   |some b=>some (a++b)
theorem S5 {β:Type}{f:α->Option (List β)}: ∀(l:List α) (R:List β),flatM f l=some R->∀x∈l,∃r,f x=some r/\∀y∈r,y∈R:=by
 intro l;induction l<;>grind[flatM]
section
variable (C:eP) (self:Self)
noncomputable def opAll (env:Env)(h:H)(o:Oper): Option (List (V×H)):=match o.op with
 |.next it false=>match evO env it with
  |some (.ptr r off)=>cond (Nat.beq off 0) (nextAll h r) none
  |_=>none
 |_=>match evOp C self env h o with
  |some q=>some [q]
  |none=>none
noncomputable def opsAll (ops:List Oper): List Oper->St->Option (List St)
 |[],s=>some [s]
 |o::l,s=>cond (wantedV ops s.env o)
  (match opAll C self s.env s.h o with
   |some I=>flatM (λq=>match s.put o.dst q.1 q.2 with
    |some s'=>opsAll ops l s'
    |none=>none) I
   |none=>none)
  (match s.put o.dst cA s.h with
   |some s'=>opsAll ops l s'
   |none=>none)
end
section
theorem Wt (hS:jx C.P self)(hT:er C){c:Ctx}{w:World}{a:Act}{qs:List (V×H)}(h:Rel c σ w)(he:DF c env a o)(I:opAll C self env σ o=some qs):
  (∃q∈qs,AM C.P o a c w q.1 q.2)/\∀d,o.op≠.defer d:=by
 unfold opAll at I;split at I
 .rename_i it ho;refine⟨?_,λd hd=>Q⟩;split at I
  .rename_i r off hx;cases hq:Nat.beq off 0 with
   |false=>grind
   |true =>
    have:=beq_iff.1 hq;subst this;obtain⟨f1,f2⟩:=he it (by simp[ho,Op.operands]) _ hx;obtain⟨q,J,hg⟩:=Ew (P:=C.P) h I o.type;exact⟨q,J,fT (s:=Instr.next (conc c (.ptr r 0)) false o.type) (by simp only[execOp,ho,f1]) hg⟩
  .cases I
 .cases qI:evOp C self env σ o<;>grind[wJ,lQ]
theorem S6 (hS:jx C.P self)(hT:er C){a8:Exit->Act->World->Prop}: ∀(l:List Oper) (k:Nat) (s:St) (L:List St) (c:Ctx) (a:Act) (w:World),
  (∀j,l[j]?=ops[k+j]?)->opsAll C self ops.toList l s=some L->Rel c s.h w->dA c s.env s.au a ->
  (∀s'∈L,∀c' a' w',Rel c' s'.h w'->dA c' s'.env s'.au a'->cq c w c' w'->a'.defers=a.defers->a8 .normal a' w') ->
  wpOpsIn (Fr none) 0 C.P ops a8 (List.range' k l.length) a w:=by
 intro l;induction l with
 |nil =>
  grind[opsAll,wpOpsIn,cq.refl]
 |cons o l ih =>
  intro k s L c a w hl J h he hQ;have h0:ops[k]?=some o:=by simpa using(hl 0).symm
  have B2:∀j,l[j]?=ops[k+1+j]?:=λj=>by have:=hl (j+1);grind
  simp only[cK,wB,wpOpsIn,h0];rw[sI he];simp only[opsAll] at J;cases hw:wantedV ops.toList s.env o with
  |true =>
   rw[hw,ak] at J;cases ho:opAll C self s.env s.h o with
   |none=>grind
   |some qs =>
    simp only[ho] at J;obtain⟨⟨q,hq,SW⟩,mh⟩:=Wt hS hT h (he.F4 o) ho;obtain⟨r,Lh,S7⟩:=S5 qs L J q hq;refine SW.wpIn mh λc' w' r1 r2 r3=>?_;cases hp:s.put o.dst q.1 q.2 with
    |none=>grind
    |some I =>
     simp only[hp] at Lh;obtain⟨p1,p2,p3⟩:=St.uT (he.ext r2.ext) r3 hp;refine ih (k+1) I r c' _ w' B2 Lh Q p1 λs' Gi vI B3 xk q1 q2 q3 q4=>?_;exact hQ s' (S7 s' Gi) vI B3 xk q1 q2 (r2.trans q3) (by rw[q4];cases o.dst<;>rfl)
  |false =>
   rw[hw,bq] at J;refine⟨λ_ _=>trivial,?_⟩;cases hp:s.put o.dst cA s.h with
   |none=>grind
   |some I =>
    simp only[hp] at J;obtain⟨p1,p2,p3⟩:=St.uT he (show wf c cA by simp[cA,wf,gj]) hp;refine ih (k+1) I L c _ w B2 J Q p1 λs' Gi vI B3 xk q1 q2 q3 q4=>?_;exact hQ s' Gi vI B3 xk q1 q2 q3 (by rw[q4];cases o.dst<;>rfl)
end
theorem Rel.Zl {c:Ctx}{w:World}(h:Rel c σ w)(I:c5.next=σ.next)(hs:∀id o,T.get c5.tr id=some o->T.get σ.tr id=some o): Rel c c5 w :=
 ⟨I.trans h.next,λid o ho=>h.live id o (hs id o ho),h.lP,h.zz,λi j o o' hi J he=>h.inj i j o o' (hs i o hi) (hs j o' J) he,
  λid o ho=>h.obj id o (hs id o ho),λid cs st ho=>h.one id cs st (hs id _ ho),λid o ho=>h.fx id o (hs id o ho)⟩
def lB (h:H): Prop:=∀id o,T.get h.tr id=some o->id<h.next
theorem lB.new (hw:lB h)(o:Obj): lB (h.new o):=by
 intro id q I;rw[fu] at I;show id<h.next+1
 split at I
 .omega
 .exact Nat.lt_succ_of_lt (hw id q I)
theorem lB.put (hw:lB h)(J:id<h.next)(o:Option Obj): lB (h.put id o):=by
 intro j q I;rw[cX] at I;show j<h.next
 split at I
 .omega
 .exact hw j q I
structure ew (k:Nat)(S:List Nat)(h h':H): Prop where
 wf:lB h'
 le:h.next<=h'.next
 bd:h'.next<=h.next+k
 get:∀id,id<h.next->id∉S->T.get h'.tr id=T.get h.tr id
theorem ew.refl (hw:lB h)(S:List Nat): ew 0 S h h:=⟨hw,az _,az _,λ_ _ _=>U⟩
theorem ew.trans {S S':List Nat}{I:H}(a:ew k S h h')(b:ew k' S' h' I)(hs:∀i∈S',i∈S\/h.next<=i): ew (k+k') S h I:=by
 refine⟨b.wf,b7 a.le b.le,by have:=a.bd;have:=b.bd;omega,λid J hn=>?_⟩;rw[b.get id (gW J a.le) (λhm=>?_),a.get id J hn];rcases hs id hm with h1|h1
 .grind
 .omega
theorem ew.mono {S S':List Nat}(a:ew k S h h')(J:k<=k')(hs:∀i∈S,i∈S'): ew k' S' h h' :=
 ⟨a.wf,a.le,b7 a.bd (wq J _),λid I hn=>a.get id I (λhm=>hn (hs id hm))⟩
theorem ew.row {S:List Nat}(a:ew k S h h')(hw:lB h){o:Obj}(I:T.get h.tr id=some o)(J:id∉S): T.get h'.tr id=some o:=by
 rw[a.get id (hw id o I) J];exact I
theorem ew.DJ (hw:lB h)(o:Obj): ew 1 [] h (h.new o) :=
 ⟨hw.new o,z7 _,az _,λid I _=>by grind[fu]⟩
theorem ew.Kx (hw:lB h)(I:id<h.next)(o:Option Obj): ew 0 [id] h (h.put id o) :=
 ⟨hw.put I o,az _,az _,λj _ J=>by grind[cX]⟩
theorem gn (l:List Nat): (ofBytes l).length=l.length:=by simp[ofBytes]
theorem yQ (l m:List Nat): ofBytes (l++m)=ofBytes l++ofBytes m:=by simp[ofBytes]
def View (h:H)(v:V)(l:List Nat): Prop:=(∀b∈l,b<256)/\(((v=.aP\/∃a,v=.sle a)/\l=[]) \/
 ∃id off cap n cs st,v=.sl id off l.length cap/\T.get h.tr id=some (.cells n cs st)/\cs.length=n/\off+l.length<=n/\(cs.drop off).take l.length=ofBytes l /\
  (match cap with|.exact c=>l.length<=c|.rest e _=>e=1))
def j3 (h:H)(v:V)(l:List Nat): Prop:=(∀b∈l,b<256)/\((v=.aP/\l=[]) \/
 (∃id cs c,v=.sl id 0 l.length (.exact c)/\T.get h.tr id=some (.cells c (ofBytes l++cs) false)/\l.length+cs.length=c) \/
 (∃id,v=.sl id 0 l.length (.rest 1 0)/\T.get h.tr id=some (.cells l.length (ofBytes l) false)/\1<=l.length))
def rowIds : V->List Nat
 |.sl id _ _ _=>[id]
 |_=>[]
theorem j3.view {v:V}(I:j3 h v l): View h v l:=by
 obtain⟨J,I⟩:=I;refine⟨J,?_⟩<;>grind[gn]
theorem View.iF {S:List Nat}{v:V}(I:View h v l)(hw:lB h)(J:ew k S h h')(hn:∀i∈rowIds v,i∉S): View h' v l:=by
 obtain⟨hl,I⟩:=I;refine⟨hl,?_⟩;rcases I with I|⟨id,off,cap,n,cs,st,rfl,hg,h1,h2,h3,h4⟩
 .grind
 .exact .inr ⟨id,off,cap,n,cs,st,U,J.row hw hg (hn id (by simp[rowIds])),h1,h2,h3,h4⟩
theorem j3.iF {S:List Nat}{v:V}(I:j3 h v l)(hw:lB h)(hk:ew k S h h')(hn:∀i∈rowIds v,i∉S): j3 h' v l:=by
 obtain⟨hl,I⟩:=I;refine⟨hl,?_⟩;rcases I with I|⟨id,cs,c,rfl,J,hc⟩|⟨id,rfl,J,h1⟩
 .grind
 .exact .inr (.inl ⟨id,cs,c,U,hk.row hw J (hn id (by simp[rowIds])),hc⟩)
 .exact .inr (.inr ⟨id,U,hk.row hw J (hn id (by simp[rowIds])),h1⟩)
theorem View.len {v:V}(I:View h v l): lenV prog h 23 v=some (.int .i64 l.length):=by
 obtain⟨_,I⟩:=I;rcases I with⟨rfl|⟨J,rfl⟩,rfl⟩|⟨id,off,cap,n,cs,st,rfl,_⟩<;>simp[lenV,aZ]
theorem View.rdN {len:Nat}{cap:Cap}(I:View h (.sl id off len cap) l): len=l.length/\rdN h id off len=some (ofBytes l):=by
 obtain⟨_,I⟩:=I<;>grind[Am.rdN,aN,beq_iff]
theorem Ih : ∃i,prog.info? 5=some i/\i.size=1/\i.bytes=1:=by
 refine⟨_,(show prog.info? 5=some ((prog.info? 5).getD default) by kernel_rfl),bo,bo⟩
theorem xp : zeroT prog 5=some (.int .u8 0):=bo
theorem QA {x:V}{m:List Nat}(J:View h x m): srcV h 1 x=some (ofBytes m,m.length):=by
 obtain⟨hl,I⟩:=J;rcases I with⟨rfl|⟨ea,rfl⟩,rfl⟩|⟨id,off,cap,n,cs,st,rfl,hg,h1,h2,h3,h4⟩
 .rfl
 .rfl
 .simp only[srcV,gF];rw[(View.rdN (l:=m) ⟨hl,.inr ⟨id,off,cap,n,cs,st,U,hg,h1,h2,h3,h4⟩⟩).2];rfl
theorem QB {s x:V}{m:List Nat}(hw:lB h)(hs:j3 h s l)(O0:∀b∈m,b<256)(oO:srcV h 1 x=some (ofBytes m,m.length))(eR:l.length+m.length<=140737488355328):
  ∃v' h',appendV prog h #[23,23] s x=some (v',h')/\j3 h' v' (l++m)/\ew 1 (rowIds s) h h'/\(∀i∈rowIds v',i∈rowIds s\/h.next<=i):=by
 obtain⟨i,hi,i1,i2⟩:=Ih;have J:∀b∈l++m,b<256:=λb hb=>by
  rcases List.mem_append.1 hb with hb|hb
  .exact hs.1 b hb
  .exact O0 b hb
 have Li:kH (l.length+m.length) 1=true:=qh.2 ⟨eR,Y⟩;unfold appendV;simp only[aZ,hi,xp,i1,i2,V.cells,cK,eN,oO];rw[show(Nat.ble 1 1&&Nat.ble 1 4096&&Nat.beq (0+1) 1)=true from U,ak];cases hm:Nat.beq m.length 0 with
 |true =>
  have uV:m=[]:=tS (beq_iff.1 hm);subst uV;rw[ak,fZ];have I:=hs;obtain⟨_,I⟩:=I;rcases I with⟨rfl,rfl⟩|⟨id,cs,c,rfl,hg,hc⟩|⟨id,rfl,hg,h1⟩
  .exact⟨_,_,U,hs,(ew.refl hw _).mono (dz _) (λ_ h=>h),λi hi=>.inl hi⟩
  .exact⟨_,_,U,hs,(ew.refl hw _).mono (dz _) (λ_ h=>h),λi hi=>.inl hi⟩
  .exact⟨_,_,U,hs,(ew.refl hw _).mono (dz _) (λ_ h=>h),λi hi=>.inl hi⟩
 |false =>
  have uV:1<=m.length:=by
   rcases wz m.length with h0|h0
   .rw[vA h0] at hm;cases hm
   .exact h0
  rw[bq];have xb:∀(σ:H) (old:List Nat),lB σ->1<=(old++m).length->(∀b∈old++m,b<256)->j3 (nR σ 1 (ofBytes old) (ofBytes m) (old.length+m.length)).2 (nR σ 1 (ofBytes old) (ofBytes m) (old.length+m.length)).1 (old++m):=by
   intro σ old _ h1 h2;refine⟨h2,.inr (.inr ⟨σ.next,?_,?_,h1⟩)⟩
   .simp only[nR,fL]
   .simp only[nR];rw[fu,bk U,gF,fL,yQ]
  have I:=hs;obtain⟨_,I⟩:=I;rcases I with⟨rfl,rfl⟩|⟨id,cs,c,rfl,hg,hc⟩|⟨id,rfl,hg,h1⟩
  .simp only;have ags:kH m.length 1=true:=by simpa using Li
   rw[ags,ak];have:=xb h [] hw (by simpa using uV) (by simpa using O0);simp only[eN,f_,iQ] at this;exact⟨_,_,U,by rw[iQ];exact this,(ew.DJ hw _).mono (az _) (λi hi=>by simp at hi),λi hi=>.inr (by simp[rowIds] at hi;omega)⟩
  .simp only[gF,f_];have hv:=j3.view hs;cases hq:Nat.ble (l.length+m.length) c with
   |true =>
    have BS:=aN.1 hq;rw[ak];unfold wrN;simp only[hg,gn];rw[hq,ak];simp only;have vC:(cond (Nat.beq l.length 0&&Nat.beq m.length c) (ofBytes m) ((ofBytes l++cs).take l.length++(ofBytes m++(ofBytes l++cs).drop (l.length+m.length))))=ofBytes (l++m)++cs.drop m.length:=by
     have e1:(ofBytes l++cs).take l.length=ofBytes l:=rM (gn l);have e2:(ofBytes l++cs).drop (l.length+m.length)=cs.drop m.length:=by
      rw[Dt,gn,show l.length+m.length-l.length=m.length from by omega,mA (by rw[gn];omega),iQ]
     cases hz:(Nat.beq l.length 0&&Nat.beq m.length c) with
     |true =>
      simp only[b9,beq_iff] at hz;have ED:l=[]:=tS hz.1;subst ED;have tJ:cs.drop m.length=[]:=mA (by simp at hc;omega);simp[tJ]
     |false=>rw[bq,e1,e2,yQ,gX]
    rw[vC];refine⟨_,_,U,⟨J,.inr (.inl ⟨id,cs.drop m.length,c,cb,?_,by simp;omega⟩)⟩,(ew.Kx hw (hw id _ hg) _).mono (dz _) (λi hi=>by simpa[rowIds] using hi),λi hi=>.inl (by simpa[rowIds] using hi)⟩;rw[cX,bk U]
   |false =>
    rw[bq,Li,ak,hv.rdN.2];simp only;exact⟨_,_,U,xb h l hw (by simp;omega) J,(ew.DJ hw _).mono (az _) (λi hi=>by simp at hi),λi hi=>.inr (by simp[rowIds] at hi;omega)⟩
  .simp only[fM,ak,gF,f_];have hv:=j3.view hs;have Fe:lN h id 0 1=l.length:=by simp[lN,hg]
   have hf:Nat.ble (l.length+m.length) l.length=false:=by
    cases hq:Nat.ble (l.length+m.length) l.length with
    |true=>have:=aN.1 hq;omega
    |false=>rfl
   rw[Fe,hf,bq,Li,show Nat.ble 2 (l.length+m.length)=true from aN.2 Y,oE,ak,hv.rdN.2,hg];simp only;have xq:lB (h.put id none):=hw.put (hw id _ hg) _;refine⟨_,_,U,xb (h.put id none) l xq (by simp;omega) J,?_,λi hi=>.inr (by simp[rowIds,H.put] at hi;omega)⟩;refine((ew.Kx hw (hw id _ hg) none).trans (S':=[]) (ew.DJ xq _) (λi hi=>by simp at hi)).mono (az _) (λi hi=>by simpa[rowIds] using hi)
theorem Cb {s x:V}{m:List Nat}(hw:lB h)(hs:j3 h s l)(J:View h x m)(I:l.length+m.length<=140737488355328):
  ∃v' h',appendV prog h #[23,23] s x=some (v',h')/\j3 h' v' (l++m)/\ew 1 (rowIds s) h h'/\(∀i∈rowIds v',i∈rowIds s\/h.next<=i):=QB hw hs J.1 (QA J) I
section
variable {a b:Operand} {v:V}
theorem aD (I:bp E x=some v): opE P E h (.move x)=some (v,h):=by simp only[opE,kq,I]
theorem eZ (I:bp E x=some v): opE P E h (.assign x)=some (v,h):=by simp only[opE,kq,I]
theorem gZ (I:bp E x=some (.bool true))(J:bp E a=some v): opE P E h (.pick x a b)=some (v,h):=by grind[opE,kq]
theorem lI (I:bp E x=some (.bool false))(J:bp E b=some v): opE P E h (.pick x a b)=some (v,h):=by grind[opE,kq]
theorem jq {o:Nat}(I:bp E x=some (.ptr i o)): opE P E h (.nilCheck x)=some (.ptr i o,h):=by simp only[opE,kq,I]
theorem gy {t:Nat}(I:bp E x=some v)(J:fieldAddrV P t v i=some r): opE P E h (.fieldAddr t x i)=some (r,h):=by grind[opE,kq,bE]
theorem o_load (I:bp E x=some v)(J:loadV P h t v=some r): opE P E h (.load t x)=some (r,h):=by grind[opE,kq,bE]
theorem wO (I:bp E x=some v)(J:bp E y=some u)(hf:ga P h t v u=some h₁): opE P E h (.store t x y)=some (cA,h₁):=by grind[opE,ym,xV]
theorem ag {op:BinOp}(I:bp E x=some v)(J:bp E y=some u)(hf:binV P h op t x y v u=some r): opE P E h (.binOp op t x y t')=some (r,h):=by grind[opE,ym,bE]
theorem cI {op:UnOp}(I:bp E x=some v)(J:unV op v=some r): opE P E h (.unOp op t x)=some (r,h):=by grind[opE,kq,bE]
theorem bQ {s d:TypeId}(I:bp E x=some v)(J:convV P h s d v=some (r,h₁)): opE P E h (.convert s d x)=some (r,h₁):=by simp only[opE,kq,I,J]
theorem aJ (r)(I:bp E x=some v)(J:bp E y=some u)(hf:indexAddrV P t v u=some r): opE P E h (.indexAddr t x y)=some (r,h):=by grind[opE,ym,bE]
theorem Cc (I:bp E x=some v)(J:bp E y=some u)(hf:indexV P t v u=some r): opE P E h (.index t x y)=some (r,h):=by grind[opE,ym,bE]
theorem c_ {l:List V}(I:bp E x=some (.aR l))(J:nth l i=some r): opE P E h (.extract x i)=some (r,h):=by grind[opE,kq,bE]
theorem cE {l:List (Nat×V)}(I:lookParts E ps.toList=some l)(J:buildV P t l=some r): opE P E h (.build t ps)=some (r,h):=by simp only[opE,I,J,bE]
theorem c7 (I:bp E x=some v)(hs:v.cells.all storable=true): opE P E h (.box t x)=some (.ptr h.next 0,newRow h v.cells):=by grind[opE,kq]
theorem bK (I:zeroT P t=some v): opE P E h (.alloc t)=some (.ptr h.next 0,newRow h v.cells):=by simp only[opE,I]
theorem uJ (I:bp E x=some v)(J:makeIfaceV P t v=some r): opE P E h (.makeInterface t x)=some (r,h):=by grind[opE,kq,bE]
theorem uK {f:Fn}{p q:Array Operand}{l m:List V}(I:lookArgs E p.toList=some l)(J:lookArgs E q.toList=some m): opE P E h (.makeFunc f p q)=some (.fn f l m,h):=by simp only[opE,I,J]
theorem aO {c:Go.Call}(I:c.callee=.builtin .len)(J:lookArgs E c.args.toList=some [v])(ht:c.argTypes.toList=[t])(hf:lenV P h t v=some r): opE P E h (.call c)=some (r,h):=by
 grind[opE,builtinV]
theorem fN {c:Go.Call}(I:c.callee=.builtin .append)(J:lookArgs E c.args.toList=some [v,u])(hf:appendV P h c.argTypes v u=some (r,h₁)): opE P E h (.call c)=some (r,h₁):=by
 grind[opE,builtinV]
theorem uL (I:bp E x=some v)(J:bp E y=some u)(hf:makeSliceV P h t v u=some (r,h₁)): opE P E h (.makeSlice t x y)=some (r,h₁):=by grind[opE,ym]
theorem jj {t:Nat}{l:List (Nat×V)}(I:lookParts E ps.toList=some l)(J:buildSliceV P h t n l=some (r,h₁)): opE P E h (.buildSlice t n ps)=some (r,h₁):=by simp only[opE,I,J]
theorem bR {lo hi mx:Option Operand}{p q m:Option V}{p' q' m':Option Nat}(I:bp E x=some v)(h1:lookOpt E lo=some p)(h2:lookOpt E hi=some q)(J:lookOpt E mx=some m)
 (g1:mq p=some p')(g2:mq q=some q')(g3:mq m=some m')(hf:sliceV P h t v p' q' m'=some r): opE P E h (.slice t x lo hi mx)=some (r,h):=by simp_all[opE,kq,bE]
theorem Wu {s:TypeId}{ok:Bool}(I:bp E x=some v)(J:assertV P v s ok=some r): opE P E h (.typeAssert x t s ok)=some (r,h):=by grind[opE,kq,bE]
theorem S8 (I:isAggT P t=some false)(J:T.get h.tr id=some (.cells n cs st))(hn:nth cs off=some v): loadV P h t (.ptr id off)=some v:=by
 grind[loadV,z8]
theorem bW (I:isAggT P t=some true)(hs:bf P t=some n)(J:T.get h.tr id=some (.cells n cs st)): loadV P h t (.ptr id 0)=some (.agg cs):=by
 grind[loadV,rdN,aN,Nat.beq_refl]
theorem cS (hw:lB h)(hs:bf P t=some 1)(J:T.get h.tr id=some (.cells n cs false))(hl:cs.length=n)(ho:off<n)(hv:v.cells=[v])(I:storable v=true):
  ∃h₁,ga P h t (.ptr id off) v=some h₁/\ew 0 [id] h h₁/\T.get h₁.tr id=some (.cells n (cs.set off v) false):=by
 refine⟨h.put id (some (.cells n (cs.set off v) false)),?_,ew.Kx hw (hw _ _ J) _,by rw[cX,bk U]⟩;simp only[ga,hs,hv,cK,eN,mF,m_,I,Dx];rw[show Nat.beq (0+1) 1=true from U,ak];simp only[wrN,J,cK,eN];rw[aN.2 (show off+(0+1)<=n by omega),ak];congr 3;rw[HI,bk Y];cases hc:(Nat.beq off 0&&Nat.beq (0+1) n) with
 |true =>
  simp only[b9,beq_iff] at hc;obtain⟨rfl,rfl⟩:=hc;rw[ak];have:cs.drop (0+1)=[]:=mA Y;simp[this]
 |false=>rw[bq];rfl
theorem dS {l:List V}(hw:lB h)(hs:bf P t=some n)(I:T.get h.tr id=some (.cells n cs false))(hl:l.length=n)(J:l.all storable=true):
  ∃h₁,ga P h t (.ptr id 0) (.agg l)=some h₁/\ew 0 [id] h h₁/\T.get h₁.tr id=some (.cells n l false):=by
 refine⟨h.put id (some (.cells n l false)),?_,ew.Kx hw (hw _ _ I) _,by rw[cX,bk U]⟩;grind[ga,V.cells,Nat.beq_refl,wrN,aN]
end
section
variable {au:Nat}
theorem Jv (hw:lB h)(I:b<256):
  ∃v h₁,buildSliceV prog h 23 1 [(0,.int .u8 b)]=some (v,h₁)/\j3 h₁ v [b]/\ew 1 [] h h₁/\∀i∈rowIds v,h.next<=i:=by
 refine⟨.sl h.next 0 1 (.exact 1),newRow h [.int .u8 b],?_,⟨Q,.inr (.inl ⟨h.next,[],1,U,?_,U⟩)⟩,ew.DJ hw _,λi hi=>by simp[rowIds] at hi;omega⟩
 .simp only[buildSliceV,aZ,fK,xp,V.cells];rfl
 .rw[newRow,fu,bk U];rfl
theorem aq.QC (J:C.P=prog)(hw:lB h)(hg:wantE L E o.guard=some true)(hd:o.dst=some d)(hn:Nat.blt d au=true)(I:o.op=.buildSlice t 1 ps)(ht:t=23)
 (hx:lookParts E ps.toList=some [(0,.int .u8 (b:Int))])(hb:b<256)
 (hr:∀v h₁,j3 h₁ v [b]->ew 1 [] h h₁->(∀i∈rowIds v,h.next<=i)->aq C au L rest ((d,v)::E) h₁ R): aq C au L (o::rest) E h R:=by
 obtain⟨v,h₁,e1,e2,e3,e4⟩:=Jv hw hb;refine aq.op hg hd hn (v:=v) (h₁:=h₁) ?_ (hr v h₁ e2 e3 e4);rw[I,ht,J];exact jj hx e1
theorem aq.app {c:Go.Call}{s x:V}{m:List Nat}(hP:C.P=prog)(hw:lB h)(J:wantE L E o.guard=some true)(hd:o.dst=some d)(hn:Nat.blt d au=true)(SW:o.op=.call c)(hc:c.callee=.builtin .append)
 (hty:c.argTypes = #[23,23])(ha:lookArgs E c.args.toList=some [s,x])(hs:j3 h s l)(hx:View h x m)(I:l.length+m.length<=140737488355328)
 (hr:∀v h₁,j3 h₁ v (l++m)->ew 1 (rowIds s) h h₁->(∀i∈rowIds v,i∈rowIds s\/h.next<=i)->aq C au L rest ((d,v)::E) h₁ R): aq C au L (o::rest) E h R:=by
 obtain⟨v,h₁,e1,e2,e3,e4⟩:=Cb hw hs hx I;refine aq.op J hd hn (v:=v) (h₁:=h₁) ?_ (hr v h₁ e2 e3 e4);grind[fN]
theorem Gj (hw:lB h)(I:c<1073741824):
  ∃v h₁,makeSliceV prog h 23 (.int .i64 0) (.int .i64 (c:Int))=some (v,h₁)/\j3 h₁ v []/\ew 1 [] h h₁/\∀i∈rowIds v,h.next<=i:=by
 obtain⟨i,hi,i1,i2⟩:=Ih;refine⟨.sl h.next 0 0 (.exact c),h.new (.cells c (repeatL [.int .u8 0] c) false),?_,⟨cb,.inr (.inl ⟨h.next,repeatL [.int .u8 0] c,c,U,?_,?_⟩)⟩,ew.DJ hw _,λi hi=>by simp[rowIds] at hi;omega⟩
 .simp only[makeSliceV,aZ,hi,xp,i1,i2,V.cells,cK,eN,cN,gF];grind[Nat.ble,Nat.beq]
 .rw[fu,bk U];rfl
 .have:∀n,(repeatL [V.int .u8 0] n).length=n:=λn=>by
   induction n<;>grind[repeatL]
  simp[this]
end
section
variable {au:Nat} {v:V} {a b:Operand}
theorem zm (e:(o.op,wantE L E o.guard,o.dst,Nat.blt d au,bp E x)=(Op.move x,some true,some d,true,some v))(hw:aq C au L rest ((d,v)::E) h R): aq C au L (o::rest) E h R:=by
  simp only[bO] at e;exact aq.op e.2.1 e.2.2.1 e.2.2.2.1 (by rw[e.1];exact aD e.2.2.2.2) hw
theorem za (e:(o.op,wantE L E o.guard,o.dst,Nat.blt d au,bp E x)=(Op.assign x,some true,some d,true,some v))(hw:aq C au L rest ((d,v)::E) h R): aq C au L (o::rest) E h R:=by
  simp only[bO] at e;exact aq.op e.2.1 e.2.2.1 e.2.2.2.1 (by rw[e.1];exact eZ e.2.2.2.2) hw
theorem zn (e:(o.op,wantE L E o.guard,o.dst,Nat.blt d au,bp E x)=(Op.nilCheck x,some true,some d,true,some (V.ptr j k)))(hw:aq C au L rest ((d,.ptr j k)::E) h R): aq C au L (o::rest) E h R:=by
  simp only[bO] at e;exact aq.op e.2.1 e.2.2.1 e.2.2.2.1 (by rw[e.1];exact jq e.2.2.2.2) hw
theorem zf (e:(o.op,wantE L E o.guard,o.dst,Nat.blt d au,bp E x)=(Op.fieldAddr t x i,some true,some d,true,some v))(I:fieldAddrV C.P t v i=some r)(hw:aq C au L rest ((d,r)::E) h R): aq C au L (o::rest) E h R:=by
  simp only[bO] at e;exact aq.op e.2.1 e.2.2.1 e.2.2.2.1 (by rw[e.1];exact gy e.2.2.2.2 I) hw
theorem zl (e:(o.op,wantE L E o.guard,o.dst,Nat.blt d au,bp E x)=(Op.load t x,some true,some d,true,some v))(I:loadV C.P h t v=some r)(hw:aq C au L rest ((d,r)::E) h R): aq C au L (o::rest) E h R:=by
  simp only[bO] at e;exact aq.op e.2.1 e.2.2.1 e.2.2.2.1 (by rw[e.1];exact o_load e.2.2.2.2 I) hw
theorem ze {l:List V}(e:(o.op,wantE L E o.guard,o.dst,Nat.blt d au,bp E x,nth l i)=(Op.extract x i,some true,some d,true,some (V.aR l),some r))(hw:aq C au L rest ((d,r)::E) h R): aq C au L (o::rest) E h R:=by
  simp only[bO] at e;exact aq.op e.2.1 e.2.2.1 e.2.2.2.1 (by rw[e.1];exact c_ e.2.2.2.2.1 e.2.2.2.2.2) hw
theorem zp (e:(o.op,wantE L E o.guard,o.dst,Nat.blt d au,bp E x,bp E b)=(Op.pick x a b,some true,some d,true,some (V.bool false),some v))(hw:aq C au L rest ((d,v)::E) h R): aq C au L (o::rest) E h R:=by
  simp only[bO] at e;exact aq.op e.2.1 e.2.2.1 e.2.2.2.1 (by rw[e.1];exact lI e.2.2.2.2.1 e.2.2.2.2.2) hw
theorem zq (e:(o.op,wantE L E o.guard,o.dst,Nat.blt d au,bp E x,bp E a)=(Op.pick x a b,some true,some d,true,some (V.bool true),some v))(hw:aq C au L rest ((d,v)::E) h R): aq C au L (o::rest) E h R:=by
  simp only[bO] at e;exact aq.op e.2.1 e.2.2.1 e.2.2.2.1 (by rw[e.1];exact gZ e.2.2.2.2.1 e.2.2.2.2.2) hw
theorem zb {op:BinOp}(e:(o.op,wantE L E o.guard,o.dst,Nat.blt d au,bp E x,bp E y)=(Op.binOp op t x y t',some true,some d,true,some v,some u))(I:binV C.P h op t x y v u=some r)(hw:aq C au L rest ((d,r)::E) h R): aq C au L (o::rest) E h R:=by
  simp only[bO] at e;exact aq.op e.2.1 e.2.2.1 e.2.2.2.1 (by rw[e.1];exact ag e.2.2.2.2.1 e.2.2.2.2.2 I) hw
theorem zx (e:(wantE L E o.guard,o.dst,Nat.blt d au)=(some false,some d,true))(hw:aq C au L rest ((d,cA)::E) h R): aq C au L (o::rest) E h R:=by
  simp only[bO] at e;exact aq.no e.1 e.2.1 e.2.2 hw
theorem zo (e:(wantE L E o.guard,o.dst,Nat.blt d au)=(some true,some d,true))(ho:opE C.P E h o.op=some (v,h₁))(hw:aq C au L rest ((d,v)::E) h₁ R): aq C au L (o::rest) E h R:=by
  simp only[bO] at e;exact aq.op e.1 e.2.1 e.2.2 ho hw
theorem zv (I:R E h): aq C au L [] E h R:=aq.nil I
variable {c f:Code}
theorem zw (hw:WP C au c E h λex E' h'=>match ex with
    |.normal=>WP C au f E' h' a8
    |ex=>a8 ex E' h'): WP C au (.seq c f) E h a8:=WP.seq hw
theorem zr (I:ops.toList=L)(hw:aq C au L L E h λE' h'=>a8 .normal E' h'): WP C au (.region k ops false) E h a8:=WP.region I hw
theorem zg (I:ops.toList=L)(hw:aq C au L L E h λE' h'=>WP C au f E' h' a8): WP C au (.seq (.region k ops false) f) E h a8:=WP.seq (WP.region I hw)
theorem zi (I:bp E x=some (.bool true))(hw:WP C au c E h a8): WP C au (.cond x c f) E h a8:=WP.cond I hw
theorem zj (I:bp E x=some (.bool false))(hw:WP C au f E h a8): WP C au (.cond x c f) E h a8:=WP.cond I hw
end
inductive Md where
  |c (c:Code)
  |o (L l:List Oper)
def Gk (C:eP)(au:Nat)(a8:Ex->List (Nat×V)->H->Prop): List Code->Ex->List (Nat×V)->H->Prop
  |[]=>a8
  |b::K=>λex E' h'=>match ex with
    |.normal=>WP C au b E' h' (Gk C au a8 K)
    |ex=>Gk C au a8 K ex E' h'
def Zm : List (Nat×V)->Nat->Option V
  |[],_=>none
  |(d,v)::E,k=>cond (Nat.beq d k) (some v) (Zm E k)
theorem S9 : ∀(E:List (Nat×V)) (k:Nat),Zm E k=look E k
  |[],_=>rfl
  |(d,v)::E,k=>by simp only[Zm,look,S9 E k]
def Gm (E:List (Nat×V)): Operand->Option V
  |.tmp t=>Zm E t
  |.const c=>ofValue c
  |.global _=>none
  |.func f=>some (.fn (.func f) [] [])
theorem S_ (E:List (Nat×V))(x:Operand): Gm E x=bp E x:=by cases x<;>first|rfl|exact S9 _ _
def pur (E:List (Nat×V)): Op->Option V
  |.move x=>Gm E x
  |.assign x=>Gm E x
  |.nilCheck x=>match Gm E x with
    |some (.ptr j k)=>some (.ptr j k)
    |_=>none
  |.extract x i=>match Gm E x with
    |some (.aR l)=>nth l i
    |_=>none
  |.pick x a b=>match Gm E x with
    |some (.bool true)=>Gm E a
    |some (.bool false)=>Gm E b
    |_=>none
  |_=>none
def runM (au:Nat): Nat->Md->List (Nat×V)->List Code->Option (Md×List (Nat×V)×List Code)
  |0,m,E,K=>some (m,E,K)
  |n+1,.o _ [],E,b::K=>runM au n (.c b) E K
  |n+1,.o L (o::l),E,K=>match wantE L E o.guard,o.dst with
    |some false,some d=>cond (Nat.blt d au) (runM au n (.o L l) ((d,cA)::E) K) none
    |some true,some d=>match pur E o.op with
      |some v=>cond (Nat.blt d au) (runM au n (.o L l) ((d,v)::E) K) none
      |none=>none
    |_,_=>none
  |n+1,.c (.seq a b),E,K=>runM au n (.c a) E (b::K)
  |n+1,.c (.region _ ops false),E,K=>runM au n (.o ops.toList ops.toList) E K
  |n+1,.c (.cond x a b),E,K=>match Gm E x with
    |some (.bool true)=>runM au n (.c a) E K
    |some (.bool false)=>runM au n (.c b) E K
    |_=>none
  |n+1,.c .skip,E,b::K=>runM au n (.c b) E K
  |_+1,_,_,_=>none
abbrev Gl (C:eP)(au:Nat)(h:H)(a8:Ex->List (Nat×V)->H->Prop)(m:Md)(E:List (Nat×V))(K:List Code): Prop:=match m with
  |.c c=>WP C au c E h (Gk C au a8 K)
  |.o L l=>aq C au L l E h λE' h'=>Gk C au a8 K .normal E' h'
class Lj (C:eP)(au:Nat)(R:List (Nat×V)->H->Prop)(a8:outParam (Ex->List (Nat×V)->H->Prop))where
  K:List Code
  eq:R=λE' h'=>Gk C au a8 K .normal E' h'
class Zn (C:eP)(au:Nat)(R:Ex->List (Nat×V)->H->Prop)(a8:outParam (Ex->List (Nat×V)->H->Prop))where
  K:List Code
  eq:R=Gk C au a8 K
instance (priority:=50) (C:eP) (au:Nat) (R:List (Nat×V)->H->Prop):Lj C au R (λ_=>R):=⟨[],U⟩
instance (priority:=60) (C:eP) (au:Nat) (a8:Ex->List (Nat×V)->H->Prop):Lj C au (λE' h'=>a8 .normal E' h') a8:=⟨[],U⟩
instance (priority:=70) (C:eP) (au:Nat) (f:Code) (a8:Ex->List (Nat×V)->H->Prop) (K:List Code):Lj C au (λE' h'=>WP C au f E' h' (Gk C au a8 K)) a8:=⟨f::K,U⟩
instance (priority:=65) (C:eP) (au:Nat) (f:Code) (a8:Ex->List (Nat×V)->H->Prop):Lj C au (λE' h'=>WP C au f E' h' a8) a8:=⟨[f],U⟩
instance (priority:=80) (C:eP) (au:Nat) (K:List Code) (a8:Ex->List (Nat×V)->H->Prop):Lj C au (λE' h'=>Gk C au a8 K .normal E' h') a8:=⟨K,U⟩
instance (priority:=50) (C:eP) (au:Nat) (a8:Ex->List (Nat×V)->H->Prop):Zn C au a8 a8:=⟨[],U⟩
instance (priority:=80) (C:eP) (au:Nat) (K:List Code) (a8:Ex->List (Nat×V)->H->Prop):Zn C au (Gk C au a8 K) a8:=⟨K,U⟩
section
variable {au:Nat} {l:List Oper} {m m':Md} {K K':List Code} {f:Code}
theorem ac9 {o:Op}{v:V}(e:pur E o=some v): opE C.P E h o=some (v,h):=by
  unfold pur at e;simp only[S_] at e;split at e
  . exact aD e
  . exact eZ e
  . split at e
    . rename_i I
      cases e;exact jq I
    . cases e
  . split at e
    . rename_i I
      exact c_ I e
    . cases e
  . split at e
    . rename_i I;exact gZ I e
    . rename_i I;exact lI I e
    . cases e
  . cases e
theorem O1 : ∀(n:Nat) (m:Md) (E:List (Nat×V)) (K:List Code),runM au n m E K=some (m',E',K')->Gl C au h a8 m' E' K'->Gl C au h a8 m E K:=by
  intro n;induction n with
  |zero=>intro m E K e hw;simp only[runM,aC,bO] at e;obtain⟨rfl,rfl,rfl⟩:=e;exact hw
  |succ n I =>
    intro m E K e hw;unfold runM at e;split at e
    . rename_i he;cases he
    . rename_i he;cases he
      exact aq.nil (I _ _ _ e hw)
    . rename_i he;cases he
      split at e
      . rename_i d hg hd
        cases J:Nat.blt d au with
        |false=>rw[J] at e;cases e
        |true=>rw[J] at e;exact aq.no hg hd J (I _ _ _ e hw)
      . rename_i d hg hd
        split at e
        . rename_i v hv
          cases J:Nat.blt d au with
          |false=>rw[J] at e;cases e
          |true=>rw[J] at e;exact aq.op hg hd J (ac9 hv) (I _ _ _ e hw)
        . cases e
      . cases e
    . rename_i he;cases he
      exact WP.seq (I _ _ _ e hw)
    . rename_i he;cases he
      exact WP.region U (I _ _ _ e hw)
    . rename_i he;cases he
      rw[S_] at e;split at e
      . rename_i hx;exact WP.cond hx (I _ _ _ e hw)
      . rename_i hx;exact WP.cond hx (I _ _ _ e hw)
      . cases e
    . rename_i he;cases he
      exact WP.skip (I _ _ _ e hw)
    . cases e
theorem zk (n:Nat)[a:Lj C au R a8](e:runM au n (.o L l) E (Lj.K C au R)=some (m',E',K'))(hw:Gl C au h a8 m' E' K'): aq C au L l E h R:=by
  rw[a.eq];exact O1 n (.o L l) E _ e hw
theorem zK {I:Ex->List (Nat×V)->H->Prop}(n:Nat)[a:Zn C au I a8](e:runM au n (.c f) E (Zn.K C au I)=some (m',E',K'))(hw:Gl C au h a8 m' E' K'): WP C au f E h I:=by
  rw[a.eq];exact O1 n (.c f) E _ e hw
end
section
variable {au:Nat} {l:List Oper}
def OpR (C:eP)(E:List (Nat×V))(h:H)(o:Oper)(R:V->H->Prop): Prop:=∃v h₁,R v h₁/\∀env,jl env E->∃N,evOp C (ev C N) env h o=some (v,h₁)
theorem OpR.call {k:FuncId}{first:List V}{R:V->H->Prop}(J:o.op=.call cl)(hc:cl.callee=.value x)(hx:bp E x=some (.fn (.func k) first cap))
 (ha:lookArgs E cl.args.toList=some args)(I:Am.Call C k (first++(args++cap)) h R): OpR C E h o R:=by
 obtain⟨v,h₁,B7,hr⟩:=I;exact⟨v,h₁,hr,λenv hE=>Jn hE J hc hx ha B7⟩
theorem OpR.of {v:V}{R:V->H->Prop}(ho:opE C.P E h o.op=some (v,h₁))(I:R v h₁): OpR C E h o R:=⟨v,h₁,I,λ_ J=>⟨0,Gd J ho⟩⟩
theorem aq.any (hg:wantE L E o.guard=some true)(hd:o.dst=some d)(hn:Nat.blt d au=true)(ho:OpR C E h o AN)
 (hw:∀v h₁,AN v h₁->aq C au L rest ((d,v)::E) h₁ R): aq C au L (o::rest) E h R:=by
 intro env J;obtain⟨v,h₁,hr,qI⟩:=ho;obtain⟨N,hN⟩:=qI env J;obtain⟨M,I,h',E',h1,h2,h3⟩:=hw v h₁ hr (env.set d (some v)) (J.set d v);refine⟨Nat.max N M,I,h',E',?_,h2,h3⟩;simp only[evOps,lR J hg,ak,nN (fy (pZ N M)) hN,St.put,hd,hn];exact sK (fy (pY N M)) _ _ _ h1
def Ky : List (Env×V)->List (List (Nat×V)×V)->Prop
 |[],[]=>True
 |x::l,y::m=>jl x.1 y.1/\x.2=y.2/\Ky l m
 |_,_=>False
def ah (C:eP)(au:Nat)(L l:List Oper)(E:List (Nat×V))(h:H)(hs:List H)(a8:List (Nat×V)->H->List (List (Nat×V)×V)->List H->Prop): Prop :=
 ∀env,jl env E->∃N I h' E' tr ts J,trace C (ev C N) L l ⟨env,au,h⟩ hs=some (tr,J,⟨I,au,h'⟩)/\jl I E'/\Ky tr ts/\a8 E' h' ts J
variable {a8:List (Nat×V)->H->List (List (Nat×V)×V)->List H->Prop}
theorem ah.nil (I:a8 E h [] hs): ah C au L [] E h hs a8:=λenv J=>⟨0,env,h,E,[],[],hs,U,J,aa,I⟩
theorem ah.any {e:Bool}(hg:wantE L E o.guard=some true)(hd:o.dst=some d)(hn:Nat.blt d au=true)(he:isEff C o.op=e)(ho:OpR C E h o AN)
 (hw:∀v h₁,AN v h₁->ah C au L rest ((d,v)::E) h₁ (cond e (hs++[h₁]) hs) λE' h' ts I=>a8 E' h' ((E,v)::ts) I): ah C au L (o::rest) E h hs a8:=by
 intro env hE;obtain⟨v,h₁,hr,qI⟩:=ho;obtain⟨N,hN⟩:=qI env hE;obtain⟨M,J,h',E',tr,ts,I,h1,h2,h3,h4⟩:=hw v h₁ hr (env.set d (some v)) (hE.set d v);refine⟨Nat.max N M,J,h',E',(env,v)::tr,(E,v)::ts,I,?_,h2,⟨hE,U,h3⟩,h4⟩;simp only[trace,lR hE hg,ak,nN (fy (pZ N M)) hN,St.put,hd,hn,he];rw[AO (fy (pY N M)) _ _ _ _ h1]
theorem ah.cy {e:Bool}(hg:wantE L E o.guard=some true)(hd:o.dst=none)(he:isEff C o.op=e)(ho:OpR C E h o AN)
 (hw:∀v h₁,AN v h₁->ah C au L rest E h₁ (cond e (hs++[h₁]) hs) λE' h' ts I=>a8 E' h' ((E,v)::ts) I): ah C au L (o::rest) E h hs a8:=by
 intro env hE;obtain⟨v,h₁,hr,qI⟩:=ho;obtain⟨N,hN⟩:=qI env hE;obtain⟨M,J,h',E',tr,ts,I,h1,h2,h3,h4⟩:=hw v h₁ hr env hE;refine⟨Nat.max N M,J,h',E',(env,v)::tr,(E,v)::ts,I,?_,h2,⟨hE,U,h3⟩,h4⟩;simp only[trace,lR hE hg,ak,nN (fy (pZ N M)) hN,St.put,hd,he];rw[AO (fy (pY N M)) _ _ _ _ h1]
theorem ah.op {v:V}(J:wantE L E o.guard=some true)(hd:o.dst=some d)(hn:Nat.blt d au=true)(he:isEff C o.op=false)(ho:opE C.P E h o.op=some (v,h))
 (hw:ah C au L rest ((d,v)::E) h hs λE' h' ts I=>a8 E' h' ((E,v)::ts) I): ah C au L (o::rest) E h hs a8 :=
 ah.any J hd hn he (OpR.of (R:=λv' h'=>v'=v/\h'=h) ho ⟨U,U⟩) (λv' h' hr=>by obtain⟨rfl,rfl⟩:=hr;exact hw)
theorem ah.no {e:Bool}(hg:wantE L E o.guard=some false)(hd:o.dst=some d)(hn:Nat.blt d au=true)(he:isEff C o.op=e)
 (hw:ah C au L rest ((d,cA)::E) h (cond e (hs++[h]) hs) λE' h' ts I=>a8 E' h' ((E,cA)::ts) I): ah C au L (o::rest) E h hs a8:=by
 intro env hE;obtain⟨M,J,h',E',tr,ts,I,h1,h2,h3,h4⟩:=hw (env.set d (some cA)) (hE.set d cA);refine⟨M,J,h',E',(env,cA)::tr,(E,cA)::ts,I,?_,h2,⟨hE,U,h3⟩,h4⟩<;>grind[trace,lR,St.put]
def Lk (C:eP)(L:List Oper)(o:Oper)(x:List (Nat×V)×V)(h:H): Prop :=
 wantE L x.1 o.guard=some false\/(wantE L x.1 o.guard=some true/\(∃h',opE C.P x.1 h o.op=some (x.2,h'))/\x.2.beq x.2=true)
def Gn (C:eP)(L:List Oper)(an es:List Nat)(hs:List H): List Oper->List (List (Nat×V)×V)->Nat->Prop
 |o::l,x::tr,i=>(isEff C o.op=true\/(uF ((nth an i).getD 0) es&&Nat.beq (ng ((nth an i).getD 0) es) (sG an i es))=true \/
   (uF ((nth an i).getD 0) es=true/\∀h∈(hs.drop (ng ((nth an i).getD 0) es)).take (sG an i es+1-ng ((nth an i).getD 0) es),Lk C L o x h))/\Gn C L an es hs l tr (i+1)
 |[],[],_=>True
 |_,_,_=>False
theorem Ta {x:Env×V}{y:List (Nat×V)×V}(hE:jl x.1 y.1)(hv:x.2=y.2): ∀(hs:List H),(∀h∈hs,Lk C L o y h)->sameIn C self L o x hs=true:=by
 intro hs;induction hs with
 |nil=>intro _;rfl
 |cons h hs ih =>
  intro I;simp only[sameIn];rcases I h iu with J|⟨J,⟨h',ho⟩,hb⟩<;>grind[lR,Gd]
theorem Jw {an:List Nat}: ∀(l:List Oper) (tr:List (Env×V)) (ts:List (List (Nat×V)×V)) (i:Nat),Ky tr ts->Gn C L an es hs l ts i->stayOk C self L an es hs l tr i=true:=by
 intro l;induction l with
 |nil=>intro tr ts i J I;cases tr<;>cases ts<;>first|rfl|(exact I.elim)|(exact J.elim)
 |cons o l ih =>
  intro tr ts i J I;cases tr with
  |nil=>cases ts with
   |nil=>exact I.elim
   |cons y ts=>exact J.elim
  |cons x tr =>
   cases ts with
   |nil=>exact J.elim
   |cons y ts =>
    obtain⟨n1,n2,n3⟩:=J;obtain⟨s1,s2⟩:=I;simp only[stayOk];grind[Ta]
theorem WP.draw {a8:Ex->List (Nat×V)->H->Prop}(hl:ops.toList=L)(J:nT C false L=true)
 (hw:ah C au L L E h [h] λE' h' ts hs=>Gn C L (ancs L []) (eX C L 0) hs L ts 0/\a8 .normal E' h'): WP C au (.region id ops true) E h a8:=by
 intro env hE;obtain⟨N,I,h',E',tr,ts,Gi,h1,h2,h3,h4,h5⟩:=hw env hE;refine⟨N+1,.normal,I,h',E',?_,h2,h5⟩<;>grind[jz,evStep,qH,Jw]
def O2 (L:List Oper): List Oper->List (List (Nat×V)×V)->Prop
 |o::l,x::ts=>(isAlloc true o=false\/wantE L x.1 o.guard=some true)/\O2 L l ts
 |_,_=>True
theorem O2.all : ∀(l:List Oper) (tr:List (Env×V)) (ts:List (List (Nat×V)×V)),Ky tr ts->O2 L l ts->allW L l tr=true:=by
 intro l;induction l with
 |nil=>intro tr ts _ _;rfl
 |cons o l ih =>
  intro tr ts I J;cases tr with
  |nil=>rfl
  |cons x tr =>
   cases ts with
   |nil=>exact I.elim
   |cons y ts =>
    obtain⟨n1,n2,n3⟩:=I;obtain⟨f1,f2⟩:=J<;>grind[allW,lR]
theorem WP.aeP {a8:Ex->List (Nat×V)->H->Prop}(hl:ops.toList=L)(J:nT C true L=true)
 (hw:ah C au L L E h [h] λE' h' ts hs=>(Gn C L (ancs L []) (eX C L 0) hs L ts 0/\O2 L L ts)/\a8 .normal E' h'): WP C au (.region id ops true) E h a8:=by
 intro env hE;obtain⟨N,I,h',E',tr,ts,Gi,h1,h2,h3,⟨h4,h6⟩,h5⟩:=hw env hE;refine⟨N+1,.normal,I,h',E',?_,h2,h5⟩<;>grind[jz,evStep,qH,Jw,O2.all]
end
def planOk (C:eP)(an es:List Nat): List Oper->List (Option (Nat×Nat))->Nat->Bool
 |[],[],_=>true
 |o::l,p::ps,i=>(match p with
   |none=>isEff C o.op||(uF ((nth an i).getD 0) es&&Nat.beq (ng ((nth an i).getD 0) es) (sG an i es))
   |some (lo,n)=>uF ((nth an i).getD 0) es&&Nat.beq lo (ng ((nth an i).getD 0) es)&&Nat.beq n (sG an i es+1-ng ((nth an i).getD 0) es))&&planOk C an es l ps (i+1)
 |_,_,_=>false
def AR (C:eP)(L:List Oper)(hs:List H): List Oper->List (List (Nat×V)×V)->List (Option (Nat×Nat))->Prop
 |o::l,x::tr,p::ps=>(match p with
   |none=>True
   |some (lo,n)=>∀h∈(hs.drop lo).take n,Lk C L o x h)/\AR C L hs l tr ps
 |[],[],_=>True
 |_,_,_=>False
theorem AR.stay {an:List Nat}: ∀(l:List Oper) (ts:List (List (Nat×V)×V)) (ps:List (Option (Nat×Nat))) (i:Nat),planOk C an es l ps i=true->AR C L hs l ts ps->Gn C L an es hs l ts i:=by
 intro l;induction l with
 |nil=>intro ts ps i h1 h2;cases ts with
  |nil=>trivial
  |cons x ts=>exact h2.elim
 |cons o l I =>
  intro ts ps i h1 h2;cases ts with
  |nil=>cases ps<;>exact h2.elim
  |cons x ts =>
   cases ps with
   |nil=>exact h2.elim
   |cons p ps =>
    simp only[planOk,b9] at h1;obtain⟨a1,J⟩:=h1;obtain⟨b1,b2⟩:=h2;refine⟨?_,I ts ps (i+1) J b2⟩<;>grind[beq_iff]
theorem WP.drawn {au:Nat}(ps:List (Option (Nat×Nat)))(hl:ops.toList=L)(I:nT C false L=true)
 (hp:planOk C (ancs L []) (eX C L 0) L ps 0=true)
 (hw:ah C au L L E h [h] λE' h' ts hs=>AR C L hs L ts ps/\a8 .normal E' h'): WP C au (.region id ops true) E h a8:=by
 refine WP.draw hl I λenv hE=>?_;obtain⟨N,J,h',E',tr,ts,Gi,h1,h2,h3,h4,h5⟩:=hw env hE<;>grind[AR.stay]
theorem WP.xu {au:Nat}(ps:List (Option (Nat×Nat)))(hl:ops.toList=L)(I:nT C true L=true)
 (hp:planOk C (ancs L []) (eX C L 0) L ps 0=true)
 (hw:ah C au L L E h [h] λE' h' ts hs=>(AR C L hs L ts ps/\O2 L L ts)/\a8 .normal E' h'): WP C au (.region id ops true) E h a8:=by
 refine WP.aeP hl I λenv hE=>?_;obtain⟨N,J,h',E',tr,ts,Gi,h1,h2,h3,h4,h5⟩:=hw env hE<;>grind[AR.stay]
theorem cY {a b:H}{l:List H}{p:H->Prop}(I:p a)(J:p b): ∀x∈((a::b::l).drop 0).take 2,p x:=by
 grind
theorem lT {a b c:H}{l:List H}{p:H->Prop}(I:p a)(J:p b)(hc:p c): ∀x∈((a::b::c::l).drop 0).take 3,p x:=by
 grind
theorem eS (k:IntKind): ikBeq k k=true:=by cases k<;>rfl
theorem uM (n:Int): intBeq n n=true:=by cases n<;>simp[intBeq]
theorem EE (c:Cap): c.beq c=true:=by cases c<;>simp[Cap.beq]
theorem DL (a b c:Nat)(d:Cap): (V.sl a b c d).beq (.sl a b c d)=true:=by simp[V.beq,EE]
theorem fO {v:V}(I:View h v l): v.beq v=true:=by
 obtain⟨_,I⟩:=I<;>grind[V.beq,DL]
section
variable {au:Nat} {a8:List (Nat×V)->H->List (List (Nat×V)×V)->List H->Prop} {v:V} {a b:Operand}
theorem zM (e:(o.op,wantE L E o.guard,o.dst,Nat.blt d au,isEff C o.op,bp E x)=(Op.move x,some true,some d,true,false,some v))(hw:ah C au L rest ((d,v)::E) h hs λE' h' ts I=>a8 E' h' ((E,v)::ts) I): ah C au L (o::rest) E h hs a8:=by
  simp only[bO] at e;exact ah.op e.2.1 e.2.2.1 e.2.2.2.1 e.2.2.2.2.1 (by rw[e.1];exact aD e.2.2.2.2.2) hw
theorem zA (e:(o.op,wantE L E o.guard,o.dst,Nat.blt d au,isEff C o.op,bp E x)=(Op.assign x,some true,some d,true,false,some v))(hw:ah C au L rest ((d,v)::E) h hs λE' h' ts I=>a8 E' h' ((E,v)::ts) I): ah C au L (o::rest) E h hs a8:=by
  simp only[bO] at e;exact ah.op e.2.1 e.2.2.1 e.2.2.2.1 e.2.2.2.2.1 (by rw[e.1];exact eZ e.2.2.2.2.2) hw
theorem zN (e:(o.op,wantE L E o.guard,o.dst,Nat.blt d au,isEff C o.op,bp E x)=(Op.nilCheck x,some true,some d,true,false,some (V.ptr j k)))(hw:ah C au L rest ((d,.ptr j k)::E) h hs λE' h' ts I=>a8 E' h' ((E,.ptr j k)::ts) I): ah C au L (o::rest) E h hs a8:=by
  simp only[bO] at e;exact ah.op e.2.1 e.2.2.1 e.2.2.2.1 e.2.2.2.2.1 (by rw[e.1];exact jq e.2.2.2.2.2) hw
theorem zF (e:(o.op,wantE L E o.guard,o.dst,Nat.blt d au,isEff C o.op,bp E x)=(Op.fieldAddr t x i,some true,some d,true,false,some v))(J:fieldAddrV C.P t v i=some r)(hw:ah C au L rest ((d,r)::E) h hs λE' h' ts I=>a8 E' h' ((E,r)::ts) I): ah C au L (o::rest) E h hs a8:=by
  simp only[bO] at e;exact ah.op e.2.1 e.2.2.1 e.2.2.2.1 e.2.2.2.2.1 (by rw[e.1];exact gy e.2.2.2.2.2 J) hw
theorem zL (e:(o.op,wantE L E o.guard,o.dst,Nat.blt d au,isEff C o.op,bp E x)=(Op.load t x,some true,some d,true,false,some v))(J:loadV C.P h t v=some r)(hw:ah C au L rest ((d,r)::E) h hs λE' h' ts I=>a8 E' h' ((E,r)::ts) I): ah C au L (o::rest) E h hs a8:=by
  simp only[bO] at e;exact ah.op e.2.1 e.2.2.1 e.2.2.2.1 e.2.2.2.2.1 (by rw[e.1];exact o_load e.2.2.2.2.2 J) hw
theorem zO (e:(wantE L E o.guard,o.dst,Nat.blt d au,isEff C o.op)=(some true,some d,true,false))(ho:opE C.P E h o.op=some (v,h))(hw:ah C au L rest ((d,v)::E) h hs λE' h' ts I=>a8 E' h' ((E,v)::ts) I): ah C au L (o::rest) E h hs a8:=by
  simp only[bO] at e;exact ah.op e.1 e.2.1 e.2.2.1 e.2.2.2 ho hw
end
abbrev PM := Nat->Option Obj
variable {m':PM}
def PM.le (a b:PM): Prop:=∀i o,a i=some o->b i=some o
def PM.dj (a b:PM): Prop:=∀i,a i=none\/b i=none
def PM.upd (m:PM)(id:Nat)(o:Option Obj): PM:=λi=>if i=id then o else m i
def PM.un (a b:PM): PM:=λi=>(a i).orElse λ_=>b i
theorem PM.le_refl (a:PM): a.le a:=λ_ _ h=>h
theorem PM.le_trans {a b c:PM}(x:a.le b)(y:b.le c): a.le c:=λi o h=>y i o (x i o h)
theorem PM.pI {a b a' b':PM}(hd:a.dj b)(I:a'.le a)(J:b'.le b): a'.dj b':=by
 intro i;rcases hd i with h|h
 .left;cases h1:a' i with
  |none=>rfl
  |some o=>rw[I i o h1] at h;cases h
 .right;cases h1:b' i with
  |none=>rfl
  |some o=>rw[J i o h1] at h;cases h
theorem PM.rS {a b:PM}(h:a.dj b): b.dj a:=λi=>(h i).symm
theorem PM.Ll (a b:PM): a.le (a.un b):=λi o h=>by simp[PM.un,h]
theorem PM.Lm {a b:PM}(hd:a.dj b): b.le (a.un b):=λi o h=>by
 rcases hd i with h1|h1<;>grind[PM.un]
theorem PM.Gp {a b c:PM}(I:a.le c)(J:b.le c): (a.un b).le c:=λi o h=>by
 simp only[PM.un] at h;cases h1:a i with
 |none=>rw[h1] at h;exact J i o h
 |some x=>rw[h1] at h;injection h with h;subst h;exact I i _ h1
theorem PM.Gq {a b c:PM}(I:a.dj c)(J:b.dj c): (a.un b).dj c:=λi=>by
 rcases I i with h|h
 .rcases J i with h2|h2<;>grind[PM.un]
 .grind
def ViewM (m:PM)(v:V)(l:List Nat): Prop:=(∀b∈l,b<256)/\(((v=.aP\/∃a,v=.sle a)/\l=[]) \/
 ∃id off cap n cs st,v=.sl id off l.length cap/\m id=some (.cells n cs st)/\cs.length=n/\off+l.length<=n/\(cs.drop off).take l.length=ofBytes l /\
  (match cap with|.exact c=>l.length<=c|.rest e _=>e=1))
def vD (m:PM)(v:V)(l:List Nat): Prop:=(∀b∈l,b<256)/\((v=.aP/\l=[]) \/
 (∃id cs c,v=.sl id 0 l.length (.exact c)/\m id=some (.cells c (ofBytes l++cs) false)/\l.length+cs.length=c) \/
 (∃id,v=.sl id 0 l.length (.rest 1 0)/\m id=some (.cells l.length (ofBytes l) false)/\1<=l.length))
theorem ViewM.up {m:PM}{v:V}(h:ViewM m v l)(hm:PM.le m m'): ViewM m' v l:=by
 obtain⟨h1,h2⟩:=h;refine⟨h1,?_⟩;rcases h2 with h2|⟨id,off,cap,n,cs,st,e,I,J⟩
 .grind
 .exact .inr ⟨id,off,cap,n,cs,st,e,hm _ _ I,J⟩
theorem vD.up {m:PM}{v:V}(h:vD m v l)(hm:PM.le m m'): vD m' v l:=by
 obtain⟨h1,h2⟩:=h;refine⟨h1,?_⟩;rcases h2 with h2|⟨id,cs,c,e,I,J⟩|⟨id,e,I,J⟩
 .grind
 .exact .inr (.inl ⟨id,cs,c,e,hm _ _ I,J⟩)
 .exact .inr (.inr ⟨id,e,hm _ _ I,J⟩)
theorem vD.view {m:PM}{v:V}(I:vD m v l): ViewM m v l:=by
 obtain⟨J,I⟩:=I;refine⟨J,?_⟩<;>grind[gn]
def AS (m:PM)(k:Nat)(v:V)(cs:List V): Prop:=cs.all storable=true/\((v=.aP/\cs=[]) \/
 ∃id n cap N rest,v=.sl id 0 n cap/\m id=some (.cells N (cs++rest) false)/\cs.length=n*k/\cs.length+rest.length=N/\rest.all storable=true /\
  (match cap with|.exact c=>N=c*k/\n<=c|.rest e alt=>e=k/\alt=0/\rest=[]/\1<=n))
theorem AS.up {m:PM}{v:V}(h:AS m k v cs)(hm:PM.le m m'): AS m' k v cs:=by
 obtain⟨h1,h2⟩:=h;refine⟨h1,?_⟩;rcases h2 with h2|⟨id,n,cap,N,rest,e,I,J⟩
 .grind
 .exact .inr ⟨id,n,cap,N,rest,e,hm _ _ I,J⟩
inductive aH : Type 1 where
 |pt (id:Nat) (o:Obj)
 |ro (id:Nat) (o:Obj)
 |pu (φ:Prop)
 |buf (v:V) (l:List Nat)
 |dL (v:V) (l:List Nat)
 |rdb (v:V) (l:List Nat)
 |arr (k:Nat) (v:V) (cs:List V)
 |an (A B:aH)
 |xs {α:Type} (f:α->aH)
 |all {α:Type} (f:α->aH)
 |se (A B:aH)
variable {A B X:aH} {S S':List aH}
abbrev pt := aH.pt
abbrev ro := aH.ro
abbrev pu := aH.pu
abbrev xs {α:Type}(f:α->aH): aH:=aH.xs f
abbrev bu := aH.buf
abbrev Gr := aH.dL
abbrev cT := aH.rdb
def aH.p : aH->PM->PM->Prop
 |.pt id o,m,_=>m id=some o
 |.ro id o,_,r=>r id=some o
 |.pu φ,_,_=>φ
 |.buf v l,m,_=>vD m v l
 |.dL v l,_,r=>ViewM r v l
 |.rdb v l,m,r=>ViewM m v l\/ViewM r v l
 |.arr k v cs,m,_=>AS m k v cs
 |.an A B,m,r=>A.p m r/\B.p m r
 |.xs f,m,r=>∃x,(f x).p m r
 |.all f,m,r=>∀x,(f x).p m r
 |.se A B,m,r=>∃a b,PM.dj a b/\PM.le a m/\PM.le b m/\A.p a r/\B.p b r
theorem aH.mono : ∀(A:aH) (m m' r r':PM),PM.le m m'->PM.le r r'->A.p m r->A.p m' r':=by
 intro A;induction A with
 |pt id o=>intro m m' r r' hm I h;exact hm _ _ h
 |ro id o=>intro m m' r r' hm I h;exact I _ _ h
 |pu φ=>intro m m' r r' hm I h;exact h
 |buf v l=>intro m m' r r' hm I h;exact vD.up h hm
 |dL v l=>intro m m' r r' hm I h;exact ViewM.up h I
 |rdb v l =>
  intro m m' r r' hm I h;rcases h with h|h
  .exact .inl (ViewM.up h hm)
  .exact .inr (ViewM.up h I)
 |arr k v cs=>intro m m' r r' hm I h;exact AS.up h hm
 |an A B J ib=>intro m m' r r' hm I h;exact⟨J _ _ _ _ hm I h.1,ib _ _ _ _ hm I h.2⟩
 |xs f ih=>intro m m' r r' hm I h;obtain⟨x,hx⟩:=h;exact⟨x,ih x _ _ _ _ hm I hx⟩
 |all f ih=>intro m m' r r' hm I h x;exact ih x _ _ _ _ hm I (h x)
 |se A B J ib =>
  intro m m' r r' hm I h;obtain⟨a,b,h1,h2,h3,h4,h5⟩:=h;exact⟨a,b,h1,PM.le_trans h2 hm,PM.le_trans h3 hm,J _ _ _ _ (PM.le_refl _) I h4,ib _ _ _ _ (PM.le_refl _) I h5⟩
def star : List aH->aH
 |[]=>.pu True
 |A::L=>.se A (star L)
theorem aH.up {m r r':PM}(h:A.p m r)(hm:m.le m')(I:r.le r'): A.p m' r':=A.mono m m' r r' hm I h
def cQ (A B:aH): Prop:=∀m r,A.p m r->B.p m r
def bg (A:aH): Prop:=∀m r,A.p m r->A.p (λ_=>none) r
theorem bg.ro (id:Nat)(o:Obj): bg (.ro id o):=λ_ _ h=>h
theorem bg.pu (φ:Prop): bg (.pu φ):=λ_ _ h=>h
theorem bg.xs {f:α->aH}(h:∀x,bg (f x)): bg (.xs f):=λm r ⟨x,I⟩=>⟨x,h x m r I⟩
theorem bg.an (h1:bg A)(h2:bg B): bg (.an A B):=λm r h=>⟨h1 m r h.1,h2 m r h.2⟩
def getA : List aH->Nat->Option aH
 |[],_=>none
 |A::_,0=>some A
 |_::L,k+1=>getA L k
theorem oG (I:getA S k=some X): getA (A::S) (k+1)=some X:=I
def setA : List aH->Nat->aH->List aH
 |[],_,_=>[]
 |_::L,0,B=>B::L
 |A::L,k+1,B=>A::setA L k B
def aB : List aH->Nat->List aH
 |[],_=>[]
 |_::L,0=>L
 |A::L,k+1=>A::aB L k
def bringA (S:List aH): List Nat->List aH
 |[]=>S
 |k::ks=>match getA S k with
  |some A=>A::bringA (aB S k) ks
  |none=>[]
def QD (k:Nat): List Nat->Nat
 |[]=>0
 |x::l=>cond (Nat.blt x k) (QD k l+1) (QD k l)
def ac_ : List Nat->List Nat->List Nat
 |_,[]=>[]
 |seen,k::ks=>(k-QD k seen)::ac_ (k::seen) ks
theorem Tb {L:List aH}{m r:PM}(h:(star (A::B::L)).p m r): (star (B::A::L)).p m r:=by
 obtain⟨a,b,h1,h2,h3,h4,c,d,g1,g2,g3,g4,g5⟩:=h;have J:a.dj c:=PM.pI h1 (PM.le_refl _) g2;have I:a.dj d:=PM.pI h1 (PM.le_refl _) g3;exact⟨c,a.un d,PM.rS (PM.Gq J (PM.rS g1)),PM.le_trans g2 h3,PM.Gp h2 (PM.le_trans g3 h3),g4,a,d,I,PM.Ll _ _,PM.Lm I,h4,g5⟩
theorem Cd {L I:List aH}(h:∀m r,(star L).p m r->(star I).p m r){m r:PM}(hs:(star (A::L)).p m r): (star (A::I)).p m r:=by
 obtain⟨a,b,h1,h2,J,h4,h5⟩:=hs;exact⟨a,b,h1,h2,J,h4,h _ _ h5⟩
theorem Ce : ∀ {S:List aH} {k:Nat} {A:aH},getA S k=some A->∀m r,(star S).p m r->(star (A::aB S k)).p m r:=by
 intro S;induction S with
 |nil=>intro k A h;cases h
 |cons B S I =>
  intro k A h m r hs;cases k with
  |zero=>injection h with h;subst h;exact hs
  |succ k =>
   exact Tb (Cd (I h) hs)
theorem Cf {L:List aH}{m r:PM}(h:(star (A::L)).p m r): (star L).p m r:=by
 obtain⟨a,b,h1,h2,I,J,h5⟩:=h<;>grind[aH.up,PM.le_refl]
theorem Tc {L:List aH}{m r:PM}(h:(star (A::L)).p m r): A.p m r:=by
 obtain⟨a,b,h1,h2,I,J,h5⟩:=h<;>grind[aH.up,PM.le_refl]
theorem Gs : ∀(ks:List Nat) (S:List aH) (m r:PM),(star S).p m r->(bringA S ks=[]\/True)->(star (bringA S ks)).p m r:=by
 intro ks;induction ks with
 |nil=>intro S m r h _;exact h
 |cons k ks I =>
  intro S m r h _;simp only[bringA];cases J:getA S k with
  |none=>trivial
  |some A=>exact Cd (λm r h=>I _ m r h (.inr aa)) (Ce J m r h)
theorem Ln {L:List aH}: ∀m r,(star (star L::S)).p m r↔(star (L++S)).p m r:=by
 induction L with
 |nil =>
  intro m r;constructor
  .intro h;exact Cf h
  .intro h;exact⟨λ_=>none,m,λ_=>.inl U,λ_ _ h=>(by cases h),PM.le_refl _,aa,h⟩
 |cons A L ih =>
  intro m r;constructor
  .rintro⟨a,b,h1,h2,h3,⟨c,d,g1,J,g3,g4,g5⟩,h5⟩;have I:c.dj b:=PM.pI h1 J (PM.le_refl _);have O3:d.dj b:=PM.pI h1 g3 (PM.le_refl _);exact⟨c,d.un b,PM.rS (PM.Gq (PM.rS g1) (PM.rS I)),PM.le_trans J h2,PM.Gp (PM.le_trans g3 h2) h3,g4,(ih _ _).1 ⟨d,b,O3,PM.Ll _ _,PM.Lm O3,g5,h5⟩⟩
  .rintro⟨c,e,h1,h2,h3,h4,h5⟩;obtain⟨d,b,g1,J,g3,g4,g5⟩:=(ih _ _).2 h5;have xo:c.dj d:=PM.pI h1 (PM.le_refl _) J;have I:c.dj b:=PM.pI h1 (PM.le_refl _) g3;exact⟨c.un d,b,PM.Gq I g1,PM.Gp h2 (PM.le_trans J h3),PM.le_trans g3 h3,⟨c,d,xo,PM.Ll _ _,PM.Lm xo,h4,g4⟩,g5⟩
structure Sat (h:H)(S:List aH): Prop where
 wf:lB h
 ok:∃m r,PM.le m (T.get h.tr)/\PM.le r (T.get h.tr)/\PM.dj m r/\(star S).p m r
section
theorem Sat.map (s:Sat h S)(I:∀m r,(star S).p m r->(star S').p m r): Sat h S':=by
 obtain⟨m,r,h1,h2,J,h4⟩:=s.ok;exact⟨s.wf,m,r,h1,h2,J,I _ _ h4⟩
theorem Sat.at (s:Sat h S)(I:getA S k=some A): ∃m r,PM.le m (T.get h.tr)/\PM.le r (T.get h.tr)/\A.p m r:=by
 obtain⟨m,r,h1,h2,h3,J⟩:=s.ok;exact⟨m,r,h1,h2,Tc (Ce I m r J)⟩
theorem Sat.take (k:Nat)(s:Sat h S)(I:getA S k=some A): Sat h (A::aB S k):=s.map (Ce I)
theorem Sat.sO (ks:List Nat)(s:Sat h S): Sat h (bringA S (ac_ [] ks)):=s.map λm r h=>Gs _ S m r h (.inr aa)
theorem Sat.ae (ks:List Nat)(s:Sat h S): Sat h (bringA S ks):=s.map λm r h=>Gs _ S m r h (.inr aa)
theorem Sat.drop (s:Sat h (A::S)): Sat h S:=s.map λ_ _ h=>Cf h
theorem Wv : ∀(S:List aH) (k:Nat) (m r:PM),(star S).p m r->(star (aB S k)).p m r:=by
 intro S;induction S with
 |nil=>intro k m r h;exact h
 |cons B S I =>
  intro k m r h;cases k with
  |zero=>exact Cf h
  |succ k=>exact Cd (I k) h
theorem Sat.del (k:Nat)(s:Sat h S): Sat h (aB S k):=s.map (Wv S k)
theorem Sat.iX (s:Sat h (A::S))(he:cQ A B): Sat h (B::S):=s.map λm r ⟨a,b,h1,h2,I,J,h5⟩=>⟨a,b,h1,h2,I,he _ _ J,h5⟩
theorem Sat.dup (s:Sat h (A::S))(J:bg A): Sat h (A::A::S):=s.map λm r hs=>by
 obtain⟨a,b,h1,h2,h3,I,h5⟩:=hs;exact⟨λ_=>none,m,λ_=>.inl U,λ_ _ h=>(by cases h),PM.le_refl _,J _ _ I,a,b,h1,h2,h3,I,h5⟩
theorem Sat.eF (s:Sat h S)(I:φ): Sat h (pu φ::S):=s.map λm _ hs=>⟨λ_=>none,m,λ_=>.inl U,λ_ _ h=>(by cases h),PM.le_refl _,I,hs⟩
theorem Sat.two {C:aH}(s:Sat h (A::B::S))(I:bg A)(J:bg B)(hC:∀m r,A.p m r->B.p m r->C.p m r): Sat h (C::S):=s.map λm r hs=>by
 obtain⟨a,b,h1,h2,h3,h4,c,d,g1,g2,g3,g4,g5⟩:=hs;exact⟨λ_=>none,d,λ_=>.inl U,λ_ _ h=>(by cases h),PM.le_trans g3 h3,hC _ _ (I _ _ h4) (J _ _ g4),g5⟩
theorem gh {f:α->aH}: Sat h (xs f::S)↔∃x,Sat h (f x::S):=by
 constructor
 .intro s;obtain⟨m,r,h1,h2,I,a,b,J,g2,g3,⟨x,g4⟩,g5⟩:=s.ok;exact⟨x,s.wf,m,r,h1,h2,I,a,b,J,g2,g3,g4,g5⟩
 .rintro⟨x,s⟩;exact s.iX λm r h=>⟨x,h⟩
theorem j4 : Sat h (pu φ::S)↔φ/\Sat h S:=by
 constructor
 .intro s;obtain⟨m,r,h1,h2,J,a,b,g1,g2,g3,I,g5⟩:=s.ok;exact⟨I,s.drop⟩
 .rintro⟨h1,s⟩;exact s.eF h1
theorem aX {L:List aH}: Sat h (star L::S)↔Sat h (L++S) :=
 ⟨λs=>s.map λm r hs=>(Ln m r).1 hs,λs=>s.map λm r hs=>(Ln m r).2 hs⟩
theorem Sat.row {o:Obj}(s:Sat h S)(I:getA S k=some (pt id o)): T.get h.tr id=some o:=by
 obtain⟨m,r,h1,h2,J⟩:=s.at I;exact h1 _ _ J
theorem Sat.ne {o:Obj}(s:Sat h (pt i o::pt j o'::S)): i≠j:=by
 rintro rfl;obtain⟨m,r,h1,h2,h3,a,b,I,g2,g3,J,c,d,k1,k2,k3,k4,k5⟩:=s.ok;have e1:a i=some o:=J;have e2:b i=some o':=k2 _ _ k4;rcases I i with e|e
 .grind
 .grind
theorem ada {m:PM}{t:T Obj}{o:Option Obj}(hm:m.le (T.get t)): (m.upd id o).le (T.get (t.set id o)):=by
 intro i x I;rw[aY];simp only[PM.upd] at I;split
 .grind
 .rename_i e;rw[ax e] at I;exact hm i x I
theorem Lo {m:PM}{o:Option Obj}(hm:m.le (T.get h.tr))(J:m id=none): m.le (T.get (h.put id o).tr):=by
 intro i x I;rw[cX];split
 .grind
 .exact hm i x I
theorem Ww : ∀ {S:List aH} {k id:Nat} {o o':Obj},getA S k=some (pt id o)->∀m r,(star S).p m r->m id=some o/\(star (setA S k (pt id o'))).p (m.upd id (some o')) r:=by
 intro S;induction S with
 |nil=>intro k id o o' h;cases h
 |cons B S ih =>
  intro k id o o' J m r hs;obtain⟨a,b,h1,h2,h3,h4,h5⟩:=hs;cases k with
  |zero =>
   injection J with J;subst J;have ha:a id=some o:=h4;have hb:b id=none:=by
    rcases h1 id with e|e
    .grind
    .exact e
   refine⟨h2 _ _ ha,a.upd id (some o'),b,λi=>?_,λi x I=>?_,λi x I=>?_,?_,h5⟩
   .by_cases e:i=id
    .grind
    .simp only[PM.upd,ax e];exact h1 i
   .simp only[PM.upd] at I ⊢;split
    .grind
    .rename_i e;rw[ax e] at I;exact h2 i x I
   .simp only[PM.upd];split
    .grind
    .exact h3 i x I
   .show(a.upd id (some o')) id=some o';simp[PM.upd]
  |succ k =>
   obtain⟨g1,g2⟩:=ih (o':=o') J b r h5;have ha:a id=none:=by
    rcases h1 id with e|e
    .exact e
    .grind
   refine⟨h3 _ _ g1,a,b.upd id (some o'),λi=>?_,λi x I=>?_,λi x I=>?_,h4,g2⟩
   .by_cases e:i=id
    .grind
    .simp only[PM.upd,ax e];exact h1 i
   .simp only[PM.upd];split
    .grind
    .exact h2 i x I
   .simp only[PM.upd] at I ⊢;split
    .grind
    .rename_i e;rw[ax e] at I;exact h3 i x I
theorem Sat.put {o:Obj}(s:Sat h S)(J:getA S k=some (pt id o)): Sat (h.put id (some o')) (setA S k (pt id o')):=by
 obtain⟨m,r,h1,h2,I,h4⟩:=s.ok;obtain⟨g1,g2⟩:=Ww (o':=o') J m r h4;have hr:r id=none:=by
  rcases I id with e|e
  .grind
  .exact e
 refine⟨s.wf.put (s.wf _ _ (h1 _ _ g1)) _,m.upd id (some o'),r,ada h1,Lo h2 hr,λi=>?_,g2⟩;by_cases e:i=id
 .grind
 .simp only[PM.upd,ax e];exact I i
theorem Sat.new (s:Sat h S)(o:Obj): Sat (h.new o) (pt h.next o::S):=by
 obtain⟨m,r,h1,h2,h3,h4⟩:=s.ok;have hm:m h.next=none:=by
  cases e:m h.next with
  |none=>rfl
  |some x=>exact absurd (s.wf _ _ (h1 _ _ e)) (Nat.lt_irrefl _)
 have hr:r h.next=none:=by
  cases e:r h.next with
  |none=>rfl
  |some x=>exact absurd (s.wf _ _ (h2 _ _ e)) (Nat.lt_irrefl _)
 have J:∀(q:PM),q.le (T.get h.tr)->q h.next=none->q.le (T.get (h.new o).tr):=λq hq hn i x I=>by
  rw[fu];split
  .grind
  .exact hq i x I
 refine⟨s.wf.new o,m.upd h.next (some o),r,λi x I=>?_,J r h2 hr,λi=>?_,λi=>if i=h.next then some o else none,m,λi=>?_,λi x I=>?_,λi x I=>?_,?_,h4⟩
 .rw[fu];simp only[PM.upd] at I;split
  .grind
  .rename_i e;rw[ax e] at I;exact h1 i x I
 .by_cases e:i=h.next
  .grind
  .simp only[PM.upd,ax e];exact h3 i
 .grind
 .grind[PM.upd]
 .grind[PM.upd]
 .show(if h.next=h.next then some o else none)=some o
  simp
theorem Sat.kill {o:Obj}(s:Sat h (pt id o::S)): Sat (h.put id none) S:=by
 obtain⟨m,r,h1,h2,I,a,b,g1,J,g3,g4,g5⟩:=s.ok;have ha:a id=some o:=g4;have hb:b id=none:=by
  rcases g1 id with e|e
  .grind
  .exact e
 have hr:r id=none:=by
  rcases I id with e|e
  .rw[J _ _ ha] at e;cases e
  .exact e
 exact⟨s.wf.put (s.wf _ _ (h1 _ _ (J _ _ ha))) _,b,r,Lo (PM.le_trans g3 h1) hb,Lo h2 hr,PM.pI I g3 (PM.le_refl _),g5⟩
theorem Sat.freeze {o:Obj}(s:Sat h (pt id o::S)): Sat h (ro id o::S):=by
 obtain⟨m,r,h1,h2,J,a,b,g1,g2,g3,g4,g5⟩:=s.ok;have ha:a id=some o:=g4;have hb:b id=none:=by
  rcases g1 id with e|e
  .grind
  .exact e
 have hr:r id=none:=by
  rcases J id with e|e
  .rw[g2 _ _ ha] at e;cases e
  .exact e
 have hle:r.le (r.upd id (some o)):=λi x I=>by
  grind[PM.upd]
 refine⟨s.wf,b,r.upd id (some o),PM.le_trans g3 h1,λi x I=>?_,λi=>?_,λ_=>none,b,λ_=>.inl U,λ_ _ h=>(by cases h),PM.le_refl _,?_,aH.up g5 (PM.le_refl _) hle⟩
 .simp only[PM.upd] at I;split at I
  .rename_i e;subst e;injection I with I;subst I;exact h1 _ _ (g2 _ _ ha)
  .exact h2 i x I
 .by_cases e:i=id
  .grind
  .simp only[PM.upd,ax e];exact PM.pI J g3 (PM.le_refl _) i
 .show(r.upd id (some o)) id=some o;simp[PM.upd]
theorem Sat.iF (s:Sat h S)(J:ew k [] h h'): Sat h' S:=by
 obtain⟨m,r,h1,h2,h3,h4⟩:=s.ok;have I:∀(q:PM),q.le (T.get h.tr)->q.le (T.get h'.tr):=λq hq i x hx=>by
  rw[J.get i (s.wf _ _ (hq _ _ hx)) oD];exact hq _ _ hx
 exact⟨J.wf,m,r,I m h1,I r h2,h3,h4⟩
theorem Sat.adb {X:List Nat}{m₀:PM}(s:Sat h (A::S))(hk:ew k X h h')(hX:∀m r,PM.le m (T.get h.tr)->PM.le r (T.get h.tr)->A.p m r->∀i∈X,m i≠none)
 (hm:PM.le m₀ (T.get h'.tr))(hB:∀r,B.p m₀ r)(hn:∀i,m₀ i≠none->i∈X\/h.next<=i): Sat h' (B::S):=by
 obtain⟨m,r,h1,h2,h3,a,b,g1,g2,g3,g4,g5⟩:=s.ok;have hXa:∀i∈X,a i≠none:=hX a r (PM.le_trans g2 h1) h2 g4;have hXb:∀i∈X,b i=none:=λi hi=>by
  rcases g1 i with e|e<;>grind
 have hXr:∀i∈X,r i=none:=λi hi=>by
  cases e:a i with
  |none=>grind
  |some o =>
   rcases h3 i with J|J
   .rw[g2 _ _ e] at J;cases J
   .exact J
 have hup:∀(q:PM),q.le (T.get h.tr)->(∀i∈X,q i=none)->q.le (T.get h'.tr):=λq hq hz i x hx=>by
  rw[hk.get i (s.wf _ _ (hq _ _ hx)) (λhi=>Q)];exact hq _ _ hx
 have I:∀(q:PM),q.le (T.get h.tr)->(∀i∈X,q i=none)->m₀.dj q:=λq hq hz i=>by
  cases e:m₀ i with
  |none=>simp
  |some x =>
   right;rcases hn i Q with hi|hi
   .grind
   .cases J:q i with
    |none=>rfl
    |some y=>exact absurd (s.wf _ _ (hq _ _ J)) (Nat.not_lt.2 hi)
 have nM:=hup b (PM.le_trans g3 h1) hXb;have hd:=I b (PM.le_trans g3 h1) hXb;exact⟨hk.wf,m₀.un b,r,PM.Gp hm nM,hup r h2 hXr,PM.Gq (I r h2 hXr) (PM.pI h3 g3 (PM.le_refl _)),m₀,b,hd,PM.Ll _ _,PM.Lm hd,hB r,g5⟩
end
theorem bh (v:V)(l:List Nat): cQ (bu v l) (cT v l):=λ_ _ h=>.inl (vD.view h)
theorem fX (v:V)(l:List Nat): cQ (Gr v l) (cT v l):=λ_ _ h=>.inr h
theorem bg.dL (v:V)(l:List Nat): bg (.dL v l):=λ_ _ h=>h
section
variable {v:V}
theorem Sat.aQ (k)(s:Sat h S)(J:getA S k=some X)(hX:cQ X (cT v l)): View h v l:=by
 obtain⟨m,r,h1,h2,h3⟩:=s.at J;rcases hX _ _ h3 with I|I
 .exact ViewM.up I h1
 .exact ViewM.up I h2
theorem Sat.buf (s:Sat h S)(I:getA S k=some (bu v l)): j3 h v l:=by
 obtain⟨m,r,h1,h2,J⟩:=s.at I;exact vD.up (l:=l) J h1
theorem O4 {m:PM}(I:vD m v l): ∀i∈rowIds v,m i≠none:=by
 obtain⟨_,h2⟩:=I<;>grind[rowIds]
theorem O5 (I:j3 h v l): vD (λi=>if i∈rowIds v then T.get h.tr i else none) v l:=by
 obtain⟨h1,h2⟩:=I;refine⟨h1,?_⟩<;>grind[rowIds]
theorem Td (L:List Nat): PM.le (λi=>if i∈L then T.get h.tr i else none) (T.get h.tr):=λi x I=>by
 grind
theorem Sat.Lp (s:Sat h S)(I:ew k [] h h')(J:j3 h' v l)(hn:∀i∈rowIds v,h.next<=i): Sat h' (bu v l::S):=by
 have s':Sat h (pu True::S):=s.eF aa;refine s'.adb (B:=bu v l) (m₀:=λi=>if i∈rowIds v then T.get h'.tr i else none) I (λ_ _ _ _ _ i hi=>by cases hi) (Td _) (λ_=>O5 J) (λi hi=>.inr ?_)<;>grind
theorem Sat.DM {v':V}{l':List Nat}(s:Sat h (bu v l::S))(I:ew k (rowIds v) h h')(J:j3 h' v' l')(hn:∀i∈rowIds v',i∈rowIds v\/h.next<=i): Sat h' (bu v' l'::S):=by
 refine s.adb (B:=bu v' l') (m₀:=λi=>if i∈rowIds v' then T.get h'.tr i else none) I (λ_ _ _ _ h=>O4 h) (Td _) (λ_=>O5 J) (λi hi=>?_)<;>grind
theorem Sat.ic (s:Sat h (bu v l::S)): Sat h (Gr v l::S):=by
 obtain⟨m,r,h1,h2,J,a,b,g1,g2,g3,g4,g5⟩:=s.ok;have I:r.dj a:=PM.rS (PM.pI J g2 (PM.le_refl _));exact⟨s.wf,b,r.un a,PM.le_trans g3 h1,PM.Gp h2 (PM.le_trans g2 h1),PM.rS (PM.Gq (PM.rS (PM.pI J g3 (PM.le_refl _))) g1),λ_=>none,b,λ_=>.inl U,λ_ _ h=>(by cases h),PM.le_refl _,(vD.view g4).up (PM.Lm I),aH.up g5 (PM.le_refl _) (PM.Ll _ _)⟩
end
theorem ade {a b c d:H}{l:List H}{p:H->Prop}(I:p a)(J:p b)(hc:p c)(hd:p d): ∀x∈((a::b::c::d::l).drop 0).take 4,p x:=by
 grind
section
variable {v:V}
theorem Sat.ld (k)(s:Sat h S)(I:getA S k=some (pt id (.cells n cs st)))(J:isAggT P t=some false)(hn:nth cs off=some v): loadV P h t (.ptr id off)=some v:=S8 J (s.row I) hn
theorem Sat.bW (s:Sat h S)(I:getA S k=some (pt id (.cells n cs st)))(J:isAggT P t=some true)(hs:bf P t=some n): loadV P h t (.ptr id 0)=some (.agg cs):=Am.bW J hs (s.row I)
theorem Sat.cS (s:Sat h S)(J:getA S k=some (pt id (.cells n cs false)))(hs:bf P t=some 1)(hl:cs.length=n)(ho:off<n)(hv:v.cells=[v])(I:storable v=true):
  ∃h₁,ga P h t (.ptr id off) v=some h₁/\Sat h₁ (setA S k (pt id (.cells n (cs.set off v) false))):=by
 refine⟨h.put id (some (.cells n (cs.set off v) false)),?_,s.put J⟩;simp only[ga,hs,hv,cK,eN,mF,m_,I,Dx];rw[show Nat.beq (0+1) 1=true from U,ak];simp only[wrN,s.row J,cK,eN];rw[aN.2 (show off+(0+1)<=n by omega),ak];congr 3;rw[HI,bk Y];cases hc:(Nat.beq off 0&&Nat.beq (0+1) n) with
 |true =>
  simp only[b9,beq_iff] at hc;obtain⟨rfl,rfl⟩:=hc;rw[ak];have:cs.drop (0+1)=[]:=mA Y;simp[this]
 |false=>rw[bq];rfl
theorem Sat.stN {l:List V}(s:Sat h S)(J:getA S k=some (pt id (.cells n cs false)))(hs:bf P t=some l.length)(hl:cs.length=n)(ho:off+l.length<=n)(I:l.all storable=true):
  ∃h₁,ga P h t (.ptr id off) (.agg l)=some h₁/\Sat h₁ (setA S k (pt id (.cells n (cs.take off++(l++cs.drop (off+l.length))) false))):=by
 refine⟨h.put id (some (.cells n (cs.take off++(l++cs.drop (off+l.length))) false)),?_,s.put J⟩;simp only[ga,hs,V.cells,I,fM,oE,ak,wrN,s.row J];grind[aN,beq_iff,List.drop_eq_nil_of_le]
end
section
variable {au:Nat}
theorem aq.bG (s:Sat h S)(I:wantE L E o.guard=some true)(hd:o.dst=some d)(J:Nat.blt d au=true)(ho:opE C.P E h o.op=some (.ptr h.next 0,newRow h cs))
 (hr:∀id h₁,Sat h₁ (pt id (.cells cs.length cs false)::S)->aq C au L rest ((d,.ptr id 0)::E) h₁ R): aq C au L (o::rest) E h R :=
 aq.op I hd J ho (hr _ _ (s.new _))
theorem aq.dX {v:V}(J:wantE L E o.guard=some true)(hd:o.dst=none)(I:o.op=.store t x y)(hx:bp E x=some v)(hy:bp E y=some u)
 (ho:∃h₁,ga C.P h t v u=some h₁/\Sat h₁ S')(hr:∀h₁,Sat h₁ S'->aq C au L rest E h₁ R): aq C au L (o::rest) E h R:=by
 obtain⟨h₁,e1,e2⟩:=ho;exact aq.SV J hd (by rw[I];exact wO hx hy e1) (hr h₁ e2)
theorem WP.label {l:Nat}(I:a8 .normal E h): WP C au (.label l) E h a8:=λenv J=>⟨1,.normal,env,h,E,U,J,I⟩
theorem WP.split {a b:Code}{t:Bool}(I:bp E x=some (.bool t))(h1:t=true->WP C au a E h a8)(h2:t=false->WP C au b E h a8): WP C au (.cond x a b) E h a8:=by
 grind[WP.cond]
theorem WP.QE {a b:Code}{t:Bool}(I:bp E x=some (.bool t))(J:t=true)(h1:WP C au a E h a8): WP C au (.cond x a b) E h a8:=by
 subst J;exact WP.cond I h1
theorem WP.Zo {a b:Code}{t:Bool}(I:bp E x=some (.bool t))(J:t=false)(h1:WP C au b E h a8): WP C au (.cond x a b) E h a8:=by
 subst J;exact WP.cond I h1
end
section
variable {a b:Operand} {v:V}
theorem Zp {t:Nat}(I:bp E x=some v)(J:uQ P t v i=some r): opE P E h (.field t x i)=some (r,h):=by grind[opE,kq,bE]
theorem aeQ : opE P E h (.makeMap t none)=some (.map h.next,h.new (.map [] 0)):=rfl
theorem e_ {ok:Bool}(I:bp E x=some v)(J:bp E y=some u)(hf:eO P h t v u ok=some r): opE P E h (.lookup t x y ok)=some (r,h):=by grind[opE,ym,bE]
theorem Zq {t:Nat}(I:uQ P t (.agg cs) i=nth cs off)(J:nth cs off=some r): uQ P t (.agg cs) i=some r:=Q
theorem ie {s d:TypeId}{k k':IntKind}{n:Int}(hs:P.underlying s=some td)(hd:P.underlying d=some (.int k'))(I:k'.wrap n=n): convV P h s d (.int k n)=some (.int k' n,h):=by simp only[convV,hs,hd,I]
theorem cvW {s d:TypeId}{k k':IntKind}{n:Int}(hs:P.underlying s=some td)(hd:P.underlying d=some (.int k')): convV P h s d (.int k n)=some (.int k' (k'.wrap n),h):=by simp only[convV,hs,hd]
theorem Gt {o:Nat}{c:Cap}(hu:P.underlying t=some (.slice e)): lenV P h t (.sl i o n c)=some (.int .i64 n):=by simp only[lenV,hu]
theorem DN (hu:P.underlying t=some (.slice e)): lenV P h t .aP=some (.int .i64 0):=by simp only[lenV,hu]
theorem bC (hu:P.underlying t=some (.slice e))(I:View h v l): lenV P h t v=some (.int .i64 l.length):=by
 obtain⟨_,I⟩:=I;rcases I with⟨rfl|⟨J,rfl⟩,rfl⟩|⟨id,off,cap,n,cs,st,rfl,_⟩<;>simp[lenV,hu]
theorem mki_of (hu:P.underlying t=some td)(I:(match td with|.interface _=>false|_=>true)=true): makeIfaceV P t v=some (.iface t v):=by
 grind[makeIfaceV]
end
section
theorem ay {n:Int}(h1 : -9223372036854775808<=n:=by omega)(h2:n<9223372036854775808:=by omega): IntKind.wrap .i64 n=n:=by
 grind[IntKind.bits,IntKind.wrap,IntKind.signed]
theorem eB {n:Int}(h1:0<=n:=by omega)(h2:n<18446744073709551616:=by omega): IntKind.wrap .u64 n=n:=by
 grind[IntKind.wrap,IntKind.bits,IntKind.signed]
theorem aaE {n:Int}(h1:0<=n)(h2:n<4294967296): IntKind.wrap .u32 n=n:=by
 grind[IntKind.wrap,IntKind.bits,IntKind.signed]
theorem An {n:Int}(h1:0<=n:=by omega)(h2:n<256:=by omega): IntKind.wrap .u8 n=n:=by
 grind[IntKind.wrap,IntKind.bits,IntKind.signed]
variable {a b:Int}
theorem aT {k:IntKind}(hw:k.wrap (a+b)=a+b): binV P h .add t x y (.int k a) (.int k b)=some (.int k (a+b)):=by
 simp_all[binV,eS,intV]
theorem gz {k:IntKind}(hw:k.wrap (a-b)=a-b): binV P h .sub t x y (.int k a) (.int k b)=some (.int k (a-b)):=by
 simp_all[binV,eS,intV]
theorem jM {k:IntKind}(hw:k.wrap (a*b)=a*b): binV P h .mul t x y (.int k a) (.int k b)=some (.int k (a*b)):=by
 simp_all[binV,eS,intV]
theorem bH {k:IntKind}: binV P h .eql t x y (.int k a) (.int k b)=some (.bool (decide (a=b))):=by
 simp only[binV,eS,ak,intV];cases I:intBeq a b with
 |true=>simp[yj I]
 |false =>
  by_cases he:a=b
  .grind[uM]
  .grind
theorem aE {k:IntKind}: binV P h .neq t x y (.int k a) (.int k b)=some (.bool (!decide (a=b))):=by
 simp only[binV,eS,ak,intV];cases I:intBeq a b with
 |true=>simp[yj I]
 |false =>
  by_cases he:a=b
  .grind[uM]
  .grind
theorem aG {k:IntKind}: binV P h .lss t x y (.int k a) (.int k b)=some (.bool (decide (a<b))):=by simp[binV,eS,intV]
theorem rj {k:IntKind}: binV P h .leq t x y (.int k a) (.int k b)=some (.bool (decide (a<=b))):=by simp[binV,eS,intV]
theorem dc {k:IntKind}: binV P h .gtr t x y (.int k a) (.int k b)=some (.bool (decide (a>b))):=by simp[binV,eS,intV]
theorem dO {k:IntKind}: binV P h .geq t x y (.int k a) (.int k b)=some (.bool (decide (a>=b))):=by simp[binV,eS,intV]
theorem EF : ∀ {l m:List Nat},natsBeq l m=decide (l=m):=by
 intro l;induction l with
 |nil=>grind[natsBeq]
 |cons a l I =>
  intro m;cases m<;>grind[natsBeq,Nat.beq_refl,eE]
theorem Zr {m:List Nat}: binV P h .eql t x y (.str l) (.str m)=some (.bool (decide (l=m))):=by simp[binV,strV,EF]
end
section
variable {au:Nat} {p:Bool}
theorem aq.ot (I:wantE L E o.guard=some true)(hd:o.dst=some d)(J:Nat.blt d au=true)(ho:opE C.P E h o.op=some (.bool p,h))(hp:p=true)(hw:aq C au L rest ((d,.bool true)::E) h R): aq C au L (o::rest) E h R:=by
 grind[aq.op]
theorem aq.kK (I:wantE L E o.guard=some true)(hd:o.dst=some d)(J:Nat.blt d au=true)(ho:opE C.P E h o.op=some (.bool p,h))(hp:p=false)(hw:aq C au L rest ((d,.bool false)::E) h R): aq C au L (o::rest) E h R:=by
 grind[aq.op]
theorem aq.opB (I:wantE L E o.guard=some true)(hd:o.dst=some d)(J:Nat.blt d au=true)(ho:opE C.P E h o.op=some (.bool p,h))(ht:p=true->aq C au L rest ((d,.bool true)::E) h R)(hf:p=false->aq C au L rest ((d,.bool false)::E) h R): aq C au L (o::rest) E h R:=by
 cases p<;>grind[aq.op]
theorem aq.Cg (s:Sat h S)(J:wantE L E o.guard=some true)(hd:o.dst=some d)(hn:Nat.blt d au=true)(I:o.op=.makeMap t none)
 (hr:∀id h₁,Sat h₁ (pt id (.map [] 0)::S)->aq C au L rest ((d,.map id)::E) h₁ R): aq C au L (o::rest) E h R :=
 aq.op J hd hn (by rw[I];exact aeQ) (hr _ _ (s.new _))
theorem aq.cy (hg:wantE L E o.guard=some true)(hd:o.dst=none)(ho:OpR C E h o AN)
 (hw:∀v h₁,AN v h₁->aq C au L rest E h₁ R): aq C au L (o::rest) E h R:=by
 intro env J;obtain⟨v,h₁,hr,qI⟩:=ho;obtain⟨N,hN⟩:=qI env J;obtain⟨M,I,h',E',h1,h2,h3⟩:=hw v h₁ hr env J;refine⟨Nat.max N M,I,h',E',?_,h2,h3⟩;simp only[evOps,lR J hg,ak,nN (fy (pZ N M)) hN,St.put,hd];exact sK (fy (pY N M)) _ _ _ h1
variable {a8:List (Nat×V)->H->List (List (Nat×V)×V)->List H->Prop}
theorem ah.ot (J:wantE L E o.guard=some true)(hd:o.dst=some d)(hn:Nat.blt d au=true)(he:isEff C o.op=false)(ho:opE C.P E h o.op=some (.bool p,h))(hp:p=true)
 (hw:ah C au L rest ((d,.bool true)::E) h hs λE' h' ts I=>a8 E' h' ((E,.bool true)::ts) I): ah C au L (o::rest) E h hs a8:=by
 grind[ah.op]
theorem ah.kK (J:wantE L E o.guard=some true)(hd:o.dst=some d)(hn:Nat.blt d au=true)(he:isEff C o.op=false)(ho:opE C.P E h o.op=some (.bool p,h))(hp:p=false)
 (hw:ah C au L rest ((d,.bool false)::E) h hs λE' h' ts I=>a8 E' h' ((E,.bool false)::ts) I): ah C au L (o::rest) E h hs a8:=by
 grind[ah.op]
theorem ah.opB (J:wantE L E o.guard=some true)(hd:o.dst=some d)(hn:Nat.blt d au=true)(he:isEff C o.op=false)(ho:opE C.P E h o.op=some (.bool p,h))
 (ht:p=true->ah C au L rest ((d,.bool true)::E) h hs λE' h' ts I=>a8 E' h' ((E,.bool true)::ts) I)
 (hf:p=false->ah C au L rest ((d,.bool false)::E) h hs λE' h' ts I=>a8 E' h' ((E,.bool false)::ts) I): ah C au L (o::rest) E h hs a8:=by
 cases p<;>grind[ah.op]
theorem OpR.dX {v:V}(I:o.op=.store t x y)(hx:bp E x=some v)(hy:bp E y=some u)
 (ho:∃h₁,ga C.P h t v u=some h₁/\Sat h₁ S'): OpR C E h o λw h₁=>w=cA/\Sat h₁ S':=by
 obtain⟨h₁,e1,J⟩:=ho;exact OpR.of (by grind[wO]) ⟨U,J⟩
theorem OpR.bG (s:Sat h S)(ho:opE C.P E h o.op=some (.ptr h.next 0,newRow h cs)):
  OpR C E h o λv h₁=>∃id,v=.ptr id 0/\Sat h₁ (pt id (.cells cs.length cs false)::S) :=
 OpR.of ho ⟨_,U,s.new _⟩
end
theorem Kz {t:Nat}{p v w:V}(I:look E a=some p)(hd:loadV P h t p=some v)(h2:look E b=some w): resLE P E h [.cell a t,.tmp b]=some (.aR [v,w]):=by grind[resLE,mapO,resE]
theorem jk {t:Nat}{v:V}(I:look E t=some v): resLE P E h [.tmp t]=some v:=by grind[resLE,mapO,resE]
def agt : Code->Nat->Code
 |.seq a _,0=>a
 |.seq _ b,_=>b
 |.cond _ a _,0=>a
 |.cond _ _ b,_=>b
 |.block _ a,_=>a
 |.loop a,_=>a
 |.scope a,_=>a
 |c,_=>c
def aV : List Nat->Code->Code
 |[],c=>c
 |k::ks,c=>aV ks (agt c k)
section
variable {au:Nat} {v:V} {p:Bool}
theorem zc {k:FuncId}{first:List V}(e:(wantE L E o.guard,o.dst,Nat.blt d au,o.op,cl.callee,bp E x,lookArgs E cl.args.toList)=(some true,some d,true,Op.call cl,Callee.value x,some (.fn (.func k) first cap),some args))
 (I:Call C k (first++(args++cap)) h AN)(hw:∀v h₁,AN v h₁->aq C au L rest ((d,v)::E) h₁ R): aq C au L (o::rest) E h R:=by
  simp only[bO] at e;exact aq.call e.1 e.2.1 e.2.2.1 e.2.2.2.1 e.2.2.2.2.1 e.2.2.2.2.2.1 e.2.2.2.2.2.2 I hw
theorem zt (e:(wantE L E o.guard,o.dst,Nat.blt d au)=(some true,some d,true))(ho:opE C.P E h o.op=some (.bool p,h))(I:p=true)(hw:aq C au L rest ((d,.bool true)::E) h R): aq C au L (o::rest) E h R:=by
  simp only[bO] at e;exact aq.ot e.1 e.2.1 e.2.2 ho I hw
theorem zh (e:(wantE L E o.guard,o.dst,Nat.blt d au)=(some true,some d,true))(ho:opE C.P E h o.op=some (.bool p,h))(I:p=false)(hw:aq C au L rest ((d,.bool false)::E) h R): aq C au L (o::rest) E h R:=by
  simp only[bO] at e;exact aq.kK e.1 e.2.1 e.2.2 ho I hw
theorem zd (e:(wantE L E o.guard,o.dst,Nat.blt d au)=(some true,some d,true))(ho:opE C.P E h o.op=some (.bool p,h))(I:p=true->aq C au L rest ((d,.bool true)::E) h R)(J:p=false->aq C au L rest ((d,.bool false)::E) h R): aq C au L (o::rest) E h R:=by
  simp only[bO] at e;exact aq.opB e.1 e.2.1 e.2.2 ho I J
theorem zB {op:BinOp}(e:(o.op,wantE L E o.guard,o.dst,Nat.blt d au,bp E x,bp E y)=(Op.binOp op t x y t',some true,some d,true,some v,some u))(I:binV C.P h op t x y v u=some (.bool p))(J:p=true)(hw:aq C au L rest ((d,.bool true)::E) h R): aq C au L (o::rest) E h R:=by
  simp only[bO] at e;exact aq.ot e.2.1 e.2.2.1 e.2.2.2.1 (by rw[e.1];exact ag e.2.2.2.2.1 e.2.2.2.2.2 I) J hw
theorem zC {op:BinOp}(e:(o.op,wantE L E o.guard,o.dst,Nat.blt d au,bp E x,bp E y)=(Op.binOp op t x y t',some true,some d,true,some v,some u))(I:binV C.P h op t x y v u=some (.bool p))(J:p=false)(hw:aq C au L rest ((d,.bool false)::E) h R): aq C au L (o::rest) E h R:=by
  simp only[bO] at e;exact aq.kK e.2.1 e.2.2.1 e.2.2.2.1 (by rw[e.1];exact ag e.2.2.2.2.1 e.2.2.2.2.2 I) J hw
theorem zy (s:Sat h S)(k:Nat)(I:isAggT C.P t=some false)(e:(o.op,wantE L E o.guard,o.dst,Nat.blt d au,bp E x,getA S k,nth cs off)=(Op.load t x,some true,some d,true,some (V.ptr id off),some (pt id (.cells n cs st)),some v))(hw:aq C au L rest ((d,v)::E) h R): aq C au L (o::rest) E h R:=by
  simp only[bO] at e;exact aq.op e.2.1 e.2.2.1 e.2.2.2.1 (by rw[e.1];exact o_load e.2.2.2.2.1 (s.ld _ e.2.2.2.2.2.1 I e.2.2.2.2.2.2)) hw
theorem zY {I:Oper}{J:Operand}{ah3:TypeId}(s:Sat h S)(k:Nat)(hf:∀a b:Nat,fieldAddrV C.P ah3 (.ptr a b) i=some (.ptr a (b+j)))(ha:isAggT C.P t=some false)
 (e:(I.op,wantE L E I.guard,I.dst,Nat.blt pH au,bp E J,o.op,wantE L ((pH,.ptr a (b+j))::E) o.guard,o.dst,Nat.blt d au,bp ((pH,.ptr a (b+j))::E) x,getA S k,nth cs (b+j))=(Op.fieldAddr ah3 J i,some true,some pH,true,some (V.ptr a b),Op.load t x,some true,some d,true,some (V.ptr a (b+j)),some (pt a (.cells n cs st)),some v))
 (hw:aq C au L rest ((d,v)::(pH,.ptr a (b+j))::E) h R): aq C au L (I::o::rest) E h R:=by
  simp only[bO] at e;obtain⟨e1,e2,e3,e4,e5,e6,e7,e8,e9,e10,e11,e12⟩:=e;exact aq.op e2 e3 e4 (by rw[e1];exact gy e5 (hf a b)) (aq.op e7 e8 e9 (by rw[e6];exact o_load e10 (s.ld _ e11 ha e12)) hw)
theorem zR {res:List ResultVar}(e:resLE C.P E h res=some v)(I:AN v h): WP C au .ret E h (λex E' h'=>(match ex with|.exit _=>False|_=>True)/\∃v,resLE C.P E' h' res=some v/\AN v h') :=
  WP.ret ⟨aa,_,e,I⟩
theorem zS (e:(wantE L E o.guard,o.dst,o.op,bp E x,bp E y)=(some true,none,Op.store t x y,some v,some u))(ho:∃h₁,ga C.P h t v u=some h₁/\Sat h₁ S')(I:∀h₁,Sat h₁ S'->aq C au L rest E h₁ R): aq C au L (o::rest) E h R:=by
  simp only[bO] at e;exact aq.dX e.1 e.2.1 e.2.2.1 e.2.2.2.1 e.2.2.2.2 ho I
end
theorem Te : bf prog 2=some 1:=bo
theorem Gu : isAggT prog 2=some false:=bo
theorem zt2 : zeroT prog 2=some (.int .i64 0):=bo
theorem kr : bf prog 3=some 1:=bo
theorem cW : isAggT prog 3=some false:=bo
theorem EG : zeroT prog 3=some (.int .i64 0):=bo
theorem BB : bf prog 4=some 1:=bo
theorem nO : isAggT prog 4=some false:=bo
theorem zt4 : zeroT prog 4=some (.bool false):=bo
theorem Zs : bf prog 5=some 1:=bo
theorem zt5 : zeroT prog 5=some (.int .u8 0):=bo
theorem jN : bf prog 23=some 1:=bo
theorem cF : isAggT prog 23=some false:=bo
theorem vE : zeroT prog 23=some .aP:=bo
theorem kU : isAggT prog 25=some false:=bo
theorem nr : isAggT prog 26=some false:=bo
theorem gL : bf prog 32=some 1:=bo
theorem b8 : isAggT prog 32=some false:=bo
theorem rq : zeroT prog 32=some (.int .u64 0):=bo
theorem oR : bf prog 33=some 1:=bo
theorem j5 : isAggT prog 33=some false:=bo
theorem Lq : zeroT prog 33=some .aP:=bo
theorem agu : zeroT prog 34=some (.int .i64 0):=bo
theorem mw : isAggT prog 40=some false:=bo
theorem Wx : isAggT prog 50=some false:=bo
theorem agv : bf prog 54=some 1:=bo
theorem my : isAggT prog 54=some false:=bo
theorem agw : bf prog 59=some 4:=bo
theorem agx : isAggT prog 59=some true:=bo
theorem adf (a b:Nat): fieldAddrV prog 59 (.ptr a b) 0=some (.ptr a (b+0)):=bo
theorem Tf (a b:Nat): fieldAddrV prog 59 (.ptr a b) 1=some (.ptr a (b+1)):=bo
theorem nu (a b:Nat): fieldAddrV prog 59 (.ptr a b) 2=some (.ptr a (b+2)):=bo
theorem Ch (a b:Nat): fieldAddrV prog 59 (.ptr a b) 3=some (.ptr a (b+3)):=bo
theorem agy : bf prog 72=some 1:=bo
theorem yR : isAggT prog 72=some false:=bo
theorem adg : bf prog 78=some 1:=bo
theorem Ii : isAggT prog 78=some false:=bo
theorem Wy : bf prog 86=some 1:=bo
theorem mz : isAggT prog 86=some false:=bo
theorem Wz : bf prog 87=some 1:=bo
theorem ny : isAggT prog 87=some false:=bo
theorem WA : bf prog 88=some 1:=bo
theorem oS : isAggT prog 88=some false:=bo
theorem dP : bf prog 90=some 5:=bo
theorem i_ : isAggT prog 90=some true:=bo
theorem Fk : zeroT prog 90=some (.agg [.aP,.aP,.aP,.aP,.aP]):=bo
theorem pJ (a b:Nat): fieldAddrV prog 90 (.ptr a b) 0=some (.ptr a (b+0)):=bo
theorem kL (a b:Nat): fieldAddrV prog 90 (.ptr a b) 1=some (.ptr a (b+1)):=bo
theorem je (a b:Nat): fieldAddrV prog 90 (.ptr a b) 2=some (.ptr a (b+2)):=bo
theorem jJ (a b:Nat): fieldAddrV prog 90 (.ptr a b) 3=some (.ptr a (b+3)):=bo
theorem kM (a b:Nat): fieldAddrV prog 90 (.ptr a b) 4=some (.ptr a (b+4)):=bo
theorem agz (ps:List (Nat×V)): buildV prog 90 ps=(fillV (nth [(0,1),(1,1),(2,1),(3,1),(4,1)]) ((.agg [.aP,.aP,.aP,.aP,.aP]):V).cells ps).map .agg:=bo
theorem sP : bf prog 94=some 1:=bo
theorem Ci : isAggT prog 94=some false:=bo
theorem Lr : zeroT prog 94=some .aP:=bo
theorem DO : bf prog 102=some 1:=bo
theorem sQ : isAggT prog 102=some false:=bo
theorem gq : bf prog 104=some 6:=bo
theorem kV : isAggT prog 104=some true:=bo
theorem sR : zeroT prog 104=some (.agg [(.int .i64 0),(.int .u64 0),(.int .u64 0),(.int .u64 0),.aP,.aP]):=bo
theorem qj (a b:Nat): fieldAddrV prog 104 (.ptr a b) 0=some (.ptr a (b+0)):=bo
theorem Ij (a b:Nat): fieldAddrV prog 104 (.ptr a b) 1=some (.ptr a (b+1)):=bo
theorem Ik (a b:Nat): fieldAddrV prog 104 (.ptr a b) 2=some (.ptr a (b+2)):=bo
theorem Il (a b:Nat): fieldAddrV prog 104 (.ptr a b) 3=some (.ptr a (b+3)):=bo
theorem DP (a b:Nat): fieldAddrV prog 104 (.ptr a b) 4=some (.ptr a (b+4)):=bo
theorem ku (a b:Nat): fieldAddrV prog 104 (.ptr a b) 5=some (.ptr a (b+5)):=bo
theorem vY (ps:List (Nat×V)): buildV prog 104 ps=(fillV (nth [(0,1),(1,1),(2,1),(3,1),(4,1),(5,1)]) ((.agg [(.int .i64 0),(.int .u64 0),(.int .u64 0),(.int .u64 0),.aP,.aP]):V).cells ps).map .agg:=bo
theorem KA : isAggT prog 106=some false:=bo
theorem Zt (a b l:Nat)(c:Cap)(k:IntKind)(n:Int): indexAddrV prog 106 (.sl a b l c) (.int k n)=cond (decide (0<=n)&&decide (n<(l:Int))) (some (.ptr a (b+n.toNat*1))) none:=bo
theorem Zu : bf prog 107=some 1:=bo
theorem QF : isAggT prog 107=some false:=bo
theorem oX : isAggT prog 108=some false:=bo
theorem aeR : bf prog 109=some 1:=bo
theorem O6 (a b:Nat): fieldAddrV prog 111 (.ptr a b) 0=some (.ptr a (b+0)):=bo
theorem DQ (a b:Nat): fieldAddrV prog 111 (.ptr a b) 1=some (.ptr a (b+1)):=bo
theorem DR (a b:Nat): fieldAddrV prog 111 (.ptr a b) 2=some (.ptr a (b+2)):=bo
theorem DS (a b:Nat): fieldAddrV prog 111 (.ptr a b) 3=some (.ptr a (b+3)):=bo
theorem ud (a b:Nat): fieldAddrV prog 111 (.ptr a b) 4=some (.ptr a (b+4)):=bo
theorem Ao (a b:Nat): fieldAddrV prog 111 (.ptr a b) 5=some (.ptr a (b+5)):=bo
theorem Im (a b:Nat): fieldAddrV prog 111 (.ptr a b) 6=some (.ptr a (b+6)):=bo
theorem DT (a b:Nat): fieldAddrV prog 111 (.ptr a b) 7=some (.ptr a (b+7)):=bo
theorem DU (a b:Nat): fieldAddrV prog 111 (.ptr a b) 8=some (.ptr a (b+8)):=bo
theorem lJ (a b:Nat): fieldAddrV prog 111 (.ptr a b) 9=some (.ptr a (b+9)):=bo
theorem WB (a b:Nat): fieldAddrV prog 111 (.ptr a b) 10=some (.ptr a (b+10)):=bo
theorem WD (a b:Nat): fieldAddrV prog 111 (.ptr a b) 11=some (.ptr a (b+11)):=bo
theorem aeS (ps:List (Nat×V)): buildV prog 111 ps=(fillV (nth [(0,1),(1,1),(2,1),(3,1),(4,1),(5,1),(6,1),(7,1),(8,1),(9,1),(10,1),(11,1)]) ((.agg [(.int .i64 0),.aP,.aP,.lM,.aP,(.int .i64 0),.aP,(.int .i64 0),(.int .i64 0),(.bool false),.aW,.aP]):V).cells ps).map .agg:=bo
theorem vZ : isAggT prog 115=some false:=bo
theorem ue (a b:Nat): fieldAddrV prog 121 (.ptr a b) 0=some (.ptr a (b+0)):=bo
theorem jA (a b:Nat): fieldAddrV prog 121 (.ptr a b) 1=some (.ptr a (b+1)):=bo
theorem ql (a b:Nat): fieldAddrV prog 121 (.ptr a b) 2=some (.ptr a (b+2)):=bo
theorem rT (a b:Nat): fieldAddrV prog 121 (.ptr a b) 3=some (.ptr a (b+3)):=bo
theorem O7 (a b:Nat): fieldAddrV prog 121 (.ptr a b) 4=some (.ptr a (b+4)):=bo
theorem Io (a b:Nat): fieldAddrV prog 121 (.ptr a b) 5=some (.ptr a (b+5)):=bo
theorem aeT (ps:List (Nat×V)): buildV prog 121 ps=(fillV (nth [(0,1),(1,1),(2,1),(3,1),(4,1),(5,1)]) ((.agg [.aW,.aW,.aW,.aW,.aP,(.int .u64 0)]):V).cells ps).map .agg:=bo
theorem mM : bf prog 122=some 1:=bo
theorem jV : isAggT prog 122=some false:=bo
theorem Gv : zeroT prog 122=some .aP:=bo
theorem rU (a b:Nat): fieldAddrV prog 124 (.ptr a b) 0=some (.ptr a (b+0)):=bo
theorem jB (a b:Nat): fieldAddrV prog 124 (.ptr a b) 1=some (.ptr a (b+1)):=bo
theorem kx (a b:Nat): fieldAddrV prog 124 (.ptr a b) 2=some (.ptr a (b+2)):=bo
theorem kz (a b:Nat): fieldAddrV prog 124 (.ptr a b) 3=some (.ptr a (b+3)):=bo
theorem wP (a b:Nat): fieldAddrV prog 124 (.ptr a b) 4=some (.ptr a (b+4)):=bo
theorem uf (a b:Nat): fieldAddrV prog 124 (.ptr a b) 5=some (.ptr a (b+5)):=bo
theorem aeU (ps:List (Nat×V)): buildV prog 124 ps=(fillV (nth [(0,1),(1,1),(2,1),(3,1),(4,1),(5,1)]) ((.agg [.aW,(.int .u64 0),.aP,.aP,(.int .i64 0),(.int .u64 0)]):V).cells ps).map .agg:=bo
theorem QG : bf prog 128=some 2:=bo
theorem aeV : isAggT prog 128=some true:=bo
theorem QH : zeroT prog 128=some (.agg [(.int .i64 0),.aP]):=bo
theorem aaF (a b:Nat): fieldAddrV prog 128 (.ptr a b) 1=some (.ptr a (b+1)):=bo
theorem aeW (ps:List (Nat×V)): buildV prog 128 ps=(fillV (nth [(0,1),(1,1)]) ((.agg [(.int .i64 0),.aP]):V).cells ps).map .agg:=bo
theorem oH (a b:Nat): fieldAddrV prog 139 (.ptr a b) 0=some (.ptr a (b+0)):=bo
theorem wQ (a b:Nat): fieldAddrV prog 139 (.ptr a b) 1=some (.ptr a (b+1)):=bo
theorem aeX (ps:List (Nat×V)): buildV prog 139 ps=(fillV (nth [(0,1),(1,1)]) ((.agg [.aW,(.int .i64 0)]):V).cells ps).map .agg:=bo
theorem aeY : isAggT prog 141=some false:=bo
theorem kA : isAggT prog 142=some false:=bo
theorem nA (a b:Nat): fieldAddrV prog 144 (.ptr a b) 0=some (.ptr a (b+0)):=bo
theorem aaG (a b:Nat): fieldAddrV prog 144 (.ptr a b) 1=some (.ptr a (b+1)):=bo
theorem iw (a b:Nat): fieldAddrV prog 144 (.ptr a b) 2=some (.ptr a (b+2)):=bo
theorem DV (a b:Nat): fieldAddrV prog 144 (.ptr a b) 3=some (.ptr a (b+3)):=bo
theorem aeZ (ps:List (Nat×V)): buildV prog 144 ps=(fillV (nth [(0,1),(1,1),(2,1),(3,1)]) ((.agg [.aW,.jZ,.lM,(.int .u64 0)]):V).cells ps).map .agg:=bo
theorem nV : isAggT prog 145=some false:=bo
theorem QI : zeroT prog 145=some .aW:=bo
theorem QJ : isAggT prog 146=some false:=bo
theorem Zv : bf prog 147=some 1:=bo
theorem Gw : isAggT prog 147=some false:=bo
theorem DW (a b:Nat): fieldAddrV prog 149 (.ptr a b) 0=some (.ptr a (b+0)):=bo
theorem wR (a b:Nat): fieldAddrV prog 149 (.ptr a b) 1=some (.ptr a (b+1)):=bo
theorem rV (a b:Nat): fieldAddrV prog 149 (.ptr a b) 2=some (.ptr a (b+2)):=bo
theorem oI (a b:Nat): fieldAddrV prog 149 (.ptr a b) 3=some (.ptr a (b+3)):=bo
theorem wS (a b:Nat): fieldAddrV prog 149 (.ptr a b) 4=some (.ptr a (b+4)):=bo
theorem ug (a b:Nat): fieldAddrV prog 149 (.ptr a b) 5=some (.ptr a (b+5)):=bo
theorem Ip (a b:Nat): fieldAddrV prog 149 (.ptr a b) 6=some (.ptr a (b+6)):=bo
theorem ae0 (ps:List (Nat×V)): buildV prog 149 ps=(fillV (nth [(0,1),(1,1),(2,1),(3,1),(4,1),(5,1),(6,1)]) ((.agg [(.int .u64 0),(.int .u64 0),(.int .u64 0),(.int .u64 0),.aP,.aP,.lM]):V).cells ps).map .agg:=bo
theorem O8 (a b:Nat): fieldAddrV prog 161 (.ptr a b) 0=some (.ptr a (b+0)):=bo
theorem ae1 (ps:List (Nat×V)): buildV prog 161 ps=(fillV (nth [(0,1)]) ((.agg [.aW]):V).cells ps).map .agg:=bo
theorem ae2 : isAggT prog 164=some false:=bo
theorem ae3 : zeroT prog 164=some .aP:=bo
theorem ae4 : bf prog 174=some 3:=bo
theorem rW (a b:Nat): fieldAddrV prog 174 (.ptr a b) 0=some (.ptr a (b+0)):=bo
theorem uh (a b:Nat): fieldAddrV prog 174 (.ptr a b) 1=some (.ptr a (b+1)):=bo
theorem DX (a b:Nat): fieldAddrV prog 174 (.ptr a b) 2=some (.ptr a (b+2)):=bo
theorem ae5 (ps:List (Nat×V)): buildV prog 174 ps=(fillV (nth [(0,1),(1,1),(2,1)]) ((.agg [.aW,.lM,(.bool false)]):V).cells ps).map .agg:=bo
theorem bN : bf prog 176=some 1:=bo
theorem cG : isAggT prog 176=some true:=bo
theorem kW : zeroT prog 176=some (.agg [.aP]):=bo
theorem iT (a b:Nat): fieldAddrV prog 176 (.ptr a b) 0=some (.ptr a (b+0)):=bo
theorem DY (ps:List (Nat×V)): buildV prog 176 ps=(fillV (nth [(0,1)]) ((.agg [.aP]):V).cells ps).map .agg:=bo
theorem ae6 : bf prog 182=some 0:=bo
theorem Zw : zeroT prog 182=some (.agg []):=bo
theorem ae7 (ps:List (Nat×V)): buildV prog 182 ps=(fillV (nth []) ((.agg []):V).cells ps).map .agg:=bo
theorem v8 : bf prog 185=some 2:=bo
theorem Gx : isAggT prog 185=some true:=bo
theorem Gy : zeroT prog 185=some (.agg [(.int .u64 0),(.int .i64 0)]):=bo
theorem aaH (a b:Nat): fieldAddrV prog 185 (.ptr a b) 0=some (.ptr a (b+0)):=bo
theorem aaI (a b:Nat): fieldAddrV prog 185 (.ptr a b) 1=some (.ptr a (b+1)):=bo
theorem ae8 (ps:List (Nat×V)): buildV prog 185 ps=(fillV (nth [(0,1),(1,1)]) ((.agg [(.int .u64 0),(.int .i64 0)]):V).cells ps).map .agg:=bo
theorem KB : bf prog 191=some 2:=bo
theorem ae9 : isAggT prog 191=some true:=bo
theorem KC : zeroT prog 191=some (.agg [(.int .i64 0),(.int .i64 0)]):=bo
theorem O9 (a b:Nat): fieldAddrV prog 191 (.ptr a b) 0=some (.ptr a (b+0)):=bo
theorem aaJ (a b:Nat): fieldAddrV prog 191 (.ptr a b) 1=some (.ptr a (b+1)):=bo
theorem ae_ (ps:List (Nat×V)): buildV prog 191 ps=(fillV (nth [(0,1),(1,1)]) ((.agg [(.int .i64 0),(.int .i64 0)]):V).cells ps).map .agg:=bo
theorem QK : bf prog 210=some 2:=bo
theorem afa : isAggT prog 210=some true:=bo
theorem KD : zeroT prog 210=some (.agg [(.int .i64 0),(.int .u64 0)]):=bo
theorem aaK (a b:Nat): fieldAddrV prog 210 (.ptr a b) 1=some (.ptr a (b+1)):=bo
theorem afb (ps:List (Nat×V)): buildV prog 210 ps=(fillV (nth [(0,1),(1,1)]) ((.agg [(.int .i64 0),(.int .u64 0)]):V).cells ps).map .agg:=bo
theorem AT : isAggT prog 213=some false:=bo
theorem qY : isAggT prog 214=some false:=bo
theorem afc (a b l:Nat)(c:Cap)(k:IntKind)(n:Int): indexAddrV prog 214 (.sl a b l c) (.int k n)=cond (decide (0<=n)&&decide (n<(l:Int))) (some (.ptr a (b+n.toNat*5))) none:=bo
theorem uN : isAggT prog 215=some false:=bo
theorem Ap (a b:Nat): fieldAddrV prog 217 (.ptr a b) 0=some (.ptr a (b+0)):=bo
theorem aaL (a b:Nat): fieldAddrV prog 217 (.ptr a b) 1=some (.ptr a (b+1)):=bo
theorem mG (a b:Nat): fieldAddrV prog 217 (.ptr a b) 2=some (.ptr a (b+2)):=bo
theorem uj (a b:Nat): fieldAddrV prog 217 (.ptr a b) 3=some (.ptr a (b+3)):=bo
theorem oJ (a b:Nat): fieldAddrV prog 217 (.ptr a b) 4=some (.ptr a (b+4)):=bo
theorem Iq (a b:Nat): fieldAddrV prog 217 (.ptr a b) 5=some (.ptr a (b+5)):=bo
theorem afd (ps:List (Nat×V)): buildV prog 217 ps=(fillV (nth [(0,1),(1,1),(2,1),(3,1),(4,1),(5,1)]) ((.agg [.aW,.aW,.aP,.lM,.lM,(.int .i64 0)]):V).cells ps).map .agg:=bo
theorem yp : bf prog 220=some 2:=bo
theorem QL : isAggT prog 220=some true:=bo
theorem AU : zeroT prog 220=some (.agg [(.int .u64 0),(.bool false)]):=bo
theorem Ir (a b:Nat): fieldAddrV prog 220 (.ptr a b) 0=some (.ptr a (b+0)):=bo
theorem O_ (cs:List V): uQ prog 220 (.agg cs) 0=nth cs 0:=bo
theorem Is (a b:Nat): fieldAddrV prog 220 (.ptr a b) 1=some (.ptr a (b+1)):=bo
theorem afe (ps:List (Nat×V)): buildV prog 220 ps=(fillV (nth [(0,1),(1,1)]) ((.agg [(.int .u64 0),(.bool false)]):V).cells ps).map .agg:=bo
theorem Gz : bf prog 230=some 5:=bo
theorem aff : isAggT prog 230=some true:=bo
theorem afg : zeroT prog 230=some (.agg [(.int .i64 0),.aP,(.int .i64 0),(.bool false),(.bool false)]):=bo
theorem rX (a b:Nat): fieldAddrV prog 230 (.ptr a b) 0=some (.ptr a (b+0)):=bo
theorem DZ (a b:Nat): fieldAddrV prog 230 (.ptr a b) 1=some (.ptr a (b+1)):=bo
theorem uk (a b:Nat): fieldAddrV prog 230 (.ptr a b) 2=some (.ptr a (b+2)):=bo
theorem It (a b:Nat): fieldAddrV prog 230 (.ptr a b) 3=some (.ptr a (b+3)):=bo
theorem Iu (a b:Nat): fieldAddrV prog 230 (.ptr a b) 4=some (.ptr a (b+4)):=bo
theorem KE (ps:List (Nat×V)): buildV prog 230 ps=(fillV (nth [(0,1),(1,1),(2,1),(3,1),(4,1)]) ((.agg [(.int .i64 0),.aP,(.int .i64 0),(.bool false),(.bool false)]):V).cells ps).map .agg:=bo
theorem Pa (a b:Nat): fieldAddrV prog 234 (.ptr a b) 0=some (.ptr a (b+0)):=bo
theorem afh (ps:List (Nat×V)): buildV prog 234 ps=(fillV (nth [(0,1),(1,1)]) ((.agg [.lM,.lM]):V).cells ps).map .agg:=bo
theorem sS : bf prog 237=some 4:=bo
theorem QM : isAggT prog 237=some true:=bo
theorem qm : zeroT prog 237=some (.agg [(.int .i64 0),(.int .i64 0),(.bool false),.aP]):=bo
theorem D4 (a b:Nat): fieldAddrV prog 237 (.ptr a b) 0=some (.ptr a (b+0)):=bo
theorem um (a b:Nat): fieldAddrV prog 237 (.ptr a b) 1=some (.ptr a (b+1)):=bo
theorem D5 (a b:Nat): fieldAddrV prog 237 (.ptr a b) 2=some (.ptr a (b+2)):=bo
theorem rY (a b:Nat): fieldAddrV prog 237 (.ptr a b) 3=some (.ptr a (b+3)):=bo
theorem QN (ps:List (Nat×V)): buildV prog 237 ps=(fillV (nth [(0,1),(1,1),(2,1),(3,1)]) ((.agg [(.int .i64 0),(.int .i64 0),(.bool false),.aP]):V).cells ps).map .agg:=bo
theorem Zx (a b:Nat)(k:IntKind)(n:Int): indexAddrV prog 264 (.ptr a b) (.int k n)=cond (decide (0<=n)&&decide (n<(512:Nat))) (some (.ptr a (b+n.toNat*1))) none:=bo
theorem afi : bf prog 281=some 512:=bo
theorem afj : isAggT prog 281=some true:=bo
theorem nC (a b:Nat): fieldAddrV prog 320 (.ptr a b) 0=some (.ptr a (b+0)):=bo
theorem afk (ps:List (Nat×V)): buildV prog 320 ps=(fillV (nth [(0,1)]) ((.agg [.aP]):V).cells ps).map .agg:=bo
theorem afl (ps:List (Nat×V)): buildV prog 334 ps=(fillV (λi=>some (i*1,1)) ((.agg [(.int .u64 0),(.int .u64 0),(.int .u64 0)]):V).cells ps).map .agg:=bo
theorem QO : bf prog 344=some 1:=bo
theorem QS : isAggT prog 344=some false:=bo
theorem afm (ps:List (Nat×V)): buildV prog 345 ps=(fillV (λi=>some (i*1,1)) ((.agg [.aW,.aW,.aW]):V).cells ps).map .agg:=bo
theorem KF : bf prog 348=some 1:=bo
theorem AV : isAggT prog 348=some false:=bo
theorem afn : zeroT prog 348=some (.int .u64 0):=bo
def slR (v:V)(a b:Nat): V:=match v with
 |.sl id off _ (.exact c)=>.sl id (cond (Nat.beq c a) off (off+a*1)) (b-a) (.exact (c-a))
 |.sl id off _ (.rest _ alt)=>.sl id (off+a*1) (b-a) (.rest 1 (cond (Nat.beq a 0) alt (cond (Nat.blt a b) (off+a*1) off)))
 |v=>v
theorem dm {v:V}(hv:View h v l)(jS:a<=b)(hb:b<=l.length):
  sliceV prog h 23 v (some a) (some b) none=some (slR v a b)/\View h (slR v a b) ((l.take b).drop a)/\∀i∈rowIds (slR v a b),i∈rowIds v:=by
 have I:∀x∈(l.take b).drop a,x<256:=λx hx=>hv.1 x (lG (oC hx));have hlen:((l.take b).drop a).length=b-a:=Q;obtain⟨hl,J⟩:=hv;rcases J with⟨rfl|⟨ea,rfl⟩,rfl⟩|⟨id,off,cap,n,cs,st,rfl,hg,h1,h2,h3,h4⟩
 .simp only[eN] at hb;have:b=0:=Y;have:a=0:=Y
  subst_vars
  refine⟨?_,⟨cb,.inl ⟨.inl U,cb⟩⟩,λi hi=>hi⟩;simp only[sliceV,aZ,fK];rfl
 .simp only[eN] at hb;have:b=0:=Y;have:a=0:=Y
  subst_vars
  refine⟨?_,⟨cb,.inl ⟨.inr ⟨ea,U⟩,cb⟩⟩,λi hi=>hi⟩;simp only[sliceV,aZ,fK];rfl
 .have Kw:∀o,o=off+a\/b-a=0->(cs.drop o).take (b-a)=ofBytes ((l.take b).drop a):=by
   grind[ofBytes,List.map_drop,List.map_take,List.drop_take,List.drop_drop]
  cases cap with
  |exact c =>
   refine⟨?_,⟨I,.inr ⟨id,_,_,n,cs,st,by rw[hlen];rfl,hg,h1,?_,?_,?_⟩⟩,λi hi=>by simpa[rowIds,slR] using hi⟩
   .simp only[sliceV,slR,aZ,fK,eV];grind[aN]
   .grind
   .grind[eE]
   .omega
  |rest e alt =>
   have he:e=1:=h4;subst he;refine⟨?_,⟨I,.inr ⟨id,_,_,n,cs,st,by rw[hlen];rfl,hg,h1,Y,Q,U⟩⟩,λi hi=>by simpa[rowIds,slR] using hi⟩;simp only[sliceV,slR,aZ,fK,eV,fM];grind[aN]
theorem iy {v:V}(J:View h v l)(ha:a<=l.length):
  sliceV prog h 23 v (some a) none none=some (slR v a l.length)/\View h (slR v a l.length) (l.drop a)/\∀i∈rowIds (slR v a l.length),i∈rowIds v:=by
 obtain⟨h1,h2,h3⟩:=dm J ha (az _);refine⟨?_,Q,h3⟩;obtain⟨_,I⟩:=J;rcases I with⟨rfl|⟨ea,rfl⟩,rfl⟩|⟨id,off,cap,n,cs,st,rfl,hg,g1,g2,g3,g4⟩
 .simpa[sliceV,aZ,fK] using h1
 .simpa[sliceV,aZ,fK] using h1
 .simp_all[sliceV]
theorem xw {v:V}(J:View h v l)(hb:b<=l.length):
  sliceV prog h 23 v none (some b) none=some (slR v 0 b)/\View h (slR v 0 b) (l.take b)/\∀i∈rowIds (slR v 0 b),i∈rowIds v:=by
 obtain⟨h1,h2,h3⟩:=dm J (dz b) hb;refine⟨?_,Q,h3⟩;obtain⟨_,I⟩:=J;rcases I with⟨rfl|⟨ea,rfl⟩,rfl⟩|⟨id,off,cap,n,cs,st,rfl,hg,g1,g2,g3,g4⟩
 .simpa[sliceV,aZ,fK] using h1
 .simpa[sliceV,aZ,fK] using h1
 .simp_all[sliceV]
theorem gG {v:V}(J:View h v l)(hi:l[i]?=some b):
  ∃id off,indexAddrV prog 23 v (.int .i64 (i:Int))=some (.ptr id off)/\loadV prog h 5 (.ptr id off)=some (.int .u8 (b:Int)):=by
 obtain⟨hl,I⟩:=J;rcases I with⟨_,rfl⟩|⟨id,off,cap,n,cs,st,rfl,hg,h1,h2,h3,h4⟩
 .grind
 .refine⟨id,off+i*1,?_,?_⟩
  .simp only[indexAddrV,aZ,fK,cN];grind
  .simp only[loadV,OZ,z8,hg,iD,gF];have e:=gY (λq=>q[i]?) h3;grind[ofBytes]
theorem View.cells {v:V}(I:View h v l): v.cells=[v]/\Am.storable v=true:=by
 obtain⟨_,I⟩:=I;rcases I with⟨rfl|⟨J,rfl⟩,_⟩|⟨id,off,cap,n,cs,st,rfl,_⟩<;>exact⟨U,U⟩
def plain1 : V->Bool
 |.bool _|.int _ _|.str _|.aW|.ptr _ _|.aP|.sl _ _ _ _|.lM|.map _|.I7|.jZ|.wX _ _=>true
 |.fn (.func _) [] []=>true
 |_=>false
def adh : V->Bool
 |.agg l=>l.all plain1
 |.aR l=>l.all plain1
 |.iface _ v=>plain1 v
 |v=>plain1 v
theorem QT (k:FloatKind): fkBeq k k=true:=by cases k<;>rfl
theorem Ls : ∀l:List Nat,natsBeq l l=true:=by grind[EF]
theorem WE (v:V)(h:plain1 v=true): v.beq v=true:=by
 cases v<;>simp[plain1,V.beq,eS,uM,EE,Ls,QT] at h ⊢
 rename_i f a b;cases f<;>cases a<;>cases b<;>simp[plain1,V.beq,V.beqL] at h ⊢
theorem Zy : ∀(l:List V),l.all plain1=true->V.beqL l l=true:=by
 intro l;induction l<;>grind[V.beqL,WE]
theorem aA (v:V)(h:adh v=true): v.beq v=true:=by
 cases v with
 |agg l=>exact Zy l h
 |aR l=>exact Zy l h
 |iface t v=>simp only[V.beq,fM,rP];exact WE v h
 |_=>exact WE _ h
section
variable {v w:V} {m:List Nat}
theorem QU (s:Sat h (bu v l::X::S))(J:cQ X (cT w m))(I:l.length+m.length<=140737488355328):
  ∃v' h',appendV prog h #[23,23] v w=some (v',h')/\Sat h' (bu v' (l++m)::X::S):=by
 obtain⟨v',h',e1,e2,e3,e4⟩:=Cb s.wf (s.buf (k:=0) U) (s.aQ 1 U J) I;exact⟨v',h',e1,s.DM e3 e2 e4⟩
theorem Tg (s:Sat h S)(I:c<1073741824):
  ∃v h',makeSliceV prog h 23 (.int .i64 0) (.int .i64 (c:Int))=some (v,h')/\Sat h' (bu v []::S):=by
 obtain⟨v,h',J,e2,e3,e4⟩:=Gj s.wf I;exact⟨v,h',J,s.Lp e3 e2 e4⟩
theorem aaM : ∀n:Nat,repeatL [V.int .u8 0] n=ofBytes (List.replicate n 0):=by
 intro n;induction n<;>grind[repeatL,ofBytes]
theorem Th (s:Sat h S)(J:c<1073741824):
  ∃v h',makeSliceV prog h 23 (.int .i64 (c:Int)) (.int .i64 (c:Int))=some (v,h')/\Sat h' (bu v (List.replicate c 0)::S):=by
 obtain⟨i,hi,i1,i2⟩:=Ih;have I:j3 (h.new (.cells c (repeatL [.int .u8 0] c) false)) (.sl h.next 0 c (.exact c)) (List.replicate c 0):=by
  refine⟨λb I=>Q,.inr (.inl ⟨h.next,[],c,cb,?_,cb⟩)⟩<;>grind[fu,aaM]
 refine⟨.sl h.next 0 c (.exact c),h.new (.cells c (repeatL [.int .u8 0] c) false),?_,s.Lp (ew.DJ s.wf _) I λi hi=>by simp[rowIds] at hi;omega⟩
 grind[makeSliceV,underlying23,xp,V.cells,Nat.ble,Nat.beq]
theorem Ti (s:Sat h S)(I:b<256): ∃v h',buildSliceV prog h 23 1 [(0,.int .u8 b)]=some (v,h')/\Sat h' (bu v [b]::S):=by
 obtain⟨v,h',J,e2,e3,e4⟩:=Jv s.wf I;exact⟨v,h',J,s.Lp e3 e2 e4⟩
theorem Sat.g8 (s:Sat h (bu v l::S))(hl:1<=l.length): ∃id c cap rest,v=.sl id 0 l.length cap/\Sat h (pt id (.cells c (ofBytes l++rest) false)::S)/\l.length+rest.length=c /\
  (∀(h':H) (l':List Nat),l'.length=l.length->(∀b∈l',b<256)->Sat h' (pt id (.cells c (ofBytes l'++rest) false)::S)->Sat h' (bu v l'::S)):=by
 obtain⟨m,r,h1,h2,h3,a,b,g1,g2,g3,⟨gl,g4⟩,g5⟩:=s.ok;rcases g4 with⟨rfl,rfl⟩|⟨id,cs,c,rfl,I,hc⟩|⟨id,rfl,I,h5⟩
 .grind
 .exact⟨id,c,_,cs,U,⟨s.wf,m,r,h1,h2,h3,a,b,g1,g2,g3,I,g5⟩,hc,λh' l' J e2 s'=>s'.iX λm' r' hm=>⟨e2,.inr (.inl ⟨id,cs,c,by rw[J],hm,Y⟩)⟩⟩
 .refine⟨id,l.length,_,[],U,⟨s.wf,m,r,h1,h2,h3,a,b,g1,g2,g3,by rw[fZ];exact I,g5⟩,cb,λh' l' J e2 s'=>s'.iX ?_⟩;intro m' r' hm;have yn:m' id=some (.cells l.length (ofBytes l'++[]) false):=hm;exact⟨e2,.inr (.inr ⟨id,by rw[J],Q,Y⟩)⟩
theorem NU (l:List Nat)(i b:Nat): (ofBytes l).set i (.int .u8 (b:Int))=ofBytes (l.set i b):=by simp[ofBytes,qd]
theorem Cj (l:List Nat)(n:Nat): (ofBytes l).take n=ofBytes (l.take n):=by simp[ofBytes,List.map_take]
theorem Lt (l:List Nat)(n:Nat): (ofBytes l).drop n=ofBytes (l.drop n):=by simp[ofBytes,List.map_drop]
theorem qN (s:Sat h (bu v l::S))(hi:i<l.length)(hb:b<256):
  ∃id off,indexAddrV prog 23 v (.int .i64 (i:Int))=some (.ptr id off)/\∃h',ga prog h 5 (.ptr id off) (.int .u8 (b:Int))=some h'/\Sat h' (bu v (l.set i b)::S):=by
 have hv:=(s.buf (k:=0) U).1;obtain⟨id,c,cap,rest,rfl,s1,hc,J⟩:=s.g8 Y;refine⟨id,i,?_,?_⟩
 .simp_all[indexAddrV,fK]
 .obtain⟨h',e1,I⟩:=s1.cS (t:=5) (P:=prog) (v:=.int .u8 (b:Int)) (k:=0) (off:=i) U fK (by simp[gn];omega) Y U U;refine⟨h',e1,J h' (l.set i b) cb (λx hx=>?_) ?_⟩
  .grind
  .have e3:(ofBytes l++rest).set i (.int .u8 (b:Int))=ofBytes (l.set i b)++rest:=by
    grind[gn,NU]
   rw[e3] at I;exact I
def bJ (l:List Nat)(a:Nat)(m:List Nat): List Nat:=l.take a++(m++l.drop (a+m.length))
theorem dH (h:a+m.length<=l.length): (bJ l a m).length=l.length:=by simp[bJ];omega
theorem Jx (I:∀b∈l,b<256)(hm:∀b∈m,b<256): ∀b∈bJ l a m,b<256:=by grind[bJ]
theorem Lu (s:Sat h (bu v l::X::S))(hX:cQ X (cT w m))(jS:a<b)(hb:b<=l.length)(hm:1<=m.length):
  ∃h',copyV prog h 23 (slR v a b) w=some (.int .i64 (min m.length (b-a):Nat),h')/\Sat h' (bu v (bJ l a (m.take (b-a)))::X::S):=by
 have hw:=s.aQ 1 U hX;have hwl:=hw.1;have hv:=(s.buf (k:=0) U).1;obtain⟨id,c,cap,rest,rfl,s1,hc,hf⟩:=s.g8 Y;have kI:∃J,slR (.sl id 0 l.length cap) a b=.sl id a (b-a) J:=by
  cases cap with
  |exact c =>
   refine⟨.exact (c-a),?_⟩;simp only[slR];by_cases hca:c=a
   .obtain⟨m',r,h1,h2,h3⟩:=s.at (k:=0) U;rcases h3.2 with⟨e,_⟩|⟨Je,cs',c',e,hg,hc'⟩|⟨Je,e,_⟩
    .cases e
    .grind
    .grind
   grind[eE]
  |rest e alt=>simp[slR]
 obtain⟨J,kI⟩:=kI;rw[kI];have xq:=hw;rcases xq.2 with⟨_,rfl⟩|⟨Aq,I,QV,n2,cs2,Zz,rfl,Pb,q1,q2,q3,q4⟩
 .grind
 .have WG:Nat.min m.length (b-a)=(m.take (b-a)).length:=by
   grind
  have mZ:rdN h Aq I (Nat.min m.length (b-a)*1)=some (ofBytes (m.take (b-a))):=by
   have yq:View h (.sl Aq I (m.take (b-a)).length QV) (m.take (b-a)):=by
    refine⟨λx hx=>hwl x (lG hx),.inr ⟨Aq,I,QV,n2,cs2,Zz,U,Pb,q1,?_,?_,?_⟩⟩
    .grind
    .rw[<-Cj,<-q3,List.take_take,wD]
    .grind
   rw[gF,WG];exact yq.rdN.2
  simp only[copyV,aZ,fK,mZ];have hlen:(m.take (b-a)).length<=b-a:=Q;have Pc:wrN h id a (ofBytes (m.take (b-a)))=some (h.put id (some (.cells c (ofBytes (bJ l a (m.take (b-a)))++rest) false))):=by
   simp only[wrN,s1.row (k:=0) U,gn];rw[aN.2 Y,ak];have e0:(ofBytes l++rest).take a++(ofBytes (m.take (b-a))++(ofBytes l++rest).drop (a+(m.take (b-a)).length))=ofBytes (bJ l a (m.take (b-a)))++rest:=by
    grind[gn,Cj,Lt,bJ,yQ]
   cases GB:(Nat.beq a 0&&Nat.beq (m.take (b-a)).length c)<;>grind[beq_iff,List.drop_eq_nil_of_le,gn]
  rw[Pc];exact⟨_,U,hf _ _ (dH Y) (Jx hv (λx hx=>hwl x (lG hx)))<|s1.put (k:=0) U⟩
end
section
variable {v w x:V}
theorem Tj (I:isAggT P t=some true)(hs:bf P t=some q)(J:T.get h.tr id=some (.cells n cs st))(hl:cs.length=n)(hb:off+q<=n):
  loadV P h t (.ptr id off)=some (.agg ((cs.drop off).take q)):=by
 grind[loadV,rdN,aN,beq_iff]
theorem Sat.aaN (s:Sat h (.arr k v cs::S))(I:cs≠[]): ∃id n cap N rest,v=.sl id 0 n cap/\cs.length=n*k/\N=cs.length+rest.length/\Sat h (pt id (.cells N (cs++rest) false)::S) /\
  (∀(h':H) (cs':List V) (S':List aH),cs'.length=cs.length->cs'.all storable=true->Sat h' (pt id (.cells N (cs'++rest) false)::S')->Sat h' (.arr k v cs'::S')):=by
 obtain⟨m,r,h1,h2,J,a,b,g1,g2,g3,⟨gl,g4⟩,g5⟩:=s.ok;rcases g4 with⟨_,e⟩|⟨id,n,cap,N,rest,rfl,hg,q1,q2,q3,q4⟩
 .grind
 .exact⟨id,n,cap,N,rest,U,q1,q2.symm,⟨s.wf,m,r,h1,h2,J,a,b,g1,g2,g3,hg,g5⟩,λh' cs' S' e1 e2 s'=>s'.iX λm' r' hm=>⟨e2,.inr ⟨id,n,cap,N,rest,U,hm,Y,Y,q3,q4⟩⟩⟩
theorem Sat.ZA (s:Sat h S)(I:getA S j=some (.arr k v cs)): cs.all storable=true:=by
 obtain⟨m,r,h1,h2,J⟩:=s.at I;exact J.1
theorem Sat.cz (j)(s:Sat h S)(I:getA S j=some (.arr k v cs)): v.cells=[v]/\storable v=true/\v.beq v=true:=by
 obtain⟨m,r,h1,h2,J⟩:=s.at I;rcases J.2 with⟨rfl,_⟩|⟨id,n,cap,N,rest,rfl,_⟩
 .exact⟨U,U,U⟩
 .exact⟨U,U,DL _ _ _ _⟩
theorem Sat.fo (n)(s:Sat h S)(hj:getA S j=some (.arr k v cs))(hn:cs.length=n*k)(J:1<=k)(hu:P.underlying t=some (.slice e)): lenV P h t v=some (.int .i64 n):=by
 obtain⟨m,r,h1,h2,h3⟩:=s.at hj;rcases h3.2 with⟨rfl,rfl⟩|⟨id,n',cap,N,rest,rfl,_,q,_⟩
 .have:n=0:=by
   rcases wz n with I|I
   .exact I
   .have:=m9 I J;simp at hn;omega
  simp_all[lenV]
 .have:n'=n:=Nat.eq_of_mul_eq_mul_right J Y;subst this;simp only[lenV,hu]
theorem qO (z:List V)(n:Nat): (repeatL z n).length=n*z.length:=by
 induction n<;>grind[repeatL]
theorem sU {z:List V}(I:z.all storable=true)(n:Nat): (repeatL z n).all storable=true:=by
 induction n<;>grind[repeatL]
theorem yt (s:Sat h S){i:TypeInfo}(hu:P.underlying t=some (.slice e))(hi:P.info? e=some i)(hz:zeroT P e=some z)(hk:i.size=k)(hb:i.bytes<=4096)(J:z.cells.length=k)(I:z.cells.all storable=true)
 (h1:1<=k)(hn:n<=c)(hc:c<1073741824):
  ∃v h',makeSliceV P h t (.int .i64 (n:Int)) (.int .i64 (c:Int))=some (v,h')/\Sat h' (.arr k v (repeatL z.cells n)::S):=by
 refine⟨.sl h.next 0 n (.exact c),h.new (.cells (c*k) (repeatL z.cells c) false),?_,(s.new _).iX λm r hm=>?_⟩
 .grind[makeSliceV,aN,Nat.beq_refl]
 .refine⟨sU I n,.inr ⟨h.next,n,.exact c,c*k,repeatL z.cells (c-n),U,?_,by rw[qO,J],?_,sU I _,U,hn⟩⟩
  .have:repeatL z.cells n++repeatL z.cells (c-n)=repeatL z.cells c:=by
    have:∀a b,repeatL z.cells a++repeatL z.cells b=repeatL z.cells (a+b):=λa b=>by
     induction a<;>grind[repeatL]
    rw[this,show n+(c-n)=c by omega]
   rw[this];exact hm
  .rw[qO,qO,J,<-tY,show n+(c-n)=c by omega]
theorem Iv (I:T.get h.tr id=some (.cells n cs false))(J:cs.length=n)(hb:off+vs.length<=n):
  wrN h id off vs=some (h.put id (some (.cells n (cs.take off++(vs++cs.drop (off+vs.length))) false))):=by
 grind[wrN,aN,beq_iff,List.drop_eq_nil_of_le]
theorem qP (I:T.get h.tr id=some (.cells n cs st))(J:cs.length=n)(hb:off+q<=n:=by omega): rdN h id off q=some ((cs.drop off).take q):=by
 grind[rdN,aN,beq_iff]
def ZB (X:aH)(k:Nat)(v:V)(cs:List V): Prop:=∀m r,X.p m r->AS m k v cs\/AS r k v cs
theorem GC (k:Nat)(v:V)(cs:List V): ZB (.arr k v cs) k v cs:=λ_ _ h=>.inl h
theorem Sat.WH (s:Sat h S)(I:getA S j=some X)(J:ZB X k v cs): AS (T.get h.tr) k v cs:=by
 obtain⟨m,r,h1,h2,h3⟩:=s.at I;rcases J _ _ h3 with q|q
 .exact q.up h1
 .exact q.up h2
theorem Fo (hX:ZB X k w ds)(s:Sat h (.arr k v cs::X::S)){i:TypeInfo}(hu:P.underlying t=some (.slice e))(hi:P.info? e=some i)(hz:zeroT P e=some z)(hk:i.size=k)(hb:i.bytes<=4096)(hl:z.cells.length=k)
 (h1:1<=k)(eR:cs.length+ds.length<=1073741824):
  ∃v' h',appendV P h #[t,t] v w=some (v',h')/\Sat h' (.arr k v' (cs++ds)::X::S):=by
 have aiE:=s.ZA (j:=0) U;have am:=s.WH (j:=1) U hX;have uo:=am.1;have oP:(cs++ds).all storable=true:=Q
 -- what is appended
 have oO:∃m,srcV h k w=some (ds,m)/\ds.length=m*k:=by
  rcases am.2 with⟨rfl,rfl⟩|⟨id,n,cap,N,rest,rfl,J,e1,e2,e3,e4⟩
  .exact⟨0,U,cb⟩
  .refine⟨n,?_,e1⟩;simp only[srcV];rw[qP J Q];grind
 obtain⟨m,oO,hm⟩:=oO;have I:∀n:Nat,n*k=cs.length->kH (n+m) i.bytes=true:=λn hn=>by
  have e2:n+m<=(n+m)*k:=zG _ h1;have e3:(n+m)*i.bytes<=(n+m)*4096:=wu _ hb;grind[qh]
 have xb:∀(σ:H) (n:Nat) (T:List aH),Sat σ T->n*k=cs.length->1<=m->Sat (nR σ k cs ds (n+m)).2 (.arr k (nR σ k cs ds (n+m)).1 (cs++ds)::T):=by
  intro σ n T sT hn EH;refine(sT.new (.cells ((n+m)*k) (cs++ds) false)).iX λa r yn=>⟨oP,.inr ⟨σ.next,n+m,.rest k 0,(n+m)*k,[],U,by rw[fZ];exact yn,Q,Q,U,U,U,U,Y⟩⟩
 unfold appendV;simp only[hu,hi,hz,hk,hl,oO];rw[show(Nat.ble 1 k&&Nat.ble i.bytes 4096&&Nat.beq k k)=true by simp_all,ak];cases uV:Nat.beq m 0 with
 |true =>
  have:m=0:=beq_iff.1 uV;subst this;have ZC:ds=[]:=tS Y;obtain⟨m,r,q1,q2,q3⟩:=s.at (k:=0) U;rcases q3.2 with⟨rfl,rfl⟩|⟨id,n,cap,N,rest,rfl,J,e1,e2,e3,e4⟩
  .grind
  .grind
 |false =>
  have EH:1<=m:=by
   grind[vA]
  obtain⟨a,r,q1,q2,q3⟩:=s.at (k:=0) U;rcases q3.2 with⟨rfl,rfl⟩|⟨id,n,cap,N,rest,rfl,J,e1,e2,e3,e4⟩
  .have J:=I 0 cb;rw[f_] at J;simp only[J,ak];have:=xb h 0 (.arr k .aP []::X::S) s cb EH;rw[f_] at this;exact⟨_,_,U,(this.sO [1]).drop⟩
  .cases cap with
   |exact c =>
    obtain⟨e4,e5⟩:=e4;simp only[f_];have tJ:(cs++rest).take cs.length=cs:=rM U;cases hq:Nat.ble (n+m) c with
    |true =>
     have BS:=aN.1 hq;have fJ:n*k+ds.length<=N:=by rw[hm,<-tY,e4];exact pV _ BS
     rw[Iv (q1 _ _ J) Q fJ];obtain⟨m',r',p1,p2,p3,x1,x2,x3,x4,x5,⟨_,x6⟩,x7⟩:=s.ok;have vC:x1 id=some (.cells N (cs++rest) false):=by
      rcases x6 with⟨x6,_⟩|⟨Je,n',VZ,N',aeN,x6,x8,x9,x10,_⟩
      .cases x6
      .injection x6 with y1 y2 y3 y4;subst y1;rw[x8];have:=p1 _ _ (x4 _ _ x8);rw[q1 _ _ J] at this;injection this with this;rw[this]
     have s0:Sat h (pt id (.cells N (cs++rest) false)::X::S):=⟨s.wf,m',r',p1,p2,p3,x1,x2,x3,x4,x5,vC,x7⟩;have s1:=s0.put (k:=0) (o':=.cells N ((cs++rest).take (n*k)++(ds++(cs++rest).drop (n*k+ds.length))) false) U;refine⟨_,_,U,Sat.iX s1 λa' r'' ha=>⟨oP,.inr ⟨id,n+m,.exact c,N,rest.drop ds.length,U,?_,Q,Q,?_,e4,BS⟩⟩⟩
     .have ha':a' id=some (.cells N ((cs++rest).take (n*k)++(ds++(cs++rest).drop (n*k+ds.length))) false):=ha;simp_all[Dt]
     .grind
    |false =>
     rw[bq,I n e1.symm,ak,qP (q1 _ _ J) Q];rw[kj,<-e1,tJ];have:=xb h n _ s e1.symm EH;exact⟨_,_,U,(this.sO [1]).drop⟩
   |rest e' alt =>
    obtain⟨ek,rfl,rfl,e7⟩:=e4;have ek:=ek.symm;subst ek;simp only[fM,ak,fZ,f_] at J e2 ⊢;have Fe:lN h id 0 k=n:=by
     simp only[lN,q1 _ _ J];grind[Nat.mul_div_cancel]
    rw[Fe];rw[show Nat.ble (n+m) n=false by
     grind[aN],bq,I n e1.symm,show Nat.ble 2 ((n+m)*k)=true from aN.2 (by
      have:2*1<=(n+m)*k:=m9 Y h1;omega),oE,ak,qP (q1 _ _ J) Y,q1 _ _ J]
    simp only;obtain⟨m',r',p1,p2,p3,x1,x2,x3,x4,x5,⟨_,x6⟩,x7⟩:=s.ok;have vC:x1 id=some (.cells N cs false):=by
     grind
    have s0:Sat h (pt id (.cells N cs false)::X::S):=⟨s.wf,m',r',p1,p2,p3,x1,x2,x3,x4,x5,vC,x7⟩;have:=xb (h.put id none) n _ s0.kill e1.symm EH;rw[kj,kg Y];exact⟨_,_,U,this⟩
theorem dV (s:Sat h (.arr k v cs::.arr k w ds::S)){i:TypeInfo}(hu:P.underlying t=some (.slice e))(hi:P.info? e=some i)(J:zeroT P e=some z)(hk:i.size=k)(hb:i.bytes<=4096)(hl:z.cells.length=k)
 (h1:1<=k)(I:cs.length+ds.length<=1073741824):
  ∃v' h',appendV P h #[t,t] v w=some (v',h')/\Sat h' (.arr k v' (cs++ds)::.arr k w ds::S):=by grind[Fo,GC]
end
section
variable {v w x:V}
theorem Sat.dS {l:List V}(s:Sat h S)(J:getA S j=some (pt id (.cells n cs false)))(hs:bf P t=some n)(hl:l.length=n)(I:l.all storable=true):
  ∃h₁,ga P h t (.ptr id 0) (.agg l)=some h₁/\Sat h₁ (setA S j (pt id (.cells n l false))):=by
 refine⟨h.put id (some (.cells n l false)),?_,s.put J⟩;simp only[ga,hs,V.cells,I,hl,fM,oE,ak,wrN,s.row J];grind[aN]
theorem fP (P)(s:Sat h S)(hu:P.underlying t=some (.slice e))(hz:zeroT P e=some z)(hk:bf P e=some k)(hl:z.cells.length=k)(h1:1<=k)(h2:k<=65536)(J:x.cells.length=k)(I:x.cells.all storable=true):
  ∃v h',buildSliceV P h t 1 [(0,x)]=some (v,h')/\Sat h' (.arr k v x.cells::S):=by
 refine⟨.sl h.next 0 1 (.exact 1),newRow h x.cells,?_,?_⟩
 .grind[buildSliceV,repeatL,fillV,Nat.beq_refl,aN]
 .refine(s.new _).iX λm r hm=>⟨I,.inr ⟨h.next,1,.exact 1,k,[],U,?_,Y,Y,U,Y,az _⟩⟩
  rw[hm,J,fZ]
end
section
variable {v w x:V}
theorem ViewM.slice {m:PM}(hv:ViewM m v l)(jS:a<=b)(hb:b<=l.length): ViewM m (slR v a b) ((l.take b).drop a):=by
 have I:∀x∈(l.take b).drop a,x<256:=λx hx=>hv.1 x (lG (oC hx));have hlen:((l.take b).drop a).length=b-a:=Q;obtain⟨hl,J⟩:=hv;rcases J with⟨rfl|⟨ea,rfl⟩,rfl⟩|⟨id,off,cap,n,cs,st,rfl,hg,h1,h2,h3,h4⟩
 .subst_vars
  exact⟨cb,.inl ⟨.inl U,cb⟩⟩
 .subst_vars
  exact⟨cb,.inl ⟨.inr ⟨ea,U⟩,cb⟩⟩
 .have Kw:∀o,o=off+a\/b-a=0->(cs.drop o).take (b-a)=ofBytes ((l.take b).drop a):=by
   grind[ofBytes,List.map_take,List.map_drop,List.drop_take,List.drop_drop]
  cases cap with
  |exact c =>
   refine⟨I,.inr ⟨id,_,_,n,cs,st,by rw[hlen];rfl,hg,h1,?_,?_,?_⟩⟩<;>grind[eE]
  |rest e alt =>
   exact⟨I,.inr ⟨id,_,_,n,cs,st,by rw[hlen];rfl,hg,h1,Y,Q,U⟩⟩
theorem lU (hX:cQ X (cT v l))(I:a<=b)(J:b<=l.length): cQ X (cT (slR v a b) ((l.take b).drop a)):=λm r hm =>
 (hX m r hm).imp (λh=>ViewM.slice h I J) (λh=>ViewM.slice h I J)
theorem uq (I:cQ X (cT v l))(J:a<=l.length): cQ X (cT (slR v a l.length) (l.drop a)):=by
 grind[lU,List.take_length]
theorem afo (I:cQ X (cT v l))(J:b<=l.length): cQ X (cT (slR v 0 b) (l.take b)):=by
 have:=lU I (dz b) J
 rwa [kj] at this
theorem Sat.jr (s:Sat h S): Sat h (.arr k .aP []::S):=(s.eF aa).iX λ_ _ _=>⟨U,.inl ⟨U,U⟩⟩
theorem Sat.pK (s:Sat h S): Sat h (bu .aP []::S):=(s.eF aa).iX λ_ _ _=>⟨cb,.inl ⟨U,U⟩⟩
theorem Sat.yu (s:Sat h S): Sat h (Gr .aP []::S):=(s.eF aa).iX λ_ _ _=>⟨cb,.inl ⟨.inl U,U⟩⟩
theorem Ck (s:Sat h S){i:TypeInfo}(hu:P.underlying t=some (.slice e))(hi:P.info? e=some i)(I:zeroT P e=some z)(J:i.size=k)(hb:i.bytes<=4096)(hl:z.cells.length=k)
 (h1:1<=k)(hn:n<1073741824):
  ∃id h',makeSliceV P h t (.int .i64 (n:Int)) (.int .i64 (n:Int))=some (.sl id 0 n (.exact n),h')/\Sat h' (pt id (.cells (n*k) (repeatL z.cells n) false)::S):=by
 refine⟨h.next,h.new (.cells (n*k) (repeatL z.cells n) false),?_,s.new _⟩<;>grind[makeSliceV,aN,Nat.beq_refl]
theorem ur {o:Nat}{c:Cap}(I:v=.sl i o n c)(hu:P.underlying t=some (.slice e)): lenV P h t v=some (.int .i64 n):=by subst I;exact Gt hu
theorem AW (I:v=.aP)(hu:P.underlying t=some (.slice e)): lenV P h t v=some (.int .i64 0):=by subst I;exact DN hu
theorem adi {ts:Array TypeId}{k:IntKind}{a b:Int}: builtinV P h .min ts [.int k a,.int k b]=some (.int k (min a b),h):=by
 grind[builtinV,foldV,E9,eS]
theorem adj {c:Go.Call}{b:Builtin}(I:c.callee=.builtin b)(J:lookArgs E c.args.toList=some args)(hf:builtinV P h b c.argTypes args=some (r,h')): opE P E h (.call c)=some (r,h'):=by
 simp only[opE,I,J,hf]
end
def slR3 (v:V)(a b m:Nat): V:=match v with
 |.sl id off _ _=>.sl id (cond (Nat.beq m a) off (off+a*1)) (b-a) (.exact (m-a))
 |v=>v
section
variable {v w x:V}
theorem ViewM.slice3 {m:PM}(hv:ViewM m v l)(jS:a<=b)(hb:b<=c)(hc:c<=l.length)(hl:1<=l.length): ViewM m (slR3 v a b c) ((l.take b).drop a):=by
 have I:∀x∈(l.take b).drop a,x<256:=λx hx=>hv.1 x (lG (oC hx));have hlen:((l.take b).drop a).length=b-a:=Q;obtain⟨_,J⟩:=hv;rcases J with⟨_,rfl⟩|⟨id,off,cap,n,cs,st,rfl,hg,h1,h2,h3,h4⟩
 .grind
 .have Kw:∀o,o=off+a\/b-a=0->(cs.drop o).take (b-a)=ofBytes ((l.take b).drop a):=by
   grind[ofBytes,List.map_take,List.map_drop,List.drop_take,List.drop_drop]
  refine⟨I,.inr ⟨id,_,_,n,cs,st,by rw[hlen];rfl,hg,h1,?_,?_,?_⟩⟩<;>grind[eE]
theorem Jy (hX:cQ X (cT v l))(I:a<=b)(J:b<=c)(hc:c<=l.length)(hl:1<=l.length): cQ X (cT (slR3 v a b c) ((l.take b).drop a)):=λm r hm =>
 (hX m r hm).imp (λh=>ViewM.slice3 h I J hc hl) (λh=>ViewM.slice3 h I J hc hl)
theorem EJ (J:View h v l)(jS:a<=b)(hb:b<=c)(hc:c<=l.length)(hl:1<=l.length): sliceV prog h 23 v (some a) (some b) (some c)=some (slR3 v a b c):=by
 obtain⟨_,I⟩:=J;rcases I with⟨_,rfl⟩|⟨id,off,cap,n,cs,st,rfl,hg,h1,h2,h3,h4⟩
 .grind
 .cases cap with
  |exact q =>
   simp only[sliceV,slR3,aZ,fK,eV];grind[aN]
  |rest e alt =>
   have he:e=1:=h4;subst he;simp only[sliceV,slR3,aZ,fK,eV,fM];grind[Nat.blt,aN]
theorem jf (I:View h v l)(J:1<=l.length:=by omega): ∃id off cap,v=.sl id off l.length cap:=by
 rcases I.2 with⟨_,rfl⟩|⟨id,off,cap,_,_,_,rfl,_⟩<;>grind
theorem fb {k:IntKind}{n:Int}(I:0<=n:=by omega): mq (some (V.int k n))=some (some n.toNat):=by
 grind[mq,bndV]
end
section
variable {v w x:V} {m:List Nat}
theorem Tk (s:Sat h S)(J:getA S j=some (.arr q v cs))(hi:i*q+q<=cs.length)(hq:1<=q)(hu:P.underlying t=some (.slice e))(I:bf P e=some q):
  ∃id off,indexAddrV P t v (.int .i64 (i:Int))=some (.ptr id off)/\(isAggT P e=some true->loadV P h e (.ptr id off)=some (.agg ((cs.drop (i*q)).take q))):=by
 obtain⟨m,r,h1,h2,h3⟩:=s.at J;rcases h3.2 with⟨_,rfl⟩|⟨id,n,cap,N,rest,rfl,hg,e1,e2,_⟩
 .grind
 .refine⟨id,i*q,?_,λht=>?_⟩
  .simp only[indexAddrV,hu,I,cN];have:i<n:=by
    have h4:i*q+q=(i+1)*q:=Q;rw[h4,e1] at hi;exact Dr (tT hi hq)
   grind
  .rw[Tj ht I (h1 _ _ hg) Q Y];grind
theorem Sat.adk (s:Sat h (bu v l::X::S))(hX:cQ X (cT w m)): ∀i∈rowIds w,i∉rowIds v:=by
 intro i hi J;obtain⟨a,r,h1,h2,h3,b,c,g1,g2,g3,g4,d,e,k1,k2,k3,k4,k5⟩:=s.ok;have hb:=O4 g4 i J;have hw:∀q:PM,ViewM q w m->q i≠none:=λq hq=>by
  rcases hq.2 with⟨rfl|⟨ea,rfl⟩,_⟩|⟨id,off,cap,n,cs,st,rfl,hg,_⟩<;>grind[rowIds]
 rcases hX _ _ k4 with hq|hq
 .cases hd:d i with
  |none=>grind
  |some o =>
   rcases g1 i with I|I
   .grind
   .rw[k2 _ _ hd] at I;cases I
 .cases ZD:b i with
  |none=>grind
  |some o =>
   rcases h3 i with I|I
   .rw[g2 _ _ ZD] at I;cases I
   .grind
end
abbrev cg := List (Int×V×Nat)
def g9 (κ:IntKind)(e:Int×V×Nat): V×V×Nat:=(.int κ e.1,e.2)
abbrev ou := g9 .i64
def lookE (n:Int): cg->Option V
 |[]=>none
 |e::l=>if e.1=n then some e.2.1 else lookE n l
def ru (n:Int)(v:V)(c:Nat): cg->cg
 |[]=>[(n,v,c)]
 |e::l=>if e.1=n then(e.1,v,e.2.2)::l else e::ru n v c l
def oT (n:Int): cg->cg
 |[]=>[]
 |e::l=>if e.1=n then l else e::oT n l
def clkE (n:Int)(c:Nat)(l:cg): Nat:=match lookE n l with
 |some _=>c
 |none=>c+1
abbrev iH (κ:IntKind)(id:Nat)(l:cg)(c:Nat): aH:=pt id (.map (l.map (g9 κ)) c)
abbrev uw := iH .i64
def idxE (n:Int): cg->Nat->Option (Nat×V)
 |[],_=>none
 |e::l,i=>if e.1=n then some (i,e.2.1) else idxE n l (i+1)
theorem nW (a b:Int): intBeq a b=decide (a=b):=by
 grind[yj,uM]
theorem wT {k:IntKind}{n:Int}: ∀(l:cg) (i:Nat),findK (.int k) (.int κ n) (l.map (g9 κ)) i=some (idxE n l i):=by
 intro l;induction l<;>grind[findK,g9,keyBeq,eS,nW,idxE]
theorem u7 {n:Int}: ∀(l:cg) (i:Nat),(idxE n l i).map (·.2)=lookE n l:=by
 intro l;induction l<;>grind[idxE,lookE]
theorem Pd {n:Int}: ∀(l:cg) (i j:Nat) (v:V),idxE n l i=some (j,v)->i<=j:=by
 intro l;induction l<;>grind[idxE]
theorem afp {n:Int}{v:V}: ∀(l:cg) (i j:Nat) (u:V),idxE n l i=some (j,u)->setNth (l.map (g9 κ)) (j-i) (λe=>(e.1,v,e.2.2))=(ru n v c l).map (g9 κ):=by
 intro l;induction l with
 |nil=>intro i j u h;cases h
 |cons e l I =>
  intro i j u h;simp only[idxE] at h;simp only[ru,ko,setNth];by_cases he:e.1=n
  .rw[bk he] at h;injection h with h;injection h with h1 h2;subst h1;rw[bk he,Dz];rfl
  .rw[ax he] at h;have J:=Pd _ _ _ _ h;grind[eE]
theorem adl {n:Int}: ∀(l:cg) (i j:Nat) (u:V),idxE n l i=some (j,u)->nf (l.map (g9 κ)) (j-i)=(oT n l).map (g9 κ):=by
 intro l;induction l with
 |nil=>intro i j u h;cases h
 |cons e l I =>
  intro i j u h;simp only[idxE] at h;simp only[oT,ko,nf];by_cases he:e.1=n
  .simp_all
  .rw[ax he] at h;have J:=Pd _ _ _ _ h;grind[eE]
theorem aaO {n:Int}{v:V}: ∀(l:cg),lookE n l=none->ru n v c l=l++[(n,v,c)]:=by
 intro l;induction l<;>grind[lookE,ru]
theorem WI {n:Int}: ∀(l:cg),lookE n l=none->oT n l=l:=by
 intro l;induction l<;>grind[lookE,oT]
section
variable {v:V} {k:IntKind} {l:cg} {n:Int}
theorem Sat.afq (s:Sat h S)(I:getA S j=some (iH κ id l c))(hu:P.underlying t=some (.map kt et))(J:P.underlying kt=some (.int k))(hz:zeroT P et=some z):
  eO P h t (.map id) (.int κ n) true=some (match lookE n l with|some v=>.aR [v,.bool true]|none=>.aR [z,.bool false]):=by
 have hg:=s.row I;simp only[eO,lookupV,hu,J,hz,hg,keyBeq,eS,ak,wT];rw[<-u7 l 0];cases idxE n l 0<;>grind
theorem Sat.afr (s:Sat h S)(I:getA S j=some (iH κ id l c))(hu:P.underlying t=some (.map kt et))(J:P.underlying kt=some (.int k))(hz:zeroT P et=some z):
  eO P h t (.map id) (.int κ n) false=some (match lookE n l with|some v=>v|none=>z):=by
 have hg:=s.row I;simp only[eO,lookupV,hu,J,hz,hg,keyBeq,eS,ak,wT];rw[<-u7 l 0];cases idxE n l 0<;>grind
theorem Sat.update (s:Sat h S)(hj:getA S j=some (iH κ id l c))(hu:P.underlying t=some (.map kt et))(hk:P.underlying kt=some (.int k)):
  ∃h',mapUpdateV P h t (.map id) (.int κ n) v=some h'/\Sat h' (setA S j (iH κ id (ru n v c l) (clkE n c l))):=by
 have hg:=s.row hj;refine⟨h.put id (some (.map ((ru n v c l).map (g9 κ)) (clkE n c l))),?_,s.put hj⟩;simp only[mapUpdateV,hu,hk,hg,keyBeq,eS,ak,wT];have I:=u7 (n:=n) l 0;cases J:idxE n l 0 with
 |none =>
  rw[J] at I;have I:lookE n l=none:=I.symm;simp only[clkE,I,aaO l I,mD];rfl
 |some q =>
  obtain⟨i,u⟩:=q;rw[J] at I;have I:lookE n l=some u:=I.symm;simp only[clkE,I];rw[<-afp (v:=v) (c:=c) l 0 i u J,p_]
theorem Sat.delete (s:Sat h S)(J:getA S j=some (iH κ id l c))(hu:P.underlying t=some (.map kt et))(hk:P.underlying kt=some (.int k)):
  ∃h',oF P h t (.map id) (.int κ n)=some h'/\Sat h' (setA S j (iH κ id (oT n l) c)):=by
 have hg:=s.row J;simp only[oF,hu,hk,hg,keyBeq,eS,ak,wT];have I:=u7 (n:=n) l 0;cases hq:idxE n l 0 with
 |none =>
  rw[hq] at I;have I:lookE n l=none:=I.symm;refine⟨h,U,?_⟩;rw[WI l I];have:∀(S:List aH) (j:Nat) (A:aH),getA S j=some A->setA S j A=S:=by
   intro S;induction S with
   |nil=>intro j A h;cases h
   |cons B S ih =>
    intro j A h;cases j<;>grind[getA,setA]
  rw[this S j _ J];exact s
 |some q =>
  obtain⟨i,u⟩:=q;refine⟨_,U,?_⟩;have e:=adl (κ:=κ) l 0 i u hq;rw[p_] at e;rw[e];exact s.put J
theorem Sat.agA (s:Sat h S)(I:getA S j=some (iH κ id l c))(hu:P.underlying t=some (.map kt et)): lenV P h t (.map id)=some (.int .i64 (l.length:Int)):=by
 have J:=s.row I;simp_all[lenV]
end
section
variable {z:Operand} {a b v:V}
theorem OpR.upd (J:∀env,jl env E->evOp C (ev C 0) env h o=(match mapUpdateV C.P h t a b v with|some h'=>some (cA,h')|none=>none))
 (ho:∃h₁,mapUpdateV C.P h t a b v=some h₁/\Sat h₁ S'): OpR C E h o λ_ h₁=>Sat h₁ S':=by
 obtain⟨h₁,e1,I⟩:=ho;exact⟨cA,h₁,I,λenv he=>⟨0,Q⟩⟩
theorem OpR.mapUpdate (I:o.op=.mapUpdate t x y z)(J:bp E x=some a)(hy:bp E y=some b)(hz:bp E z=some v)
 (ho:∃h₁,mapUpdateV C.P h t a b v=some h₁/\Sat h₁ S'): OpR C E h o λ_ h₁=>Sat h₁ S':=by
 refine OpR.upd (t:=t) (a:=a) (b:=b) (v:=v) (λenv he=>?_) ho;grind[evOp,bX,xV]
theorem OpR.builtin {bi:Builtin}{R:V->H->Prop}(I:o.op=.call cl)(J:cl.callee=.builtin bi)(ha:lookArgs E cl.args.toList=some args)(ho:∃v h₁,builtinV C.P h bi cl.argTypes args=some (v,h₁)/\R v h₁): OpR C E h o R:=by
 grind[OpR.of,opE]
theorem OpR.sW {m:List Nat}(hP:C.P=prog)(s:Sat h (bu v l::X::S))(hX:cQ X (cT u m))(I:o.op=.call cl)(hc:cl.callee=.builtin .append)(J:cl.argTypes = #[23,23])(ha:lookArgs E cl.args.toList=some [v,u])
 (eR:l.length+m.length<=140737488355328): OpR C E h o λv' h₁=>Sat h₁ (bu v' (l++m)::X::S):=by
 grind[QU,OpR.builtin,builtinV]
theorem OpR.xx (J:C.P=prog)(s:Sat h S)(I:o.op=.makeSlice t x y)(ht:t=23)(hx:bp E x=some (.int .i64 0))(hy:bp E y=some (.int .i64 (c:Int)))(hc:c<1073741824): OpR C E h o λv' h₁=>Sat h₁ (bu v' []::S):=by
 grind[Tg,OpR.of,uL]
theorem OpR.GD (J:C.P=prog)(s:Sat h S)(I:o.op=.makeSlice t x y)(ht:t=23)(hx:bp E x=some (.int .i64 (c:Int)))(hy:bp E y=some (.int .i64 (c:Int)))(hc:c<1073741824): OpR C E h o λv' h₁=>Sat h₁ (bu v' (List.replicate c 0)::S):=by
 grind[Th,OpR.of,uL]
theorem OpR.QW {m:List Nat}{p:Nat}(hP:C.P=prog)(s:Sat h (bu v l::X::S))(hX:cQ X (cT u m))(I:o.op=.call cl)(hc:cl.callee=.builtin .copy)(J:cl.argTypes = #[23,23])(ha:lookArgs E cl.args.toList=some [slR v p q,u])
 (hpq:p<q)(hq:q<=l.length)(hm:1<=m.length): OpR C E h o λ_ h₁=>Sat h₁ (bu v (bJ l p (m.take (q-p)))::X::S):=by
 grind[Lu,OpR.builtin,builtinV]
theorem OpR.KG (J:C.P=prog)(s:Sat h S)(I:o.op=.buildSlice t 1 ps)(ht:t=23)(hx:lookParts E ps.toList=some [(0,.int .u8 (n:Int))])(hn:n<256): OpR C E h o λv' h₁=>Sat h₁ (bu v' [n]::S):=by
 grind[Ti,OpR.of,jj]
end
section
def lookL (n:Int): List (Int×α)->Option α
 |[]=>none
 |e::l=>if e.1=n then some e.2 else lookL n l
def dM (n:Int)(a:α): List (Int×α)->List (Int×α)
 |[]=>[(n,a)]
 |e::l=>if e.1=n then(n,a)::l else e::dM n a l
def nX (n:Int): List (Int×α)->List (Int×α)
 |[]=>[]
 |e::l=>if e.1=n then l else e::nX n l
theorem mN {n k:Int}{a:α}: ∀l:List (Int×α),lookL k (dM n a l)=if n=k then some a else lookL k l:=by
 intro l;induction l<;>grind[dM,lookL]
theorem kX {n:Int}: ∀ {l:List (Int×α)},lookL n l=none↔n∉l.map (·.1):=by
 intro l;induction l<;>grind[lookL]
theorem Jz {n k:Int}: ∀ {l:List (Int×α)},(l.map (·.1)).Nodup->lookL k (nX n l)=if n=k then none else lookL k l:=by
 intro l;induction l<;>grind[nX,lookL,kX]
theorem xy {n:Int}{a:α}: ∀ {l:List (Int×α)} {k:Int},k∈(dM n a l).map (·.1)↔k=n\/k∈l.map (·.1):=by
 intro l;induction l<;>grind[dM]
theorem nY {n:Int}{a:α}: ∀ {l:List (Int×α)},(l.map (·.1)).Nodup->((dM n a l).map (·.1)).Nodup:=by
 intro l;induction l<;>grind[dM,xy]
theorem WJ {n:Int}: ∀ {l:List (Int×α)} {k:Int},k∈(nX n l).map (·.1)->k∈l.map (·.1):=by
 intro l;induction l<;>grind[nX]
theorem AX {n:Int}: ∀ {l:List (Int×α)},(l.map (·.1)).Nodup->((nX n l).map (·.1)).Nodup:=by
 intro l;induction l<;>grind[nX,WJ]
def fQ (f:V->α->aH): cg->List (Int×α)->aH
 |[],[]=>.pu True
 |e::l,x::m=>.an (.an (.pu (e.1=x.1)) (f e.2.1 x.2)) (fQ f l m)
 |_,_=>.pu False
variable {f:V->α->aH} {a b:PM}
theorem qn : ∀ {l:cg} {m:List (Int×α)},(fQ f l m).p a b->l.map (·.1)=m.map (·.1):=by
 intro l;induction l with
 |nil=>intro m h;cases m with
  |nil=>rfl
  |cons x m=>exact h.elim
 |cons e l I=>intro m h;cases m with
  |nil=>exact h.elim
  |cons x m=>simp only[ko];rw[h.1.1,I h.2]
theorem v_ {n:Int}: ∀ {l:cg} {m:List (Int×α)},(fQ f l m).p a b->(lookE n l=none/\lookL n m=none)\/∃u x,lookE n l=some u/\lookL n m=some x/\(f u x).p a b:=by
 intro l;induction l with
 |nil=>intro m h;cases m with
  |nil=>exact .inl ⟨U,U⟩
  |cons x m=>exact h.elim
 |cons e l I=>intro m h;cases m with
  |nil=>exact h.elim
  |cons x m =>
   obtain⟨⟨h1,h2⟩,J⟩:=h;have h1:e.1=x.1:=h1;grind[lookE,lookL]
theorem Tl {n:Int}{x:α}(hu:(f u x).p a b): ∀ {l:cg} {m:List (Int×α)},(fQ f l m).p a b->(fQ f (ru n u c l) (dM n x m)).p a b:=by
 intro l;induction l with
 |nil=>intro m h;cases m with
  |nil=>exact⟨⟨U,hu⟩,aa⟩
  |cons x m=>exact h.elim
 |cons e l J=>intro m h;cases m with
  |nil=>exact h.elim
  |cons y m =>
   obtain⟨⟨h1,h2⟩,I⟩:=h;have h1:e.1=y.1:=h1;simp only[ru,dM,<-h1];by_cases he:e.1=n
   .rw[bk he,bk he];exact⟨⟨he,hu⟩,I⟩
   .rw[ax he,ax he];exact⟨⟨h1,h2⟩,J I⟩
theorem Tm {n:Int}: ∀ {l:cg} {m:List (Int×α)},(fQ f l m).p a b->(fQ f (oT n l) (nX n m)).p a b:=by
 intro l;induction l with
 |nil=>intro m h;cases m with
  |nil=>trivial
  |cons x m=>exact h.elim
 |cons e l I=>intro m h;cases m with
  |nil=>exact h.elim
  |cons y m =>
   obtain⟨⟨h1,h2⟩,J⟩:=h;have h1:e.1=y.1:=h1;simp only[oT,nX,<-h1];by_cases he:e.1=n
   .grind
   .rw[ax he,ax he];exact⟨⟨h1,h2⟩,I J⟩
theorem bg.QX (I:∀u x,bg (f u x)): ∀(l:cg) (m:List (Int×α)),bg (fQ f l m):=by
 intro l;induction l with
 |nil=>intro m;cases m<;>exact bg.pu _
 |cons e l J=>intro m;cases m with
  |nil=>exact bg.pu _
  |cons x m=>exact bg.an (bg.an (bg.pu _) (I _ _)) (J m)
def eU (c:Nat): Nat->cg->Prop
 |_,[]=>True
 |b,e::l=>b<=e.2.2/\e.2.2<c/\eU c (e.2.2+1) l
theorem GF : ∀ {l:cg} {b b':Nat},b'<=b->eU c b l->eU c b' l:=by
 intro l;cases l with
 |nil=>intro b b' _ _;trivial
 |cons e l=>intro b b' h I;exact⟨b7 h I.1,I.2⟩
theorem Tn {k:Int}(hn:n=c): ∀ {l:cg} {b:Nat},b<=c->eU c b l->eU (clkE k c l) b (ru k u n l):=by
 subst hn;intro l;induction l with
 |nil=>intro b J _;exact⟨J,rK _,aa⟩
 |cons e l ih =>
  intro b J h;have I:=ih (b:=e.2.2+1) (by have:=h.2.1;omega) h.2.2;by_cases he:e.1=k
  .simp only[ru,clkE,lookE,bk he];exact h
  .simp only[ru,clkE,lookE,ax he];refine⟨h.1,?_,I⟩;have:=h.2.1;split<;>omega
theorem To {k:Int}: ∀ {l:cg} {b:Nat},eU c b l->eU c b (oT k l):=by
 intro l;induction l with
 |nil=>intro b h;exact h
 |cons e l I =>
  intro b h;simp only[oT];by_cases he:e.1=k
  .rw[bk he];exact GF (by have:=h.1;omega) h.2.2
  .rw[ax he];exact⟨h.1,h.2.1,I h.2.2⟩
def kG (κ:IntKind)(f:V->α->aH)(v:V)(m:List (Int×α)): aH :=
 xs λid:Nat=>xs λl:cg=>xs λc:Nat=>star [.pu (v=.map id/\eU c 0 l/\(m.map (·.1)).Nodup),iH κ id l c,fQ f l m]
abbrev ux {α:Type}(f:V->α->aH)(v:V)(m:List (Int×α)): aH:=kG .i64 f v m
section
variable {v:V} {k:IntKind} {m:List (Int×α)} {n:Int} {x:α}
theorem fW : Sat h (kG κ f v m::S)↔∃id l c,v=.map id/\eU c 0 l/\(m.map (·.1)).Nodup/\Sat h (iH κ id l c::fQ f l m::S):=by
 simp[kG,gh,aX,j4,and_assoc]
theorem j6 : Sat h (ux f v m::S)↔∃id l c,v=.map id/\eU c 0 l/\(m.map (·.1)).Nodup/\Sat h (uw id l c::fQ f l m::S):=fW
theorem lC (hf:∀u x,bg (f u x))(s:Sat h (kG κ f v m::S))(hu:P.underlying t=some (.map kt et))(I:P.underlying kt=some (.int k))(J:zeroT P et=some z):
  (lookL n m=none/\eO P h t v (.int κ n) true=some (.aR [z,.bool false])/\eO P h t v (.int κ n) false=some z) \/
  ∃u x,lookL n m=some x/\eO P h t v (.int κ n) true=some (.aR [u,.bool true])/\eO P h t v (.int κ n) false=some u/\Sat h (f u x::kG κ f v m::S):=by
 obtain⟨id,l,c,rfl,hb,hn,s1⟩:=fW.1 s;have e2:=s1.afq (n:=n) (j:=0) U hu I J;have e1:=s1.afr (n:=n) (j:=0) U hu I J;obtain⟨a,b,q1,q2,q3⟩:=s1.at (k:=1) U;rcases v_ (n:=n) q3 with⟨g1,g2⟩|⟨u,x,g1,g2,g3⟩
 .grind
 .rw[g1] at e1 e2;refine .inr ⟨u,x,g2,e2,e1,?_⟩;have s2:Sat h (fQ f l m::iH κ id l c::S):=s1.sO [1];have s3:=s2.dup (bg.QX hf l m);have s4:Sat h (f u x::fQ f l m::iH κ id l c::S):=s3.iX λa' b' h'=>by
   grind[v_]
  have s5:Sat h (iH κ id l c::fQ f l m::f u x::S):=s4.sO [2,1];exact(fW.2 ⟨id,l,c,U,hb,hn,s5⟩:Sat h (kG κ f (.map id) m::f u x::S)).sO [1]
theorem nZ (I:∀u x,bg (f u x))(s:Sat h (f u x::kG κ f v m::S))(hu:P.underlying t=some (.map kt et))(J:P.underlying kt=some (.int k)):
  ∃h',mapUpdateV P h t v (.int κ n) u=some h'/\Sat h' (kG κ f v (dM n x m)::S):=by
 have s0:Sat h (kG κ f v m::f u x::S):=s.sO [1];obtain⟨id,l,c,rfl,hb,hn,s1⟩:=fW.1 s0;obtain⟨h',e1,e2⟩:=s1.update (n:=n) (v:=u) (j:=0) U hu J;refine⟨h',e1,?_⟩;have e3:Sat h' (f u x::fQ f l m::iH κ id (ru n u c l) (clkE n c l)::S):=e2.sO [2,1];have e4:Sat h' (fQ f (ru n u c l) (dM n x m)::iH κ id (ru n u c l) (clkE n c l)::S):=e3.map λa b h=>by
  obtain⟨p1,p2,d1,d2,d3,d4,p3,p4,d5,d6,d7,d8,d9⟩:=h;exact⟨λ_=>none,p4,λ_=>.inl U,λ_ _ h=>(by cases h),PM.le_trans d7 d3,Tl (I _ _ _ _ d4) (bg.QX I _ _ _ _ d8),d9⟩
 exact fW.2 ⟨id,_,_,U,Tn U (dz _) hb,nY hn,e4.sO [1]⟩
theorem Fp (s:Sat h (kG κ f v m::S))(hu:P.underlying t=some (.map kt et))(I:P.underlying kt=some (.int k)):
  ∃h',oF P h t v (.int κ n)=some h'/\Sat h' (kG κ f v (nX n m)::S):=by
 obtain⟨id,l,c,rfl,J,hn,s1⟩:=fW.1 s;obtain⟨h',e1,e2⟩:=s1.delete (n:=n) (j:=0) U hu I;refine⟨h',e1,?_⟩;have e3:Sat h' (fQ f l m::iH κ id (oT n l) c::S):=e2.sO [1];have e4:Sat h' (fQ f (oT n l) (nX n m)::iH κ id (oT n l) c::S):=e3.iX λa b h=>Tm h;exact fW.2 ⟨id,_,_,U,To J,AX hn,e4.sO [1]⟩
theorem Fq (s:Sat h (kG κ f v m::S))(hu:P.underlying t=some (.map kt et)): lenV P h t v=some (.int .i64 (m.length:Int)):=by
 obtain⟨id,l,c,rfl,J,hn,s1⟩:=fW.1 s;have e:=s1.agA (j:=0) U hu;obtain⟨a,b,q1,q2,I⟩:=s1.at (k:=1) U;have:=gY List.length (qn I);grind
theorem Lv (s:Sat h (pt id (.map [] 0)::S)): Sat h (kG κ f (.map id) []::S):=by
 have s1:Sat h (fQ f [] []::pt id (.map [] 0)::S):=s.eF aa;exact fW.2 ⟨id,[],0,U,aa,cb,s1.sO [1]⟩
theorem uy (s:Sat h (pt id (.map [] 0)::S)): Sat h (ux f (.map id) []::S):=Lv s
theorem Cl (s:Sat h S)(I:getA S j=some (kG κ f v m)): ∃id,v=.map id:=by
 have s1:=s.take j I;grind[fW]
end
end
theorem OpR.delete {u:TypeId}{m k:V}(I:o.op=.call cl)(J:cl.callee=.builtin .delete)(hty:cl.argTypes = #[t,u])(ha:lookArgs E cl.args.toList=some [m,k])
 (ho:∃h₁,oF C.P h t m k=some h₁/\Sat h₁ S'): OpR C E h o λ_ h₁=>Sat h₁ S':=by
 obtain⟨h₁,e1,e2⟩:=ho;refine OpR.builtin I J ha ⟨.aR [],h₁,?_,e2⟩<;>grind[builtinV]
end Go.Proofs.YtiojppeahfoiaaaGreat.Am
