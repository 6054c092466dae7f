/- TreeMany: a part of its proof; conditions: its statement's. -/
import Derived.Test.YtdonpgpfplgigaaGreatQ01
import Derived.Scope
import Derived.Test.YtdonpgpfplgigaaGreatProg
import Derived.KernelRfl
import Derived.Shelf.SlIterI.Sorted
import Derived.Defers
import Derived.Recover
set_option linter.defProp false
namespace Go.Proofs.YtdonpgpfplgigaaGreat.Am
open Go
def aP:=@Tryz.underlying29
def Fu:=@Tryz.func211
abbrev cu:=Nat->Option (List V->H->Option (V×H))
variable {ps:Array (Nat×Operand)} {ops:Array Oper} {st:Bool} {C:gN} {code:Code} {c₀:Ctx} {env:Env} {Q:Ex->List (Nat×V)->H->Prop} {fn:Func} {h' σ h₁ fg:H} {κ:IntKind} {E E':List (Nat×V)} {R:List (Nat×V)->H->Prop} {d₀:List Deferred} {hs:List H} {fN es l:List Nat} {L rest:List Oper} {args first cap vs cs ds:List V} {a b i c k id n d off j g vj k' q:Nat} {Hs:Nat->H} {early:Nat->Option (Nat×FV)} {Fl:Nat->Prop} {vv:Nat->V} {o':Obj} {x y:Operand} {P:Program} {φ:Prop} {self:Self} {s':St} {α:Type} {td:TypeDesc} {t t' e kt et:TypeId} {r u z:V} {BJ:V->H->Prop} {w₀ w:World}
theorem UG {a b:IntKind}(h:ikBeq a b=true): a=b:=by cases a<;>cases b<;>first|rfl|(simp[ikBeq] at h)
theorem w6 {a b:Int}(h:intBeq a b=true): a=b:=by
 cases a<;>cases b<;>simp[intBeq] at h<;>rw[h]
theorem Fv : ∀ {a b:List Nat},natsBeq a b=true->a=b
 |[],[],_=>rfl
 |[],_::_,h=>by simp[natsBeq] at h
 |_::_,[],h=>by simp[natsBeq] at h
 |x::a,y::b,h=>by
  simp only[natsBeq] at h;cases I:Nat.beq x y with
  |false=>grind
  |true=>rw[I,ag] at h;rw[beq_iff.1 I,Fv h]
theorem RB {a b:Cap}(h:a.beq b=true): a=b:=by
 cases a<;>cases b<;>simp[Cap.beq] at h
 .rw[h]
 .grind
mutual
theorem HB : ∀(a b:V),V.beq a b=true->a=b
 |.bool a,b,h=>by cases b<;>simp[V.beq] at h;rw[h]
 |.int j a,b,h=>by
  cases b<;>simp[V.beq] at h
  rw[UG h.1,w6 h.2]
 |.str a,b,h=>by cases b<;>simp[V.beq] at h;rw[Fv h]
 |.cf,b,h=>by cases b<;>simp[V.beq] at h;rfl
 |.ptr x y,b,h=>by cases b<;>simp[V.beq] at h;rw[h.1,h.2]
 |.aZ,b,h=>by cases b<;>simp[V.beq] at h;rfl
 |.sl x y z u,b,h=>by
  cases b<;>simp[V.beq] at h
  rw[h.1.1.1,h.1.1.2,h.1.2,RB h.2]
 |.mU,b,h=>by cases b<;>simp[V.beq] at h;rfl
 |.map x,b,h=>by cases b<;>simp[V.beq] at h;rw[h]
 |.fn f x y,b,h=>by
  cases f with
  |func k=>cases b with
   |fn g u v=>cases g with
    |func j =>
     simp[V.beq] at h;rw[h.1.1,wk x u h.1.2,wk y v h.2]
    |_=>simp[V.beq] at h
   |_=>simp[V.beq] at h
  |_=>cases b<;>simp[V.beq] at h
 |.Ij,b,h=>by cases b<;>simp[V.beq] at h;rfl
 |.iface t v,b,h=>by
  cases b<;>simp[V.beq] at h
  rw[h.1,HB v _ h.2]
 |.qA,b,h=>by cases b<;>simp[V.beq] at h;rfl
 |.agg l,b,h=>by cases b<;>simp[V.beq] at h;rw[wk l _ h]
 |.aV l,b,h=>by cases b<;>simp[V.beq] at h;rw[wk l _ h]
 |.Q0 _,b,h=>by cases b<;>simp[V.beq] at h
 |.sle a,b,h=>by cases b<;>simp[V.beq] at h;rw[h]
 |.vW k x,b,h=>by
  cases b with
  |vW j y =>
   simp[V.beq] at h;rw[h.2];cases k<;>cases j<;>first|rfl|(simp[fkBeq] at h)
  |_=>simp[V.beq] at h
theorem wk : ∀(a b:List V),V.beqL a b=true->a=b
 |[],b,h=>by cases b<;>simp[V.beqL] at h;rfl
 |x::a,b,h=>by
  cases b with
  |nil=>simp[V.beqL] at h
  |cons y b =>
   simp only[V.beqL] at h;cases I:V.beq x y with
   |false=>rw[I] at h;cases h
   |true=>rw[I,ag] at h;rw[HB x y I,wk a b h]
end
theorem HC {m:Nat}: ∀(es:List Nat),(∀idx p,idx<mW m es->es[idx]?=some p->bit m p=true)/\mW m es<=es.length:=by
 intro es;induction es<;>grind[mW]
theorem UH {m:Nat}: ∀(es:List Nat),sj m es=true->∀(I aaA p q:Nat),I<=aaA->es[I]?=some p->es[aaA]?=some q->bit m q=true->bit m p=true:=by
 intro es;induction es<;>grind[sj]
theorem Nw : ∀(es:List Nat),qw fN i es<=es.length/\∀p,es[qw fN i es]?=some p->bit ((nth fN p).getD 0) i=true:=by
 intro es;induction es<;>grind[qw]
section
theorem RC {o:Oper}{x:Env×V}: ∀(l:List H),sameIn C self L o x l=true->wantedV L x.1 o=true->∀h∈l,∃h',evOp C self x.1 h o=some (x.2,h'):=by
 intro l;induction l with
 |nil=>simp
 |cons y l I =>
  intro hs hw h hm;simp only[sameIn,hw,ag] at hs;cases he:evOp C self x.1 y o with
  |none=>grind
  |some r =>
   grind[HB]
theorem Iq : ∀(l:List Oper) (tr:List (Env×V)) (k:Nat),stayOk C self L fN es hs l tr k=true ->
  ∀j o x,l[j]?=some o->tr[j]?=some x->isEff C o.op=false ->
   sj ((nth fN (k+j)).getD 0) es=true/\(mW ((nth fN (k+j)).getD 0) es=qw fN (k+j) es \/
    sameIn C self L o x ((hs.drop (mW ((nth fN (k+j)).getD 0) es)).take (qw fN (k+j) es+1-mW ((nth fN (k+j)).getD 0) es))=true):=by
 intro l;induction l with
 |nil=>simp
 |cons y l I =>
  intro tr k h j o x ho hx he;cases tr with
  |nil=>grind
  |cons z tr =>
   simp only[stayOk] at h;cases j<;>grind[beq_iff]
theorem YO {ops:List Oper}: ∀(l:List Oper) (tr:List (Env×V)),allW ops l tr=true->∀(i:Nat) (o:Oper) (x:Env×V),l[i]?=some o->tr[i]?=some x->isAlloc true o=true->wantedV ops x.1 o=true:=by
 intro l;induction l with
 |nil=>simp
 |cons y l I =>
  intro tr h i o x ho hx ha;cases tr<;>grind[allW]
theorem Js {o:Oper}(h:isAlloc false o=true): isAlloc true o=true/\o.guard=none:=by
 grind[isAlloc]
theorem UI {s z:St}(hr:qB C self L s=some z):
    ∃Fl st vv Hs,jj C self Fl L s st vv (fo C L 0) Hs/\st L.length=z/\L.all (λo => !JY o.op)=true:=by
  unfold qB at hr;cases kW:trace C self L L s [s.h] with
  |none=>grind
  |some q =>
      obtain⟨tr,hs,z'⟩:=q;simp only[kW] at hr;cases Pg:stayOk C self L (ancs L []) (fo C L 0) hs L tr 0 with
      |false=>grind
      |true =>
        rw[Pg,ag] at hr;obtain⟨fl,eO,hW,hr⟩:∃fl,mV C fl L=true/\(∀(i:Nat) (o:Oper) (x:Env×V),L[i]?=some o->tr[i]?=some x->isAlloc fl o=true->isAlloc true o=true/\wantedV L x.1 o=true)/\z'=z:=by
          cases h0:mV C false L with
          |true =>
            rw[h0,ag] at hr;refine⟨false,h0,λi o x _ _ ha => ?_,bB hr⟩<;>grind[Js,wantedV]
          |false =>
            grind[YO]
        subst hr;simp only[mV,bV] at eO;obtain⟨⟨⟨s1,s2⟩,s3⟩,s4⟩:=eO;obtain⟨st,t1,t2,t3,t4,t5⟩:=UE L 0 s [s.h] tr hs z' kW;simp only[eW] at t2 t5;have Xk:∀i o,L[i]?=some o->∀e∈o.after,iE e=true->e.on<i:=λi o ho e he hb=>by
          have:=Kf L 0 s1 i o ho e he hb;omega
        have afk:∀i o,L[i]?=some o->∀j,bit ((nth (ancs L []) i).getD 0) j=true->j<i:=λi o ho j hj =>
          (Ke Xk (λ_=>True) i o ho (λ_ _ _ _ _ _ _ _=>trivial) (λ_ _ _=>trivial) j hj).2
        have I:=(BH (C:=C) L 0).1;have Fs:∀p,p∈fo C L 0↔∃o,L[p]?=some o/\isEff C o.op=true:=λp=>by
          grind[Rv]
        have hHs:∀k p,(fo C L 0)[k]?=some p->hs[k+1]?=some (st (p+1)).h:=λk p hp=>by
          grind
        have hH0:hs[0]?=some s.h:=by grind
        have ae_:hs.length=(fo C L 0).length+1:=by grind
        have wU:∀i o,L[i]?=some o->∃h,(st i).put o.dst (((tr[i]?).map (·.2)).getD cY) h=some (st (i+1)) /\
            (wantedV L (st i).env o=true->evOp C self (st i).env (st i).h o=some (((tr[i]?).map (·.2)).getD cY,h))/\(wantedV L (st i).env o=false->((tr[i]?).map (·.2)).getD cY=cY/\h=(st i).h):=λi o ho=>by
          grind
        -- all but 'same'; it is wanted for 'heapAt'
        have afl:(∀i o,L[i]?=some o->isEff C o.op=false->∀k,k<=(fo C L 0).length->(∀idx p,idx<k->(fo C L 0)[idx]?=some p->bit ((nth (ancs L []) p).getD 0) i=false) ->
              (∀idx p,k<=idx->(fo C L 0)[idx]?=some p->bit ((nth (ancs L []) i).getD 0) p=false) ->
              wantedV L (st i).env o=true->∃h',evOp C self (st i).env ((hs[k]?).getD s.h) o=some (((tr[i]?).map (·.2)).getD cY,h')) ->
            jj C self (λi=>∃o,L[i]?=some o/\isAlloc fl o=true) L s st (λi=>((tr[i]?).map (·.2)).getD cY) (fo C L 0) (λk=>(hs[k]?).getD s.h):=λO2 =>
          { back:=Xk
            Pb:=λj o ho i x hi hx=>by
              have:=O9 L 0 s2 j o ho i x (by omega) hx;grind
            Di:=λi o ho ⟨o',A3,ha⟩=>by
              grind
            Rx:=λi o ho ⟨o',A3,ha⟩ j u hu cq=>by
              rw[ho] at A3;obtain rfl:=bB A3;rcases MB L 0 s3 i o ho ha j u hu (by omega) with h|h<;>grind[Rw]
            um:=Fs
            sorted:=I
            start:=t1
            step:=wU
            Pc:=by grind
            Fp:=λk p hp=>by grind
            gap:=λi o ho he=>by
              obtain⟨v,h,e1,_⟩:=t5 i o ho;have:=(Iq L tr 0 Pg i o _ ho e1 he).1;grind[UH]
            same:=O2 }
        refine⟨_,st,_,_,afl ?_,t2,s4⟩;intro i o ho he k hk h1 h2 hw;obtain⟨v,h,e1,e2,e3,e4⟩:=t5 i o ho;obtain⟨g1,g2⟩:=Iq L tr 0 Pg i o _ ho e1 he;simp only[eW] at g1 g2;have adC:mW ((nth (ancs L []) i).getD 0) (fo C L 0)<=k:=rD λcq=>by
          obtain⟨p,hp⟩:∃p,(fo C L 0)[k]?=some p:=⟨_,aF (by have:=(HC (m:=(nth (ancs L []) i).getD 0) (fo C L 0)).2;omega)⟩<;>grind[HC]
        have afm:k<=qw (ancs L []) i (fo C L 0):=rD λcq=>by
          grind[Nw]
        have J9:((tr[i]?).map (·.2)).getD cY=v:=by grind
        rw[J9];rcases g2 with g2|g2
        . -- its place is known
          have Ik:(st i).h=(hs[k]?).getD s.h:=by
            have l9:k=qw (ancs L []) i (fo C L 0):=by omega
            have cq:∀idx p,idx<k->(fo C L 0)[idx]?=some p->p<i:=λidx p cq hp=>by
              grind[HC]
            have Ir:∀idx p,k<=idx->(fo C L 0)[idx]?=some p->i<=p:=λidx p hle hp=>by
              obtain⟨q,hq⟩:∃q,(fo C L 0)[k]?=some q:=⟨_,aF (by grind)⟩;have hb:=(Nw (fN:=ancs L []) (i:=i) (fo C L 0)).2 q (by grind);obtain⟨x,hx,_⟩:=(Fs q).1 (aI hq)<;>grind[List.pairwise_iff_getElem]
            exact Fq (Hs:=λk=>(hs[k]?).getD s.h) wU (λp=>Fs p) I t1 (by grind) (λk p hp=>by grind) i k (by grind) hk cq Ir
          rw[<-Ik];exact⟨h,e3 hw⟩
        . have hm:(hs[k]?).getD s.h∈(hs.drop (mW ((nth (ancs L []) i).getD 0) (fo C L 0))).take (qw (ancs L []) i (fo C L 0)+1-mW ((nth (ancs L []) i).getD 0) (fo C L 0)):=by
            have adD:k<hs.length:=by omega
            refine aI (i:=k-mW ((nth (ancs L []) i).getD 0) (fo C L 0)) ?_;rw[hO,ay (by omega),fB,Nat.add_sub_cancel' adC,aF adD];simp
          exact RC _ g2 hw _ hm
theorem YP {S:Nat->Prop}(hb:∀i o,L[i]?=some o->∀e∈o.after,iE e=true->e.on<i)(I:∀i o,¬ nf L S i o): ∀i,i<L.length->S i:=by
 intro i;induction i using Nat.strongRecOn with
 |_ i ih =>
  intro hi;refine GZ λhS => ?_;refine I i L[i] ⟨aF hi,hS,λe he RD => ?_⟩<;>grind
theorem iX.done {s:St}{st:Nat->St}{c:Ctx}{S:Nat->Prop}{a:Act}
 (D:jj C self Fl L s st vv es Hs)(I:iX C self Fl L s st vv es Hs c₀ w₀ d₀ S early k c a w)(lj:∀p,es[k]?=some p->¬ S p)(kK:∀i,i<L.length->S i):
  Rel c (st L.length).h w/\fW c (st L.length).env (st L.length).ax a:=by
 have cq:∀p∈es,p<L.length:=λp hp=>by
  obtain⟨o,ho,_⟩:=(D.um p).1 hp<;>grind
 have aeY:∀p,early p=none:=λp=>by
  cases h:early p with
  |none=>rfl
  |some b =>
   obtain⟨_,idx,h1,h2⟩:=I.vL p b h<;>grind
 refine⟨?_,?_⟩
 .rw[D.Kg L.length k (aH _) I.Nr (λidx p _ hp=>cq p (aI hp)) (λidx p hle hp=>by grind)];exact I.rel
 .have hv:∀t,a.tmps.getD t undef=conc c ((st L.length).env.v t)/\wf c ((st L.length).env.v t):=λt=>by
   rcases I.tmp t with⟨i,o,g1,g2,g3,g4,g5⟩|⟨g1,g2,g3⟩
   .have:(st L.length).env.v t=vv i:=by
     rcases D.JC t L.length (aH _) with⟨j,oj,h1,h2,h3,h4,h5⟩|⟨h1,_⟩<;>grind
    rcases g5 with⟨b,e1,_⟩|⟨_,e2,e3⟩
    .grind
    .grind
   .have:(st L.length).env.v t=s.env.v t:=by
     rcases D.JC t L.length (aH _) with⟨j,oj,h1,h2,h3,h4,h5⟩|⟨_,h⟩<;>grind
    rw[this];exact⟨g2,g3⟩
  exact⟨by rw[I.size,D.ax L.length (aH _)],λt=>(hv t).1,λt=>(hv t).2⟩
theorem iX.congr {s:St}{st:Nat->St}{c:Ctx}{S S':Nat->Prop}{a:Act}
 (I:iX C self Fl L s st vv es Hs c₀ w₀ d₀ S early k c a w)(h:∀j,S j↔S' j): iX C self Fl L s st vv es Hs c₀ w₀ d₀ S' early k c a w:=by
 have:S=S':=funext λj=>propext (h j);rw[<-this];exact I
theorem UJ (hS:kV C.P self)(hT:iU C){r:Option Nat}(hL:ops.toList=L){Q:Exit->Act->World->Prop}{s:St}{st:Nat->St}(D:jj C self Fl L s st vv es Hs)
 (hQ:∀c a w,Rel c (st L.length).h w->fW c (st L.length).env (st L.length).ax a->dA c₀ w₀ c w->a.defers=d₀->Q .normal a w):
  ∀(fuel:Nat) (lE:Array Bool) (early:Nat->Option (Nat×FV)) (k:Nat) (c:Ctx) (a:Act) (w:World),lE.size=L.length->lE.count false<=fuel ->
   iX C self Fl L s st vv es Hs c₀ w₀ d₀ (λj=>lE.getD j false=true) early k c a w->wpAnyIn (Fr r) 0 C.P .any ops Q fuel lE a w:=by
 intro fuel;induction fuel with
 |zero =>
  intro lE early k c a w fY qU I;have kK:∀i,i<L.length->lE.getD i false=true:=λi hi=>by
   have h0:lE.count false=0:=by omega
   have:false∉lE:=Array.count_eq_zero.1 h0;rw[yl,CQ (by omega)];grind
  obtain⟨nL,k',c',I',lj⟩:=iX.Ip D (es.length-k) k early c U I;obtain⟨r1,r2⟩:=I'.done D lj kK;refine⟨?_,hQ c' a w r1 r2 I'.Ns I'.defers⟩;refine List.eq_nil_iff_forall_not_mem.2 λj hj => ?_;obtain⟨h1,o,h2,_⟩:=mem_ready.1 hj;have cq:j<L.length:=by grind
  have h3:=kK j cq;rw[yl,CQ (by omega)] at h1 h3;simp at h1 h3;rw[h1] at h3;cases h3
 |succ fuel ih =>
  intro lE early k c a w fY qU I;obtain⟨nL,k',c',I',lj⟩:=iX.Ip D (es.length-k) k early c U I;have aaH:∀j,j∈Region.ready .any ops lE↔∃o,nf L (λj=>lE.getD j false=true) j o:=λj=>by
   rw[mem_ready];constructor
   .rintro⟨h1,o,h2,h3⟩;refine⟨o,by grind,λh4 => ?_,λe he hb=>h3 e he ?_⟩
    .grind
    .rw[<-hb];cases e;rename_i on g;cases g<;>rfl
   .rintro⟨o,R⟩;have h2:=R.at_;rw[<-hL,ni] at h2;refine⟨?_,o,h2,λe he hb=>R.Pf e he ?_⟩
    .have cq:j<lE.size:=by grind
     have h4:=R.not;grind
    .rw[<-hb];cases e;rename_i on g;cases g<;>rfl
  refine⟨λO8 => ?_,λi hi => ?_⟩
  .have kK:=YP (S:=λj=>lE.getD j false=true) D.back (λi o R=>by
    grind)
   obtain⟨r1,r2⟩:=I'.done D lj kK;exact hQ c' a w r1 r2 I'.Ns I'.defers
  .obtain⟨o,R⟩:=(aaH i).1 hi;have cq:i<lE.size:=by rw[fY];exact(List.getElem?_eq_some_iff.1 R.at_).1
   have aeZ:lE[i]=false:=by
    have:=R.not;rw[yl,CQ cq] at this;simpa using this
   refine I'.aaF hS hT hL D lj R ?_;intro YQ k'' Ka Kb DT I'';refine ih (lE.setIfInBounds i true) YQ k'' Ka Kb DT (by grind) ?_ (I''.congr λj => ?_)
   .grind
   .by_cases kI:j=i
    .subst kI;simp[yl,cq]
    simp_all[jR]
theorem RE (hS:kV C.P self)(hT:iU C)(hm:C.P.follows .mixedOrders=true){r:Option Nat}{s:St}(hr:qB C self ops.toList s=some s'){Q:Exit->Act->World->Prop}{c:Ctx}{a:Act}(h:Rel c s.h w)(he:fW c s.env s.ax a)
 (hQ:∀c' a' w',Rel c' s'.h w'->fW c' s'.env s'.ax a'->dA c w c' w'->a'.defers=a.defers->Q .normal a' w'):
  (Code.region id ops true).wpIn (Fr r) 0 C.P Q a w:=by
 obtain⟨Fl,st,vv,Hs,D,hz,_⟩:=UI hr;refine wpIn_region_any hm ?_;have adE:dA c w c { w with drawn:=w.drawn+1 }:=dA.drew c w;have uL:Rel c s.h { w with drawn:=w.drawn+1 }:=h.drew;refine UJ hS hT U D (c₀:=c) (w₀:=w) (d₀:=a.defers) (λc' a' w' r1 r2 r3 r4=>hQ c' a' w' (by grind) (by grind) r3 r4)
  ops.size (Array.replicate ops.size false) (λ_=>none) 0 c a _ (by simp) (by simp) ?_
 have I:∀j,¬ (Array.replicate ops.size false).getD j false=true:=λj=>by
  rw[yl,Array.getElem?_replicate];split<;>simp
 refine⟨λi o hi=>absurd hi (I i),λidx p h=>by omega,gG _,λidx p _ _ hp=>absurd hp (I p),(λp b h=>by cases h),(by rw[D.Pc];exact uL),he.size,
  λt=>.inr ⟨λj o hj=>absurd hj (I j),he.val t,he.E7 t⟩,(λp b h=>by cases h),(λp q b b' h=>by cases h),adE,U⟩
end
end Go.Proofs.YtdonpgpfplgigaaGreat.Am
namespace Go.Proofs.YtdonpgpfplgigaaGreat.Am
open Go
variable {ps:Array (Nat×Operand)} {ops:Array Oper} {st:Bool} {C:gN} {code:Code} {c₀:Ctx} {env:Env} {Q:Ex->List (Nat×V)->H->Prop} {fn:Func} {h' σ h₁ fg:H} {κ:IntKind} {E E':List (Nat×V)} {R:List (Nat×V)->H->Prop} {d₀:List Deferred} {hs:List H} {fN es l:List Nat} {L rest:List Oper} {args first cap vs cs ds:List V} {a b i c k id n d off j g vj k' q:Nat} {Hs:Nat->H} {early:Nat->Option (Nat×FV)} {Fl:Nat->Prop} {vv:Nat->V} {o':Obj} {x y:Operand} {P:Program} {φ:Prop} {self:Self} {s':St} {α:Type} {td:TypeDesc} {t t' e kt et:TypeId} {r u z:V} {BJ:V->H->Prop} {w₀ w:World}
section
variable {b:Frame} {a:Act} {k:List Item} {cs:List Frame}
theorem qD {c:Code}: step P (lone (b.atR a (.code (.scope c)::k)) cs w)=.next (lone (b.atR a (.code c::.inScope c::k)) cs w) :=
 by rfl
theorem Jt {c:Code}: step P (lone (b.atR a (.inScope c::k)) cs w)=.next (lone (b.atR a k) cs w) :=
 by rfl
end
theorem Ph {r:Option Nat}{c:Code}{Q:Exit->Act->World->Prop}{a:Act}(h:c.wpIn (Fr r) 0 P (Exit.noGoto Q) a w): (Code.scope c).wpIn (Fr r) 0 P Q a w:=by
 intro b k cs hro hb hr;obtain⟨e,BE,BF,hq,I⟩:=h b (.inScope c::k) cs hro hb hr;cases e with
 |normal=>exact⟨.normal,BE,BF,hq,.of_steps (.one (fenced_calm hb hr U) qD) (StepsIn.trans I (.one (fenced_calm hb hr U) Jt))⟩
 |exit id=>exact⟨.exit id,BE,BF,hq,.of_steps (.one (fenced_calm hb hr U) qD) ⟨λk' hk=>I.1 k' (by simpa[exitTo] using hk),λhr hk=>I.2 hr (by simpa[exitTo] using hk)⟩⟩
 |goto l=>exact hq.elim
 |ret=>exact⟨_,BE,BF,hq,.of_steps (.one (fenced_calm hb hr U) qD) I⟩
 |panic ch=>exact⟨_,BE,BF,hq,.of_steps (.one (fenced_calm hb hr U) qD) I⟩
 |outgrown=>exact⟨_,BE,BF,hq,.of_steps (.one (fenced_calm hb hr U) qD) I⟩
def Fw (P:Program)(self:Self)(m:Nat): Prop:=∀(b:Code) (s:St) (ex:Ex) (s':St),self (.loop b) s=some (ex,s') ->
 ∀(r:Option Nat) (c:Ctx) (a:Act) (w:World) (Q:Exit->Act->World->Prop),Rel c s.h w->fW c s.env s.ax a ->
  (∀e I w',(e=exOf ex/\I.defers=a.defers/\∃c',Rel c' s'.h w'/\fW c' s'.env s'.ax I/\dA c w c' w')->Q e I w')->Code.roundsIn (Fr r) 0 P b Q m a w
section
theorem D2 {m:Nat}(hS:kV C.P self)(hL:Fw C.P self m): Fw C.P (evStep C self) (m+1):=by
 intro b s ex s' hr r c a w Q h he hQ;unfold evStep at hr;simp only at hr;cases hb:self b s with
 |none=>grind
 |some q =>
  obtain⟨I,JX⟩:=q;rw[hb] at hr;refine wpIn_mono (hS b s I JX hb r c a w h he) ?_;rintro e BE BF ⟨rfl,q2,c₁,q3,q4,q5⟩;cases I with
  |normal =>
   refine hL b JX ex s' hr r c₁ BE BF Q q3 q4 ?_;rintro aeV acf acg ⟨p1,p2,c₂,p3,p4,p5⟩;exact hQ _ _ _ ⟨p1,by grind,c₂,p3,p4,q5.trans p5⟩
  |exit i =>
   obtain⟨rfl,rfl⟩:=hr;exact hQ _ _ _ ⟨U,q2,c₁,q3,q4,q5⟩
  |ret =>
   obtain⟨rfl,rfl⟩:=hr;exact hQ _ _ _ ⟨U,q2,c₁,q3,q4,q5⟩
theorem RF {m:Nat}(hm:C.P.follows .mixedOrders=true)(hT:iU C)(hS:kV C.P self)(hL:Fw C.P self m): kV C.P (evStep C self):=by
 intro code s ex s' hr r c a w h he;have same:∀ {ex:Ex} {s':St},(Ex.normal,s)=(ex,s')->exOf ex=.normal/\s'=s:=λe=>by cases e;exact⟨U,U⟩
 cases code with
 |skip =>
  simp only[evStep,aA,bS] at hr;obtain⟨rfl,rfl⟩:=hr;exact wpIn_skip ⟨U,U,c,h,he,dA.refl c w⟩
 |label l =>
  simp only[evStep,aA,bS] at hr;obtain⟨rfl,rfl⟩:=hr;exact wpIn_label ⟨U,U,c,h,he,dA.refl c w⟩
 |region id ops draw =>
  unfold evStep at hr;simp only at hr;cases draw with
  |true =>
   rw[ag] at hr;cases hd:qB C self ops.toList s with
   |none=>simp[hd] at hr
   |some I =>
    simp only[hd,aA,bS] at hr;obtain⟨rfl,rfl⟩:=hr;exact RE hS hT hm hd h he λc' a' w' r1 r2 r3 r4=>⟨U,r4,c',r1,r2,r3⟩
  |false =>
   rw[aS] at hr;cases hd:evOps C self ops.toList ops.toList s with
   |none=>simp[hd] at hr
   |some I =>
    simp only[hd,aA,bS] at hr;obtain⟨rfl,rfl⟩:=hr;refine wpIn_region ?_;rw[List.range_eq_range',<-G5];exact UB hS hT ops.toList 0 s I c a w (λj=>by rw[eW,ni]) hd h he λc' a' w' r1 r2 r3 r4=>⟨U,r4,c',r1,r2,r3⟩
 |seq x y =>
  unfold evStep at hr;simp only at hr;cases hx:self x s with
  |none=>rw[hx] at hr;simp at hr
  |some r =>
   obtain⟨Is,I⟩:=r;rw[hx] at hr;refine wpIn_seq (wpIn_mono (hS x s Is I hx r c a w h he) ?_);rintro e BE BF ⟨rfl,q2,c₁,q3,q4,q5⟩;cases Is with
   |normal =>
    simp only at hr;refine wpIn_mono (hS y I ex s' hr r c₁ BE BF q3 q4) ?_;rintro e acf acg ⟨rfl,p2,c₂,p3,p4,p5⟩;exact⟨U,by rw[p2,q2],c₂,p3,p4,q5.trans p5⟩
   |exit i =>
    simp only[aA,bS] at hr;obtain⟨rfl,rfl⟩:=hr;exact⟨U,q2,c₁,q3,q4,q5⟩
   |ret =>
    simp only[aA,bS] at hr;obtain⟨rfl,rfl⟩:=hr;exact⟨U,q2,c₁,q3,q4,q5⟩
 |cond x y z =>
  unfold evStep at hr;simp only at hr;split at hr
  .rename_i t hx;obtain⟨e1,_⟩:=E_ he hx;refine wpIn_cond (t:=t) (by rw[e1];rfl) ?_;have:=hS (cond t y z) s ex s' hr r c a w h he;cases t<;>simpa using this
  .cases hr
 |block id b =>
  unfold evStep at hr;simp only at hr;cases hb:self b s with
  |none=>rw[hb] at hr;simp at hr
  |some r =>
   obtain⟨Is,I⟩:=r;rw[hb] at hr;refine wpIn_block (wpIn_mono (hS b s Is I hb r c a w h he) ?_);rintro e BE BF ⟨rfl,q2,c₁,q3,q4,q5⟩;cases Is with
   |normal =>
    simp only[aA,bS] at hr;obtain⟨rfl,rfl⟩:=hr;simp only[exOf,Exit.inBlock];exact⟨aa,q2,c₁,q3,q4,q5⟩
   |exit i =>
    simp only at hr;by_cases hi:i=id
    .rw[qT hi,ag] at hr;simp only[aA,bS] at hr;obtain⟨rfl,rfl⟩:=hr;simp only[exOf,Exit.inBlock,hi,dG];exact⟨aa,q2,c₁,q3,q4,q5⟩
    .rw[fO hi,aS] at hr;simp only[aA,bS] at hr;obtain⟨rfl,rfl⟩:=hr;simp only[exOf,Exit.inBlock,hi,gP];exact⟨aa,q2,c₁,q3,q4,q5⟩
   |ret =>
    simp only[aA,bS] at hr;obtain⟨rfl,rfl⟩:=hr;simp only[exOf,Exit.inBlock];exact⟨aa,q2,c₁,q3,q4,q5⟩
 |loop b =>
  exact wpIn_loop_rounds (m+1) (D2 hS hL b s ex s' hr r c a w _ h he (λ_ _ _ hq=>hq))
 |exit id =>
  simp only[evStep,aA,bS] at hr;obtain⟨rfl,rfl⟩:=hr;exact wpIn_exit ⟨U,U,c,h,he,dA.refl c w⟩
 |scope b =>
  unfold evStep at hr;simp only at hr;refine Ph (wpIn_mono (hS b s ex s' hr r c a w h he) ?_);rintro e BE BF ⟨rfl,q2,c₁,q3,q4,q5⟩;cases ex<;>exact⟨U,q2,c₁,q3,q4,q5⟩
 |ret =>
  simp only[evStep,aA,bS] at hr;obtain⟨rfl,rfl⟩:=hr;exact wpIn_ret ⟨U,U,c,h,he,dA.refl c w⟩
 |_=>simp[evStep] at hr
theorem RG (hm:C.P.follows .mixedOrders=true)(hT:iU C): ∀n,kV C.P (ev C n)/\Fw C.P (ev C n) n:=by
 intro n;induction n with
 |zero=>exact⟨λ_ _ _ _ h=>by simp[ev] at h,λ_ _ _ _ h=>by simp[ev] at h⟩
 |succ n I=>exact⟨RF hm hT I.1 I.2,D2 I.1 I.2⟩
theorem Dl (hm:C.P.follows .mixedOrders=true)(I:iU C)(n:Nat): J8 C.P (ev C n)/\True:=⟨(RG hm I n).1.wide,aa⟩
theorem Kl (hm:C.P.follows .mixedOrders=true)(hT:iU C){f:FuncId}{h:H}{v:V}(hr:run C n f args h=some (v,h')){c:Ctx}
 (I:Rel c h w)(hw:∀x∈args,wf c x): kJ C.P f args c w v h' :=
 (callF_ok (Dl hm hT n).1 hT hr I hw).1
theorem Rel.empty (w:World): Rel ⟨λ_=>(0,0),λ_=>0,0,λ_=>false⟩ ⟨0,.lf⟩ w :=
 ⟨U,λid o h=>by simp[T.vX] at h,λid h=>absurd h (vG _),λid h=>absurd h (vG _),λi j o o' h=>by simp[T.vX] at h,λid o h=>by simp[T.vX] at h,λid cs st h=>by simp,λid o h=>by simp⟩
end
def leftC : Code->Code
 |.seq a _=>a
 |c=>c
def eC : Code->Code
 |.seq _ b=>b
 |c=>c
def oF (f g:Self): Prop:=∀c s r,f c s=some r->g c s=some r
section
variable {f g:Self}
theorem sA (h : oF f g) {r : V × H} (hr : callF C f k args σ = some r) : callF C g k args σ = some r := by
 unfold callF at hr ⊢
 cases I : C.told k with
 | some t => grind
 | none =>
  simp only [I] at hr ⊢
  cases hf : C.P.funcs[k]? with
  | none => grind
  | some fn =>
   simp only [hf] at hr ⊢
   cases hb : fn.body with
   | none => grind
   | some c =>
    simp only [hb] at hr ⊢
    cases hq : (fn.name == "runtime.NumGoroutine" || Nat.blt fn.ntmps args.length) with
    | true => grind
    | false =>
     simp only [hq, aS] at hr ⊢
     cases hs : f c ⟨bindArgs args 0 .lf, fn.ntmps, σ⟩ with
     | none => grind
     | some q => rw [h _ _ _ hs]; rw [hs] at hr; exact hr
theorem MC (h:oF f g){r:V×H}(hr:roundV f id args σ=some r): roundV g id args σ=some r:=by
 unfold roundV at hr ⊢;cases ho:σ.tr.get id with
 |none=>grind
 |some o =>
  simp only[ho] at hr ⊢;cases o with
  |loop busy ax env ps fN bd =>
   cases busy with
   |true=>cases hr
   |false =>
    cases he:bindPs ax ps args env with
    |none=>grind
    |some e =>
     simp only[he] at hr ⊢;cases h1:f fN ⟨e,ax,σ⟩ with
     |none=>grind
     |some q =>
      rw[h fN _ _ h1];simp only[h1] at hr;split at hr
      .rename_i JX hq;split at hr
       .split at hr
        .rename_i aar I;rw[h bd _ _ I];exact hr
        .rename_i aar I;rw[h bd _ _ I];exact hr
        .grind
       .cases hr
      .cases hr
  |_=>cases hr
theorem oc (h:oF f g){o:Oper}{r:V×H}(hr:evOp C f env σ o=some r): evOp C g env σ o=some r:=by
 unfold evOp at hr ⊢;cases I:o.op<;>simp only[I] at hr ⊢<;>try exact hr
 rename_i cl;unfold evCall at hr ⊢;cases ha:evArgs env cl.args.toList with
 |none=>grind
 |some args =>
  cases hc:cl.callee with
  |builtin b=>grind
  |value x =>
   cases hx:evO env x with
   |none=>grind
   |some fv =>
    unfold callV at hr ⊢;grind[sA,MC]
  |invoke x m =>
   grind[sA]
theorem sB (h:oF f g): ∀(l:List Oper) (s s':St),evOps C f L l s=some s'->evOps C g L l s=some s':=by
 intro l;induction l with
 |nil=>intro s s' hr;exact hr
 |cons o l I =>
  intro s s' hr;simp only[evOps] at hr ⊢;cases hw:wantedV L s.env o with
  |true =>
   cases ho:evOp C f s.env s.h o with
   |none=>grind
   |some q =>
    grind[oc]
  |false =>
   grind
theorem Ag (h:oF f g): ∀(l:List Oper) (s:St) (hs:List H) (r:List (Env×V)×List H×St),trace C f L l s hs=some r->trace C g L l s hs=some r:=by
 intro l;induction l with
 |nil=>intro s hs r hr;exact hr
 |cons o l I =>
  intro s hs r hr;simp only[trace] at hr ⊢;have key:∀q,cond (wantedV L s.env o) (evOp C f s.env s.h o) (some (cY,s.h))=some q->cond (wantedV L s.env o) (evOp C g s.env s.h o) (some (cY,s.h))=some q:=by
   grind[oc]
  cases hc:cond (wantedV L s.env o) (evOp C f s.env s.h o) (some (cY,s.h)) with
  |none=>grind
  |some q =>
   grind
theorem MD (h:oF f g){o:Oper}{x:Env×V}: ∀(l:List H),sameIn C f L o x l=true->sameIn C g L o x l=true:=by
 intro l;induction l with
 |nil=>intro hr;exact hr
 |cons y l I =>
  intro hr;simp only[sameIn] at hr ⊢;cases hw:wantedV L x.1 o with
  |false=>simp
  |true =>
   cases ho:evOp C f x.1 y o with
   |none=>grind
   |some q =>
    grind[oc]
theorem ME (h:oF f g): ∀(l:List Oper) (tr:List (Env×V)) (i:Nat),stayOk C f L fN es hs l tr i=true->stayOk C g L fN es hs l tr i=true:=by
 intro l;induction l with
 |nil=>intro tr i hr;cases tr<;>exact hr
 |cons o l I =>
  intro tr i hr;cases tr<;>grind[stayOk,MD]
theorem MF (h:oF f g){s:St}(hr:qB C f L s=some s'): qB C g L s=some s':=by
 grind[qB,Ag,ME]
theorem MG (h:oF f g): oF (evStep C f) (evStep C g):=by
 intro c s r hr;cases c with
 |region id ops draw =>
  grind[evStep,MF,sB]
 |seq a b =>
  simp only[evStep] at hr ⊢;cases I:f a s with
  |none=>grind
  |some q =>
   obtain⟨ex,s1⟩:=q;rw[h _ _ _ I];rw[I] at hr;cases ex with
   |normal=>exact h _ _ _ hr
   |exit i=>exact hr
   |ret=>exact hr
 |cond x a b =>
  simp only[evStep] at hr ⊢;split at hr
  .exact h _ _ _ hr
  .cases hr
 |block id b =>
  simp only[evStep] at hr ⊢;cases I:f b s with
  |none=>grind
  |some q=>rw[h _ _ _ I];rw[I] at hr;exact hr
 |loop b =>
  simp only[evStep] at hr ⊢;cases I:f b s with
  |none=>grind
  |some q =>
   obtain⟨ex,s1⟩:=q;rw[h _ _ _ I];rw[I] at hr;cases ex with
   |normal=>exact h _ _ _ hr
   |exit i=>exact hr
   |ret=>exact hr
 |scope b=>exact h _ _ _ hr
 |_=>exact hr
theorem Pj : ∀n,oF (ev C n) (ev C (n+1)):=by
 intro n;induction n with
 |zero=>intro c s r hr;cases hr
 |succ n I=>exact MG I
theorem iM {m:Nat}(hle:n<=m): oF (ev C n) (ev C m):=by
 induction hle with
 |refl=>intro c s r hr;exact hr
 |step _ I=>intro c s r hr;exact Pj _ c s r (I c s r hr)
end
def look : List (Nat×V)->Nat->Option V
 |[],_=>none
 |x::E,k=>cond (Nat.beq x.1 k) (some x.2) (look E k)
def mc (env:Env)(E:List (Nat×V)): Prop:=∀t v,look E t=some v->T.get env t=some v
theorem mc.set (h:mc env E)(d:Nat)(v:V): mc (env.set d (some v)) ((d,v)::E):=by
 intro t u hl;simp only[look] at hl;rw[bh];by_cases I:d=t
 .simp_all
 .rw[fO I,aS] at hl;rw[ai (λe=>I e.symm)];exact h t u hl
theorem mc.sub (h:mc env E)(hs:∀t v,look E' t=some v->look E t=some v): mc env E':=λt v hl=>h t v (hs t v hl)
def bE (E:List (Nat×V)): Operand->Option V
 |.tmp t=>look E t
 |.const c=>ofValue c
 |.global _=>none
 |.func f=>some (.fn (.func f) [] [])
theorem cF (h:mc env E){v:V}(I:bE E x=some v): evO env x=some v:=by
 cases x with
 |tmp t=>simp only[evO,Env.v,h t v I]
 |const c=>exact I
 |global g=>cases I
 |func f=>exact I
def lookArgs (E:List (Nat×V)): List Operand->Option (List V)
 |[]=>some []
 |x::l=>match bE E x with
  |none=>none
  |some v=>match lookArgs E l with
   |none=>none
   |some m=>some (v::m)
theorem oN (h:mc env E): ∀ {l:List Operand} {m:List V},lookArgs E l=some m->evArgs env l=some m:=by
 intro l;induction l<;>grind[lookArgs,evArgs,cF]
def lookParts (E:List (Nat×V)): List (Nat×Operand)->Option (List (Nat×V))
 |[]=>some []
 |x::l=>match bE E x.2 with
  |none=>none
  |some v=>match lookParts E l with
   |none=>none
   |some m=>some ((x.1,v)::m)
theorem BK (h:mc env E): ∀ {l:List (Nat×Operand)} {m:List (Nat×V)},lookParts E l=some m->evParts env l=some m:=by
 intro l;induction l<;>grind[lookParts,evParts,cF]
def lookOpt (E:List (Nat×V)): Option Operand->Option (Option V)
 |none=>some none
 |some x=>match bE E x with
  |some v=>some (some v)
  |none=>none
theorem Ah (h:mc env E){x:Option Operand}{v:Option V}(I:lookOpt E x=some v): optV env x=some v:=by
 cases x<;>grind[lookOpt,optV,cF]
section
variable (P:Program)
def lF (E:List (Nat×V))(x:Operand)(g:V->Option (V×H)): Option (V×H):=match bE E x with
 |some v=>g v
 |none=>none
def w8 (E:List (Nat×V))(x y:Operand)(g:V->V->Option (V×H)): Option (V×H):=match bE E x with
 |some v=>match bE E y with
  |some u=>g v u
  |none=>none
 |none=>none
noncomputable def opE (E:List (Nat×V))(h:H)(o:Op): Option (V×H):=match o with
 |.move x|.assign x=>lF E x λv=>some (v,h)
 |.pick c a b=>lF E c λv=>match v with
  |.bool t=>lF E (cond t a b) λv=>some (v,h)
  |_=>none
 |.alloc t=>match zeroT P t with
  |some z=>some (.ptr h.next 0,newRow h z.cells)
  |none=>none
 |.box _ x=>lF E x λv=>cond (v.cells.all storable) (some (.ptr h.next 0,newRow h v.cells)) none
 |.build t ps=>match lookParts E ps.toList with
  |some l=>bO (buildV P t l) h
  |none=>none
 |.buildSlice t n ps=>match lookParts E ps.toList with
  |some l=>buildSliceV P h t n l
  |none=>none
 |.load t a=>lF E a λv=>bO (loadV P h t v) h
 |.store t a x=>w8 E a x λp v=>wT (j7 P h t p v)
 |.nilCheck x=>lF E x λv=>match v with
  |.ptr a b=>some (.ptr a b,h)
  |_=>none
 |.binOp op t x y _=>w8 E x y λa b=>bO (binV P h op t x y a b) h
 |.unOp op _ x=>lF E x λa=>bO (unV op a) h
 |.convert s d x=>lF E x λa=>match convV P h s d a with
   |some r=>some r
   |none=>convB P h s d a
 |.sliceToArrayPointer d x=>lF E x λa=>bO (arrPtrV P d a) h
 |.makeInterface t x=>lF E x λa=>bO (makeIfaceV P t a) h
 |.makeFunc f a b=>match lookArgs E a.toList with
  |some x=>match lookArgs E b.toList with
   |some y=>some (.fn f x y,h)
   |none=>none
  |none=>none
 |.makeMap _ r=>match r with
  |none=>some (.map h.next,h.new (.map [] 0))
  |some _=>none
 |.makeSlice t l c=>w8 E l c λa b=>makeSliceV P h t a b
 |.slice t x lo hi mx=>lF E x λv=>match lookOpt E lo with
  |some a=>match lookOpt E hi with
   |some b=>match lookOpt E mx with
    |some c=>match mA a with
     |some a=>match mA b with
      |some b=>match mA c with
       |some c=>bO (sliceV P h t v a b c) h
       |none=>none
      |none=>none
     |none=>none
    |none=>none
   |none=>none
  |none=>none
 |.fieldAddr t x i=>lF E x λv=>bO (fieldAddrV P t v i) h
 |.field t x i=>lF E x λv=>bO (ug P t v i) h
 |.indexAddr t x i=>w8 E x i λv j=>bO (indexAddrV P t v j) h
 |.index t x i=>w8 E x i λv j=>bO (indexV P t v j) h
 |.lookup t x k ok=>w8 E x k λm j=>bO (gA P h t m j ok) h
 |.extract t i=>lF E t λv=>match v with
  |.aV l=>bO (nth l i) h
  |_=>none
 |.typeAssert x _ a ok=>lF E x λv=>bO (assertV P v a ok) h
 |.call c=>match c.callee with
  |.builtin b=>match lookArgs E c.args.toList with
   |some args=>builtinV P h b c.argTypes args
   |none=>none
  |_=>none
 |_=>none
end
theorem jS {g:V->Option (V×H)}{r:V×H}(h:lF E x g=some r): ∃v,bE E x=some v/\g v=some r:=by
 grind[lF]
theorem vM {g:V->V->Option (V×H)}{r:V×H}(h:w8 E x y g=some r): ∃v u,bE E x=some v/\bE E y=some u/\g v u=some r:=by
 grind[w8]
set_option maxHeartbeats 1000000 in
theorem Fy {h:H}{o:Oper}{r:V×H}(hE:mc env E)(hr:opE C.P E h o.op=some r): evOp C self env h o=some r:=by
 unfold opE at hr;unfold evOp;split at hr
 .rename_i x I;obtain⟨v,h1,h2⟩:=jS hr;simp only[I,cF hE h1,bO];exact h2
 .rename_i x I;obtain⟨v,h1,h2⟩:=jS hr;simp only[I,cF hE h1,bO];exact h2
 .rename_i c a b I;obtain⟨v,h1,h2⟩:=jS hr;split at h2
  .rename_i t;obtain⟨u,h3,h4⟩:=jS h2;simp only[I,cF hE h1,cF hE h3,bO];exact h4
  .cases h2
 .rename_i t I;simp only[I];exact hr
 .rename_i t x I;obtain⟨v,h1,h2⟩:=jS hr;simp only[I,cF hE h1];exact h2
 .rename_i t ps I;cases hp:lookParts E ps.toList with
  |none=>simp[hp] at hr
  |some l=>simp only[hp] at hr;simp only[I,BK hE hp];exact hr
 .rename_i t n ps I;cases hp:lookParts E ps.toList with
  |none=>simp[hp] at hr
  |some l=>simp only[hp] at hr;simp only[I,BK hE hp];exact hr
 .rename_i t a I;obtain⟨v,h1,h2⟩:=jS hr;simp only[I,cF hE h1];exact h2
 .rename_i t a x I;obtain⟨v,u,h1,h2,h3⟩:=vM hr;simp only[I,cF hE h1,cF hE h2];exact h3
 .rename_i x I;obtain⟨v,h1,h2⟩:=jS hr;split at h2
  .simp only[I,cF hE h1];exact h2
  .cases h2
 .rename_i op t x y u I;obtain⟨v,u,h1,h2,h3⟩:=vM hr;simp only[I,cF hE h1,cF hE h2];exact h3
 .rename_i op t x I;obtain⟨v,h1,h2⟩:=jS hr;simp only[I,cF hE h1];exact h2
 .rename_i s d x I;obtain⟨v,h1,h2⟩:=jS hr;simp only[I,cF hE h1];exact h2
 .rename_i d x I;obtain⟨v,h1,h2⟩:=jS hr;simp only[I,cF hE h1];exact h2
 .rename_i t x I;obtain⟨v,h1,h2⟩:=jS hr;simp only[I,cF hE h1];exact h2
 .rename_i f a b I;cases ha:lookArgs E a.toList with
  |none=>simp[ha] at hr
  |some x =>
   cases hb:lookArgs E b.toList with
   |none=>simp[ha,hb] at hr
   |some y=>simp only[ha,hb] at hr;simp only[I,oN hE ha,oN hE hb];exact hr
 .rename_i t r I;simp only[I];exact hr
 .rename_i t l c I;obtain⟨v,u,h1,h2,h3⟩:=vM hr;simp only[I,cF hE h1,cF hE h2];exact h3
 .rename_i t x lo hi mx I;obtain⟨v,h1,h2⟩:=jS hr;cases ha:lookOpt E lo with
  |none=>simp[ha] at h2
  |some a =>
   cases hb:lookOpt E hi with
   |none=>simp[ha,hb] at h2
   |some b =>
    cases hc:lookOpt E mx with
    |none=>simp[ha,hb,hc] at h2
    |some c =>
     simp only[ha,hb,hc] at h2;simp only[I,cF hE h1,Ah hE ha,Ah hE hb,Ah hE hc];cases pa:mA a with
     |none=>simp[pa] at h2
     |some a =>
      cases pb:mA b with
      |none=>simp[pa,pb] at h2
      |some b =>
       cases pc:mA c with
       |none=>simp[pa,pb,pc] at h2
       |some c=>simp only[pa,pb,pc] at h2 ⊢;exact h2
 .rename_i t x i I;obtain⟨v,h1,h2⟩:=jS hr;simp only[I,cF hE h1];exact h2
 .rename_i t x i I;obtain⟨v,h1,h2⟩:=jS hr;simp only[I,cF hE h1];exact h2
 .rename_i t x i I;obtain⟨v,u,h1,h2,h3⟩:=vM hr;simp only[I,cF hE h1,cF hE h2];exact h3
 .rename_i t x i I;obtain⟨v,u,h1,h2,h3⟩:=vM hr;simp only[I,cF hE h1,cF hE h2];exact h3
 .rename_i t x k ok I;obtain⟨v,u,h1,h2,h3⟩:=vM hr;simp only[I,cF hE h1,cF hE h2];exact h3
 .rename_i t i I;obtain⟨v,h1,h2⟩:=jS hr;split at h2
  .simp only[I,cF hE h1];exact h2
  .cases h2
 .rename_i x t a ok I;obtain⟨v,h1,h2⟩:=jS hr;simp only[I,cF hE h1];exact h2
 .rename_i cl I;split at hr
  .rename_i b hc;cases ha:lookArgs E cl.args.toList with
   |none=>simp[ha] at hr
   |some args=>simp only[ha] at hr;simp only[I,evCall,hc,oN hE ha];exact hr
  .cases hr
 .cases hr
def iV (C:gN)(f:FuncId)(args:List V)(h:H)(v:V)(h':H): Prop:=∃N,callF C (ev C N) f args h=some (v,h')
def Call (C:gN)(f:FuncId)(args:List V)(h:H)(R:V->H->Prop): Prop:=∃v h',iV C f args h v h'/\R v h'
variable {cl:Go.Call}
theorem Call.mono {f:FuncId}{h:H}{R I:V->H->Prop}(hc:Call C f args h R)(hr:∀v h',R v h'->I v h'): Call C f args h I:=by
 obtain⟨v,h',h1,h2⟩:=hc;exact⟨v,h',h1,hr v h' h2⟩
theorem iV.told {f:FuncId}{g:List V->H->Option (V×H)}{h:H}{v:V}(I:C.told f=some g)(hf:C.P.funcs[f]?=some fn)(hb:fn.body.isSome=true)(hr:g args h=some (v,h')): iV C f args h v h':=by
 refine⟨0,?_⟩<;>grind[callF,hasBody]
theorem iV.body {f:FuncId}{h:H}{v:V}(I:iV C f args h v h'): hasBody C.P f=true:=by
 obtain⟨N,hN⟩:=I<;>grind[callF,hasBody]
theorem jT (C:gN)(n:Nat)(c:Code)(s:St): ev C (n+1) c s=evStep C (ev C n) c s:=rfl
def WP (C:gN)(ax:Nat)(code:Code)(E:List (Nat×V))(h:H)(Q:Ex->List (Nat×V)->H->Prop): Prop :=
 ∀env,mc env E->∃N ex I h' E',ev C N code ⟨env,ax,h⟩=some (ex,⟨I,ax,h'⟩)/\mc I E'/\Q ex E' h'
def au (C:gN)(ax:Nat)(L l:List Oper)(E:List (Nat×V))(h:H)(Q:List (Nat×V)->H->Prop): Prop :=
 ∀env,mc env E->∃N I h' E',evOps C (ev C N) L l ⟨env,ax,h⟩=some ⟨I,ax,h'⟩/\mc I E'/\Q E' h'
section
variable {ax:Nat} {h:H} {l:List Oper}
theorem WP.sub {I:List (Nat×V)}(hs:∀t v,look I t=some v->look E t=some v)(hw:WP C ax code I h Q): WP C ax code E h Q:=λenv hE=>hw env (hE.sub hs)
theorem WP.skip (I:Q .normal E h): WP C ax .skip E h Q:=λenv hE=>⟨1,.normal,env,h,E,U,hE,I⟩
theorem WP.ret (I:Q .ret E h): WP C ax .ret E h Q:=λenv hE=>⟨1,.ret,env,h,E,U,hE,I⟩
theorem WP.exit (I:Q (.exit i) E h): WP C ax (.exit i) E h Q:=λenv hE=>⟨1,.exit i,env,h,E,U,hE,I⟩
theorem WP.region (hl:ops.toList=l)(hw:au C ax l l E h λE' h'=>Q .normal E' h'): WP C ax (.region id ops false) E h Q:=by
 intro env hE;obtain⟨N,I,h',E',h1,h2,h3⟩:=hw env hE;refine⟨N+1,.normal,I,h',E',?_,h2,h3⟩<;>grind[jT,evStep]
theorem WP.seq {a b:Code}(hw:WP C ax a E h λex E' h'=>match ex with
  |.normal=>WP C ax b E' h' Q
  |ex=>Q ex E' h'): WP C ax (.seq a b) E h Q:=by
 intro env hE;obtain⟨N,ex,I,h',E',h1,h2,h3⟩:=hw env hE;cases ex with
 |normal =>
  obtain⟨M,sC,Km,It,E2,g1,g2,g3⟩:=h3 I h2;refine⟨Nat.max N M+1,sC,Km,It,E2,?_,g2,g3⟩;rw[jT];simp only[evStep,iM (rF N M) _ _ _ h1];exact iM (rE N M) _ _ _ g1
 |exit i =>
  refine⟨N+1,.exit i,I,h',E',?_,h2,h3⟩<;>grind[jT,evStep]
 |ret =>
  refine⟨N+1,.ret,I,h',E',?_,h2,h3⟩<;>grind[jT,evStep]
theorem WP.cond {a b:Code}{t:Bool}(hx:bE E x=some (.bool t))(hw:WP C ax (_root_.cond t a b) E h Q): WP C ax (.cond x a b) E h Q:=by
 intro env hE;obtain⟨N,ex,I,h',E',h1,h2,h3⟩:=hw env hE;refine⟨N+1,ex,I,h',E',?_,h2,h3⟩<;>grind[jT,evStep,cF]
theorem WP.block {b:Code}(hw:WP C ax b E h λex E' h'=>match ex with
  |.exit j=>_root_.cond (Nat.beq j i) (Q .normal E' h') (Q (.exit j) E' h')
  |ex=>Q ex E' h'): WP C ax (.block i b) E h Q:=by
 intro env hE;obtain⟨N,ex,I,h',E',h1,h2,h3⟩:=hw env hE;cases ex with
 |exit j =>
  cases hj:Nat.beq j i with
  |true =>
   simp only[hj,ag] at h3;refine⟨N+1,.normal,I,h',E',?_,h2,h3⟩<;>grind[jT,evStep]
  |false =>
   simp only[hj,aS] at h3;refine⟨N+1,.exit j,I,h',E',?_,h2,h3⟩<;>grind[jT,evStep]
 |normal =>
  refine⟨N+1,.normal,I,h',E',?_,h2,h3⟩<;>grind[jT,evStep]
 |ret =>
  refine⟨N+1,.ret,I,h',E',?_,h2,h3⟩<;>grind[jT,evStep]
theorem WP.scope {b:Code}(hw:WP C ax b E h Q): WP C ax (.scope b) E h Q:=by
 intro env hE;obtain⟨N,ex,I,h',E',h1,h2,h3⟩:=hw env hE;exact⟨N+1,ex,I,h',E',h1,h2,h3⟩
theorem WP.loop {b:Code}(hw:WP C ax b E h λex E' h'=>match ex with
  |.normal=>WP C ax (.loop b) E' h' Q
  |ex=>Q ex E' h'): WP C ax (.loop b) E h Q:=by
 intro env hE;obtain⟨N,ex,I,h',E',h1,h2,h3⟩:=hw env hE;cases ex with
 |normal =>
  obtain⟨M,sC,Km,It,E2,g1,g2,g3⟩:=h3 I h2;refine⟨Nat.max N M+1,sC,Km,It,E2,?_,g2,g3⟩;rw[jT];simp only[evStep,iM (rF N M) _ _ _ h1];exact iM (rE N M) _ _ _ g1
 |exit i =>
  refine⟨N+1,.exit i,I,h',E',?_,h2,h3⟩<;>grind[jT,evStep]
 |ret =>
  refine⟨N+1,.ret,I,h',E',?_,h2,h3⟩<;>grind[jT,evStep]
theorem au.nil (I:R E h): au C ax L [] E h R:=λenv hE=>⟨0,env,h,E,U,hE,I⟩
def wantE (L:List Oper)(E:List (Nat×V))(g:Option (Nat×Bool)): Option Bool:=match g with
 |none=>some true
 |some (j,want)=>match (nth L j).bind (·.dst) with
  |some d=>match look E d with
   |some (.bool b)=>some (b == want)
   |some _=>some false
   |none=>none
  |none=>none
theorem lp {o:Oper}{b:Bool}(I:mc env E)(hw:wantE L E o.guard=some b): wantedV L env o=b:=by
 unfold wantE at hw;unfold wantedV;split at hw
 .grind
 .rename_i j want hg;simp only[hg];split at hw
  .rename_i d hd;simp only[hd];split at hw
   .rename_i b' hl;simp only[Env.v,I d _ hl];simpa using hw
   .rename_i v fb hl;simp only[Env.v,I d _ hl];grind
   .cases hw
  .cases hw
theorem au.op {o:Oper}{v:V}(hg:wantE L E o.guard=some true)(hd:o.dst=some d)(hn:Nat.blt d ax=true)(ho:opE C.P E h o.op=some (v,h₁))
 (hw:au C ax L rest ((d,v)::E) h₁ R): au C ax L (o::rest) E h R:=by
 intro env hE;obtain⟨N,I,h',E',h1,h2,h3⟩:=hw (env.set d (some v)) (hE.set d v)<;>grind[evOps,lp,Fy,St.put]
theorem au.op0 {o:Oper}{v:V}(hg:wantE L E o.guard=some true)(hd:o.dst=none)(ho:opE C.P E h o.op=some (v,h₁))
 (hw:au C ax L rest E h₁ R): au C ax L (o::rest) E h R:=by
 intro env hE;obtain⟨N,I,h',E',h1,h2,h3⟩:=hw env hE<;>grind[evOps,lp,Fy,St.put]
theorem au.no {o:Oper}(hg:wantE L E o.guard=some false)(hd:o.dst=some d)(hn:Nat.blt d ax=true)
 (hw:au C ax L rest ((d,cY)::E) h R): au C ax L (o::rest) E h R:=by
 intro env hE;obtain⟨N,I,h',E',h1,h2,h3⟩:=hw (env.set d (some cY)) (hE.set d cY)<;>grind[evOps,lp,St.put]
theorem Iu {o:Oper}{k:FuncId}{v:V}(hE:mc env E)(sy:o.op=.call cl)(hc:cl.callee=.value x)
 (hx:bE E x=some (.fn (.func k) first cap))(ha:lookArgs E cl.args.toList=some args)(I:iV C k (first++(args++cap)) h v h₁):
  ∃N,evOp C (ev C N) env h o=some (v,h₁):=by
 have hb:=I.body;obtain⟨N,hN⟩:=I;refine⟨N,?_⟩;simp only[evOp,sy,evCall,oN hE ha,hc,cF hE hx,callV,hb,ag];exact hN
theorem au.call {o:Oper}{k:FuncId}(hg:wantE L E o.guard=some true)(hd:o.dst=some d)(hn:Nat.blt d ax=true)
 (sy:o.op=.call cl)(hc:cl.callee=.value x)(hx:bE E x=some (.fn (.func k) first cap))(ha:lookArgs E cl.args.toList=some args)
 (I:Call C k (first++(args++cap)) h BJ)(hw:∀v h₁,BJ v h₁->au C ax L rest ((d,v)::E) h₁ R): au C ax L (o::rest) E h R:=by
 intro env hE;obtain⟨v,h₁,RH,hr⟩:=I;obtain⟨N,hN⟩:=Iu hE sy hc hx ha RH;obtain⟨M,xU,h',E',h1,h2,h3⟩:=hw v h₁ hr (env.set d (some v)) (hE.set d v);refine⟨Nat.max N M,xU,h',E',?_,h2,h3⟩;simp only[evOps,lp hE hg,ag,oc (iM (rF N M)) hN,St.put,hd,hn];exact sB (iM (rE N M)) _ _ _ h1
end
def Has (E:List (Nat×V)): List (Nat×V)->Prop
 |[]=>True
 |p::F=>look E p.1=some p.2/\Has E F
theorem Has.sub : ∀ {F:List (Nat×V)},Has E F->∀t v,look F t=some v->look E t=some v:=by
 intro F;induction F with
 |nil=>intro _ t v h;cases h
 |cons p F ih =>
  intro I t v h;simp only[look] at h;by_cases hp:p.1=t
  .subst hp;rw[qT U,ag] at h;rw[I.1];exact h
  .rw[fO hp,aS] at h;exact ih I.2 t v h
theorem WP.has {ax:Nat}{F:List (Nat×V)}{h:H}(I:Has E F)(hw:WP C ax code F h Q): WP C ax code E h Q:=WP.sub I.sub hw
theorem acm {s:St}(I:mc s.env E){t:Nat}{v:V}(h:look E t=some v): resV P s (.tmp t)=some v:=by
 simp only[resV,Env.v,I t v h]
noncomputable def resE (P:Program)(E:List (Nat×V))(h:H): ResultVar->Option V
 |.tmp t=>look E t
 |.cell a t=>match look E a with
  |some p=>loadV P h t p
  |none=>none
theorem YR {s:St}(hE:mc s.env E){x:ResultVar}{v:V}(I:resE P E s.h x=some v): resV P s x=some v:=by
 cases x with
 |tmp t=>exact acm hE I
 |cell a t =>
  simp only[resE] at I;cases ha:look E a with
  |none=>grind
  |some p=>simp only[ha] at I;simp only[resV,Env.v,hE a p ha];exact I
noncomputable def resLE (P:Program)(E:List (Nat×V))(h:H)(rs:List ResultVar): Option V:=match mapO (resE P E h) rs with
 |some [v]=>some v
 |some vs=>some (.aV vs)
 |none=>none
theorem Nx {s:St}(I:mc s.env E): ∀ {rs:List ResultVar} {vs:List V},mapO (resE P E s.h) rs=some vs->mapO (resV P s) rs=some vs:=by
 intro rs;induction rs<;>grind[mapO,YR]
def argE : List V->Nat->List (Nat×V)
 |[],_=>[]
 |v::l,k=>(k,v)::argE l (k+1)
theorem RI : ∀(l:List V) (k t:Nat),look (argE l k) t=if k<=t/\t<k+l.length then l[t-k]? else none:=by
 intro l;induction l with
 |nil=>simp[argE,look]
 |cons v l I =>
  intro k t;simp only[argE,look];by_cases h:k=t
  .simp_all
  grind[fO]
theorem Ny (l:List V): mc (bindArgs l 0 .lf) (argE l 0):=by
 intro t v h;grind[RI,we]
theorem Call.of_wp {f : FuncId} {h : H} {R : V → H → Prop} (ht : C.told f = none) (hf : C.P.funcs[f]? = some fn) (hb : fn.body = some code)
  (hq : (fn.name == "runtime.NumGoroutine" || Nat.blt fn.ntmps args.length) = false)
  (hw : WP C fn.ntmps code (argE args 0) h fun ex E' h' => (match ex with | .exit _ => False | _ => True) ∧ ∃ v, resLE C.P E' h' fn.results.toList = some v ∧ R v h') : Call C f args h R := by
 obtain ⟨N, ex, I, h', E', h1, h2, h3, v, h4, h5⟩ := hw _ (Ny args)
 refine ⟨v, h', ⟨N, ?_⟩, h5⟩
 unfold callF
 unfold resLE at h4
 cases hm : mapO (resE C.P E' h') fn.results.toList with
 | none => grind
 | some vs =>
  have D3 := Nx (P := C.P) (s := ⟨I, fn.ntmps, h'⟩) h2 hm
  cases ex with
  | exit i => grind
  | normal =>
   grind
  | ret =>
   grind
noncomputable section
end
def crcStep : Nat->Nat->Nat
 |r,0=>r
 |r,k+1=>crcStep (cond (Nat.beq (r%2) 1) (Nat.xor (r/2) 3988292384) (r/2)) k
def crcL : Nat->List Nat->Nat
 |r,[]=>r
 |r,b::l=>crcL (crcStep (Nat.xor r b) 8) l
def bytesIn : List V->Option (List Nat)
 |[]=>some []
 |.int .u8 n::l=>cond (decide (0<=n)&&decide (n<256)) (match bytesIn l with
  |some m=>some (n.toNat::m)
  |none=>none) none
 |_=>none
def yP (s:Int)(l:List Nat): V:=.int .u32 ((Nat.xor (crcL (Nat.xor s.toNat 4294967295) l) 4294967295:Nat):Int)
noncomputable def toldMore : List V->H->Option (V×H)
 |[.int .u32 s,.sl id off len _],h=>cond (decide (0<=s)&&decide (s<4294967296)&&Nat.ble len 4611686018427387904) (match rdN h id off len with
  |some cs=>match bytesIn cs with
   |some l=>some (yP s l,h)
   |none=>none
  |none=>none) none
 |[.int .u32 s,.aZ],h=>cond (decide (0<=s)&&decide (s<4294967296)) (some (yP s [],h)) none
 |[.int .u32 s,.sle _],h=>cond (decide (0<=s)&&decide (s<4294967296)) (some (yP s [],h)) none
 |_,_=>none
theorem wrap_u32 (h:n<4294967296): IntKind.wrap .u32 (n:Int)=(n:Int):=by
 grind[IntKind.wrap,IntKind.bits,IntKind.signed]
theorem Iv (h:n<4294967296): ((n:Int)%(2^(IntKind.u32).bits:Int)).toNat=n:=by
 grind[IntKind.bits]
theorem qE (I:a<4294967296)(hb:b<4294967296:=by omega): Nat.xor a b<4294967296:=G7 (n:=32) I hb
theorem Ai (I:a<4294967296)(hb:b<4294967296): intV .xor .u32 (a:Int) (b:Int)=some (.int .u32 ((Nat.xor a b:Nat):Int)):=by
 grind[intV,bitsV,Iv,wrap_u32,qE]
theorem RJ (I:a<4294967296): intV .and .u32 (a:Int) 1=some (.int .u32 ((a%2:Nat):Int)):=by
 have h1:((1:Int)%(2^(IntKind.u32).bits:Int)).toNat=1:=by rfl
 simp only[intV,bitsV];rw[Iv I,h1];have:Nat.land a 1=a%2:=Nat.and_one_is_mod a;rw[this,wrap_u32 (by omega)]
theorem Fz : shiftV .shr .u32 (a:Int) 1=some (.int .u32 ((a/2:Nat):Int)):=by
 grind[shiftV,IntKind.bits]
theorem YS {c:Ctx}(h:Rel c σ w)(hr:rdN σ id off k=some vs): vs.length=k/\∀j,j<k->Bn σ id (off+j)=vs[j]?:=by
 unfold rdN at hr;split at hr
 .rename_i n cs st I;have hn:n=cs.length:=(h.obj id _ I).1;grind[aR,beq_iff,Bn,gB]
 .cases hr
def unblk : Code->Code
 |.block _ c=>c
 |c=>c
def unloop : Code->Code
 |.loop c=>c
 |c=>c
noncomputable def lN : Code:=(Tryz.f211.body).getD .skip
noncomputable def lG : Code:=unloop (unblk (eC (leftC (eC (eC lN)))))
noncomputable def qd : Code:=unblk (leftC (eC (eC lG)))
noncomputable def qF : Code:=unloop (unblk (eC (eC (eC qd))))
theorem je (C:gN)(n:Nat)(c:Code)(s:St): ev C (n+1) c s=evStep C (ev C n) c s:=rfl
theorem wrap_i64 (h:n<9223372036854775808): IntKind.wrap .i64 (n:Int)=(n:Int):=by
 grind[IntKind.bits,IntKind.wrap]
theorem BL (h:n<9223372036854775807): intV .add .i64 (n:Int) 1=some (.int .i64 ((n+1:Nat):Int)):=by
 have:((n:Int)+1)=((n+1:Nat):Int):=by omega
 simp only[intV,this,wrap_i64 (show n+1<9223372036854775808 by omega)]
section
theorem cn {o:Oper}{h:H}(hg:o.guard=none)(hd:o.dst=some d)(I:Nat.blt d n=true):
  evOps C self L (o::rest) ⟨env,n,h⟩=(evOp C self env h o).bind λr=>evOps C self L rest ⟨env.set d (some r.1),n,r.2⟩:=by
 grind[evOps,wantedV,St.put]
end
noncomputable def mR7 : Code:=leftC qF
noncomputable def w9 : Code:=eC (eC qF)
noncomputable def mR8 : Code:=leftC (unblk (leftC w9))
noncomputable def mIf : Code:=eC (unblk (leftC w9))
noncomputable def UK : Code:=eC w9
section
variable (n:Nat) (env:Env) (h:H)
theorem RK (I:T.get env 20=some (.int .i64 j)): ev C (n+1) mR7 ⟨env,34,h⟩=some (.normal,⟨env.set 21 (some (.bool (decide ((j:Int)<8)))),34,h⟩):=by
 simp only[mR7,qF,qd,lG,lN,Tryz.f211,dw,leftC,eC,unblk,unloop,je,evStep,aS];rw[cn U U U];simp only[evOp,evO,Env.v,I,ofValue,ofScalar,binV,ikBeq,ag,intV,bO,dP,evOps]
theorem aaI {x:Nat}(hx:x<4294967296)(h5:T.get env 5=some (.int .u32 x)):
  ∃I,ev C (n+1) mR8 ⟨env,34,h⟩=some (.normal,⟨I,34,h⟩)/\T.get I 24=some (.bool (Nat.beq (x%2) 1))/\∀t,t≠22->t≠23->t≠24->T.get I t=T.get env t:=by
 refine⟨((env.set 22 (some (.int .u32 x))).set 23 (some (.int .u32 ((x%2:Nat):Int)))).set 24 (some (.bool (Nat.beq (x%2) 1))),?_,by simp[bh],λt h1 h2 h3=>by simp[bh,h1,h2,h3]⟩;simp only[mR8,w9,qF,qd,lG,lN,Tryz.f211,dw,leftC,eC,unblk,unloop,je,evStep,aS];rw[cn U U U];simp only[evOp,evO,Env.v,h5,bO,dP];rw[cn U U U];simp only[evOp,evO,Env.v,bh,dG,ofValue,ofScalar,binV,ikBeq,ag,RJ hx,bO,dP];rw[cn U U U];simp only[evOp,evO,Env.v,bh,dG,ofValue,ofScalar,binV,ikBeq,ag,intV,bO,dP,evOps];rfl
theorem RL {x:Nat}(I:x<4294967296): Nat.xor (x/2) 3988292384<4294967296:=qE (by omega)
theorem aaJ {x:Nat}{b:Bool}(hx:x<4294967296)(h5:T.get env 5=some (.int .u32 x))(I:T.get env 24=some (.bool b)):
  ∃e',ev C (n+2) mIf ⟨env,34,h⟩=some (.normal,⟨e',34,h⟩)/\T.get e' 5=some (.int .u32 ((cond b (Nat.xor (x/2) 3988292384) (x/2):Nat):Int))/\∀t,t<25->t≠5->T.get e' t=T.get env t:=by
 simp only[mIf,w9,qF,qd,lG,lN,Tryz.f211,dw,leftC,eC,unblk,unloop,je,evStep,evO,Env.v,I];cases b with
 |true =>
  refine⟨(((env.set 25 (some (.int .u32 x))).set 26 (some (.int .u32 ((x/2:Nat):Int)))).set 27 (some (.int .u32 ((Nat.xor (x/2) 3988292384:Nat):Int)))).set 5 (some (.int .u32 ((Nat.xor (x/2) 3988292384:Nat):Int))),?_,by simp[bh],λt h1 h2 => ?_⟩
  .simp only[ag,aS];rw[cn U U U];simp only[evOp,evO,Env.v,h5,bO,dP];rw[cn U U U];simp only[evOp,evO,Env.v,bh,dG,ofValue,ofScalar,binV,Fz,bO,dP];rw[cn U U U];have:=Ai (a:=x/2) (b:=3988292384) (by omega) (by omega);rw[show((3988292384:Nat):Int)=3988292384 from U] at this;simp only[evOp,evO,Env.v,bh,dG,ofValue,ofScalar,binV,ikBeq,ag,this,bO,dP];rw[cn U U U];simp only[evOp,evO,Env.v,bh,dG,bO,dP,evOps]
  grind[bh]
 |false =>
  refine⟨((env.set 28 (some (.int .u32 x))).set 29 (some (.int .u32 ((x/2:Nat):Int)))).set 5 (some (.int .u32 ((x/2:Nat):Int))),?_,by simp[bh],λt h1 h2 => ?_⟩
  .simp only[aS];rw[cn U U U];simp only[evOp,evO,Env.v,h5,bO,dP];rw[cn U U U];simp only[evOp,evO,Env.v,bh,dG,ofValue,ofScalar,binV,Fz,bO,dP];rw[cn U U U];simp only[evOp,evO,Env.v,bh,dG,bO,dP,evOps]
  grind[bh]
theorem YT (hj:j<8)(I:T.get env 20=some (.int .i64 j)):
  ∃e',ev C (n+1) UK ⟨env,34,h⟩=some (.normal,⟨e',34,h⟩)/\T.get e' 20=some (.int .i64 ((j+1:Nat):Int))/\∀t,t≠20->t≠30->T.get e' t=T.get env t:=by
 refine⟨(env.set 30 (some (.int .i64 ((j+1:Nat):Int)))).set 20 (some (.int .i64 ((j+1:Nat):Int))),?_,by simp[bh],λt h1 h2=>by simp[bh,h1,h2]⟩;simp only[UK,w9,qF,qd,lG,lN,Tryz.f211,dw,leftC,eC,unblk,unloop,je,evStep,aS];rw[cn U U U];simp only[evOp,evO,Env.v,I,ofValue,ofScalar,binV,ikBeq,ag,BL (show j<9223372036854775807 by omega),bO,dP];rw[cn U U U];simp only[evOp,evO,Env.v,bh,dG,bO,dP,evOps]
section
variable {n:Nat} {s:St}
theorem me {a b:Code}(I:ev C n a s=some (.normal,s')): ev C (n+1) (.seq a b) s=ev C n b s':=by grind[je,evStep]
theorem xV {a b:Code}(I:ev C n a s=some (.exit i,s')): ev C (n+1) (.seq a b) s=some (.exit i,s'):=by grind[je,evStep]
theorem yQ {a b:Code}{t:Bool}(I:evO s.env x=some (.bool t)): ev C (n+1) (.cond x a b) s=ev C n (cond t a b) s:=by grind[je,evStep]
theorem Kn {c:Code}(h:ev C n c s=some (.normal,s')): ev C (n+1) (.block i c) s=some (.normal,s'):=by grind[je,evStep]
theorem A4 {c:Code}(h:ev C n c s=some (.exit i,s')): ev C (n+1) (.block i c) s=some (.normal,s'):=by simp_all[je,evStep]
theorem Nz {b:Code}(h:ev C n b s=some (.normal,s')): ev C (n+1) (.loop b) s=ev C n (.loop b) s':=by grind[je,evStep]
theorem wm {b:Code}(h:ev C n b s=some (.exit i,s')): ev C (n+1) (.loop b) s=some (.exit i,s'):=by grind[je,evStep]
end
theorem Iw : qF=.seq mR7 (.seq (.cond (.tmp 21) .skip (.exit 2)) w9):=rfl
theorem UL : w9=.seq (.block 3 (.seq mR8 mIf)) UK:=rfl
theorem Pk {x:Nat}(hx:x<4294967296)(hj:j<8)(h5:T.get env 5=some (.int .u32 x))(h20:T.get env 20=some (.int .i64 j)):
  ∃e',ev C (n+9) qF ⟨env,34,h⟩=some (.normal,⟨e',34,h⟩)/\T.get e' 5=some (.int .u32 ((crcStep x 1:Nat):Int))/\T.get e' 20=some (.int .i64 ((j+1:Nat):Int)) /\
   ∀t,t<20->t≠5->T.get e' t=T.get env t:=by
 have cq:decide ((j:Int)<8)=true:=by grind
 have q7:=RK (C:=C) (n+7) env h h20;rw[cq] at q7;have g5:T.get (env.set 21 (some (.bool true))) 5=some (.int .u32 x):=by simp[bh,h5]
 obtain⟨e8,q8,q8a,q8b⟩:=aaI (C:=C) (n+3) (env.set 21 (some (.bool true))) h hx g5;have g5':T.get e8 5=some (.int .u32 x):=by grind
 obtain⟨e9,q9,q9a,q9b⟩:=aaJ (C:=C) (n+2) e8 h hx g5' q8a;have g20:T.get e9 20=some (.int .i64 j):=by
  grind[bh]
 obtain⟨e11,q11,I,afn⟩:=YT (C:=C) (n+5) e9 h hj g20;refine⟨e11,?_,?_,I,λt h1 h2 => ?_⟩
 .rw[Iw,me q7,me (s':=⟨env.set 21 (some (.bool true)),34,h⟩) (by rw[yQ (t:=true) (by simp[evO,Env.v,bh])];rfl),UL,
   me (Kn (by rw[me q8];exact q9)),q11]
 .grind[crcStep]
 .grind[bh]
theorem Pm : ∀(k n:Nat) (env:Env) (x:Nat),k<=8->x<4294967296->T.get env 5=some (.int .u32 x)->T.get env 20=some (.int .i64 ((8-k:Nat):Int)) ->
  ∃e',ev C (n+10+k) (.loop qF) ⟨env,34,h⟩=some (.exit 2,⟨e',34,h⟩)/\T.get e' 5=some (.int .u32 ((crcStep x k:Nat):Int))/\∀t,t<20->t≠5->T.get e' t=T.get env t:=by
 intro k;induction k with
 |zero =>
  intro n env x _ hx h5 I;have q7:=RK (C:=C) (n+7) env h I;refine⟨env.set 21 (some (.bool false)),?_,by simp[bh,h5,crcStep],λt h1 h2 => ?_⟩
  .refine wm ?_;rw[Iw,me q7];exact xV (by rw[yQ (t:=false) (by simp[evO,Env.v,bh])];rfl)
  grind[bh]
 |succ k ih =>
  intro n env x hk hx h5 I;obtain⟨e1,q1,q2,q3,q4⟩:=Pk (C:=C) (n+1+k) env h hx (show 8-(k+1)<8 by omega) h5 I;have h8:8-(k+1)+1=8-k:=by omega
  rw[h8] at q3;have Iy:crcStep x 1<4294967296:=by
   grind[crcStep,RL]
  obtain⟨e2,p1,p2,p3⟩:=ih n e1 (crcStep x 1) (by omega) Iy q2 q3;refine⟨e2,?_,?_,λt h1 h2=>by grind⟩
  .grind[Nz]
  .rw[p2];simp only[crcStep]
end
noncomputable def mR3 : Code:=leftC lG
noncomputable def JD : Code:=eC (eC lG)
noncomputable def UM : Code:=eC JD
noncomputable def mR4 : Code:=leftC qd
noncomputable def mR5 : Code:=leftC (eC qd)
noncomputable def mR6 : Code:=leftC (eC (eC qd))
theorem UN : qd=.seq mR4 (.seq mR5 (.seq mR6 (.block 2 (.loop qF)))):=rfl
theorem BM : lG=.seq mR3 (.seq (.cond (.tmp 13) .skip (.exit 0)) JD):=rfl
theorem UO : JD=.seq (.block 1 qd) UM:=rfl
theorem fF : bq Tryz.prog 5=some 1:=by kernel_rfl
theorem NA : isAggT Tryz.prog 5=some false:=by kernel_rfl
section
variable {told:cu} (n:Nat) (env:Env) (h:H)
theorem Ko {len:Nat}(I:T.get env 12=some (.int .i64 i))(A5:T.get env 11=some (.int .i64 len)):
  ev ⟨Tryz.prog,told⟩ (n+1) mR3 ⟨env,34,h⟩=some (.normal,⟨env.set 13 (some (.bool (decide ((i:Int)<(len:Int))))),34,h⟩):=by
 simp only[mR3,lG,lN,Tryz.f211,dw,leftC,eC,unblk,unloop,je,evStep,aS];rw[cn U U U];simp_all[evOp,evO,Env.v,binV,ikBeq,intV,bO,evOps]
theorem aaK {len:Nat}{cap:Cap}(hi:i<len)(I:T.get env 12=some (.int .i64 i))(uV:T.get env 10=some (.sl id off len cap))(hb:Bn h id (off+i)=some (.int .u8 b)):
  ∃e',ev ⟨Tryz.prog,told⟩ (n+1) mR4 ⟨env,34,h⟩=some (.normal,⟨e',34,h⟩)/\T.get e' 7=some (.int .u8 b)/\∀t,t≠7->t≠14->t≠15->T.get e' t=T.get env t:=by
 refine⟨((env.set 14 (some (.ptr id (off+i)))).set 15 (some (.int .u8 b))).set 7 (some (.int .u8 b)),?_,by simp[bh],λt h1 h2 h3=>by simp[bh,h1,h2,h3]⟩;simp only[mR4,qd,lG,lN,Tryz.f211,dw,leftC,eC,unblk,unloop,je,evStep,aS];rw[cn U U U];have d1:decide ((0:Int)<=(i:Int))=true:=by simp
 have d2:decide ((i:Int)<(len:Int))=true:=by grind
 simp only[evOp,evO,Env.v,uV,I,indexAddrV,aP,fF,d1,d2,kf,ag,fS,cH,bO,dP];rw[cn U U U];simp only[evOp,evO,Env.v,bh,dG,loadV,NA,hb,bO,dP];rw[cn U U U];simp only[evOp,evO,Env.v,bh,dG,bO,dP,evOps]
theorem aaL {x:Nat}(hx:x<4294967296)(hb:b<256)(h5:T.get env 5=some (.int .u32 x))(h7:T.get env 7=some (.int .u8 b)):
  ∃I,ev ⟨Tryz.prog,told⟩ (n+1) mR5 ⟨env,34,h⟩=some (.normal,⟨I,34,h⟩)/\T.get I 5=some (.int .u32 ((Nat.xor x b:Nat):Int))/\∀t,t<16->t≠5->T.get I t=T.get env t:=by
 refine⟨((((env.set 16 (some (.int .u32 x))).set 17 (some (.int .u8 b))).set 18 (some (.int .u32 b))).set 19 (some (.int .u32 ((Nat.xor x b:Nat):Int)))).set 5 (some (.int .u32 ((Nat.xor x b:Nat):Int))),?_,by simp[bh],λt h1 h2 => ?_⟩
 .simp only[mR5,qd,lG,lN,Tryz.f211,dw,leftC,eC,unblk,unloop,je,evStep,aS];rw[cn U U U];simp only[evOp,evO,Env.v,h5,bO,dP];rw[cn U U U];have g7:T.get (env.set 16 (some (.int .u32 x))) 7=some (.int .u8 b):=by simp[bh,h7]
  simp only[evOp,evO,Env.v,g7,bO,dP];rw[cn U U U];simp only[evOp,evO,Env.v,bh,dG,convV,Tryz.underlying5,Tryz.underlying260,wrap_u32 (show b<4294967296 by omega),dP];rw[cn U U U];have g16:T.get (((env.set 16 (some (.int .u32 x))).set 17 (some (.int .u8 b))).set 18 (some (.int .u32 b))) 16=some (.int .u32 x):=by simp[bh]
  have g18:T.get (((env.set 16 (some (.int .u32 x))).set 17 (some (.int .u8 b))).set 18 (some (.int .u32 b))) 18=some (.int .u32 b):=by simp[bh]
  simp only[evOp,evO,Env.v,g16,g18,binV,ikBeq,ag,Ai hx (show b<4294967296 by omega),bO,dP];rw[cn U U U];simp only[evOp,evO,Env.v,bh,dG,bO,dP,evOps]
 grind[bh]
theorem aaM : ev ⟨Tryz.prog,told⟩ (n+1) mR6 ⟨env,34,h⟩=some (.normal,⟨env.set 20 (some (.int .i64 0)),34,h⟩):=by
 rfl
theorem YU (hi:i<9223372036854775807)(I:T.get env 12=some (.int .i64 i)):
  ∃e',ev ⟨Tryz.prog,told⟩ (n+1) UM ⟨env,34,h⟩=some (.normal,⟨e',34,h⟩)/\T.get e' 12=some (.int .i64 ((i+1:Nat):Int))/\∀t,t≠12->t≠31->T.get e' t=T.get env t:=by
 refine⟨(env.set 31 (some (.int .i64 ((i+1:Nat):Int)))).set 12 (some (.int .i64 ((i+1:Nat):Int))),?_,by simp[bh],λt h1 h2=>by simp[bh,h1,h2]⟩;simp only[UM,JD,lG,lN,Tryz.f211,dw,leftC,eC,unblk,unloop,je,evStep,aS];rw[cn U U U];simp only[evOp,evO,Env.v,I,ofValue,ofScalar,binV,ikBeq,ag,BL hi,bO,dP];rw[cn U U U];simp only[evOp,evO,Env.v,bh,dG,bO,dP,evOps]
theorem FA : ∀(k x:Nat),x<4294967296->crcStep x k<4294967296:=by
 intro k;induction k<;>grind[crcStep,RL]
theorem UP {x len:Nat}{cap:Cap}(hx:x<4294967296)(hb:b<256)(hi:i<len)(h5:T.get env 5=some (.int .u32 x))(I:T.get env 12=some (.int .i64 i))(uV:T.get env 10=some (.sl id off len cap))
 (hr:Bn h id (off+i)=some (.int .u8 b)):
  ∃e',ev ⟨Tryz.prog,told⟩ (n+22) qd ⟨env,34,h⟩=some (.normal,⟨e',34,h⟩)/\T.get e' 5=some (.int .u32 ((crcStep (Nat.xor x b) 8:Nat):Int))/\∀t,t=10\/t=11\/t=12->T.get e' t=T.get env t:=by
 obtain⟨e4,q4,q4a,q4b⟩:=aaK (told:=told) (n+20) env h hi I uV hr;obtain⟨e5,q5,q5a,q5b⟩:=aaL (told:=told) (n+19) e4 h hx hb (by grind) q4a;have q6:=aaM (told:=told) (n+18) e5 h;obtain⟨e2,q2,Xl,Xm⟩:=Pm (C:=⟨Tryz.prog,told⟩) h 8 n (e5.set 20 (some (.int .i64 0))) (Nat.xor x b) (by omega) (qE hx) (by simp[bh,q5a]) (by simp[bh])<;>simp_all[bh,UN,me,A4]
theorem Pn {len:Nat}{cap:Cap}(hlen:len<9223372036854775807): ∀(l:List Nat) (i n:Nat) (env:Env) (x:Nat),i+l.length=len->x<4294967296->(∀b∈l,b<256) ->
  (∀j b:Nat,l[j]?=some b->Bn h id (off+(i+j))=some (.int .u8 (b:Int)))->T.get env 5=some (.int .u32 x)->T.get env 12=some (.int .i64 i)->T.get env 10=some (.sl id off len cap)->T.get env 11=some (.int .i64 len) ->
  ∃e',ev ⟨Tryz.prog,told⟩ (n+30+l.length) (.loop lG) ⟨env,34,h⟩=some (.exit 0,⟨e',34,h⟩)/\T.get e' 5=some (.int .u32 ((crcL x l:Nat):Int)):=by
 intro l;induction l with
 |nil =>
  intro i n env x hi hx _ _ h5 I uV A5;have q3:=Ko (told:=told) (n+27) env h I A5;have hd:decide ((i:Int)<(len:Int))=false:=by grind
  rw[hd] at q3;refine⟨env.set 13 (some (.bool false)),?_,by simp[bh,h5,crcL]⟩;refine wm ?_;rw[BM,me q3];exact xV (by rw[yQ (t:=false) (by simp[evO,Env.v,bh])];rfl)
 |cons b l ih =>
  intro i n env x hi hx Xn jl h5 I uV A5;simp only[aX] at hi;have q3:=Ko (told:=told) (n+l.length+28) env h I A5;have hd:decide ((i:Int)<(len:Int))=true:=by grind
  rw[hd] at q3;have hb:b<256:=Xn b (by simp);have hr:=jl 0 b (by simp);rw[eH] at hr;obtain⟨e1,q1,q1a,q1b⟩:=UP (told:=told) (cap:=cap) (n+l.length+4) (env.set 13 (some (.bool true))) h hx hb (show i<len by omega) (by simp[bh,h5]) (by simp[bh,I]) (by simp[bh,uV]) hr;obtain⟨e2,q2,Xl,Xm⟩:=YU (told:=told) (n+l.length+26) e1 h (show i<9223372036854775807 by omega) (by grind[bh]);have rN:crcStep (Nat.xor x b) 8<4294967296:=FA 8 _ (qE hx);obtain⟨e3,q3',q3a⟩:=ih (i+1) n e2 (crcStep (Nat.xor x b) 8) (by omega) rN (λc hc=>Xn c (by grind)) (λj c hj=>by
   have:=jl (j+1) c (by grind)
   rwa [show i+(j+1)=i+1+j from by omega] at this) (by grind) Xl (by grind[bh]) (by grind[bh])
  refine⟨e3,?_,by rw[q3a];simp only[crcL]⟩;have aaN:ev ⟨Tryz.prog,told⟩ (n+l.length+30) lG ⟨env,34,h⟩=some (.normal,⟨e2,34,h⟩):=by
   rw[BM,me q3,me (s':=⟨env.set 13 (some (.bool true)),34,h⟩) (by rw[yQ (t:=true) (by simp[evO,Env.v,bh])];rfl),UO,
    me (Kn q1),q2]
  rw[aX,show n+30+(l.length+1)=(n+l.length+30)+1 from by omega,Nz aaN,show n+l.length+30=n+30+l.length from by omega];exact q3'
noncomputable def mR0 : Code:=leftC lN
noncomputable def mR1 : Code:=leftC (eC lN)
noncomputable def mR2 : Code:=leftC (leftC (eC (eC lN)))
noncomputable def UQ : Code:=eC (eC (eC lN))
theorem UR : lN=.seq mR0 (.seq mR1 (.seq (.seq mR2 (.block 0 (.loop lG))) UQ)):=rfl
theorem aaO : ev ⟨Tryz.prog,told⟩ (n+1) mR0 ⟨env,34,h⟩=some (.normal,⟨env.set 4 (some (.int .u32 0)),34,h⟩):=by
 rfl
theorem aaP {x:Nat}(hx:x<4294967296)(h0:T.get env 0=some (.int .u32 x)):
  ∃I,ev ⟨Tryz.prog,told⟩ (n+1) mR1 ⟨env,34,h⟩=some (.normal,⟨I,34,h⟩)/\T.get I 5=some (.int .u32 ((Nat.xor x 4294967295:Nat):Int))/\∀t,t≠5->t≠8->t≠9->T.get I t=T.get env t:=by
 refine⟨((env.set 8 (some (.int .u32 x))).set 9 (some (.int .u32 ((Nat.xor x 4294967295:Nat):Int)))).set 5 (some (.int .u32 ((Nat.xor x 4294967295:Nat):Int))),?_,by simp[bh],λt h1 h2 h3=>by simp[bh,h1,h2,h3]⟩;simp only[mR1,lN,Tryz.f211,dw,leftC,eC,je,evStep,aS];rw[cn U U U];simp only[evOp,evO,Env.v,h0,bO,dP];rw[cn U U U];have:=Ai (a:=x) (b:=4294967295) hx (by omega);rw[show((4294967295:Nat):Int)=4294967295 from U] at this;simp only[evOp,evO,Env.v,bh,dG,ofValue,ofScalar,binV,ikBeq,ag,this,bO,dP];rw[cn U U U];simp only[evOp,evO,Env.v,bh,dG,bO,dP,evOps]
theorem aaQ {x:V}{len:Nat}(h1:T.get env 1=some x)(hl:lenV Tryz.prog h 29 x=some (.int .i64 len)):
  ∃I,ev ⟨Tryz.prog,told⟩ (n+1) mR2 ⟨env,34,h⟩=some (.normal,⟨I,34,h⟩)/\T.get I 10=some x/\T.get I 11=some (.int .i64 len)/\T.get I 12=some (.int .i64 ((0:Nat):Int))/\T.get I 5=T.get env 5:=by
 refine⟨((env.set 10 (some x)).set 11 (some (.int .i64 len))).set 12 (some (.int .i64 0)),?_,by simp[bh],by simp[bh],by simp[bh],by simp[bh]⟩;simp only[mR2,lN,Tryz.f211,dw,leftC,eC,je,evStep,aS];rw[cn U U U];simp only[evOp,evO,Env.v,h1,bO,dP];rw[cn U U U];simp only[evOp,evCall,evArgs,evO,Env.v,bh,dG,builtinV,hl,gO,dP];rw[cn U U U];simp only[evOp,evO,ofValue,ofScalar,bO,dP,evOps]
theorem YV {x:Nat}(hx:x<4294967296)(h5:T.get env 5=some (.int .u32 x)):
  ∃I,ev ⟨Tryz.prog,told⟩ (n+2) UQ ⟨env,34,h⟩=some (.ret,⟨I,34,h⟩)/\T.get I 4=some (.int .u32 ((Nat.xor x 4294967295:Nat):Int)):=by
 refine⟨((env.set 32 (some (.int .u32 x))).set 33 (some (.int .u32 ((Nat.xor x 4294967295:Nat):Int)))).set 4 (some (.int .u32 ((Nat.xor x 4294967295:Nat):Int))),?_,by simp[bh]⟩;simp only[UQ,lN,Tryz.f211,dw,eC,je,evStep,aS];rw[cn U U U];simp only[evOp,evO,Env.v,h5,bO,dP];rw[cn U U U];have:=Ai (a:=x) (b:=4294967295) hx (by omega);rw[show((4294967295:Nat):Int)=4294967295 from U] at this;simp only[evOp,evO,Env.v,bh,dG,ofValue,ofScalar,binV,ikBeq,ag,this,bO,dP];rw[cn U U U];simp only[evOp,evO,Env.v,bh,dG,bO,dP,evOps]
end
theorem Po : ∀(cs:List V) (l:List Nat),bytesIn cs=some l->cs=l.map (λ(b:Nat)=>V.int .u8 (b:Int))/\∀b∈l,b<256:=by
 intro cs;induction cs with
 |nil=>grind[bytesIn]
 |cons v cs I =>
  intro l h;unfold bytesIn at h;grind
theorem HD : ∀(l:List Nat) (x:Nat),x<4294967296->(∀b∈l,b<256)->crcL x l<4294967296:=by
 intro l;induction l with
 |nil=>intro x I _;exact I
 |cons b l ih =>
  intro x I hb;have h1:=hb b (by simp);exact ih _ (FA 8 _ (qE I)) (λc hc=>hb c (by grind))
theorem El {s : Int} {x : V} {len : Nat} (yR : 0 ≤ s) (ej : s < 4294967296) (hl : lenV Tryz.prog σ 29 x = some (.int .i64 len)) (hlen : len = l.length) (lj : len < 9223372036854775807)
  (hb : ∀ b ∈ l, b < 256) (hx : l = [] ∨ ∃ id off cap, x = .sl id off len cap ∧ ∀ j b : Nat, l[j]? = some b → Bn σ id (off + (0 + j)) = some (.int .u8 (b : Int))) :
  run ⟨Tryz.prog, fun _ => none⟩ (l.length + 40) 211 [.int .u32 s, x] σ = some (yP s l, σ) := by
 obtain ⟨u, rfl⟩ : ∃ u : Nat, s = (u : Int) := ⟨s.toNat, by omega⟩
 have hu : u < 4294967296 := by omega
 have q0 := aaO (told := fun _ => none) (l.length + 38) (bindArgs [.int .u32 u, x] 0 .lf) σ
 obtain ⟨e1, q1, q1a, q1b⟩ := aaP (told := fun _ => none) (l.length + 37) ((bindArgs [.int .u32 u, x] 0 .lf).set 4 (some (.int .u32 0))) σ hu (by rfl)
 obtain ⟨e2, q2, Xl, Xm, q2c, q2d⟩ := aaQ (told := fun _ => none) (l.length + 35) e1 σ (x := x) (by grind [bh, bindArgs]) hl
 have I : Nat.xor u 4294967295 < 4294967296 := qE hu (by omega)
 have acn : ∃ e', ev ⟨Tryz.prog, fun _ => none⟩ (5 + 30 + l.length) (.loop lG) ⟨e2, 34, σ⟩ = some (.exit 0, ⟨e', 34, σ⟩) ∧ T.get e' 5 = some (.int .u32 ((crcL (Nat.xor u 4294967295) l : Nat) : Int)) := by
  rcases hx with rfl | ⟨id, off, cap, rfl, jl⟩
  ·have q3 := Ko (told := fun _ => none) 32 e2 σ q2c Xm
   have hd : decide ((((0 : Nat) : Int)) < (len : Int)) = false := by grind
   rw [hd] at q3
   refine ⟨e2.set 13 (some (.bool false)), ?_, by simp [bh, q2d, q1a, crcL]⟩
   refine wm ?_
   rw [BM, me q3]
   exact xV (by rw [yQ (t := false) (by simp [evO, Env.v, bh])]; rfl)
  ·exact Pn σ lj l 0 5 e2 _ (by omega) I hb jl (by grind) q2c Xl Xm
 obtain ⟨e3, q3, q3a⟩ := acn
 obtain ⟨e4, q4, q4a⟩ := YV (told := fun _ => none) (l.length + 35) e3 σ (HD l _ I hb) q3a
 have aco : ev ⟨Tryz.prog, fun _ => none⟩ (l.length + 40) lN ⟨bindArgs [.int .u32 u, x] 0 .lf, 34, σ⟩ = some (.ret, ⟨e4, 34, σ⟩) := by
  rw [UR, me q0, me q1, me (s' := ⟨e3, 34, σ⟩) (by
   rw [me q2]
   grind [A4]), q4]
 unfold run callF
 simp only [Fu]
 rw [show Tryz.f211.body = some lN from rfl]
 rw [show (Tryz.f211.name == "runtime.NumGoroutine" || Nat.blt Tryz.f211.ntmps [V.int .u32 (u : Int), x].length) = false from rfl]
 simp only [aS]
 rw [show Tryz.f211.ntmps = 34 from rfl, aco]
 simp only
 rw [show Tryz.f211.results = #[.tmp 4] from rfl]
 simp only [mapO, resV, Env.v, q4a, yP, fS]
section
variable {c:Ctx}
theorem MH (hP:C.P=Tryz.prog)(hm:C.P.follows .mixedOrders=true){v:V}(hr:toldMore args σ=some (v,fg))(h:Rel c σ w)(hw:∀x∈args,wf c x):
  kJ C.P 211 args c w v fg:=by
 rw[hP] at hm ⊢;have hT:iU ⟨Tryz.prog,λ_=>none⟩:=λf g hg=>by cases hg
 unfold toldMore at hr;split at hr
 .rename_i s id off len cap;cases RM:(decide (0<=s)&&decide (s<4294967296)&&Nat.ble len 4611686018427387904) with
  |false=>grind
  |true =>
   rw[RM,ag] at hr;simp only[bV,kS,aR] at RM;obtain⟨I,lj⟩:=RM;cases jl:rdN σ id off len with
   |none=>grind
   |some cs =>
    simp only[jl] at hr;cases hb:bytesIn cs with
    |none=>grind
    |some l =>
     simp only[hb,aA,bS] at hr;obtain⟨rfl,rfl⟩:=hr;obtain⟨b1,b2⟩:=Po cs l hb;obtain⟨d1,d2⟩:=YS h jl;have hl:len=l.length:=by grind
     refine Kl (C:=⟨Tryz.prog,λ_=>none⟩) hm hT (El I.1 I.2 (len:=len) (by simp[lenV,aP]) hl (by omega) b2 (.inr ⟨id,off,cap,U,λj b hj => ?_⟩)) h hw
     .grind
 .rename_i s;cases I:(decide (0<=s)&&decide (s<4294967296)) with
  |false=>grind
  |true =>
   rw[I,ag] at hr;simp only[bV,kS] at I;obtain⟨rfl,rfl⟩:=hr;exact Kl (C:=⟨Tryz.prog,λ_=>none⟩) hm hT (El I.1 I.2 (len:=0) (l:=[]) (by simp[lenV,aP]) U (by omega) (by simp) (.inl U)) h hw
 .rename_i s _;cases I:(decide (0<=s)&&decide (s<4294967296)) with
  |false=>grind
  |true =>
   rw[I,ag] at hr;simp only[bV,kS] at I;obtain⟨rfl,rfl⟩:=hr;exact Kl (C:=⟨Tryz.prog,λ_=>none⟩) hm hT (El I.1 I.2 (len:=0) (l:=[]) (by simp[lenV,aP]) U (by omega) (by simp) (.inl U)) h hw
 .cases hr
end
end Go.Proofs.YtdonpgpfplgigaaGreat.Am
namespace Go.Proofs.YtdonpgpfplgigaaGreat.Am
open Go Go.Maps Go.RowKit
variable {ps:Array (Nat×Operand)} {ops:Array Oper} {st:Bool} {C:gN} {code:Code} {c₀:Ctx} {env:Env} {Q:Ex->List (Nat×V)->H->Prop} {fn:Func} {cl:Go.Call} {h' σ h₁ fg:H} {κ:IntKind} {E E':List (Nat×V)} {R:List (Nat×V)->H->Prop} {d₀:List Deferred} {hs:List H} {fN es l:List Nat} {L rest:List Oper} {args first cap vs cs ds:List V} {a b i c k id n d off j g vj k' q:Nat} {Hs:Nat->H} {early:Nat->Option (Nat×FV)} {Fl:Nat->Prop} {vv:Nat->V} {o':Obj} {x y:Operand} {P:Program} {φ:Prop} {self:Self} {s':St} {α:Type} {td:TypeDesc} {t t' e kt et:TypeId} {r u z:V} {BJ:V->H->Prop} {w₀ w:World}
def keyInts : List (V×V×Nat)->Option (List Int)
 |[]=>some []
 |(.int .i64 n,_,_)::l=>cond (Lit.int .i64 n).wf (match keyInts l with
  |some m=>some (n::m)
  |none=>none) none
 |_=>none
def bornUp (clock:Nat): Nat->List (V×V×Nat)->Bool
 |_,[]=>true
 |b,(_,_,x)::l=>cond (Nat.ble b x&&Nat.blt x clock) (bornUp clock (x+1) l) false
def insI (x:Int): List Int->List Int
 |[]=>[x]
 |y::l=>cond (decide (x<=y)) (x::y::l) (y::insI x l)
def oT : List Int->List Int
 |[]=>[]
 |x::l=>insI x (oT l)
def uo : List Int->Bool
 |[]=>true
 |x::l=>l.all (λy=>decide (x<y))&&uo l
def jA (l:List Int): List V:=l.map (V.int .i64)
noncomputable def toldSorted (gs:List Nat): List V->H->Option (V×H)
 |[.fn (.func g) [] [.ptr b 0]],h=>match h.tr.get b with
  |some (.cells n [.map id] false)=>match h.tr.get id with
   |some (.map es clock)=>cond (Nat.beq n 1&&z8 gs g&&bornUp clock 0 es&&Nat.ble es.length 1048576) (match keyInts es with
    |some ks=>cond (uo (oT ks)) (match ks with
     |[]=>some (.aZ,h)
     |_=>some (.sl h.next 0 ks.length (.rest 1 0),newRow h (jA (oT ks)))) none
    |none=>none) none
   |_=>none
  |_=>none
 |_,_=>none
theorem BN (x:Int): ∀l:List Int,(insI x l).Perm (x::l)
 |[]=>.refl _
 |y::l=>by
  simp only[insI];cases decide (x<=y) with
  |true=>rfl
  |false=>exact((BN x l).cons y).trans (.swap x y l)
theorem jb : ∀l:List Int,(oT l).Perm l
 |[]=>.refl _
 |x::l=>(BN x _).trans ((jb l).cons x)
theorem Iz : ∀l:List Int,uo l=true->l.Pairwise (· < ·)
 |[],_=>.nil
 |x::l,h=>by
  simp only[uo,bV,nB,kS] at h;exact List.pairwise_cons.2 ⟨h.1,Iz l h.2⟩
theorem yS : ∀ {l m:List Int},l.Perm m->l.Pairwise (· <= ·)->m.Pairwise (· <= ·)->l=m
 |[],m,I,_,_=>I.nil_eq
 |a::r,[],I,_,_=>absurd I.symm.nil_eq (by simp)
 |a::r,b::s,I,h1,h2=>by
  obtain⟨a1,a2⟩:=List.pairwise_cons.1 h1;obtain⟨b1,b2⟩:=List.pairwise_cons.1 h2;have mq:a=b:=by
   have ha:a∈b::s:=I.mem_iff.1 (by simp);have hb:b∈a::r:=I.mem_iff.2 (by simp);grind
  subst mq;rw[yS (List.Perm.cons_inv I) a2 b2]
theorem IA {clock:Nat}: ∀(l:List (V×V×Nat)) (b:Nat),bornUp clock b l=true->(∀x∈l,b<=x.2.2/\x.2.2<clock)/\(l.map (·.2.2)).Nodup
 |[],_,_=>⟨by simp,by simp⟩
 |(k,v,x)::l,b,h=>by
  simp only[bornUp] at h;cases I:(Nat.ble b x&&Nat.blt x clock) with
  |false=>grind
  |true =>
   rw[I,ag] at h;simp only[bV,aR,gj] at I;obtain⟨i1,i2⟩:=IA l (x+1) h<;>grind
theorem FB {c:Ctx}: ∀(l:List (V×V×Nat)) (ks:List Int),keyInts l=some ks->l.map (λx=>conc c x.1)=ks.map (Value.int .i64)/\∀n∈ks,(Lit.int .i64 n).wf=true
 |[],ks,h=>by grind[keyInts]
 |(k,v,b)::l,ks,h=>by
  unfold keyInts at h;split at h
  .grind
  .rename_i n v' b' I he;obtain⟨⟨rfl,rfl,rfl⟩,rfl⟩:=he;cases hw:(Lit.int .i64 n).wf with
   |false=>grind
   |true =>
    cases hm:keyInts l with
    |none=>grind
    |some m =>
     simp[hw,hm] at h;obtain⟨i1,i2⟩:=FB (c:=c) l m hm<;>grind[conc]
  .cases h
section
variable {c:Ctx} {w':World}
theorem Rel.below (h:Rel c σ w)(I:Below w.heap.size w w'): Rel c σ w'/\dA c w c w':=by
 have rows:∀b,b<w.heap.size->rowSize w' b=rowSize w b:=λb cq=>by unfold rowSize;rw[I.block b cq]
 refine⟨⟨h.next,h.live,λid hi=>j_ (h.pn id hi) I.size,λid hi=>by rw[rows _ (h.pn id hi)];exact h.zz id hi,h.inj,
  λid o ho=>(h.obj id o ho).later (Ext.refl c) (h.live id o ho) (I.block _ (h.pn id (h.live id o ho))),h.one,h.fx⟩,
  ⟨Ext.refl c,I.size,rows,λb cq _=>I.block b cq,λid h1 h2=>by omega,I.os,I.output⟩⟩
theorem Rel.take {C:Array Value}{T:TypeId}(h:Rel c σ w)(hb:b<w.heap.size)(hr:∀id,id<c.N->(c.ρ id).1≠b)(kU:∀v∈cs,wf c v/\storable v=true)
 (hg:w.heap[b]?=some (.cells C T (0,0)))(hC:C.toList.take cs.length=cs.map (conc c)): Rel (c.grow b 0 C.size) (Am.newRow σ cs) w:=by
 have e:=tY hr 0 C.size;have hN:(c.grow b 0 C.size).N=c.N+1:=rfl;have hle:cs.length<=C.size:=by
  have:=dg List.length hC;simp at this;omega
 have key:∀i o,(Am.newRow σ cs).tr.get i=some o->(i=c.N/\o=.cells cs.length cs false)\/(i<c.N/\σ.tr.get i=some o):=by
  intro i o hi;rw[Am.newRow,jv,h.next] at hi
  by_cases h1:i=c.N
  .grind
  .simp[h1] at hi;exact .inr ⟨h.live i o hi,hi⟩
 refine⟨by simp[Am.newRow,H.new,Ctx.grow,h.next],λi o hi => ?_,λi hi => ?_,λi hi => ?_,λi j o o' hi hj he => ?_,λi o hi => ?_,λi yJ sq hi hx => ?_,λi o hi hx => ?_⟩
 .grind
 .by_cases h1:i=c.N
  .grind[bP]
  .rw[d_ c _ _ _ (by omega)];exact h.pn i (by omega)
 .by_cases h1:i=c.N
  .grind[Ctx.grow,rowSize]
  .rw[d_ c _ _ _ (by omega),<-h.zz i (by omega)];simp[Ctx.grow,hr i (by omega)]
 .rcases key i o hi with⟨I,_⟩|⟨I,a2⟩<;>rcases key j o' hj with⟨b1,_⟩|⟨b1,b2⟩
  .omega
  .grind[bP,d_]
  .grind[bP,d_]
  .rw[d_ c _ _ _ I,d_ c _ _ _ b1] at he;rw[iq c _ _ _ I,iq c _ _ _ b1];exact h.inj i j _ _ a2 b2 he
 .rcases key i o hi with⟨rfl,rfl⟩|⟨I,a2⟩
  .refine⟨U,λv hv=>⟨(dK e v (kU v hv).1).2,(kU v hv).2⟩,C,T,(0,0),by rw[bP];exact hg,by grind[bP],λj v hj => ?_,U⟩;rw[bP,(dK e v (kU v (aI hj)).1).1];have h1:(C.toList.take cs.length)[j]?=some (conc c v):=by grind
   grind
  .exact(h.obj i o a2).later e I U
 .rcases key i _ hi with⟨rfl,_⟩|⟨I,a2⟩
  .rw[bP]
  .rw[iq c _ _ _ I] at hx;rw[d_ c _ _ _ I];exact h.one i yJ sq a2 hx
 .rcases key i o hi with⟨rfl,_⟩|⟨I,a2⟩
  .grind[Aa]
  .rw[iq c _ _ _ I] at hx;exact h.fx i o a2 hx
def qG (_:Value): Option (DataW Unit×List MemPlace):=some (.nil,[])
def IB (P:Program)(f K:Nat)(gs:List Nat): Prop:=∀g∈gs,∀(Bm b nn:Nat) (I:DataW Unit) (w:World),Bm<w.heap.size->w.cell? ⟨Bm,0,none⟩=some (.map (some b)) ->
 w.ownsMap P K qG b nn I->Maps.size I<=maxLen->Maps.size I*8<=140737488355328 ->
 Calls P f #[.func (.func g) #[] #[.pointer (some ⟨Bm,0,none⟩)]] w λe w'=>∃(v:Value) (ss:List Int),e=.returned v/\ss.Perm (intKeys I) /\
  w'.ownsRow w.heap.size K 1 v ss.length ((ss.mergeSort (λx y=>decide (x<=y))).map encZ)/\(v=.slice none 0 0↔ss=[])/\Below w.heap.size w w'
theorem Ju {f K:Nat}{gs:List Nat}(hK:P.underlying K=some (.int .i64))(hS:IB P f K gs){v:V}(hr:toldSorted gs args σ=some (v,fg))
 (h:Rel c σ w): kJ P f args c w v fg:=by
 unfold toldSorted at hr;split at hr
 .rename_i g b;split at hr
  .rename_i n id Xo;split at hr
   .rename_i es clock hgm;cases hq:(Nat.beq n 1&&z8 gs g&&bornUp clock 0 es&&Nat.ble es.length 1048576) with
    |false=>grind
    |true =>
     rw[hq,ag] at hr;simp only[bV,beq_iff,aR,Ek] at hq;obtain⟨⟨⟨q1,q2⟩,q3⟩,q4⟩:=hq;subst q1;cases hk:keyInts es with
     |none=>grind
     |some ks =>
      simp only[hk] at hr;cases I:uo (oT ks) with
      |false=>grind
      |true =>
       simp only[I,ag] at hr;obtain⟨k1,k2⟩:=FB (c:=c) es ks hk;obtain⟨b1,b2⟩:=IA es 0 q3;have cq:=Iz _ I;have fE:ks.Nodup:=(jb ks).nodup_iff.1 (cq.imp λ{a b} mq=>by omega);have Xp:=h.one b _ _ Xo (h.Hq Xo (by simp));have ve:=cell_of h Xo (j:=0) (v:=.map id) U;have adF:ja c b 0=⟨(c.ρ b).1,0,none⟩:=by simp[ja,Xp]
       rw[adF] at ve;have aaR:w.cell? ⟨(c.ρ b).1,0,none⟩=some (.map (some (c.ρ id).1)):=by simpa[conc] using ve
       obtain⟨m1,m2⟩:=h.obj id _ hgm;have JE:∀x∈es,∃n,n∈ks/\(c8 c x).key=.int .i64 n:=λx hx=>by
        have:conc c x.1∈ks.map (Value.int .i64):=by grind
        obtain⟨n,hn,he⟩:=List.mem_map.1 this;exact⟨n,hn,he.symm⟩
       have jl:∀x∈es,∀n,(c8 c x).key=.int .i64 n->n∈ks->WideElems.rd P K qG (c8 c x)=some (.int .i64 n,.nil):=λx hx n hn hm=>by
        grind[WideElems.rd,Maps.keyOf_int_mk,qG]
       have Pp:w.ownsMap P K qG (c.ρ id).1 es.length (.map (((es.map (c8 c)).toArray.toList.map (WideElems.rg P K qG)).foldr DataW.insert [])):=by
        refine⟨(es.map (c8 c)).toArray,clock,m2,⟨by simp[maxLen];omega,⟨λx hx => ?_,?_,?_⟩,λx hx => ?_⟩,by simp,U⟩
        .simp only[List.mem_map] at hx;obtain⟨y,hy,rfl⟩:=hx;exact(b1 y hy).2
        .grind[c8]
        .have:(es.map (c8 c)).toArray.toList.map (·.key)=ks.map (Value.int .i64):=by simp_all[c8,Function.comp_def]
         grind
        grind
       have fY:Maps.size (H:=Unit) (.map (((es.map (c8 c)).toArray.toList.map (WideElems.rg P K qG)).foldr DataW.insert []))=es.length:=by
        rw[Maps.size_eq,(WideShapes.sorted_perm _).length_eq];simp
       have FC:(intKeys (H:=Unit) (.map (((es.map (c8 c)).toArray.toList.map (WideElems.rg P K qG)).foldr DataW.insert []))).Perm ks:=by
        refine((WideShapes.sorted_perm _).map _).trans ?_;have:(((es.map (c8 c)).toArray.toList.map (WideElems.rg P K qG)).map λp=>intOf p.1)=ks:=by
         have nM:∀x∈es,Value.int .i64 (intOf (WideElems.rg P K qG (c8 c x)).1)=conc c x.1:=λx hx=>by
          obtain⟨n,hn,he⟩:=JE x hx;rw[WideElems.rg_of (jl x hx n he hn)];exact he.symm
         have h1:((((es.map (c8 c)).toArray.toList.map (WideElems.rg P K qG)).map λp=>intOf p.1).map (Value.int .i64))=ks.map (Value.int .i64):=by
          grind[List.map_congr_left]
         grind[List.map_inj_right]
        rw[this]
       have FD:=hS g q2 (c.ρ b).1 (c.ρ id).1 es.length _ w (h.pn b (h.live b _ Xo)) aaR Pp (by rw[fY];simp[maxLen];omega) (by omega);have JF:([V.fn (.func g) [] [.ptr b 0]].map (conc c)).toArray = #[.func (.func g) #[] #[.pointer (some ⟨(c.ρ b).1,0,none⟩)]]:=by simp[conc,concL,Xp]
       unfold kJ;rw[JF];refine FD.mono ?_;rintro e w' ⟨rv,ss,rfl,s1,s2,s3,s4⟩;obtain⟨g1,g2⟩:=h.below s4;have hss:ss.Perm ks:=s1.trans FC;have hms:ss.mergeSort (λx y=>decide (x<=y))=oT ks:=by
        refine yS (((List.mergeSort_perm ss _).trans hss).trans (jb ks).symm) ?_ (cq.imp λ{a b} mq=>by omega)<;>grind[List.pairwise_mergeSort]
       rw[hms] at s2;split at hr
       .-- no key
        have O8:ss=[]:=by simp_all
        grind[conc,wf]
       .obtain⟨rfl,rfl⟩:=hr;have afo:ss≠[]:=λe=>by
         simp_all
        have jE:ss.length=ks.length:=hss.length_eq;rcases s2.2 with⟨e1,_⟩|⟨gb,cap,cur,rfl,l1,l2,l3,l4,l5,l6⟩
        .grind
        have adG:gb<w'.heap.size:=(Array.getElem?_eq_some_iff.1 l2).1;have s_:∀i,i<c.N->(c.ρ i).1≠gb:=λi hi e=>by have:=h.pn i hi;omega
        have kU:∀x∈jA (oT ks),wf c x/\storable x=true:=λx hx=>by
         obtain⟨n,_,rfl⟩:=List.mem_map.1 hx<;>grind[wf,storable]
        have A6:(jA (oT ks)).length=ks.length:=by simp[jA,(jb ks).length_eq]
        have acp:cur.toList.take (jA (oT ks)).length=(jA (oT ks)).map (conc c):=by
         simp_all[jA,conc]
        have R:=g1.take adG s_ kU l2 acp;have qR:(c.grow gb 0 cur.size).room σ.next 0 1=cap:=by
         simp only[Ctx.room,h.next,Ctx.grow,dG]
         simp[l5]
        refine⟨c.grow gb 0 cur.size,?_,?_,R,g2.JB s_ l1⟩
        .simp only[conc,qR];simp[h.next,Ctx.grow,jE]
        .exact⟨by rw[h.next];simp[Ctx.grow],aH _,by omega⟩
   .cases hr
  .cases hr
 .cases hr
end
end Go.Proofs.YtdonpgpfplgigaaGreat.Am
namespace Go.Proofs.YtdonpgpfplgigaaGreat.Am
open Go
variable {ps:Array (Nat×Operand)} {ops:Array Oper} {st:Bool} {C:gN} {code:Code} {c₀:Ctx} {env:Env} {Q:Ex->List (Nat×V)->H->Prop} {fn:Func} {cl:Go.Call} {h' σ h₁ fg:H} {κ:IntKind} {E E':List (Nat×V)} {R:List (Nat×V)->H->Prop} {d₀:List Deferred} {hs:List H} {fN es l:List Nat} {L rest:List Oper} {args first cap vs cs ds:List V} {a b i c k id n d off j g vj k' q:Nat} {Hs:Nat->H} {early:Nat->Option (Nat×FV)} {Fl:Nat->Prop} {vv:Nat->V} {o':Obj} {x y:Operand} {P:Program} {φ:Prop} {self:Self} {s':St} {α:Type} {td:TypeDesc} {t t' e kt et:TypeId} {r u z:V} {BJ:V->H->Prop} {w₀ w:World}
abbrev sD := List (Nat×List V×List V)
noncomputable def resOf (P:Program)(s:St)(rs:List ResultVar): Option V:=match mapO (resV P s) rs with
 |some [v]=>some v
 |some vs=>some (.aV vs)
 |none=>none
noncomputable def evOpsD (C:gN)(self:Self)(L:List Oper): List Oper->St->sD->Option (St×sD)
 |[],s,d=>some (s,d)
 |o::rest,s,d=>match o.op with
  |.defer cl=>match o.guard,o.dst,cl.callee,evArgs s.env cl.args.toList with
   |none,none,.value x,some args=>match evO s.env x with
    |some (.fn (.func g) first cap)=>evOpsD C self L rest s ((g,first++args,cap)::d)
    |_=>none
   |_,_,_,_=>none
  |_=>cond (wantedV L s.env o)
   (match evOp C self s.env s.h o with
    |some (v,h)=>match s.put o.dst v h with
     |some s'=>evOpsD C self L rest s' d
     |none=>none
    |none=>none)
   (match s.put o.dst cY s.h with
    |some s'=>evOpsD C self L rest s' d
    |none=>none)
noncomputable def evTop (C:gN)(n:Nat): Nat->Code->St->sD->Option (Ex×St×sD)
 |0,_,_,_=>none
 |m+1,c,s,d=>match c with
  |.seq a b=>match evTop C n m a s d with
   |some (.normal,s',I)=>evTop C n m b s' I
   |r=>r
  |.region _ ops false=>match evOpsD C (ev C n) ops.toList ops.toList s d with
   |some (s',I)=>some (.normal,s',I)
   |none=>none
  |c=>match ev C n c s with
   |some (ex,s')=>some (ex,s',d)
   |none=>none
def quietParts : Code->Option (Nat×Nat×Code)
 |.seq (.region _ ops false) rest=>match ops.toList with
  |[I,OV]=>match I.op,I.guard,I.dst,OV.op,OV.guard,OV.dst with
   |.call cl,none,some vj,.assign (.tmp t),none,some aaS=>match cl.callee,cl.args.toList with
    |.builtin .recover,[]=>cond (Nat.beq t vj) (some (vj,aaS,rest)) none
    |_,_=>none
   |_,_,_,_,_,_=>none
  |_=>none
 |_=>none
noncomputable def defCall (C : gN) (n : Nat) (g : Nat) (args : List V) (h : H) : Option H := match C.P.funcs[g]? with
 | none => none
 | some fn => match fn.body with
  | none => none
  | some code => match quietParts code with
   | some (vj, I, rest) => cond (Nat.blt vj fn.ntmps && Nat.blt I fn.ntmps && Nat.ble args.length fn.ntmps && !(fn.name == "runtime.NumGoroutine"))
    (match ev C n rest ⟨((bindArgs args 0 .lf).set vj (some .qA)).set I (some .qA), fn.ntmps, h⟩ with
     | some (.normal, s) | some (.ret, s) => match resOf C.P s fn.results.toList with
      | some _ => some s.h
      | none => none
     | _ => none) none
   | none => match callF C (ev C n) g args h with
    | some (_, h') => some h'
    | none => none
noncomputable def runDefs (C:gN)(n:Nat): sD->H->Option H
 |[],h=>some h
 |(g,args,cap)::d,h=>match C.told g with
  |some _=>none
  |none=>match defCall C n g (args++cap) h with
   |some h'=>runDefs C n d h'
   |none=>none
noncomputable def toldDefer (C:gN)(n f:Nat)(args:List V)(h:H): Option (V×H):=match C.P.funcs[f]? with
 |none=>none
 |some fn=>match fn.body with
  |none=>none
  |some c=>cond (Nat.blt fn.ntmps args.length) none (match evTop C n 1000 c ⟨bindArgs args 0 .lf,fn.ntmps,h⟩ [] with
   |some (.exit _,_,_)=>none
   |some (_,s,d)=>match runDefs C n d s.h with
    |some h'=>match resOf C.P ⟨s.env,s.ax,h'⟩ fn.results.toList with
     |some v=>some (v,h')
     |none=>none
    |none=>none
   |none=>none)
section
variable {c:Ctx}
theorem Em {s:St}{a:Act}{v:V}(h:Rel c s.h w)(he:fW c s.env s.ax a)(hr:resOf P s fn.results.toList=some v):
  (results fn a.tmps).run P w=.ok (conc c v) w/\wf c v:=by
 unfold resOf at hr;cases I:mapO (resV P s) fn.results.toList with
 |none=>grind
 |some vs =>
  obtain⟨q1,q2⟩:=Fi h he I;rw[q1];rcases vs with _|⟨v0,_|⟨v1,vs⟩⟩<;>grind[conc,wf,iF,kT]
structure tZ (c:Ctx)(d:sD)(ds:List Deferred): Prop where
 eq:ds=d.map λx=>{ target:=.fn (.func x.1) (x.2.2.map (conc c)).toArray,args:=(x.2.1.map (conc c)).toArray }
 IC:∀x∈d,(∀v∈x.2.1,wf c v)/\∀v∈x.2.2,wf c v
theorem tZ.ext {c':Ctx}{d:sD}{ds:List Deferred}(h:tZ c d ds)(e:Ext c c'): tZ c' d ds where
 eq:=by
  rw[h.eq];refine yw λx I => ?_;rw[(sk e (h.IC x I).1).1,(sk e (h.IC x I).2).1]
 IC:=λx I=>⟨(sk e (h.IC x I).1).2,(sk e (h.IC x I).2).2⟩
theorem RN {a:Act}(he:fW c env n a): ∀(l:List Operand) (vs:List V),evArgs env l=some vs->l.map a.eval=vs.map (conc c)/\∀v∈vs,wf c v:=by
 intro l;induction l<;>grind[evArgs,E_]
theorem RO (hS:kV C.P self)(hT:iU C){Q:Exit->Act->World->Prop}: ∀(l:List Oper) (k:Nat) (s s':St) (d d':sD) (c:Ctx) (a:Act) (w:World),
  (∀j,l[j]?=ops[k+j]?)->evOpsD C self ops.toList l s d=some (s',d')->Rel c s.h w->fW c s.env s.ax a->tZ c d a.defers ->
  (∀c' a' w',Rel c' s'.h w'->fW c' s'.env s'.ax a'->dA c w c' w'->tZ c' d' a'.defers->Q .normal a' w') ->
  wpOpsIn (Fr none) 0 C.P ops Q (List.range' k l.length) a w:=by
 intro l;induction l with
 |nil =>
  grind[evOpsD,wpOpsIn,dA.refl]
 |cons o l ih =>
  intro k s s' d d' c a w hl hr h he hd hQ;have h0:ops[k]?=some o:=by simpa using(hl 0).symm
  have DZ:∀j,l[j]?=ops[k+1+j]?:=λj=>by have:=hl (j+1);grind
  simp only[aX,Hf,wpOpsIn,h0];rw[Fo he];have common:(cond (wantedV ops.toList s.env o)
    (match evOp C self s.env s.h o with
     |some (v,h)=>match s.put o.dst v h with
      |some s'=>evOpsD C self ops.toList l s' d
      |none=>none
     |none=>none)
    (match s.put o.dst cY s.h with
     |some s'=>evOpsD C self ops.toList l s' d
     |none=>none))=some (s',d') ->
    (if wantedV ops.toList s.env o=true then o.wpIn (Fr none) 0 C.P a w (wpOpsIn (Fr none) 0 C.P ops Q (List.range' (k+1) l.length)) Q else(∀f,o.about C.P w a.eval=some f->(Fr none).fn f)/\wpOpsIn (Fr none) 0 C.P ops Q (List.range' (k+1) l.length) (a.put o.dst undef) w):=by
   intro hr;cases hw:wantedV ops.toList s.env o with
   |true =>
    rw[hw,ag] at hr;cases ho:evOp C self s.env s.h o with
    |none=>grind
    |some r =>
     obtain⟨v,fg⟩:=r;simp only[ho] at hr;cases hp:s.put o.dst v fg with
     |none=>grind
     |some I =>
      simp only[hp] at hr;refine(Dh hS hT h (he.Nn o) ho).wpIn (pI ho) ?_;intro c' w' r1 r2 r3;obtain⟨p1,p2,p3⟩:=St.E8 (he.ext r2.ext) r3 hp;refine ih (k+1) I s' d d' c' _ w' DZ hr (by grind) p1 (by rw[put_defers];exact hd.ext r2.ext) ?_;intro Ka Kb DT q1 q2 q3 q4;exact hQ Ka Kb DT q1 q2 (r2.trans q3) q4
   |false =>
    refine⟨λ_ _=>trivial,?_⟩;cases hp:s.put o.dst cY s.h with
    |none=>grind
    |some I =>
     obtain⟨p1,p2,p3⟩:=St.E8 he (show wf c cY by simp[cY,wf,ik]) hp<;>grind[u9,put_defers]
  unfold evOpsD at hr;split at hr
  .rename_i cl gn;split at hr
   .rename_i x args hg Ur aeO JF;split at hr
    .rename_i g first cap Xq
     have acq:wantedV ops.toList s.env o=true:=by simp[wantedV,hg]
     simp only[acq,dG];obtain⟨e1,e2⟩:=RN he _ _ JF;obtain⟨f1,f2⟩:=E_ he Xq;have fw:(∀x∈first,wf c x)/\(∀x∈cap,wf c x):=by
      grind[wf,kT]
     have BB:(execOp a.eval o).run C.P w=.ok (.defer { target:=.fn (.func g) (cap.map (conc c)).toArray,args:=((first++args).map (conc c)).toArray }) w:=by
      simp_all[conc,iF,execOp,resolve,Deferred.ofValue]
     refine⟨λ_ _=>trivial,?_⟩;rw[show(Fr none).round=none from U,Oper.semAt_none,BB];simp only[Oper.uponIn,Ur,Act.put];refine ih (k+1) s s' ((g,first++args,cap)::d) d' c _ w DZ hr h ⟨he.size,he.val,he.E7⟩ ⟨by simp[hd.eq],λx hx => ?_⟩ ?_
     .rcases List.mem_cons.1 hx with rfl|hx
      .grind
      .exact hd.IC x hx
     .omega
    .cases hr
   .cases hr
  .grind
theorem US (hm:C.P.follows .mixedOrders=true)(hT:iU C): ∀(m:Nat) (code:Code) (s:St) (d:sD) (ex:Ex) (s':St) (d':sD),evTop C n m code s d=some (ex,s',d') ->
  ∀(c:Ctx) (a:Act) (w:World),Rel c s.h w->fW c s.env s.ax a->tZ c d a.defers ->
   code.wp C.P (λe a' w'=>e=exOf ex/\∃c',Rel c' s'.h w'/\fW c' s'.env s'.ax a'/\dA c w c' w'/\tZ c' d' a'.defers) a w:=by
 have hS:=(Dl (C:=C) hm hT n).1;intro m;induction m with
 |zero=>grind[evTop]
 |succ m ih =>
  intro code s d ex s' d' hr c a w h he hd;have rest:(match ev C n code s with
    |some (ex,s')=>some (ex,s',d)
    |none=>none)=some (ex,s',d')->code.wp C.P (λe a' w'=>e=exOf ex/\∃c',Rel c' s'.h w'/\fW c' s'.env s'.ax a'/\dA c w c' w'/\tZ c' d' a'.defers) a w:=by
   intro hr;cases o6:ev C n code s with
   |none=>grind
   |some r =>
    rw[o6] at hr;obtain⟨rfl,rfl,rfl⟩:=hr;refine Code.wp_mono ?_ (hS _ _ _ _ o6 c a w h he);rintro e a' w' ⟨rfl,q2,c',q3,q4,q5⟩;exact⟨U,c',q3,q4,q5,by rw[q2];exact hd.ext q5.ext⟩
  unfold evTop at hr;split at hr
  .rename_i x y;cases hx:evTop C n m x s d with
   |none=>grind
   |some r =>
    obtain⟨Is,I,vj⟩:=r;rw[hx] at hr;refine wp_seq (Code.wp_mono ?_ (ih x s d Is I vj hx c a w h he hd));rintro e BE BF ⟨rfl,c₁,q3,q4,q5,q6⟩;cases Is with
    |normal =>
     refine Code.wp_mono ?_ (ih y I vj ex s' d' hr c₁ BE BF q3 q4 q6);rintro e acf acg ⟨rfl,c₂,p3,p4,p5,p6⟩;exact⟨U,c₂,p3,p4,q5.trans p5,p6⟩
    |exit i =>
     obtain⟨rfl,rfl,rfl⟩:=hr;exact⟨U,c₁,q3,q4,q5,q6⟩
    |ret =>
     obtain⟨rfl,rfl,rfl⟩:=hr;exact⟨U,c₁,q3,q4,q5,q6⟩
  .rename_i id ops;cases hx:evOpsD C (ev C n) ops.toList ops.toList s d with
   |none=>grind
   |some r =>
    obtain⟨I,vj⟩:=r;rw[hx] at hr;simp only[aA,bS] at hr;obtain⟨rfl,rfl,rfl⟩:=hr;refine wpIn_wide.1 (show(Code.region id ops false).wpIn (Fr none) 0 C.P _ a w from wpIn_region ?_);rw[List.range_eq_range',<-G5];exact RO (RG (C:=C) hm hT n).1 hT ops.toList 0 s I d vj c a w (λj=>by simp) hx h he hd λc' a' w' r1 r2 r3 r4=>⟨U,c',r1,r2,r3,r4⟩
  .grind
theorem UT (hm : C.P.follows .mixedOrders = true) (hT : iU C) {v : V} (hg : C.told g = none) (hr : callF C (ev C n) g args σ = some (v, fg)) (h : Rel c σ w) (hw : ∀ x ∈ args, wf c x) :
  CallsD C.P g (args.map (conc c)).toArray .returning w (fun e u' w' => u' = .returning ∧ (∃ x, e = .returned x) ∧ ∃ c', Rel c' fg w' ∧ dA c w c' w') ∧ ∀ (x : Array Value) (w : World), (callFunc g x).run C.P w = .ok (.enter g x) w := by
 have hS := (Dl (C := C) hm hT n).1
 have hen := (callF_ok hS hT hr h hw).2
 unfold callF at hr
 rw [hg] at hr
 simp only at hr
 cases hf : C.P.funcs[g]? with
 | none => grind
 | some fn =>
  simp only [hf] at hr
  cases hb : fn.body with
  | none => grind
  | some code =>
   simp only [hb] at hr
   cases hq : (fn.name == "runtime.NumGoroutine" || Nat.blt fn.ntmps args.length) with
   | true => grind
   | false =>
    simp only [Bool.or_eq_false_iff] at hq
    have hle : args.length ≤ fn.ntmps := by
     grind [gj]
    have I := sr (c := c) hle hw
    have done : ∀ ex s, ev C n code ⟨bindArgs args 0 .lf, fn.ntmps, σ⟩ = some (ex, s) → (ex = .normal ∨ ex = .ret) →
      (match mapO (resV C.P s) fn.results.toList with
       | some [v] => some (v, s.h)
       | some vs => some (.aV vs, s.h)
       | none => none) = some (v, fg) →
      CallsD C.P g (args.map (conc c)).toArray .returning w (fun e u' w' => u' = .returning ∧ (∃ x, e = .returned x) ∧ ∃ c', Rel c' fg w' ∧ dA c w c' w') := by
     intro ex s hs hex hmr
     have hwp := hS code _ ex s hs c _ w h I
     have uM : resOf C.P s fn.results.toList = some v ∧ s.h = fg := by
      grind [resOf]
     have RP := callsD_of_wp (u := .returning) (R := fun e w' => (∃ x, e = .returned x) ∧ ∃ c', Rel c' fg w' ∧ dA c w c' w') hf hb (Code.wp_mono (Q' := bodyPost C.P fn fun e w' => (∃ x, e = .returned x) ∧ ∃ c', Rel c' fg w' ∧ dA c w c' w') ?_ hwp)
     ·omega
     ·rintro e a' w' ⟨rfl, hd, c', r1, r2, r3⟩
      have JA : a'.defers = [] ∧ ∃ x, (results fn a'.tmps).run C.P w' = .ok x w' ∧ (∃ y, Ending.returned x = .returned y) ∧ ∃ c', Rel c' fg w' ∧ dA c w c' w' :=
       ⟨hd, _, (Em r1 r2 uM.1).1, ⟨_, rfl⟩, c', by grind, r3⟩
      grind [bodyPost, exOf]
    split at hr
    ·grind
    ·grind
    ·grind
theorem Jv {o:Oper}{ρ:Operand->Value}(ho:o.op=.call cl)(I:cl.callee=.builtin .recover)(ha:cl.args.toList=[])(w:World): (execOp ρ o).run P w=.ok .recover w:=by
 simp_all[execOp,resolve,invoke,builtin]
theorem ID (hm:C.P.follows .mixedOrders=true)(hT:iU C){aaS:Nat}{rest:Code}{ex:Ex}{I:St}{v:V}(hf:C.P.funcs[g]?=some fn)(hb:fn.body=some code)
 (hq:quietParts code=some (vj,aaS,rest))(h1:vj<fn.ntmps)(h2:aaS<fn.ntmps)(hle:args.length<=fn.ntmps)
 (ae0:ev C n rest ⟨((bindArgs args 0 .lf).set vj (some .qA)).set aaS (some .qA),fn.ntmps,σ⟩=some (ex,I))(hex:ex=.normal\/ex=.ret)(uM:resOf C.P I fn.results.toList=some v)
 (h:Rel c σ w)(hw:∀x∈args,wf c x):
  CallsD C.P g (args.map (conc c)).toArray .returning w (λe u' w'=>u'=.returning/\(∃x,e=.returned x)/\∃c',Rel c' I.h w'/\dA c w c' w'):=by
 have hS:=(Dl (C:=C) hm hT n).1;unfold quietParts at hq;split at hq
 .rename_i id ops Xr;split at hq
  .rename_i ab9 OV afp;split at hq
   .rename_i cl ae1 t ae2 q6 q2 q4 q9 q3 q5;split at hq
    .rename_i q7 q8;cases ht:Nat.beq t ae1 with
     |false=>grind
     |true =>
      rw[ht,ag] at hq;simp only[aA,bS] at hq;obtain⟨rfl,rfl,rfl⟩:=hq;have:=beq_iff.1 ht;subst this;have acr:ops = #[ab9,OV]:=by grind
      subst acr;refine callsD_of_wpS hf hb λc₀ cs hu=>(wpS_seq ?_);have aai:=sr (c:=c) hle hw;generalize hA:({ tmps:=(args.map (conc c)).toArray++Array.replicate (fn.ntmps-(args.map (conc c)).toArray.size) undef,defers:=[] }:Act)=A at aai ⊢;have hAd:A.defers=[]:=by grind
      have aat:=(aai.put (d:=t) (v:=.qA) h1 (by simp[wf])).put (d:=ae2) (v:=.qA) h2 (by simp[wf]);have BB:=hS _ _ _ _ ae0 c _ w h aat;rw[show conc c .qA=.nilIface from by rfl] at BB;have adH:recoverD (c₀::cs)=none:=by simp[recoverD,hu]
      have h5:(A.put (some t) .nilIface).eval (.tmp t)=.nilIface:=by
       have:=(aai.put (d:=t) (v:=.qA) h1 (by simp[wf])).val t;grind[conc,Act.eval,Env.v,bh]
      refine wpS_region ?_;rw[show List.range (#[ab9,OV]:Array Oper).size=[0,1] from U];simp only[wpOpsS,qa,j9,oI,Region.wanted,q2,q3,dG];rw[Jv q6 q7 q8];simp only[adH,q4];have adI:(execOp (A.put (some t) .nilIface).eval OV).run C.P w=.ok (.value .nilIface) w:=by simp[execOp,q9,h5]
      rw[adI];simp only[Oper.upon,q5,Exit.thenS];refine wpS_of_wp (Code.wp_mono ?_ BB);rintro e a' w' ⟨rfl,dd,c',r1,e2,p1⟩;have JA:a'.defers=[]/\∃u',c₀::cs={ c₀ with mode:=u' }::cs/\∃v,(results fn a'.tmps).run C.P w'=.ok v w'/\(u'=.returning/\(∃x,Ending.returned v=.returned x)/\∃c',Rel c' I.h w'/\dA c w c' w') :=
       ⟨dd.trans hAd,.returning,by rw[<-hu],_,(Em r1 e2 uM).1,U,⟨_,U⟩,c',r1,p1⟩
      rcases hex with rfl|rfl
      .exact JA
      .exact JA
    .cases hq
   .cases hq
  .cases hq
 .cases hq
theorem Pq (hm : C.P.follows .mixedOrders = true) (hT : iU C) (hg : C.told g = none) (hr : defCall C n g args σ = some fg) (h : Rel c σ w) (hw : ∀ x ∈ args, wf c x) :
  CallsD C.P g (args.map (conc c)).toArray .returning w (fun e u' w' => u' = .returning ∧ (∃ x, e = .returned x) ∧ ∃ c', Rel c' fg w' ∧ dA c w c' w') ∧ ∀ (x : Array Value) (w : World), (callFunc g x).run C.P w = .ok (.enter g x) w := by
 unfold defCall at hr
 cases hf : C.P.funcs[g]? with
 | none => grind
 | some fn =>
  simp only [hf] at hr
  cases hb : fn.body with
  | none => grind
  | some code =>
   simp only [hb] at hr
   split at hr
   ·rename_i vj I rest hq
    cases hc : (Nat.blt vj fn.ntmps && Nat.blt I fn.ntmps && Nat.ble args.length fn.ntmps && !(fn.name == "runtime.NumGoroutine")) with
    | false => grind
    | true =>
     rw [hc, ag] at hr
     simp only [bV, gj, aR, CZ] at hc
     refine ⟨?_, fun x w => by simp_all [callFunc]⟩
     split at hr
     ·grind [ID]
     ·grind [ID]
     ·cases hr
   grind [UT]
theorem RQ (hm:C.P.follows .mixedOrders=true)(hT:iU C){s:St}{v:V}(uM:resOf C.P ⟨s.env,s.ax,h'⟩ fn.results.toList=some v):
  ∀(d:sD) (h:H) (c:Ctx) (a:Act) (ds:List Deferred) (w:World),runDefs C n d h=some h'->Rel c h w->fW c s.env s.ax a->tZ c d ds->dA c₀ w₀ c w ->
   Leaves C.P fn a.tmps (λe w'=>∃c',e=.returned (conc c' v)/\wf c' v/\Rel c' h' w'/\dA c₀ w₀ c' w') ds .returning w:=by
 intro d;induction d with
 |nil =>
  intro h c a ds w hr I he hd hs;simp only[runDefs,aA] at hr;subst hr;have:ds=[]:=by rw[hd.eq];rfl
  subst this;obtain⟨q1,q2⟩:=Em (s:=⟨s.env,s.ax,h⟩) I he uM;exact⟨_,q1,c,U,q2,I,hs⟩
 |cons x d ih =>
  intro h c a ds w hr I he hd hs;obtain⟨g,args,cap⟩:=x;simp only[runDefs] at hr;cases ht:C.told g with
  |some t=>grind
  |none =>
   rw[ht] at hr;cases hc:defCall C n g (args++cap) h with
   |none=>grind
   |some h₁ =>
    rw[hc] at hr;have sn:=hd.IC (g,args,cap) (by simp);obtain⟨k1,k2⟩:=Pq hm hT ht hc I (λx hx=>by
     grind)
    have hds:ds={ target:=.fn (.func g) (cap.map (conc c)).toArray,args:=(args.map (conc c)).toArray }::d.map λx=>{ target:=.fn (.func x.1) (x.2.2.map (conc c)).toArray,args:=(x.2.1.map (conc c)).toArray }:=by rw[hd.eq];rfl
    rw[hds];refine leaves_cons (f:=g) (args:=((args++cap).map (conc c)).toArray) (by simp) ?_ ?_
    .grind[invoke]
    .refine k1.mono ?_;rintro e u' BF ⟨rfl,⟨y,rfl⟩,c₁,r1,r2⟩;have RM:tZ c d (d.map λx=>{ target:=.fn (.func x.1) (x.2.2.map (conc c)).toArray,args:=(x.2.1.map (conc c)).toArray }):=⟨U,λz hz=>hd.IC z (by grind)⟩;exact ih h₁ c₁ a _ BF hr r1 (he.ext r2.ext) (RM.ext r2.ext) (hs.trans r2)
theorem Kp (hm:C.P.follows .mixedOrders=true)(hT:iU C){f:Nat}{v:V}(hr:toldDefer C n f args σ=some (v,fg))(h:Rel c σ w)(hw:∀x∈args,wf c x):
  kJ C.P f args c w v fg:=by
 unfold toldDefer at hr;cases hf:C.P.funcs[f]? with
 |none=>grind
 |some fn =>
  simp only[hf] at hr;cases hb:fn.body with
  |none=>grind
  |some code =>
   simp only[hb] at hr;cases hq:Nat.blt fn.ntmps args.length with
   |true=>grind
   |false =>
    rw[hq,aS] at hr;have hle:args.length<=fn.ntmps:=by
     grind[gj]
    have Hy:=sr (c:=c) hle hw;refine calls_of_wp_defers hf hb ?_;have done:∀ex s d,evTop C n 1000 code ⟨bindArgs args 0 .lf,fn.ntmps,σ⟩ []=some (ex,s,d)->(ex=.normal\/ex=.ret) ->
      (match runDefs C n d s.h with
       |some h'=>match resOf C.P ⟨s.env,s.ax,h'⟩ fn.results.toList with
        |some v=>some (v,h')
        |none=>none
       |none=>none)=some (v,fg) ->
      code.wp C.P (bodyPostD C.P fn λe w'=>∃c',e=.returned (conc c' v)/\wf c' v/\Rel c' fg w'/\dA c w c' w')
       { tmps:=(args.map (conc c)).toArray++Array.replicate (fn.ntmps-(args.map (conc c)).toArray.size) undef,defers:=[] } w:=by
     intro ex s d hs hex I;refine Code.wp_mono ?_ (US hm hT 1000 code _ [] ex s d hs c _ w h Hy ⟨U,λx hx=>by cases hx⟩);rintro e a' w' ⟨rfl,c',r1,r2,r3,r4⟩;cases jl:runDefs C n d s.h with
     |none=>grind
     |some h' =>
      rw[jl] at I;simp only at I;cases hro:resOf C.P ⟨s.env,s.ax,h'⟩ fn.results.toList with
      |none=>grind
      |some v' =>
       rw[hro] at I;obtain⟨rfl,rfl⟩:=I<;>grind[RQ,bodyPostD,exOf]
    split at hr
    .cases hr
    .rename_i ex s d fb hs;cases ex<;>grind
    .cases hr
end

/- Heaps compared. -/
def nN (h:H): Prop:=∀id o,T.get h.tr id=some o->id<h.next
theorem nN.new {h:H}(hw:nN h)(o:Obj): nN (h.new o):=by
 intro id q I;rw[jv] at I;show id<h.next+1
 split at I
 .omega
 .exact Nat.lt_succ_of_lt (hw id q I)
theorem nN.put {h:H}(hw:nN h)(wY:id<h.next)(o:Option Obj): nN (h.put id o):=by
 intro j q I;rw[iA] at I;show j<h.next
 split at I
 .omega
 .exact hw j q I
structure fL (k:Nat)(S:List Nat)(h h':H): Prop where
 wf:nN h'
 le:h.next<=h'.next
 bd:h'.next<=h.next+k
 get:∀id,id<h.next->id∉S->T.get h'.tr id=T.get h.tr id
theorem fL.refl {h:H}(hw:nN h)(S:List Nat): fL 0 S h h:=⟨hw,aH _,aH _,λ_ _ _=>U⟩
theorem fL.trans {S S':List Nat}{h I:H}(a:fL k S h h')(b:fL k' S' h' I)(hs:∀i∈S',i∈S\/h.next<=i): fL (k+k') S h I:=by
 refine⟨b.wf,c_ a.le b.le,by have:=a.bd;have:=b.bd;omega,λid wY hn => ?_⟩;rw[b.get id (j_ wY a.le) (λhm => ?_),a.get id wY hn];rcases hs id hm with h1|h1
 .exact hn h1
 .omega
theorem fL.mono {S S':List Nat}{h:H}(a:fL k S h h')(hk:k<=k')(hs:∀i∈S,i∈S'): fL k' S' h h' :=
 ⟨a.wf,a.le,c_ a.bd (CU hk _),λid I hn=>a.get id I (λhm=>hn (hs id hm))⟩
theorem fL.row {S:List Nat}{h:H}(a:fL k S h h')(hw:nN h){o:Obj}(I:T.get h.tr id=some o)(hn:id∉S): T.get h'.tr id=some o:=by
 rw[a.get id (hw id o I) hn];exact I
theorem fL.Dm {h:H}(hw:nN h)(o:Obj): fL 1 [] h (h.new o) :=
 ⟨hw.new o,rK _,aH _,λid I _=>by rw[jv,ai (by omega)]⟩
theorem fL.Xs {h:H}(hw:nN h)(I:id<h.next)(o:Option Obj): fL 0 [id] h (h.put id o) :=
 ⟨hw.put I o,aH _,aH _,λj _ hn=>by rw[iA,ai (λe=>hn (by simp[e]))]⟩
theorem dN (l:List Nat): (ofBytes l).length=l.length:=by simp[ofBytes]
theorem t_ (l m:List Nat): ofBytes (l++m)=ofBytes l++ofBytes m:=by simp[ofBytes]
def View (h:H)(v:V)(l:List Nat): Prop:=(∀b∈l,b<256)/\(((v=.aZ\/∃a,v=.sle a)/\l=[]) \/
 ∃id off cap n cs st,v=.sl id off l.length cap/\T.get h.tr id=some (.cells n cs st)/\cs.length=n/\off+l.length<=n/\(cs.drop off).take l.length=ofBytes l /\
  (match cap with|.exact c=>l.length<=c|.rest e _=>e=1))
def lH (h:H)(v:V)(l:List Nat): Prop:=(∀b∈l,b<256)/\((v=.aZ/\l=[]) \/
 (∃id cs c,v=.sl id 0 l.length (.exact c)/\T.get h.tr id=some (.cells c (ofBytes l++cs) false)/\l.length+cs.length=c) \/
 (∃id,v=.sl id 0 l.length (.rest 1 0)/\T.get h.tr id=some (.cells l.length (ofBytes l) false)/\1<=l.length))
def rowIds : V->List Nat
 |.sl id _ _ _=>[id]
 |_=>[]
theorem lH.view {h:H}{v:V}(I:lH h v l): View h v l:=by
 obtain⟨hl,I⟩:=I;refine⟨hl,?_⟩;rcases I with I|⟨id,cs,c,rfl,hg,hc⟩|⟨id,rfl,hg,h1⟩
 .exact .inl ⟨.inl I.1,I.2⟩
 .refine .inr ⟨id,0,.exact c,c,_,false,U,hg,by simp[dN,hc],by omega,?_,by show l.length<=c;omega⟩;rw[gi,ga (dN l)]
 .refine .inr ⟨id,0,.rest 1 0,_,_,false,U,hg,dN l,by omega,?_,U⟩;rw[gi];exact g_ (by rw[dN];exact aH _)
theorem View.qx {S:List Nat}{h:H}{v:V}(hv:View h v l)(hw:nN h)(I:fL k S h h')(hn:∀i∈rowIds v,i∉S): View h' v l:=by
 obtain⟨hl,hv⟩:=hv;refine⟨hl,?_⟩;rcases hv with hv|⟨id,off,cap,n,cs,st,rfl,hg,h1,h2,h3,h4⟩
 .exact .inl hv
 .exact .inr ⟨id,off,cap,n,cs,st,U,I.row hw hg (hn id (by simp[rowIds])),h1,h2,h3,h4⟩
theorem lH.qx {S:List Nat}{h:H}{v:V}(hv:lH h v l)(hw:nN h)(hk:fL k S h h')(hn:∀i∈rowIds v,i∉S): lH h' v l:=by
 obtain⟨hl,hv⟩:=hv;refine⟨hl,?_⟩;rcases hv with hv|⟨id,cs,c,rfl,I,hc⟩|⟨id,rfl,I,h1⟩
 .exact .inl hv
 .exact .inr (.inl ⟨id,cs,c,U,hk.row hw I (hn id (by simp[rowIds])),hc⟩)
 .exact .inr (.inr ⟨id,U,hk.row hw I (hn id (by simp[rowIds])),h1⟩)
theorem View.len {h:H}{v:V}(hv:View h v l): lenV Tryz.prog h 29 v=some (.int .i64 l.length):=by
 obtain⟨_,hv⟩:=hv;rcases hv with⟨rfl|⟨I,rfl⟩,rfl⟩|⟨id,off,cap,n,cs,st,rfl,_⟩<;>simp[lenV,aP]
theorem View.rdN {h:H}{len:Nat}{cap:Cap}(hv:View h (.sl id off len cap) l): len=l.length/\rdN h id off len=some (ofBytes l):=by
 obtain⟨_,hv⟩:=hv;rcases hv with⟨h0,_⟩|⟨wS,off',I,n,cs,st,h0,hg,h1,h2,h3,h4⟩
 .rcases h0 with h0|⟨_,h0⟩<;>cases h0
 .injection h0 with e1 e2 e3 e4;subst e1;subst e2;subst e3;refine⟨U,?_⟩;unfold Am.rdN;simp only[hg];rw[aR.2 h2,ag];cases hc:(Nat.beq off 0&&Nat.beq l.length n) with
  |true =>
   simp only[bV,beq_iff] at hc;obtain⟨rfl,hn⟩:=hc;rw[ag,<-h3,gi,g_ (by omega)]
  |false=>rw[aS,h3]
theorem Dn : ∃i,Tryz.prog.info? 5=some i/\i.size=1/\i.bytes=1:=by
 refine⟨_,(show Tryz.prog.info? 5=some ((Tryz.prog.info? 5).getD default) by kernel_rfl),by kernel_rfl,by kernel_rfl⟩
theorem pJ : zeroT Tryz.prog 5=some (.int .u8 0):=by kernel_rfl
theorem Pr {h:H}{x:V}{m:List Nat}(hx:View h x m): srcV h 1 x=some (ofBytes m,m.length):=by
 obtain⟨hl,I⟩:=hx;rcases I with⟨rfl|⟨ea,rfl⟩,rfl⟩|⟨id,off,cap,n,cs,st,rfl,hg,h1,h2,h3,h4⟩
 .rfl
 .rfl
 .simp only[srcV,cH];rw[(View.rdN (l:=m) ⟨hl,.inr ⟨id,off,cap,n,cs,st,U,hg,h1,h2,h3,h4⟩⟩).2];rfl
theorem BO {h:H}{s x:V}{m:List Nat}(hw:nN h)(hs:lH h s l)(hx:View h x m)(fY:l.length+m.length<=140737488355328):
  ∃v' h',appendV Tryz.prog h #[29,29] s x=some (v',h')/\lH h' v' (l++m)/\fL 1 (rowIds s) h h'/\(∀i∈rowIds v',i∈rowIds s\/h.next<=i):=by
 obtain⟨i,hi,i1,i2⟩:=Dn;have kK:∀b∈l++m,b<256:=λb hb=>by
  rcases List.mem_append.1 hb with hb|hb
  .exact hs.1 b hb
  .exact hx.1 b hb
 have NB:lB (l.length+m.length) 1=true:=ow.2 ⟨fY,by omega⟩;unfold appendV;simp only[aP,hi,pJ,i1,i2,V.cells,aX,bY,Pr hx];rw[show(Nat.ble 1 1&&Nat.ble 1 4096&&Nat.beq (0+1) 1)=true from U,ag];cases hm:Nat.beq m.length 0 with
 |true =>
  have Bx:m=[]:=iK (beq_iff.1 hm);subst Bx;rw[ag,gd];have I:=hs;obtain⟨_,I⟩:=I;rcases I with⟨rfl,rfl⟩|⟨id,cs,c,rfl,hg,hc⟩|⟨id,rfl,hg,h1⟩
  .exact⟨_,_,U,hs,(fL.refl hw _).mono (gG _) (λ_ h=>h),λi hi=>.inl hi⟩
  .exact⟨_,_,U,hs,(fL.refl hw _).mono (gG _) (λ_ h=>h),λi hi=>.inl hi⟩
  .exact⟨_,_,U,hs,(fL.refl hw _).mono (gG _) (λ_ h=>h),λi hi=>.inl hi⟩
 |false =>
  have Bx:1<=m.length:=by
   rcases nq m.length with h0|h0
   .rw[qT h0] at hm;cases hm
   .exact h0
  rw[aS];have pH:∀(σ:H) (old:List Nat),nN σ->1<=(old++m).length->(∀b∈old++m,b<256)->lH (j6 σ 1 (ofBytes old) (ofBytes m) (old.length+m.length)).2 (j6 σ 1 (ofBytes old) (ofBytes m) (old.length+m.length)).1 (old++m):=by
   intro σ old _ h1 h2;refine⟨h2,.inr (.inr ⟨σ.next,?_,?_,h1⟩)⟩
   .simp only[j6,aN]
   .simp only[j6];rw[jv,ay U,cH,aN,t_]
  have I:=hs;obtain⟨_,I⟩:=I;rcases I with⟨rfl,rfl⟩|⟨id,cs,c,rfl,hg,hc⟩|⟨id,rfl,hg,h1⟩
  .simp only;have adJ:lB m.length 1=true:=by simpa using NB
   rw[adJ,ag];have:=pH h [] hw (by simpa using Bx) (by simpa using hx.1);simp only[bY,eW,dJ] at this;exact⟨_,_,U,by rw[dJ];exact this,(fL.Dm hw _).mono (aH _) (λi hi=>by simp at hi),λi hi=>.inr (by simp[rowIds] at hi;omega)⟩
  .simp only[cH,eW];have hv:=lH.view hs;cases hq:Nat.ble (l.length+m.length) c with
   |true =>
    have Bt:=aR.1 hq;rw[ag];unfold wrN;simp only[hg,dN];rw[hq,ag];simp only;have pG:(cond (Nat.beq l.length 0&&Nat.beq m.length c) (ofBytes m) ((ofBytes l++cs).take l.length++(ofBytes m++(ofBytes l++cs).drop (l.length+m.length))))=ofBytes (l++m)++cs.drop m.length:=by
     have e1:(ofBytes l++cs).take l.length=ofBytes l:=ga (dN l);have e2:(ofBytes l++cs).drop (l.length+m.length)=cs.drop m.length:=by
      rw[vE,dN,show l.length+m.length-l.length=m.length from by omega,p_ (by rw[dN];omega),dJ]
     cases hz:(Nat.beq l.length 0&&Nat.beq m.length c) with
     |true =>
      simp only[bV,beq_iff] at hz;have Rc:l=[]:=iK hz.1;subst Rc;have kU:cs.drop m.length=[]:=p_ (by simp at hc;omega);simp[kU]
     |false=>rw[aS,e1,e2,t_,dO]
    rw[pG];refine⟨_,_,U,⟨kK,.inr (.inl ⟨id,cs.drop m.length,c,by simp,?_,by simp;omega⟩)⟩,(fL.Xs hw (hw id _ hg) _).mono (gG _) (λi hi=>by simpa[rowIds] using hi),λi hi=>.inl (by simpa[rowIds] using hi)⟩;rw[iA,ay U]
   |false =>
    rw[aS,NB,ag,hv.rdN.2];simp only;exact⟨_,_,U,pH h l hw (by simp;omega) kK,(fL.Dm hw _).mono (aH _) (λi hi=>by simp at hi),λi hi=>.inr (by simp[rowIds] at hi;omega)⟩
  .simp only[kg,ag,cH,eW];have hv:=lH.view hs;have v7:fJ h id 0 1=l.length:=by simp[fJ,hg]
   have hf:Nat.ble (l.length+m.length) l.length=false:=by
    cases hq:Nat.ble (l.length+m.length) l.length with
    |true=>have:=aR.1 hq;omega
    |false=>rfl
   rw[v7,hf,aS,NB,show Nat.ble 2 (l.length+m.length)=true from aR.2 (by omega),kf,ag,hv.rdN.2,hg];simp only;have uq:nN (h.put id none):=hw.put (hw id _ hg) _;refine⟨_,_,U,pH (h.put id none) l uq (by simp;omega) kK,?_,λi hi=>.inr (by simp[rowIds,H.put] at hi;omega)⟩;refine((fL.Xs hw (hw id _ hg) none).trans (S':=[]) (fL.Dm uq _) (λi hi=>by simp at hi)).mono (aH _) (λi hi=>by simpa[rowIds] using hi)
section
variable {h:H} {a b:Operand} {v:V}
theorem bZ (I:bE E x=some v): opE P E h (.move x)=some (v,h):=by simp only[opE,lF,I]
theorem iY (I:bE E x=some v): opE P E h (.assign x)=some (v,h):=by simp only[opE,lF,I]
theorem oO (I:bE E x=some (.bool true))(ha:bE E a=some v): opE P E h (.pick x a b)=some (v,h):=by simp only[opE,lF,I,ag,ha]
theorem rP (I:bE E x=some (.bool false))(hb:bE E b=some v): opE P E h (.pick x a b)=some (v,h):=by simp only[opE,lF,I,aS,hb]
theorem vk {o:Nat}(I:bE E x=some (.ptr i o)): opE P E h (.nilCheck x)=some (.ptr i o,h):=by simp only[opE,lF,I]
theorem mX {t:Nat}(I:bE E x=some v)(hf:fieldAddrV P t v i=some r): opE P E h (.fieldAddr t x i)=some (r,h):=by simp only[opE,lF,I,hf,bO]
theorem o_load (I:bE E x=some v)(hf:loadV P h t v=some r): opE P E h (.load t x)=some (r,h):=by simp only[opE,lF,I,hf,bO]
theorem NC (I:bE E x=some v)(hy:bE E y=some u)(hf:j7 P h t v u=some h₁): opE P E h (.store t x y)=some (cY,h₁):=by simp only[opE,w8,I,hy,hf,wT]
theorem aq {op:BinOp}(I:bE E x=some v)(hy:bE E y=some u)(hf:binV P h op t x y v u=some r): opE P E h (.binOp op t x y t')=some (r,h):=by simp only[opE,w8,I,hy,hf,bO]
theorem eo {op:UnOp}(I:bE E x=some v)(hf:unV op v=some r): opE P E h (.unOp op t x)=some (r,h):=by simp only[opE,lF,I,hf,bO]
theorem cN {s d:TypeId}(I:bE E x=some v)(hf:convV P h s d v=some (r,h₁)): opE P E h (.convert s d x)=some (r,h₁):=by simp only[opE,lF,I,hf]
theorem bM (I:bE E x=some v)(hy:bE E y=some u)(hf:indexAddrV P t v u=some r): opE P E h (.indexAddr t x y)=some (r,h):=by simp only[opE,w8,I,hy,hf,bO]
theorem Aj (I:bE E x=some v)(hy:bE E y=some u)(hf:indexV P t v u=some r): opE P E h (.index t x y)=some (r,h):=by simp only[opE,w8,I,hy,hf,bO]
theorem og {l:List V}(I:bE E x=some (.aV l))(hf:nth l i=some r): opE P E h (.extract x i)=some (r,h):=by simp only[opE,lF,I,hf,bO]
theorem cI {l:List (Nat×V)}(I:lookParts E ps.toList=some l)(hf:buildV P t l=some r): opE P E h (.build t ps)=some (r,h):=by simp only[opE,I,hf,bO]
theorem fG (I:bE E x=some v)(hs:v.cells.all storable=true): opE P E h (.box t x)=some (.ptr h.next 0,newRow h v.cells):=by simp only[opE,lF,I,hs,ag]
theorem cm (I:zeroT P t=some v): opE P E h (.alloc t)=some (.ptr h.next 0,newRow h v.cells):=by simp only[opE,I]
theorem oz (I:bE E x=some v)(hf:makeIfaceV P t v=some r): opE P E h (.makeInterface t x)=some (r,h):=by simp only[opE,lF,I,hf,bO]
theorem JG {f:Fn}{p q:Array Operand}{l m:List V}(I:lookArgs E p.toList=some l)(hy:lookArgs E q.toList=some m): opE P E h (.makeFunc f p q)=some (.fn f l m,h):=by simp only[opE,I,hy]
theorem aC {c:Go.Call}(I:c.callee=.builtin .len)(ha:lookArgs E c.args.toList=some [v])(ht:c.argTypes.toList=[t])(hf:lenV P h t v=some r): opE P E h (.call c)=some (r,h):=by
 simp only[opE,I,ha,builtinV,ht,hf,gO]
theorem jc {c:Go.Call}(I:c.callee=.builtin .append)(ha:lookArgs E c.args.toList=some [v,u])(hf:appendV P h c.argTypes v u=some (r,h₁)): opE P E h (.call c)=some (r,h₁):=by
 simp only[opE,I,ha,builtinV,hf]
theorem Ak (I:bE E x=some v)(hy:bE E y=some u)(hf:makeSliceV P h t v u=some (r,h₁)): opE P E h (.makeSlice t x y)=some (r,h₁):=by simp only[opE,w8,I,hy,hf]
theorem iZ {t:Nat}{l:List (Nat×V)}(I:lookParts E ps.toList=some l)(hf:buildSliceV P h t n l=some (r,h₁)): opE P E h (.buildSlice t n ps)=some (r,h₁):=by simp only[opE,I,hf]
theorem bK {lo hi mx:Option Operand}{p q m:Option V}{p' q' m':Option Nat}(I:bE E x=some v)(h1:lookOpt E lo=some p)(h2:lookOpt E hi=some q)(h3:lookOpt E mx=some m)
 (g1:mA p=some p')(g2:mA q=some q')(g3:mA m=some m')(hf:sliceV P h t v p' q' m'=some r): opE P E h (.slice t x lo hi mx)=some (r,h):=by simp only[opE,lF,I,h1,h2,h3,g1,g2,g3,hf,bO]
theorem BP (I:isAggT P t=some false)(hg:T.get h.tr id=some (.cells n cs st))(hn:nth cs off=some v): loadV P h t (.ptr id off)=some v:=by
 simp only[loadV,I,Bn,hg,hn]
theorem b7 (I:isAggT P t=some true)(hs:bq P t=some n)(hg:T.get h.tr id=some (.cells n cs st)): loadV P h t (.ptr id 0)=some (.agg cs):=by
 simp only[loadV,I,hs,rdN,hg,eW];rw[aR.2 (aH n),ag,kg,kg];rfl
end
section
variable {ax:Nat} {h:H} {o:Oper}
theorem IE (hw:nN h)(I:b<256):
  ∃v h₁,buildSliceV Tryz.prog h 29 1 [(0,.int .u8 b)]=some (v,h₁)/\lH h₁ v [b]/\fL 1 [] h h₁/\∀i∈rowIds v,h.next<=i:=by
 refine⟨.sl h.next 0 1 (.exact 1),newRow h [.int .u8 b],?_,⟨by simpa using I,.inr (.inl ⟨h.next,[],1,U,?_,U⟩)⟩,fL.Dm hw _,λi hi=>by simp[rowIds] at hi;omega⟩
 .simp only[buildSliceV,aP,fF,pJ,V.cells];rfl
 .rw[newRow,jv,ay U];rfl
theorem au.Ps (hP:C.P=Tryz.prog)(hw:nN h)(hg:wantE L E o.guard=some true)(hd:o.dst=some d)(hn:Nat.blt d ax=true)(I:o.op=.buildSlice t 1 ps)(ht:t=29)
 (hx:lookParts E ps.toList=some [(0,.int .u8 (b:Int))])(hb:b<256)
 (hr:∀v h₁,lH h₁ v [b]->fL 1 [] h h₁->(∀i∈rowIds v,h.next<=i)->au C ax L rest ((d,v)::E) h₁ R): au C ax L (o::rest) E h R:=by
 obtain⟨v,h₁,e1,e2,e3,e4⟩:=IE hw hb;refine au.op hg hd hn (v:=v) (h₁:=h₁) ?_ (hr v h₁ e2 e3 e4);rw[I,ht,hP];exact iZ hx e1
theorem au.app {c:Go.Call}{s x:V}{m:List Nat}(hP:C.P=Tryz.prog)(hw:nN h)(hg:wantE L E o.guard=some true)(hd:o.dst=some d)(hn:Nat.blt d ax=true)(I:o.op=.call c)(hc:c.callee=.builtin .append)
 (yT:c.argTypes = #[29,29])(ha:lookArgs E c.args.toList=some [s,x])(hs:lH h s l)(hx:View h x m)(fY:l.length+m.length<=140737488355328)
 (hr:∀v h₁,lH h₁ v (l++m)->fL 1 (rowIds s) h h₁->(∀i∈rowIds v,i∈rowIds s\/h.next<=i)->au C ax L rest ((d,v)::E) h₁ R): au C ax L (o::rest) E h R:=by
 obtain⟨v,h₁,e1,e2,e3,e4⟩:=BO hw hs hx fY;refine au.op hg hd hn (v:=v) (h₁:=h₁) ?_ (hr v h₁ e2 e3 e4);rw[I,hP];exact jc hc ha (by rw[yT];exact e1)
theorem FE (hw:nN h)(hc:c<1073741824):
  ∃v h₁,makeSliceV Tryz.prog h 29 (.int .i64 0) (.int .i64 (c:Int))=some (v,h₁)/\lH h₁ v []/\fL 1 [] h h₁/\∀i∈rowIds v,h.next<=i:=by
 obtain⟨i,hi,i1,i2⟩:=Dn;refine⟨.sl h.next 0 0 (.exact c),h.new (.cells c (repeatL [.int .u8 0] c) false),?_,⟨by simp,.inr (.inl ⟨h.next,repeatL [.int .u8 0] c,c,U,?_,?_⟩)⟩,fL.Dm hw _,λi hi=>by simp[rowIds] at hi;omega⟩
 .simp only[makeSliceV,aP,hi,pJ,i1,i2,V.cells,aX,bY,fS,cH];rw[show(decide ((0:Int)<=0)&&decide ((0:Int)<=(c:Int))&&decide ((c:Int)<1073741824)&&Nat.ble 1 4096&&Nat.beq (0+1) 1&&Nat.ble 1 1)=true by simp;omega,ag];rfl
 .rw[jv,ay U];rfl
 .have:∀n,(repeatL [V.int .u8 0] n).length=n:=λn=>by
   induction n with
   |zero=>rfl
   |succ n I=>simp[repeatL,I]
  simp[this]
end
section
variable {ax:Nat} {h:H} {o:Oper} {v:V} {a b:Operand}
theorem zm (e:(o.op,wantE L E o.guard,o.dst,Nat.blt d ax,bE E x)=(Op.move x,some true,some d,true,some v))(hw:au C ax L rest ((d,v)::E) h R): au C ax L (o::rest) E h R:=by
  simp only[bS] at e;exact au.op e.2.1 e.2.2.1 e.2.2.2.1 (by rw[e.1];exact bZ e.2.2.2.2) hw
theorem za (e:(o.op,wantE L E o.guard,o.dst,Nat.blt d ax,bE E x)=(Op.assign x,some true,some d,true,some v))(hw:au C ax L rest ((d,v)::E) h R): au C ax L (o::rest) E h R:=by
  simp only[bS] at e;exact au.op e.2.1 e.2.2.1 e.2.2.2.1 (by rw[e.1];exact iY e.2.2.2.2) hw
theorem zn (e:(o.op,wantE L E o.guard,o.dst,Nat.blt d ax,bE E x)=(Op.nilCheck x,some true,some d,true,some (V.ptr j k)))(hw:au C ax L rest ((d,.ptr j k)::E) h R): au C ax L (o::rest) E h R:=by
  simp only[bS] at e;exact au.op e.2.1 e.2.2.1 e.2.2.2.1 (by rw[e.1];exact vk e.2.2.2.2) hw
theorem zf (e:(o.op,wantE L E o.guard,o.dst,Nat.blt d ax,bE E x)=(Op.fieldAddr t x i,some true,some d,true,some v))(I:fieldAddrV C.P t v i=some r)(hw:au C ax L rest ((d,r)::E) h R): au C ax L (o::rest) E h R:=by
  simp only[bS] at e;exact au.op e.2.1 e.2.2.1 e.2.2.2.1 (by rw[e.1];exact mX e.2.2.2.2 I) hw
theorem zl (e:(o.op,wantE L E o.guard,o.dst,Nat.blt d ax,bE E x)=(Op.load t x,some true,some d,true,some v))(I:loadV C.P h t v=some r)(hw:au C ax L rest ((d,r)::E) h R): au C ax L (o::rest) E h R:=by
  simp only[bS] at e;exact au.op e.2.1 e.2.2.1 e.2.2.2.1 (by rw[e.1];exact o_load e.2.2.2.2 I) hw
theorem ze {l:List V}(e:(o.op,wantE L E o.guard,o.dst,Nat.blt d ax,bE E x,nth l i)=(Op.extract x i,some true,some d,true,some (V.aV l),some r))(hw:au C ax L rest ((d,r)::E) h R): au C ax L (o::rest) E h R:=by
  simp only[bS] at e;exact au.op e.2.1 e.2.2.1 e.2.2.2.1 (by rw[e.1];exact og e.2.2.2.2.1 e.2.2.2.2.2) hw
theorem zp (e:(o.op,wantE L E o.guard,o.dst,Nat.blt d ax,bE E x,bE E b)=(Op.pick x a b,some true,some d,true,some (V.bool false),some v))(hw:au C ax L rest ((d,v)::E) h R): au C ax L (o::rest) E h R:=by
  simp only[bS] at e;exact au.op e.2.1 e.2.2.1 e.2.2.2.1 (by rw[e.1];exact rP e.2.2.2.2.1 e.2.2.2.2.2) hw
theorem zq (e:(o.op,wantE L E o.guard,o.dst,Nat.blt d ax,bE E x,bE E a)=(Op.pick x a b,some true,some d,true,some (V.bool true),some v))(hw:au C ax L rest ((d,v)::E) h R): au C ax L (o::rest) E h R:=by
  simp only[bS] at e;exact au.op e.2.1 e.2.2.1 e.2.2.2.1 (by rw[e.1];exact oO e.2.2.2.2.1 e.2.2.2.2.2) hw
theorem zb {op:BinOp}(e:(o.op,wantE L E o.guard,o.dst,Nat.blt d ax,bE E x,bE E y)=(Op.binOp op t x y t',some true,some d,true,some v,some u))(I:binV C.P h op t x y v u=some r)(hw:au C ax L rest ((d,r)::E) h R): au C ax L (o::rest) E h R:=by
  simp only[bS] at e;exact au.op e.2.1 e.2.2.1 e.2.2.2.1 (by rw[e.1];exact aq e.2.2.2.2.1 e.2.2.2.2.2 I) hw
theorem zx (e:(wantE L E o.guard,o.dst,Nat.blt d ax)=(some false,some d,true))(hw:au C ax L rest ((d,cY)::E) h R): au C ax L (o::rest) E h R:=by
  simp only[bS] at e;exact au.no e.1 e.2.1 e.2.2 hw
theorem zo (e:(wantE L E o.guard,o.dst,Nat.blt d ax)=(some true,some d,true))(ho:opE C.P E h o.op=some (v,h₁))(hw:au C ax L rest ((d,v)::E) h₁ R): au C ax L (o::rest) E h R:=by
  simp only[bS] at e;exact au.op e.1 e.2.1 e.2.2 ho hw
theorem zv (I:R E h): au C ax L [] E h R:=au.nil I
variable {c f:Code}
theorem zw (hw:WP C ax c E h λex E' h'=>match ex with
    |.normal=>WP C ax f E' h' Q
    |ex=>Q ex E' h'): WP C ax (.seq c f) E h Q:=WP.seq hw
theorem zr (hl:ops.toList=L)(hw:au C ax L L E h λE' h'=>Q .normal E' h'): WP C ax (.region k ops false) E h Q:=WP.region hl hw
theorem zg (hl:ops.toList=L)(hw:au C ax L L E h λE' h'=>WP C ax f E' h' Q): WP C ax (.seq (.region k ops false) f) E h Q:=WP.seq (WP.region hl hw)
theorem zi (I:bE E x=some (.bool true))(hw:WP C ax c E h Q): WP C ax (.cond x c f) E h Q:=WP.cond I hw
theorem zj (I:bE E x=some (.bool false))(hw:WP C ax f E h Q): WP C ax (.cond x c f) E h Q:=WP.cond I hw
end
inductive Md where
  |c (c:Code)
  |o (L l:List Oper)
def FF (C:gN)(ax:Nat)(Q:Ex->List (Nat×V)->H->Prop): List Code->Ex->List (Nat×V)->H->Prop
  |[]=>Q
  |b::K=>λex E' h'=>match ex with
    |.normal=>WP C ax b E' h' (FF C ax Q K)
    |ex=>FF C ax Q K ex E' h'
def Xt : List (Nat×V)->Nat->Option V
  |[],_=>none
  |(d,v)::E,k=>cond (Nat.beq d k) (some v) (Xt E k)
theorem RR : ∀(E:List (Nat×V)) (k:Nat),Xt E k=look E k
  |[],_=>rfl
  |(d,v)::E,k=>by simp only[Xt,look,RR E k]
def FG (E:List (Nat×V)): Operand->Option V
  |.tmp t=>Xt E t
  |.const c=>ofValue c
  |.global _=>none
  |.func f=>some (.fn (.func f) [] [])
theorem RS (E:List (Nat×V))(x:Operand): FG E x=bE E x:=by cases x<;>first|rfl|exact RR _ _
def pur (E:List (Nat×V)): Op->Option V
  |.move x=>FG E x
  |.assign x=>FG E x
  |.nilCheck x=>match FG E x with
    |some (.ptr j k)=>some (.ptr j k)
    |_=>none
  |.extract x i=>match FG E x with
    |some (.aV l)=>nth l i
    |_=>none
  |.pick x a b=>match FG E x with
    |some (.bool true)=>FG E a
    |some (.bool false)=>FG E b
    |_=>none
  |_=>none
def runM (ax:Nat): Nat->Md->List (Nat×V)->List Code->Option (Md×List (Nat×V)×List Code)
  |0,m,E,K=>some (m,E,K)
  |n+1,.o _ [],E,b::K=>runM ax n (.c b) E K
  |n+1,.o L (o::l),E,K=>match wantE L E o.guard,o.dst with
    |some false,some d=>cond (Nat.blt d ax) (runM ax n (.o L l) ((d,cY)::E) K) none
    |some true,some d=>match pur E o.op with
      |some v=>cond (Nat.blt d ax) (runM ax n (.o L l) ((d,v)::E) K) none
      |none=>none
    |_,_=>none
  |n+1,.c (.seq a b),E,K=>runM ax n (.c a) E (b::K)
  |n+1,.c (.region _ ops false),E,K=>runM ax n (.o ops.toList ops.toList) E K
  |n+1,.c (.cond x a b),E,K=>match FG E x with
    |some (.bool true)=>runM ax n (.c a) E K
    |some (.bool false)=>runM ax n (.c b) E K
    |_=>none
  |n+1,.c .skip,E,b::K=>runM ax n (.c b) E K
  |_+1,_,_,_=>none
abbrev Gl (C:gN)(ax:Nat)(h:H)(Q:Ex->List (Nat×V)->H->Prop)(m:Md)(E:List (Nat×V))(K:List Code): Prop:=match m with
  |.c c=>WP C ax c E h (FF C ax Q K)
  |.o L l=>au C ax L l E h λE' h'=>FF C ax Q K .normal E' h'
class Kq (C:gN)(ax:Nat)(R:List (Nat×V)->H->Prop)(Q:outParam (Ex->List (Nat×V)->H->Prop))where
  K:List Code
  eq:R=λE' h'=>FF C ax Q K .normal E' h'
class Xu (C:gN)(ax:Nat)(R:Ex->List (Nat×V)->H->Prop)(Q:outParam (Ex->List (Nat×V)->H->Prop))where
  K:List Code
  eq:R=FF C ax Q K
instance (priority:=50) (C:gN) (ax:Nat) (R:List (Nat×V)->H->Prop):Kq C ax R (λ_=>R):=⟨[],U⟩
instance (priority:=60) (C:gN) (ax:Nat) (Q:Ex->List (Nat×V)->H->Prop):Kq C ax (λE' h'=>Q .normal E' h') Q:=⟨[],U⟩
instance (priority:=70) (C:gN) (ax:Nat) (f:Code) (Q:Ex->List (Nat×V)->H->Prop) (K:List Code):Kq C ax (λE' h'=>WP C ax f E' h' (FF C ax Q K)) Q:=⟨f::K,U⟩
instance (priority:=65) (C:gN) (ax:Nat) (f:Code) (Q:Ex->List (Nat×V)->H->Prop):Kq C ax (λE' h'=>WP C ax f E' h' Q) Q:=⟨[f],U⟩
instance (priority:=80) (C:gN) (ax:Nat) (K:List Code) (Q:Ex->List (Nat×V)->H->Prop):Kq C ax (λE' h'=>FF C ax Q K .normal E' h') Q:=⟨K,U⟩
instance (priority:=50) (C:gN) (ax:Nat) (Q:Ex->List (Nat×V)->H->Prop):Xu C ax Q Q:=⟨[],U⟩
instance (priority:=80) (C:gN) (ax:Nat) (K:List Code) (Q:Ex->List (Nat×V)->H->Prop):Xu C ax (FF C ax Q K) Q:=⟨K,U⟩
section
variable {ax:Nat} {l:List Oper} {h:H} {m m':Md} {K K':List Code} {f:Code}
theorem aaT {o:Op}{v:V}(e:pur E o=some v): opE C.P E h o=some (v,h):=by
  unfold pur at e;simp only[RS] at e;split at e
  . exact bZ e
  . exact iY e
  . split at e
    . rename_i I
      cases e;exact vk I
    . cases e
  . split at e
    . rename_i I
      exact og I e
    . cases e
  . split at e
    . rename_i I;exact oO I e
    . rename_i I;exact rP I e
    . cases e
  . cases e
theorem ND : ∀(n:Nat) (m:Md) (E:List (Nat×V)) (K:List Code),runM ax n m E K=some (m',E',K')->Gl C ax h Q m' E' K'->Gl C ax h Q m E K:=by
  intro n;induction n with
  |zero=>intro m E K e hw;simp only[runM,aA,bS] at e;obtain⟨rfl,rfl,rfl⟩:=e;exact hw
  |succ n I =>
    intro m E K e hw;unfold runM at e;split at e
    . rename_i he;cases he
    . rename_i he;cases he
      exact au.nil (I _ _ _ e hw)
    . rename_i he;cases he
      split at e
      . rename_i d hg hd
        cases hn:Nat.blt d ax with
        |false=>rw[hn] at e;cases e
        |true=>rw[hn] at e;exact au.no hg hd hn (I _ _ _ e hw)
      . rename_i d hg hd
        split at e
        . rename_i v hv
          cases hn:Nat.blt d ax with
          |false=>rw[hn] at e;cases e
          |true=>rw[hn] at e;exact au.op hg hd hn (aaT hv) (I _ _ _ e hw)
        . cases e
      . cases e
    . rename_i he;cases he
      exact WP.seq (I _ _ _ e hw)
    . rename_i he;cases he
      exact WP.region U (I _ _ _ e hw)
    . rename_i he;cases he
      rw[RS] at e;split at e
      . rename_i hx;exact WP.cond hx (I _ _ _ e hw)
      . rename_i hx;exact WP.cond hx (I _ _ _ e hw)
      . cases e
    . rename_i he;cases he
      exact WP.skip (I _ _ _ e hw)
    . cases e
theorem zk (n:Nat)[a:Kq C ax R Q](e:runM ax n (.o L l) E (Kq.K C ax R)=some (m',E',K'))(hw:Gl C ax h Q m' E' K'): au C ax L l E h R:=by
  rw[a.eq];exact ND n (.o L l) E _ e hw
theorem zK {I:Ex->List (Nat×V)->H->Prop}(n:Nat)[a:Xu C ax I Q](e:runM ax n (.c f) E (Xu.K C ax I)=some (m',E',K'))(hw:Gl C ax h Q m' E' K'): WP C ax f E h I:=by
  rw[a.eq];exact ND n (.c f) E _ e hw
end
section
variable {ax:Nat} {l:List Oper} {o:Oper} {h:H}
def OpR (C:gN)(E:List (Nat×V))(h:H)(o:Oper)(R:V->H->Prop): Prop:=∃v h₁,R v h₁/\∀env,mc env E->∃N,evOp C (ev C N) env h o=some (v,h₁)
theorem OpR.call {k:FuncId}{R:V->H->Prop}(sy:o.op=.call cl)(hc:cl.callee=.value x)(hx:bE E x=some (.fn (.func k) first cap))
 (ha:lookArgs E cl.args.toList=some args)(I:Am.Call C k (first++(args++cap)) h R): OpR C E h o R:=by
 obtain⟨v,h₁,RH,hr⟩:=I;exact⟨v,h₁,hr,λenv hE=>Iu hE sy hc hx ha RH⟩
theorem OpR.of {v:V}{R:V->H->Prop}(ho:opE C.P E h o.op=some (v,h₁))(hr:R v h₁): OpR C E h o R:=⟨v,h₁,hr,λ_ I=>⟨0,Fy I ho⟩⟩
theorem au.any (hg:wantE L E o.guard=some true)(hd:o.dst=some d)(hn:Nat.blt d ax=true)(ho:OpR C E h o BJ)
 (hw:∀v h₁,BJ v h₁->au C ax L rest ((d,v)::E) h₁ R): au C ax L (o::rest) E h R:=by
 intro env hE;obtain⟨v,h₁,hr,o6⟩:=ho;obtain⟨N,hN⟩:=o6 env hE;obtain⟨M,I,h',E',h1,h2,h3⟩:=hw v h₁ hr (env.set d (some v)) (hE.set d v);refine⟨Nat.max N M,I,h',E',?_,h2,h3⟩;simp only[evOps,lp hE hg,ag,oc (iM (rF N M)) hN,St.put,hd,hn];exact sB (iM (rE N M)) _ _ _ h1
def JH : List (Env×V)->List (List (Nat×V)×V)->Prop
 |[],[]=>True
 |x::l,y::m=>mc x.1 y.1/\x.2=y.2/\JH l m
 |_,_=>False
def aB (C:gN)(ax:Nat)(L l:List Oper)(E:List (Nat×V))(h:H)(hs:List H)(Q:List (Nat×V)->H->List (List (Nat×V)×V)->List H->Prop): Prop :=
 ∀env,mc env E->∃N I h' E' tr ts IF,trace C (ev C N) L l ⟨env,ax,h⟩ hs=some (tr,IF,⟨I,ax,h'⟩)/\mc I E'/\JH tr ts/\Q E' h' ts IF
variable {Q:List (Nat×V)->H->List (List (Nat×V)×V)->List H->Prop}
theorem aB.nil (I:Q E h [] hs): aB C ax L [] E h hs Q:=λenv hE=>⟨0,env,h,E,[],[],hs,U,hE,aa,I⟩
theorem aB.any {e:Bool}(hg:wantE L E o.guard=some true)(hd:o.dst=some d)(hn:Nat.blt d ax=true)(he:isEff C o.op=e)(ho:OpR C E h o BJ)
 (hw:∀v h₁,BJ v h₁->aB C ax L rest ((d,v)::E) h₁ (cond e (hs++[h₁]) hs) λE' h' ts I=>Q E' h' ((E,v)::ts) I): aB C ax L (o::rest) E h hs Q:=by
 intro env hE;obtain⟨v,h₁,hr,o6⟩:=ho;obtain⟨N,hN⟩:=o6 env hE;obtain⟨M,xU,h',E',tr,ts,I,h1,h2,h3,h4⟩:=hw v h₁ hr (env.set d (some v)) (hE.set d v);refine⟨Nat.max N M,xU,h',E',(env,v)::tr,(E,v)::ts,I,?_,h2,⟨hE,U,h3⟩,h4⟩;simp only[trace,lp hE hg,ag,oc (iM (rF N M)) hN,St.put,hd,hn,he];rw[Ag (iM (rE N M)) _ _ _ _ h1]
theorem aB.lP {e:Bool}(hg:wantE L E o.guard=some true)(hd:o.dst=none)(he:isEff C o.op=e)(ho:OpR C E h o BJ)
 (hw:∀v h₁,BJ v h₁->aB C ax L rest E h₁ (cond e (hs++[h₁]) hs) λE' h' ts I=>Q E' h' ((E,v)::ts) I): aB C ax L (o::rest) E h hs Q:=by
 intro env hE;obtain⟨v,h₁,hr,o6⟩:=ho;obtain⟨N,hN⟩:=o6 env hE;obtain⟨M,xU,h',E',tr,ts,I,h1,h2,h3,h4⟩:=hw v h₁ hr env hE;refine⟨Nat.max N M,xU,h',E',(env,v)::tr,(E,v)::ts,I,?_,h2,⟨hE,U,h3⟩,h4⟩;simp only[trace,lp hE hg,ag,oc (iM (rF N M)) hN,St.put,hd,he];rw[Ag (iM (rE N M)) _ _ _ _ h1]
theorem aB.op {v:V}(hg:wantE L E o.guard=some true)(hd:o.dst=some d)(hn:Nat.blt d ax=true)(he:isEff C o.op=false)(ho:opE C.P E h o.op=some (v,h))
 (hw:aB C ax L rest ((d,v)::E) h hs λE' h' ts I=>Q E' h' ((E,v)::ts) I): aB C ax L (o::rest) E h hs Q :=
 aB.any hg hd hn he (OpR.of (R:=λv' h'=>v'=v/\h'=h) ho ⟨U,U⟩) (λv' h' hr=>by obtain⟨rfl,rfl⟩:=hr;exact hw)
theorem aB.no {e:Bool}(hg:wantE L E o.guard=some false)(hd:o.dst=some d)(hn:Nat.blt d ax=true)(he:isEff C o.op=e)
 (hw:aB C ax L rest ((d,cY)::E) h (cond e (hs++[h]) hs) λE' h' ts I=>Q E' h' ((E,cY)::ts) I): aB C ax L (o::rest) E h hs Q:=by
 intro env hE;obtain⟨M,xU,h',E',tr,ts,I,h1,h2,h3,h4⟩:=hw (env.set d (some cY)) (hE.set d cY);refine⟨M,xU,h',E',(env,cY)::tr,(E,cY)::ts,I,?_,h2,⟨hE,U,h3⟩,h4⟩;simp only[trace,lp hE hg,aS,St.put,hd,hn,ag,he];rw[h1]
def Kr (C:gN)(L:List Oper)(o:Oper)(x:List (Nat×V)×V)(h:H): Prop :=
 wantE L x.1 o.guard=some false\/(wantE L x.1 o.guard=some true/\(∃h',opE C.P x.1 h o.op=some (x.2,h'))/\x.2.beq x.2=true)
def FH (C:gN)(L:List Oper)(an es:List Nat)(hs:List H): List Oper->List (List (Nat×V)×V)->Nat->Prop
 |o::l,x::tr,i=>(isEff C o.op=true\/(sj ((nth an i).getD 0) es&&Nat.beq (mW ((nth an i).getD 0) es) (qw an i es))=true \/
   (sj ((nth an i).getD 0) es=true/\∀h∈(hs.drop (mW ((nth an i).getD 0) es)).take (qw an i es+1-mW ((nth an i).getD 0) es),Kr C L o x h))/\FH C L an es hs l tr (i+1)
 |[],[],_=>True
 |_,_,_=>False
theorem RT {x:Env×V}{y:List (Nat×V)×V}(hE:mc x.1 y.1)(hv:x.2=y.2): ∀(hs:List H),(∀h∈hs,Kr C L o y h)->sameIn C self L o x hs=true:=by
 intro hs;induction hs with
 |nil=>intro _;rfl
 |cons h hs ih =>
  intro I;simp only[sameIn];rcases I h a_ with hg|⟨hg,⟨h',ho⟩,hb⟩
  .rw[lp hE hg,aS]
  .rw[lp hE hg,ag,Fy hE ho];simp only;rw[hv,hb,ag];exact ih (λh hh=>I h (bw _ hh))
theorem IG {an:List Nat}: ∀(l:List Oper) (tr:List (Env×V)) (ts:List (List (Nat×V)×V)) (i:Nat),JH tr ts->FH C L an es hs l ts i->stayOk C self L an es hs l tr i=true:=by
 intro l;induction l with
 |nil=>intro tr ts i hn eO;cases tr<;>cases ts<;>first|rfl|(exact eO.elim)|(exact hn.elim)
 |cons o l ih =>
  intro tr ts i hn eO;cases tr with
  |nil=>cases ts with
   |nil=>exact eO.elim
   |cons y ts=>exact hn.elim
  |cons x tr =>
   cases ts with
   |nil=>exact hn.elim
   |cons y ts =>
    obtain⟨n1,n2,n3⟩:=hn;obtain⟨s1,s2⟩:=eO;simp only[stayOk];have I:=ih tr ts (i+1) n3 s2;cases he:isEff C o.op with
    |true=>rw[ag];exact I
    |false =>
     rw[aS];rcases s1 with s1|s1|⟨s1,s3⟩
     .rw[he] at s1;cases s1
     .rw[s1,ag];exact I
     .cases hq:(sj ((nth an i).getD 0) es&&Nat.beq (mW ((nth an i).getD 0) es) (qw an i es)) with
      |true=>rw[ag];exact I
      |false=>rw[aS,s1,RT n1 n2 _ s3,kf,ag];exact I
theorem WP.draw {Q:Ex->List (Nat×V)->H->Prop}(hl:ops.toList=L)(eO:mV C false L=true)
 (hw:aB C ax L L E h [h] λE' h' ts hs=>FH C L (ancs L []) (fo C L 0) hs L ts 0/\Q .normal E' h'): WP C ax (.region id ops true) E h Q:=by
 intro env hE;obtain⟨N,I,h',E',tr,ts,IF,h1,h2,h3,h4,h5⟩:=hw env hE;refine⟨N+1,.normal,I,h',E',?_,h2,h5⟩;subst hl;rw[jT];simp only[evStep,ag,qB,eO,h1,IG _ _ _ _ h3 h4]
def NF (L:List Oper): List Oper->List (List (Nat×V)×V)->Prop
 |o::l,x::ts=>(isAlloc true o=false\/wantE L x.1 o.guard=some true)/\NF L l ts
 |_,_=>True
theorem NF.all : ∀(l:List Oper) (tr:List (Env×V)) (ts:List (List (Nat×V)×V)),JH tr ts->NF L l ts->allW L l tr=true:=by
 intro l;induction l with
 |nil=>intro tr ts _ _;rfl
 |cons o l I =>
  intro tr ts hn hf;cases tr with
  |nil=>rfl
  |cons x tr =>
   cases ts with
   |nil=>exact hn.elim
   |cons y ts =>
    obtain⟨n1,n2,n3⟩:=hn;obtain⟨f1,f2⟩:=hf;simp only[allW];rcases f1 with f1|f1
    .rw[f1];exact I tr ts n3 f2
    .rw[lp n1 f1];simp only[Bool.or_true,ag];exact I tr ts n3 f2
theorem WP.acs {Q:Ex->List (Nat×V)->H->Prop}(hl:ops.toList=L)(eO:mV C true L=true)
 (hw:aB C ax L L E h [h] λE' h' ts hs=>(FH C L (ancs L []) (fo C L 0) hs L ts 0/\NF L L ts)/\Q .normal E' h'): WP C ax (.region id ops true) E h Q:=by
 intro env hE;obtain⟨N,I,h',E',tr,ts,IF,h1,h2,h3,⟨h4,h6⟩,h5⟩:=hw env hE;refine⟨N+1,.normal,I,h',E',?_,h2,h5⟩;subst hl;rw[jT];simp only[evStep,ag,qB,eO,h1,IG _ _ _ _ h3 h4,NF.all _ _ _ h3 h6,kf];cases mV C false ops.toList<;>rfl
end
def planOk (C:gN)(an es:List Nat): List Oper->List (Option (Nat×Nat))->Nat->Bool
 |[],[],_=>true
 |o::l,p::ps,i=>(match p with
   |none=>isEff C o.op||(sj ((nth an i).getD 0) es&&Nat.beq (mW ((nth an i).getD 0) es) (qw an i es))
   |some (lo,n)=>sj ((nth an i).getD 0) es&&Nat.beq lo (mW ((nth an i).getD 0) es)&&Nat.beq n (qw an i es+1-mW ((nth an i).getD 0) es))&&planOk C an es l ps (i+1)
 |_,_,_=>false
def Al (C:gN)(L:List Oper)(hs:List H): List Oper->List (List (Nat×V)×V)->List (Option (Nat×Nat))->Prop
 |o::l,x::tr,p::ps=>(match p with
   |none=>True
   |some (lo,n)=>∀h∈(hs.drop lo).take n,Kr C L o x h)/\Al C L hs l tr ps
 |[],[],_=>True
 |_,_,_=>False
theorem Al.stay {an:List Nat}: ∀(l:List Oper) (ts:List (List (Nat×V)×V)) (ps:List (Option (Nat×Nat))) (i:Nat),planOk C an es l ps i=true->Al C L hs l ts ps->FH C L an es hs l ts i:=by
 intro l;induction l with
 |nil=>intro ts ps i h1 h2;cases ts with
  |nil=>trivial
  |cons x ts=>exact h2.elim
 |cons o l ih =>
  intro ts ps i h1 h2;cases ts with
  |nil=>cases ps<;>exact h2.elim
  |cons x ts =>
   cases ps with
   |nil=>exact h2.elim
   |cons p ps =>
    simp only[planOk,bV] at h1;obtain⟨I,a2⟩:=h1;obtain⟨b1,b2⟩:=h2;refine⟨?_,ih ts ps (i+1) a2 b2⟩;cases p with
    |none =>
     simp only[Hj] at I;rcases I with I|I
     .exact .inl I
     .exact .inr (.inl I)
    |some q =>
     obtain⟨lo,n⟩:=q;simp only[bV,beq_iff] at I;obtain⟨⟨c1,c2⟩,c3⟩:=I;refine .inr (.inr ⟨c1,?_⟩);subst c2;subst c3;exact b1
theorem WP.drawn {ax:Nat}{h:H}(ps:List (Option (Nat×Nat)))(hl:ops.toList=L)(eO:mV C false L=true)
 (hp:planOk C (ancs L []) (fo C L 0) L ps 0=true)
 (hw:aB C ax L L E h [h] λE' h' ts hs=>Al C L hs L ts ps/\Q .normal E' h'): WP C ax (.region id ops true) E h Q:=by
 refine WP.draw hl eO ?_;intro env hE;obtain⟨N,I,h',E',tr,ts,IF,h1,h2,h3,h4,h5⟩:=hw env hE;exact⟨N,I,h',E',tr,ts,IF,h1,h2,h3,Al.stay _ _ _ _ hp h4,h5⟩
theorem WP.aaU {ax:Nat}{h:H}(ps:List (Option (Nat×Nat)))(hl:ops.toList=L)(eO:mV C true L=true)
 (hp:planOk C (ancs L []) (fo C L 0) L ps 0=true)
 (hw:aB C ax L L E h [h] λE' h' ts hs=>(Al C L hs L ts ps/\NF L L ts)/\Q .normal E' h'): WP C ax (.region id ops true) E h Q:=by
 refine WP.acs hl eO ?_;intro env hE;obtain⟨N,I,h',E',tr,ts,IF,h1,h2,h3,h4,h5⟩:=hw env hE;exact⟨N,I,h',E',tr,ts,IF,h1,h2,h3,⟨Al.stay _ _ _ _ hp h4.1,h4.2⟩,h5⟩
theorem gC {a b:H}{l:List H}{p:H->Prop}(ha:p a)(hb:p b): ∀x∈((a::b::l).drop 0).take 2,p x:=by
 intro x I;simp only[gi,List.take_succ_cons,tw,gz,ke,nG] at I;rcases I with rfl|rfl
 .exact ha
 .exact hb
theorem BQ {a b c:H}{l:List H}{p:H->Prop}(ha:p a)(hb:p b)(hc:p c): ∀x∈((a::b::c::l).drop 0).take 3,p x:=by
 intro x I;simp only[gi,List.take_succ_cons,tw,gz,ke,nG] at I;rcases I with rfl|rfl|rfl
 .exact ha
 .exact hb
 .exact hc
theorem fe (k:IntKind): ikBeq k k=true:=by cases k<;>rfl
theorem ua (n:Int): intBeq n n=true:=by cases n<;>simp[intBeq]
theorem D4 (c:Cap): c.beq c=true:=by cases c<;>simp[Cap.beq]
theorem Ao (a b c:Nat)(d:Cap): (V.sl a b c d).beq (.sl a b c d)=true:=by simp[V.beq,D4]
theorem nO {h:H}{v:V}(hv:View h v l): v.beq v=true:=by
 obtain⟨_,hv⟩:=hv;rcases hv with⟨rfl|⟨I,rfl⟩,_⟩|⟨id,off,cap,n,cs,st,rfl,_⟩
 .simp[V.beq]
 .simp[V.beq]
 .exact Ao _ _ _ _
section
variable {ax:Nat} {h:H} {Q:List (Nat×V)->H->List (List (Nat×V)×V)->List H->Prop} {o:Oper} {v:V} {a b:Operand}
theorem zM (e:(o.op,wantE L E o.guard,o.dst,Nat.blt d ax,isEff C o.op,bE E x)=(Op.move x,some true,some d,true,false,some v))(hw:aB C ax L rest ((d,v)::E) h hs λE' h' ts I=>Q E' h' ((E,v)::ts) I): aB C ax L (o::rest) E h hs Q:=by
  simp only[bS] at e;exact aB.op e.2.1 e.2.2.1 e.2.2.2.1 e.2.2.2.2.1 (by rw[e.1];exact bZ e.2.2.2.2.2) hw
theorem zA (e:(o.op,wantE L E o.guard,o.dst,Nat.blt d ax,isEff C o.op,bE E x)=(Op.assign x,some true,some d,true,false,some v))(hw:aB C ax L rest ((d,v)::E) h hs λE' h' ts I=>Q E' h' ((E,v)::ts) I): aB C ax L (o::rest) E h hs Q:=by
  simp only[bS] at e;exact aB.op e.2.1 e.2.2.1 e.2.2.2.1 e.2.2.2.2.1 (by rw[e.1];exact iY e.2.2.2.2.2) hw
theorem zN (e:(o.op,wantE L E o.guard,o.dst,Nat.blt d ax,isEff C o.op,bE E x)=(Op.nilCheck x,some true,some d,true,false,some (V.ptr j k)))(hw:aB C ax L rest ((d,.ptr j k)::E) h hs λE' h' ts I=>Q E' h' ((E,.ptr j k)::ts) I): aB C ax L (o::rest) E h hs Q:=by
  simp only[bS] at e;exact aB.op e.2.1 e.2.2.1 e.2.2.2.1 e.2.2.2.2.1 (by rw[e.1];exact vk e.2.2.2.2.2) hw
theorem zF (e:(o.op,wantE L E o.guard,o.dst,Nat.blt d ax,isEff C o.op,bE E x)=(Op.fieldAddr t x i,some true,some d,true,false,some v))(hf:fieldAddrV C.P t v i=some r)(hw:aB C ax L rest ((d,r)::E) h hs λE' h' ts I=>Q E' h' ((E,r)::ts) I): aB C ax L (o::rest) E h hs Q:=by
  simp only[bS] at e;exact aB.op e.2.1 e.2.2.1 e.2.2.2.1 e.2.2.2.2.1 (by rw[e.1];exact mX e.2.2.2.2.2 hf) hw
theorem zL (e:(o.op,wantE L E o.guard,o.dst,Nat.blt d ax,isEff C o.op,bE E x)=(Op.load t x,some true,some d,true,false,some v))(hf:loadV C.P h t v=some r)(hw:aB C ax L rest ((d,r)::E) h hs λE' h' ts I=>Q E' h' ((E,r)::ts) I): aB C ax L (o::rest) E h hs Q:=by
  simp only[bS] at e;exact aB.op e.2.1 e.2.2.1 e.2.2.2.1 e.2.2.2.2.1 (by rw[e.1];exact o_load e.2.2.2.2.2 hf) hw
theorem zO (e:(wantE L E o.guard,o.dst,Nat.blt d ax,isEff C o.op)=(some true,some d,true,false))(ho:opE C.P E h o.op=some (v,h))(hw:aB C ax L rest ((d,v)::E) h hs λE' h' ts I=>Q E' h' ((E,v)::ts) I): aB C ax L (o::rest) E h hs Q:=by
  simp only[bS] at e;exact aB.op e.1 e.2.1 e.2.2.1 e.2.2.2 ho hw
end
abbrev PM := Nat->Option Obj
variable {m':PM}
def PM.le (a b:PM): Prop:=∀i o,a i=some o->b i=some o
def PM.dj (a b:PM): Prop:=∀i,a i=none\/b i=none
def PM.upd (m:PM)(id:Nat)(o:Option Obj): PM:=λi=>if i=id then o else m i
def PM.un (a b:PM): PM:=λi=>(a i).orElse λ_=>b i
theorem PM.le_refl (a:PM): a.le a:=λ_ _ h=>h
theorem PM.le_trans {a b c:PM}(x:a.le b)(y:b.le c): a.le c:=λi o h=>y i o (x i o h)
theorem PM.pK {a b I b':PM}(hd:a.dj b)(ha:I.le a)(hb:b'.le b): I.dj b':=by
 intro i;rcases hd i with h|h
 .left;cases h1:I i with
  |none=>rfl
  |some o=>rw[ha i o h1] at h;cases h
 .right;cases h1:b' i with
  |none=>rfl
  |some o=>rw[hb i o h1] at h;cases h
theorem PM.rQ {a b:PM}(h:a.dj b): b.dj a:=λi=>(h i).symm
theorem PM.Ks (a b:PM): a.le (a.un b):=λi o h=>by simp[PM.un,h]
theorem PM.Kt {a b:PM}(I:a.dj b): b.le (a.un b):=λi o h=>by
 rcases I i with h1|h1<;>grind[PM.un]
theorem PM.FI {a b c:PM}(ha:a.le c)(hb:b.le c): (a.un b).le c:=λi o h=>by
 simp only[PM.un] at h;cases I:a i with
 |none=>rw[I] at h;exact hb i o h
 |some x=>rw[I] at h;injection h with h;subst h;exact ha i _ I
theorem PM.FJ {a b c:PM}(I:a.dj c)(hb:b.dj c): (a.un b).dj c:=λi=>by
 rcases I i with h|h
 .rcases hb i with h2|h2<;>grind[PM.un]
 .grind
def ViewM (m:PM)(v:V)(l:List Nat): Prop:=(∀b∈l,b<256)/\(((v=.aZ\/∃a,v=.sle a)/\l=[]) \/
 ∃id off cap n cs st,v=.sl id off l.length cap/\m id=some (.cells n cs st)/\cs.length=n/\off+l.length<=n/\(cs.drop off).take l.length=ofBytes l /\
  (match cap with|.exact c=>l.length<=c|.rest e _=>e=1))
def uN (m:PM)(v:V)(l:List Nat): Prop:=(∀b∈l,b<256)/\((v=.aZ/\l=[]) \/
 (∃id cs c,v=.sl id 0 l.length (.exact c)/\m id=some (.cells c (ofBytes l++cs) false)/\l.length+cs.length=c) \/
 (∃id,v=.sl id 0 l.length (.rest 1 0)/\m id=some (.cells l.length (ofBytes l) false)/\1<=l.length))
theorem ViewM.up {m:PM}{v:V}(h:ViewM m v l)(hm:PM.le m m'): ViewM m' v l:=by
 obtain⟨h1,I⟩:=h;refine⟨h1,?_⟩;rcases I with I|⟨id,off,cap,n,cs,st,e,hg,h3⟩
 .grind
 .exact .inr ⟨id,off,cap,n,cs,st,e,hm _ _ hg,h3⟩
theorem uN.up {m:PM}{v:V}(h:uN m v l)(hm:PM.le m m'): uN m' v l:=by
 obtain⟨h1,h2⟩:=h;refine⟨h1,?_⟩;rcases h2 with h2|⟨id,cs,c,e,I,h3⟩|⟨id,e,I,h3⟩
 .grind
 .exact .inr (.inl ⟨id,cs,c,e,hm _ _ I,h3⟩)
 .exact .inr (.inr ⟨id,e,hm _ _ I,h3⟩)
theorem uN.view {m:PM}{v:V}(I:uN m v l): ViewM m v l:=by
 obtain⟨hl,I⟩:=I;refine⟨hl,?_⟩<;>grind[dN]
def qV (m:PM)(k:Nat)(v:V)(cs:List V): Prop:=cs.all storable=true/\((v=.aZ/\cs=[]) \/
 ∃id n cap N rest,v=.sl id 0 n cap/\m id=some (.cells N (cs++rest) false)/\cs.length=n*k/\cs.length+rest.length=N/\rest.all storable=true /\
  (match cap with|.exact c=>N=c*k/\n<=c|.rest e alt=>e=k/\alt=0/\rest=[]/\1<=n))
theorem qV.up {m:PM}{v:V}(h:qV m k v cs)(hm:PM.le m m'): qV m' k v cs:=by
 obtain⟨h1,I⟩:=h;refine⟨h1,?_⟩;rcases I with I|⟨id,n,cap,N,rest,e,hg,h3⟩
 .grind
 .exact .inr ⟨id,n,cap,N,rest,e,hm _ _ hg,h3⟩
inductive aG : Type 1 where
 |pt (id:Nat) (o:Obj)
 |ro (id:Nat) (o:Obj)
 |pu (φ:Prop)
 |buf (v:V) (l:List Nat)
 |cG (v:V) (l:List Nat)
 |rdb (v:V) (l:List Nat)
 |arr (k:Nat) (v:V) (cs:List V)
 |an (A B:aG)
 |xs {α:Type} (f:α->aG)
 |all {α:Type} (f:α->aG)
 |se (A B:aG)
variable {A B X:aG} {S S':List aG}
abbrev pt := aG.pt
abbrev ro := aG.ro
abbrev pu := aG.pu
abbrev xs {α:Type}(f:α->aG): aG:=aG.xs f
abbrev aY := aG.buf
abbrev oh := aG.cG
abbrev cE := aG.rdb
def aG.p : aG->PM->PM->Prop
 |.pt id o,m,_=>m id=some o
 |.ro id o,_,r=>r id=some o
 |.pu φ,_,_=>φ
 |.buf v l,m,_=>uN m v l
 |.cG v l,_,r=>ViewM r v l
 |.rdb v l,m,r=>ViewM m v l\/ViewM r v l
 |.arr k v cs,m,_=>qV m k v cs
 |.an A B,m,r=>A.p m r/\B.p m r
 |.xs f,m,r=>∃x,(f x).p m r
 |.all f,m,r=>∀x,(f x).p m r
 |.se A B,m,r=>∃a b,PM.dj a b/\PM.le a m/\PM.le b m/\A.p a r/\B.p b r
theorem aG.mono : ∀(A:aG) (m m' r I:PM),PM.le m m'->PM.le r I->A.p m r->A.p m' I:=by
 intro A;induction A with
 |pt id o=>intro m m' r I hm hr h;exact hm _ _ h
 |ro id o=>intro m m' r I hm hr h;exact hr _ _ h
 |pu φ=>intro m m' r I hm hr h;exact h
 |buf v l=>intro m m' r I hm hr h;exact uN.up h hm
 |cG v l=>intro m m' r I hm hr h;exact ViewM.up h hr
 |rdb v l =>
  intro m m' r I hm hr h;rcases h with h|h
  .exact .inl (ViewM.up h hm)
  .exact .inr (ViewM.up h hr)
 |arr k v cs=>intro m m' r I hm hr h;exact qV.up h hm
 |an A B ia ib=>intro m m' r I hm hr h;exact⟨ia _ _ _ _ hm hr h.1,ib _ _ _ _ hm hr h.2⟩
 |xs f ih=>intro m m' r I hm hr h;obtain⟨x,hx⟩:=h;exact⟨x,ih x _ _ _ _ hm hr hx⟩
 |all f ih=>intro m m' r I hm hr h x;exact ih x _ _ _ _ hm hr (h x)
 |se A B ia ib =>
  intro m m' r I hm hr h;obtain⟨a,b,h1,h2,h3,h4,h5⟩:=h;exact⟨a,b,h1,PM.le_trans h2 hm,PM.le_trans h3 hm,ia _ _ _ _ (PM.le_refl _) hr h4,ib _ _ _ _ (PM.le_refl _) hr h5⟩
def star : List aG->aG
 |[]=>.pu True
 |A::L=>.se A (star L)
theorem aG.up {m r I:PM}(h:A.p m r)(hm:m.le m')(hr:r.le I): A.p m' I:=A.mono m m' r I hm hr h
def cy (A B:aG): Prop:=∀m r,A.p m r->B.p m r
def bf (A:aG): Prop:=∀m r,A.p m r->A.p (λ_=>none) r
theorem bf.ro (id:Nat)(o:Obj): bf (.ro id o):=λ_ _ h=>h
theorem bf.pu (φ:Prop): bf (.pu φ):=λ_ _ h=>h
theorem bf.an (I:bf A)(h2:bf B): bf (.an A B):=λm r h=>⟨I m r h.1,h2 m r h.2⟩
def getA : List aG->Nat->Option aG
 |[],_=>none
 |A::_,0=>some A
 |_::L,k+1=>getA L k
theorem kX (I:getA S k=some X): getA (A::S) (k+1)=some X:=I
def setA : List aG->Nat->aG->List aG
 |[],_,_=>[]
 |_::L,0,B=>B::L
 |A::L,k+1,B=>A::setA L k B
def aL : List aG->Nat->List aG
 |[],_=>[]
 |_::L,0=>L
 |A::L,k+1=>A::aL L k
def bringA (S:List aG): List Nat->List aG
 |[]=>S
 |k::ks=>match getA S k with
  |some A=>A::bringA (aL S k) ks
  |none=>[]
def Pt (k:Nat): List Nat->Nat
 |[]=>0
 |x::l=>cond (Nat.blt x k) (Pt k l+1) (Pt k l)
def aaV : List Nat->List Nat->List Nat
 |_,[]=>[]
 |seen,k::ks=>(k-Pt k seen)::aaV (k::seen) ks
theorem RU {L:List aG}{m r:PM}(h:(star (A::B::L)).p m r): (star (B::A::L)).p m r:=by
 obtain⟨a,b,h1,h2,h3,h4,c,d,g1,g2,g3,g4,g5⟩:=h;have RV:a.dj c:=PM.pK h1 (PM.le_refl _) g2;have I:a.dj d:=PM.pK h1 (PM.le_refl _) g3;exact⟨c,a.un d,PM.rQ (PM.FJ RV (PM.rQ g1)),PM.le_trans g2 h3,PM.FI h2 (PM.le_trans g3 h3),g4,a,d,I,PM.Ks _ _,PM.Kt I,h4,g5⟩
theorem BR {L I:List aG}(h:∀m r,(star L).p m r->(star I).p m r){m r:PM}(hs:(star (A::L)).p m r): (star (A::I)).p m r:=by
 obtain⟨a,b,h1,h2,h3,h4,h5⟩:=hs;exact⟨a,b,h1,h2,h3,h4,h _ _ h5⟩
theorem BS : ∀ {S:List aG} {k:Nat} {A:aG},getA S k=some A->∀m r,(star S).p m r->(star (A::aL S k)).p m r:=by
 intro S;induction S with
 |nil=>intro k A h;cases h
 |cons B S I =>
  intro k A h m r hs;cases k with
  |zero=>injection h with h;subst h;exact hs
  |succ k =>
   exact RU (BR (I h) hs)
theorem BT {L:List aG}{m r:PM}(h:(star (A::L)).p m r): (star L).p m r:=by
 obtain⟨a,b,I,h2,h3,h4,h5⟩:=h<;>grind[aG.up,PM.le_refl]
theorem RW {L:List aG}{m r:PM}(h:(star (A::L)).p m r): A.p m r:=by
 obtain⟨a,b,I,h2,h3,h4,h5⟩:=h<;>grind[aG.up,PM.le_refl]
theorem FK : ∀(ks:List Nat) (S:List aG) (m r:PM),(star S).p m r->(bringA S ks=[]\/True)->(star (bringA S ks)).p m r:=by
 intro ks;induction ks with
 |nil=>intro S m r h _;exact h
 |cons k ks I =>
  intro S m r h _;simp only[bringA];cases hk:getA S k with
  |none=>trivial
  |some A=>exact BR (λm r h=>I _ m r h (.inr aa)) (BS hk m r h)
theorem Ku {L:List aG}: ∀m r,(star (star L::S)).p m r↔(star (L++S)).p m r:=by
 induction L with
 |nil =>
  intro m r;constructor
  .intro h;exact BT h
  .intro h;exact⟨λ_=>none,m,λ_=>.inl U,λ_ _ h=>(by cases h),PM.le_refl _,aa,h⟩
 |cons A L ih =>
  intro m r;constructor
  .rintro⟨a,b,h1,h2,h3,⟨c,d,g1,g2,g3,g4,g5⟩,h5⟩;have I:c.dj b:=PM.pK h1 g2 (PM.le_refl _);have hdb:d.dj b:=PM.pK h1 g3 (PM.le_refl _);exact⟨c,d.un b,PM.rQ (PM.FJ (PM.rQ g1) (PM.rQ I)),PM.le_trans g2 h2,PM.FI (PM.le_trans g3 h2) h3,g4,(ih _ _).1 ⟨d,b,hdb,PM.Ks _ _,PM.Kt hdb,g5,h5⟩⟩
  .rintro⟨c,e,h1,h2,h3,h4,h5⟩;obtain⟨d,b,g1,g2,g3,g4,g5⟩:=(ih _ _).2 h5;have RP:c.dj d:=PM.pK h1 (PM.le_refl _) g2;have I:c.dj b:=PM.pK h1 (PM.le_refl _) g3;exact⟨c.un d,b,PM.FJ I g1,PM.FI h2 (PM.le_trans g2 h3),PM.le_trans g3 h3,⟨c,d,RP,PM.Ks _ _,PM.Kt RP,h4,g4⟩,g5⟩
structure Sat (h:H)(S:List aG): Prop where
 wf:nN h
 ok:∃m r,PM.le m (T.get h.tr)/\PM.le r (T.get h.tr)/\PM.dj m r/\(star S).p m r
section
variable {h:H}
theorem Sat.map (s:Sat h S)(I:∀m r,(star S).p m r->(star S').p m r): Sat h S':=by
 obtain⟨m,r,h1,h2,h3,h4⟩:=s.ok;exact⟨s.wf,m,r,h1,h2,h3,I _ _ h4⟩
theorem Sat.at (s:Sat h S)(I:getA S k=some A): ∃m r,PM.le m (T.get h.tr)/\PM.le r (T.get h.tr)/\A.p m r:=by
 obtain⟨m,r,h1,h2,h3,h4⟩:=s.ok;exact⟨m,r,h1,h2,RW (BS I m r h4)⟩
theorem Sat.take (k:Nat)(s:Sat h S)(I:getA S k=some A): Sat h (A::aL S k):=s.map (BS I)
theorem Sat.sE (ks:List Nat)(s:Sat h S): Sat h (bringA S (aaV [] ks)):=s.map λm r h=>FK _ S m r h (.inr aa)
theorem Sat.ae (ks:List Nat)(s:Sat h S): Sat h (bringA S ks):=s.map λm r h=>FK _ S m r h (.inr aa)
theorem Sat.drop (s:Sat h (A::S)): Sat h S:=s.map λ_ _ h=>BT h
theorem UU : ∀(S:List aG) (k:Nat) (m r:PM),(star S).p m r->(star (aL S k)).p m r:=by
 intro S;induction S with
 |nil=>intro k m r h;exact h
 |cons B S I =>
  intro k m r h;cases k with
  |zero=>exact BT h
  |succ k=>exact BR (I k) h
theorem Sat.del (k:Nat)(s:Sat h S): Sat h (aL S k):=s.map (UU S k)
theorem Sat.eD (s:Sat h (A::S))(he:cy A B): Sat h (B::S):=s.map λm r ⟨a,b,I,h2,h3,h4,h5⟩=>⟨a,b,I,h2,h3,he _ _ h4,h5⟩
theorem Sat.dup (s:Sat h (A::S))(hp:bf A): Sat h (A::A::S):=s.map λm r hs=>by
 obtain⟨a,b,h1,h2,h3,I,h5⟩:=hs;exact⟨λ_=>none,m,λ_=>.inl U,λ_ _ h=>(by cases h),PM.le_refl _,hp _ _ I,a,b,h1,h2,h3,I,h5⟩
theorem Sat.ir (s:Sat h S)(I:φ): Sat h (pu φ::S):=s.map λm _ hs=>⟨λ_=>none,m,λ_=>.inl U,λ_ _ h=>(by cases h),PM.le_refl _,I,hs⟩
theorem Sat.two {C:aG}(s:Sat h (A::B::S))(I:bf A)(pB:bf B)(hC:∀m r,A.p m r->B.p m r->C.p m r): Sat h (C::S):=s.map λm r hs=>by
 obtain⟨a,b,h1,h2,h3,h4,c,d,g1,g2,g3,g4,g5⟩:=hs;exact⟨λ_=>none,d,λ_=>.inl U,λ_ _ h=>(by cases h),PM.le_trans g3 h3,hC _ _ (I _ _ h4) (pB _ _ g4),g5⟩
theorem j8 {f:α->aG}: Sat h (xs f::S)↔∃x,Sat h (f x::S):=by
 constructor
 .intro s;obtain⟨m,r,I,h2,h3,a,b,g1,g2,g3,⟨x,g4⟩,g5⟩:=s.ok;exact⟨x,s.wf,m,r,I,h2,h3,a,b,g1,g2,g3,g4,g5⟩
 .rintro⟨x,s⟩;exact s.eD λm r h=>⟨x,h⟩
theorem ur : Sat h (pu φ::S)↔φ/\Sat h S:=by
 constructor
 .intro s;obtain⟨m,r,I,h2,h3,a,b,g1,g2,g3,g4,g5⟩:=s.ok;exact⟨g4,s.drop⟩
 .rintro⟨I,s⟩;exact s.ir I
theorem dx {L:List aG}: Sat h (star L::S)↔Sat h (L++S) :=
 ⟨λs=>s.map λm r hs=>(Ku m r).1 hs,λs=>s.map λm r hs=>(Ku m r).2 hs⟩
theorem Sat.row {o:Obj}(s:Sat h S)(I:getA S k=some (pt id o)): T.get h.tr id=some o:=by
 obtain⟨m,r,h1,h2,h3⟩:=s.at I;exact h1 _ _ h3
theorem Sat.aaW {o:Obj}(s:Sat h S)(I:getA S k=some (ro id o)): T.get h.tr id=some o:=by
 obtain⟨m,r,h1,h2,h3⟩:=s.at I;exact h2 _ _ h3
theorem Sat.ne {o:Obj}(s:Sat h (pt i o::pt j o'::S)): i≠j:=by
 rintro rfl;obtain⟨m,r,h1,h2,h3,a,b,I,g2,g3,g4,c,d,k1,k2,k3,k4,k5⟩:=s.ok;have e1:a i=some o:=g4;have e2:b i=some o':=k2 _ _ k4;rcases I i with e|e
 .grind
 .grind
theorem aaX {m:PM}{t:T Obj}{o:Option Obj}(hm:m.le (T.get t)): (m.upd id o).le (T.get (t.set id o)):=by
 intro i x I;rw[bh];simp only[PM.upd] at I;split
 .grind
 .rename_i e;rw[ai e] at I;exact hm i x I
theorem Kv {m:PM}{o:Option Obj}(hm:m.le (T.get h.tr))(hn:m id=none): m.le (T.get (h.put id o).tr):=by
 intro i x I;rw[iA];split
 .grind
 .exact hm i x I
theorem UW : ∀ {S:List aG} {k id:Nat} {o o':Obj},getA S k=some (pt id o)->∀m r,(star S).p m r->m id=some o/\(star (setA S k (pt id o'))).p (m.upd id (some o')) r:=by
 intro S;induction S with
 |nil=>intro k id o o' h;cases h
 |cons B S ih =>
  intro k id o o' hk m r hs;obtain⟨a,b,h1,h2,h3,h4,h5⟩:=hs;cases k with
  |zero =>
   injection hk with hk;subst hk;have ha:a id=some o:=h4;have hb:b id=none:=by
    rcases h1 id with e|e
    .grind
    .exact e
   refine⟨h2 _ _ ha,a.upd id (some o'),b,λi => ?_,λi x I => ?_,λi x I => ?_,?_,h5⟩
   .by_cases e:i=id
    .grind
    .simp only[PM.upd,ai e];exact h1 i
   .simp only[PM.upd] at I ⊢;split
    .grind
    .rename_i e;rw[ai e] at I;exact h2 i x I
   .simp only[PM.upd];split
    .grind
    .exact h3 i x I
   .show(a.upd id (some o')) id=some o';simp[PM.upd]
  |succ k =>
   obtain⟨g1,g2⟩:=ih (o':=o') hk b r h5;have ha:a id=none:=by
    rcases h1 id with e|e
    .exact e
    .grind
   refine⟨h3 _ _ g1,a,b.upd id (some o'),λi => ?_,λi x I => ?_,λi x I => ?_,h4,g2⟩
   .by_cases e:i=id
    .grind
    .simp only[PM.upd,ai e];exact h1 i
   .simp only[PM.upd];split
    .grind
    .exact h2 i x I
   .simp only[PM.upd] at I ⊢;split
    .grind
    .rename_i e;rw[ai e] at I;exact h3 i x I
theorem Sat.put {o:Obj}(s:Sat h S)(hk:getA S k=some (pt id o)): Sat (h.put id (some o')) (setA S k (pt id o')):=by
 obtain⟨m,r,I,h2,h3,h4⟩:=s.ok;obtain⟨g1,g2⟩:=UW (o':=o') hk m r h4;have hr:r id=none:=by
  rcases h3 id with e|e
  .grind
  .exact e
 refine⟨s.wf.put (s.wf _ _ (I _ _ g1)) _,m.upd id (some o'),r,aaX I,Kv h2 hr,λi => ?_,g2⟩;by_cases e:i=id
 .grind
 .simp only[PM.upd,ai e];exact h3 i
theorem Sat.new (s:Sat h S)(o:Obj): Sat (h.new o) (pt h.next o::S):=by
 obtain⟨m,r,h1,h2,h3,h4⟩:=s.ok;have hm:m h.next=none:=by
  cases e:m h.next with
  |none=>rfl
  |some x=>exact absurd (s.wf _ _ (h1 _ _ e)) (C5 _)
 have hr:r h.next=none:=by
  cases e:r h.next with
  |none=>rfl
  |some x=>exact absurd (s.wf _ _ (h2 _ _ e)) (C5 _)
 have II:∀(q:PM),q.le (T.get h.tr)->q h.next=none->q.le (T.get (h.new o).tr):=λq hq hn i x I=>by
  rw[jv];split
  .grind
  .exact hq i x I
 refine⟨s.wf.new o,m.upd h.next (some o),r,λi x I => ?_,II r h2 hr,λi => ?_,λi=>if i=h.next then some o else none,m,λi => ?_,λi x I => ?_,λi x I => ?_,?_,h4⟩
 .rw[jv];simp only[PM.upd] at I;split
  .grind
  .rename_i e;rw[ai e] at I;exact h1 i x I
 .by_cases e:i=h.next
  .grind
  .simp only[PM.upd,ai e];exact h3 i
 .grind
 .grind[PM.upd]
 .grind[PM.upd]
 .show(if h.next=h.next then some o else none)=some o
  simp
theorem Sat.kill {o:Obj}(s:Sat h (pt id o::S)): Sat (h.put id none) S:=by
 obtain⟨m,r,I,h2,h3,a,b,g1,g2,g3,g4,g5⟩:=s.ok;have ha:a id=some o:=g4;have hb:b id=none:=by
  rcases g1 id with e|e
  .grind
  .exact e
 have hr:r id=none:=by
  rcases h3 id with e|e
  .rw[g2 _ _ ha] at e;cases e
  .exact e
 exact⟨s.wf.put (s.wf _ _ (I _ _ (g2 _ _ ha))) _,b,r,Kv (PM.le_trans g3 I) hb,Kv h2 hr,PM.pK h3 g3 (PM.le_refl _),g5⟩
theorem Sat.freeze {o:Obj}(s:Sat h (pt id o::S)): Sat h (ro id o::S):=by
 obtain⟨m,r,h1,h2,h3,a,b,g1,g2,g3,g4,g5⟩:=s.ok;have ha:a id=some o:=g4;have hb:b id=none:=by
  rcases g1 id with e|e
  .grind
  .exact e
 have hr:r id=none:=by
  rcases h3 id with e|e
  .rw[g2 _ _ ha] at e;cases e
  .exact e
 have hle:r.le (r.upd id (some o)):=λi x I=>by
  grind[PM.upd]
 refine⟨s.wf,b,r.upd id (some o),PM.le_trans g3 h1,λi x I => ?_,λi => ?_,λ_=>none,b,λ_=>.inl U,λ_ _ h=>(by cases h),PM.le_refl _,?_,aG.up g5 (PM.le_refl _) hle⟩
 .simp only[PM.upd] at I;split at I
  .rename_i e;subst e;injection I with I;subst I;exact h1 _ _ (g2 _ _ ha)
  .exact h2 i x I
 .by_cases e:i=id
  .grind
  .simp only[PM.upd,ai e];exact PM.pK h3 g3 (PM.le_refl _) i
 .show(r.upd id (some o)) id=some o;simp[PM.upd]
theorem Sat.qx (s:Sat h S)(hk:fL k [] h h'): Sat h' S:=by
 obtain⟨m,r,h1,h2,h3,h4⟩:=s.ok;have I:∀(q:PM),q.le (T.get h.tr)->q.le (T.get h'.tr):=λq hq i x hx=>by
  rw[hk.get i (s.wf _ _ (hq _ _ hx)) ke];exact hq _ _ hx
 exact⟨hk.wf,m,r,I m h1,I r h2,h3,h4⟩
theorem Sat.aaY {X:List Nat}{m₀:PM}(s:Sat h (A::S))(hk:fL k X h h')(hX:∀m r,PM.le m (T.get h.tr)->PM.le r (T.get h.tr)->A.p m r->∀i∈X,m i≠none)
 (hm:PM.le m₀ (T.get h'.tr))(hB:∀r,B.p m₀ r)(hn:∀i,m₀ i≠none->i∈X\/h.next<=i): Sat h' (B::S):=by
 obtain⟨m,r,h1,h2,h3,a,b,g1,g2,g3,g4,g5⟩:=s.ok;have hXa:∀i∈X,a i≠none:=hX a r (PM.le_trans g2 h1) h2 g4;have hXb:∀i∈X,b i=none:=λi hi=>by
  rcases g1 i with e|e<;>grind
 have hXr:∀i∈X,r i=none:=λi hi=>by
  cases e:a i with
  |none=>grind
  |some o =>
   rcases h3 i with e2|e2
   .rw[g2 _ _ e] at e2;cases e2
   .exact e2
 have II:∀(q:PM),q.le (T.get h.tr)->(∀i∈X,q i=none)->q.le (T.get h'.tr):=λq hq hz i x hx=>by
  rw[hk.get i (s.wf _ _ (hq _ _ hx)) (λhi=>by grind)];exact hq _ _ hx
 have I:∀(q:PM),q.le (T.get h.tr)->(∀i∈X,q i=none)->m₀.dj q:=λq hq hz i=>by
  cases e:m₀ i with
  |none=>simp
  |some x =>
   right;rcases hn i (by grind) with hi|hi
   .grind
   .cases e2:q i with
    |none=>rfl
    |some y=>exact absurd (s.wf _ _ (hq _ _ e2)) (Nat.not_lt.2 hi)
 have qo:=II b (PM.le_trans g3 h1) hXb;have hd:=I b (PM.le_trans g3 h1) hXb;exact⟨hk.wf,m₀.un b,r,PM.FI hm qo,II r h2 hXr,PM.FJ (I r h2 hXr) (PM.pK h3 g3 (PM.le_refl _)),m₀,b,hd,PM.Ks _ _,PM.Kt hd,hB r,g5⟩
end
theorem bg (v:V)(l:List Nat): cy (aY v l) (cE v l):=λ_ _ h=>.inl (uN.view h)
theorem bC (v:V)(l:List Nat): cy (oh v l) (cE v l):=λ_ _ h=>.inr h
theorem bf.cG (v:V)(l:List Nat): bf (.cG v l):=λ_ _ h=>h
section
variable {h:H} {v:V}
theorem Sat.aD (s:Sat h S)(hk:getA S k=some X)(hX:cy X (cE v l)): View h v l:=by
 obtain⟨m,r,h1,h2,h3⟩:=s.at hk;rcases hX _ _ h3 with I|I
 .exact ViewM.up I h1
 .exact ViewM.up I h2
theorem Sat.buf (s:Sat h S)(I:getA S k=some (aY v l)): lH h v l:=by
 obtain⟨m,r,h1,h2,h3⟩:=s.at I;exact uN.up (l:=l) h3 h1
theorem NG {m:PM}(I:uN m v l): ∀i∈rowIds v,m i≠none:=by
 obtain⟨_,h2⟩:=I<;>grind[rowIds]
theorem NH (I:lH h v l): uN (λi=>if i∈rowIds v then T.get h.tr i else none) v l:=by
 obtain⟨h1,h2⟩:=I;refine⟨h1,?_⟩<;>grind[rowIds]
theorem RX (L:List Nat): PM.le (λi=>if i∈L then T.get h.tr i else none) (T.get h.tr):=λi x I=>by
 grind
theorem Sat.Kw (s:Sat h S)(I:fL k [] h h')(hb:lH h' v l)(hn:∀i∈rowIds v,h.next<=i): Sat h' (aY v l::S):=by
 have s':Sat h (pu True::S):=s.ir aa;refine s'.aaY (B:=aY v l) (m₀:=λi=>if i∈rowIds v then T.get h'.tr i else none) I (λ_ _ _ _ _ i hi=>by cases hi) (RX _) (λ_=>NH hb) (λi hi=>.inr ?_)<;>grind
theorem Sat.Dp {v':V}{I:List Nat}(s:Sat h (aY v l::S))(hk:fL k (rowIds v) h h')(hb:lH h' v' I)(hn:∀i∈rowIds v',i∈rowIds v\/h.next<=i): Sat h' (aY v' I::S):=by
 refine s.aaY (B:=aY v' I) (m₀:=λi=>if i∈rowIds v' then T.get h'.tr i else none) hk (λ_ _ _ _ h=>NG h) (RX _) (λ_=>NH hb) (λi hi => ?_)<;>grind
theorem Sat.fh (s:Sat h (aY v l::S)): Sat h (oh v l::S):=by
 obtain⟨m,r,h1,h2,h3,a,b,g1,g2,g3,g4,g5⟩:=s.ok;have I:r.dj a:=PM.rQ (PM.pK h3 g2 (PM.le_refl _));refine⟨s.wf,b,r.un a,PM.le_trans g3 h1,PM.FI h2 (PM.le_trans g2 h1),PM.rQ (PM.FJ (PM.rQ (PM.pK h3 g3 (PM.le_refl _))) g1),λ_=>none,b,λ_=>.inl U,λ_ _ h=>(by cases h),PM.le_refl _,?_,aG.up g5 (PM.le_refl _) (PM.Ks _ _)⟩;exact(uN.view g4).up (PM.Kt I)
end
theorem BU {a b c d:H}{l:List H}{p:H->Prop}(I:p a)(hb:p b)(hc:p c)(hd:p d): ∀x∈((a::b::c::d::l).drop 0).take 4,p x:=by
 grind
section
variable {h:H} {v:V}
theorem Sat.ld (s:Sat h S)(I:getA S k=some (pt id (.cells n cs st)))(ht:isAggT P t=some false)(hn:nth cs off=some v): loadV P h t (.ptr id off)=some v:=BP ht (s.row I) hn
theorem Sat.b7 (s:Sat h S)(I:getA S k=some (pt id (.cells n cs st)))(ht:isAggT P t=some true)(hs:bq P t=some n): loadV P h t (.ptr id 0)=some (.agg cs):=Am.b7 ht hs (s.row I)
theorem Sat.kz (s:Sat h S)(hk:getA S k=some (pt id (.cells n cs false)))(hs:bq P t=some 1)(hl:cs.length=n)(ho:off<n)(hv:v.cells=[v])(I:storable v=true):
  ∃h₁,j7 P h t (.ptr id off) v=some h₁/\Sat h₁ (setA S k (pt id (.cells n (cs.set off v) false))):=by
 refine⟨h.put id (some (.cells n (cs.set off v) false)),?_,s.put hk⟩;simp only[j7,hs,hv,aX,bY,mG,nE,I,Bool.and_true];rw[show Nat.beq (0+1) 1=true from U,ag];simp only[wrN,s.row hk,aX,bY];rw[aR.2 (show off+(0+1)<=n by omega),ag];congr 3;rw[CP,ay (by omega)];cases hc:(Nat.beq off 0&&Nat.beq (0+1) n) with
 |true =>
  simp only[bV,beq_iff] at hc;obtain⟨rfl,rfl⟩:=hc;rw[ag];have:cs.drop (0+1)=[]:=p_ (by omega);simp[this]
 |false=>rw[aS];rfl
theorem Sat.stN {l:List V}(s:Sat h S)(hk:getA S k=some (pt id (.cells n cs false)))(hs:bq P t=some l.length)(hl:cs.length=n)(ho:off+l.length<=n)(I:l.all storable=true):
  ∃h₁,j7 P h t (.ptr id off) (.agg l)=some h₁/\Sat h₁ (setA S k (pt id (.cells n (cs.take off++(l++cs.drop (off+l.length))) false))):=by
 refine⟨h.put id (some (.cells n (cs.take off++(l++cs.drop (off+l.length))) false)),?_,s.put hk⟩;simp only[j7,hs,V.cells,I,kg,kf,ag,wrN,s.row hk];grind[aR,beq_iff,List.drop_eq_nil_of_le]
end
section
variable {ax:Nat} {h:H} {o:Oper}
theorem au.cg (s:Sat h S)(I:wantE L E o.guard=some true)(hd:o.dst=some d)(hn:Nat.blt d ax=true)(ho:opE C.P E h o.op=some (.ptr h.next 0,newRow h cs))
 (hr:∀id h₁,Sat h₁ (pt id (.cells cs.length cs false)::S)->au C ax L rest ((d,.ptr id 0)::E) h₁ R): au C ax L (o::rest) E h R :=
 au.op I hd hn ho (hr _ _ (s.new _))
theorem au.yU {v:V}(hg:wantE L E o.guard=some true)(hd:o.dst=none)(I:o.op=.store t x y)(hx:bE E x=some v)(hy:bE E y=some u)
 (ho:∃h₁,j7 C.P h t v u=some h₁/\Sat h₁ S')(hr:∀h₁,Sat h₁ S'->au C ax L rest E h₁ R): au C ax L (o::rest) E h R:=by
 obtain⟨h₁,e1,e2⟩:=ho;exact au.op0 hg hd (by rw[I];exact NC hx hy e1) (hr h₁ e2)
theorem WP.label {l:Nat}(I:Q .normal E h): WP C ax (.label l) E h Q:=λenv hE=>⟨1,.normal,env,h,E,U,hE,I⟩
theorem WP.split {a b:Code}{t:Bool}(I:bE E x=some (.bool t))(h1:t=true->WP C ax a E h Q)(h2:t=false->WP C ax b E h Q): WP C ax (.cond x a b) E h Q:=by
 grind[WP.cond]
theorem WP.Pu {a b:Code}{t:Bool}(I:bE E x=some (.bool t))(ht:t=true)(h1:WP C ax a E h Q): WP C ax (.cond x a b) E h Q:=by
 subst ht;exact WP.cond I h1
theorem WP.Xv {a b:Code}{t:Bool}(I:bE E x=some (.bool t))(ht:t=false)(h1:WP C ax b E h Q): WP C ax (.cond x a b) E h Q:=by
 subst ht;exact WP.cond I h1
end
section
variable {h:H} {a b:Operand} {v:V}
theorem acu {t:Nat}(I:bE E x=some v)(hf:ug P t v i=some r): opE P E h (.field t x i)=some (r,h):=by grind[opE,lF,bO]
theorem acv : opE P E h (.makeMap t none)=some (.map h.next,h.new (.map [] 0)):=rfl
theorem kL {ok:Bool}(I:bE E x=some v)(hy:bE E y=some u)(hf:gA P h t v u ok=some r): opE P E h (.lookup t x y ok)=some (r,h):=by grind[opE,w8,bO]
theorem acw {t:Nat}(I:ug P t (.agg cs) i=nth cs off)(hn:nth cs off=some r): ug P t (.agg cs) i=some r:=by grind
theorem kC {s d:TypeId}{k k':IntKind}{n:Int}(hs:P.underlying s=some td)(I:P.underlying d=some (.int k'))(hn:k'.wrap n=n): convV P h s d (.int k n)=some (.int k' n,h):=by simp only[convV,hs,I,hn]
theorem aaZ {o:Nat}{c:Cap}(hu:P.underlying t=some (.slice e)): lenV P h t (.sl i o n c)=some (.int .i64 n):=by simp only[lenV,hu]
theorem bA (hu:P.underlying t=some (.slice e))(hv:View h v l): lenV P h t v=some (.int .i64 l.length):=by
 obtain⟨_,hv⟩:=hv;rcases hv with⟨rfl|⟨I,rfl⟩,rfl⟩|⟨id,off,cap,n,cs,st,rfl,_⟩<;>simp[lenV,hu]
theorem NI (hu:P.underlying t=some .string): lenV P h t (.str l)=some (.int .i64 l.length):=by simp only[lenV,hu]
theorem mki_of (hu:P.underlying t=some td)(I:(match td with|.interface _=>false|_=>true)=true): makeIfaceV P t v=some (.iface t v):=by
 grind[makeIfaceV]
end
section
theorem ak {n:Int}(I : -9223372036854775808<=n:=by omega)(h2:n<9223372036854775808:=by omega): IntKind.wrap .i64 n=n:=by
 grind[IntKind.bits,IntKind.wrap,IntKind.signed]
theorem iN {n:Int}(I:0<=n:=by omega)(h2:n<18446744073709551616:=by omega): IntKind.wrap .u64 n=n:=by
 grind[IntKind.wrap,IntKind.bits,IntKind.signed]
theorem qH {n:Int}(I:0<=n:=by omega)(h2:n<256:=by omega): IntKind.wrap .u8 n=n:=by
 grind[IntKind.wrap,IntKind.bits,IntKind.signed]
variable {h:H} {a b:Int}
theorem aM {k:IntKind}(hw:k.wrap (a+b)=a+b): binV P h .add t x y (.int k a) (.int k b)=some (.int k (a+b)):=by
 simp_all[binV,fe,intV]
theorem dM {k:IntKind}(hw:k.wrap (a-b)=a-b): binV P h .sub t x y (.int k a) (.int k b)=some (.int k (a-b)):=by
 simp_all[binV,fe,intV]
theorem iO {k:IntKind}(hw:k.wrap (a*b)=a*b): binV P h .mul t x y (.int k a) (.int k b)=some (.int k (a*b)):=by
 simp_all[binV,fe,intV]
theorem cS {k:IntKind}: binV P h .eql t x y (.int k a) (.int k b)=some (.bool (decide (a=b))):=by
 simp only[binV,fe,ag,intV];cases I:intBeq a b with
 |true=>simp[w6 I]
 |false =>
  by_cases he:a=b
  .grind[ua]
  .grind
theorem aE {k:IntKind}: binV P h .neq t x y (.int k a) (.int k b)=some (.bool (!decide (a=b))):=by
 simp only[binV,fe,ag,intV];cases I:intBeq a b with
 |true=>simp[w6 I]
 |false =>
  by_cases he:a=b
  .grind[ua]
  .grind
theorem aK {k:IntKind}: binV P h .lss t x y (.int k a) (.int k b)=some (.bool (decide (a<b))):=by simp[binV,fe,intV]
theorem wo {k:IntKind}: binV P h .leq t x y (.int k a) (.int k b)=some (.bool (decide (a<=b))):=by simp[binV,fe,intV]
theorem cP {k:IntKind}: binV P h .gtr t x y (.int k a) (.int k b)=some (.bool (decide (a>b))):=by simp[binV,fe,intV]
theorem j5 {k:IntKind}: binV P h .geq t x y (.int k a) (.int k b)=some (.bool (decide (a>=b))):=by simp[binV,fe,intV]
theorem qI : ∀ {l m:List Nat},natsBeq l m=decide (l=m):=by
 intro l;induction l with
 |nil=>grind[natsBeq]
 |cons a l I =>
  intro m;cases m<;>grind[natsBeq,Nat.beq_refl,fO]
theorem Pv {m:List Nat}: binV P h .eql t x y (.str l) (.str m)=some (.bool (decide (l=m))):=by simp[binV,strV,qI]
end
section
variable {ax:Nat} {h:H} {o:Oper} {p:Bool}
theorem au.w_ (I:wantE L E o.guard=some true)(hd:o.dst=some d)(hn:Nat.blt d ax=true)(ho:opE C.P E h o.op=some (.bool p,h))(hp:p=true)(hw:au C ax L rest ((d,.bool true)::E) h R): au C ax L (o::rest) E h R:=by
 grind[au.op]
theorem au.rR (I:wantE L E o.guard=some true)(hd:o.dst=some d)(hn:Nat.blt d ax=true)(ho:opE C.P E h o.op=some (.bool p,h))(hp:p=false)(hw:au C ax L rest ((d,.bool false)::E) h R): au C ax L (o::rest) E h R:=by
 grind[au.op]
theorem au.opB (I:wantE L E o.guard=some true)(hd:o.dst=some d)(hn:Nat.blt d ax=true)(ho:opE C.P E h o.op=some (.bool p,h))(ht:p=true->au C ax L rest ((d,.bool true)::E) h R)(hf:p=false->au C ax L rest ((d,.bool false)::E) h R): au C ax L (o::rest) E h R:=by
 cases p<;>grind[au.op]
theorem au.BV (s:Sat h S)(hg:wantE L E o.guard=some true)(hd:o.dst=some d)(hn:Nat.blt d ax=true)(I:o.op=.makeMap t none)
 (hr:∀id h₁,Sat h₁ (pt id (.map [] 0)::S)->au C ax L rest ((d,.map id)::E) h₁ R): au C ax L (o::rest) E h R :=
 au.op hg hd hn (by rw[I];exact acv) (hr _ _ (s.new _))
theorem au.lP (hg:wantE L E o.guard=some true)(hd:o.dst=none)(ho:OpR C E h o BJ)
 (hw:∀v h₁,BJ v h₁->au C ax L rest E h₁ R): au C ax L (o::rest) E h R:=by
 intro env hE;obtain⟨v,h₁,hr,o6⟩:=ho;obtain⟨N,hN⟩:=o6 env hE;obtain⟨M,I,h',E',h1,h2,h3⟩:=hw v h₁ hr env hE;refine⟨Nat.max N M,I,h',E',?_,h2,h3⟩;simp only[evOps,lp hE hg,ag,oc (iM (rF N M)) hN,St.put,hd];exact sB (iM (rE N M)) _ _ _ h1
variable {Q:List (Nat×V)->H->List (List (Nat×V)×V)->List H->Prop}
theorem aB.w_ (hg:wantE L E o.guard=some true)(hd:o.dst=some d)(hn:Nat.blt d ax=true)(he:isEff C o.op=false)(ho:opE C.P E h o.op=some (.bool p,h))(hp:p=true)
 (hw:aB C ax L rest ((d,.bool true)::E) h hs λE' h' ts I=>Q E' h' ((E,.bool true)::ts) I): aB C ax L (o::rest) E h hs Q:=by
 grind[aB.op]
theorem aB.rR (hg:wantE L E o.guard=some true)(hd:o.dst=some d)(hn:Nat.blt d ax=true)(he:isEff C o.op=false)(ho:opE C.P E h o.op=some (.bool p,h))(hp:p=false)
 (hw:aB C ax L rest ((d,.bool false)::E) h hs λE' h' ts I=>Q E' h' ((E,.bool false)::ts) I): aB C ax L (o::rest) E h hs Q:=by
 grind[aB.op]
theorem aB.opB (hg:wantE L E o.guard=some true)(hd:o.dst=some d)(hn:Nat.blt d ax=true)(he:isEff C o.op=false)(ho:opE C.P E h o.op=some (.bool p,h))
 (ht:p=true->aB C ax L rest ((d,.bool true)::E) h hs λE' h' ts I=>Q E' h' ((E,.bool true)::ts) I)
 (hf:p=false->aB C ax L rest ((d,.bool false)::E) h hs λE' h' ts I=>Q E' h' ((E,.bool false)::ts) I): aB C ax L (o::rest) E h hs Q:=by
 cases p<;>grind[aB.op]
theorem OpR.yU {v:V}(I:o.op=.store t x y)(hx:bE E x=some v)(hy:bE E y=some u)
 (ho:∃h₁,j7 C.P h t v u=some h₁/\Sat h₁ S'): OpR C E h o λw h₁=>w=cY/\Sat h₁ S':=by
 obtain⟨h₁,e1,e2⟩:=ho;exact OpR.of (by grind[NC]) ⟨U,e2⟩
end
theorem JI {h:H}{t:Nat}{p v w:V}(hl:look E a=some p)(I:loadV P h t p=some v)(h2:look E b=some w): resLE P E h [.cell a t,.tmp b]=some (.aV [v,w]):=by grind[resLE,mapO,resE]
theorem xW {h:H}{t:Nat}{v:V}(hl:look E t=some v): resLE P E h [.tmp t]=some v:=by grind[resLE,mapO,resE]
def adK : Code->Nat->Code
 |.seq a _,0=>a
 |.seq _ b,_=>b
 |.cond _ a _,0=>a
 |.cond _ _ b,_=>b
 |.block _ a,_=>a
 |.loop a,_=>a
 |.scope a,_=>a
 |c,_=>c
def cX : List Nat->Code->Code
 |[],c=>c
 |k::ks,c=>cX ks (adK c k)
section
variable {ax:Nat} {h:H} {o:Oper} {v:V} {p:Bool}
theorem zc {k:FuncId}(e:(wantE L E o.guard,o.dst,Nat.blt d ax,o.op,cl.callee,bE E x,lookArgs E cl.args.toList)=(some true,some d,true,Op.call cl,Callee.value x,some (.fn (.func k) first cap),some args))
 (I:Call C k (first++(args++cap)) h BJ)(hw:∀v h₁,BJ v h₁->au C ax L rest ((d,v)::E) h₁ R): au C ax L (o::rest) E h R:=by
  simp only[bS] at e;exact au.call e.1 e.2.1 e.2.2.1 e.2.2.2.1 e.2.2.2.2.1 e.2.2.2.2.2.1 e.2.2.2.2.2.2 I hw
theorem zt (e:(wantE L E o.guard,o.dst,Nat.blt d ax)=(some true,some d,true))(ho:opE C.P E h o.op=some (.bool p,h))(I:p=true)(hw:au C ax L rest ((d,.bool true)::E) h R): au C ax L (o::rest) E h R:=by
  simp only[bS] at e;exact au.w_ e.1 e.2.1 e.2.2 ho I hw
theorem zh (e:(wantE L E o.guard,o.dst,Nat.blt d ax)=(some true,some d,true))(ho:opE C.P E h o.op=some (.bool p,h))(I:p=false)(hw:au C ax L rest ((d,.bool false)::E) h R): au C ax L (o::rest) E h R:=by
  simp only[bS] at e;exact au.rR e.1 e.2.1 e.2.2 ho I hw
theorem zd (e:(wantE L E o.guard,o.dst,Nat.blt d ax)=(some true,some d,true))(ho:opE C.P E h o.op=some (.bool p,h))(I:p=true->au C ax L rest ((d,.bool true)::E) h R)(hf:p=false->au C ax L rest ((d,.bool false)::E) h R): au C ax L (o::rest) E h R:=by
  simp only[bS] at e;exact au.opB e.1 e.2.1 e.2.2 ho I hf
theorem zB {op:BinOp}(e:(o.op,wantE L E o.guard,o.dst,Nat.blt d ax,bE E x,bE E y)=(Op.binOp op t x y t',some true,some d,true,some v,some u))(I:binV C.P h op t x y v u=some (.bool p))(hp:p=true)(hw:au C ax L rest ((d,.bool true)::E) h R): au C ax L (o::rest) E h R:=by
  simp only[bS] at e;exact au.w_ e.2.1 e.2.2.1 e.2.2.2.1 (by rw[e.1];exact aq e.2.2.2.2.1 e.2.2.2.2.2 I) hp hw
theorem zC {op:BinOp}(e:(o.op,wantE L E o.guard,o.dst,Nat.blt d ax,bE E x,bE E y)=(Op.binOp op t x y t',some true,some d,true,some v,some u))(I:binV C.P h op t x y v u=some (.bool p))(hp:p=false)(hw:au C ax L rest ((d,.bool false)::E) h R): au C ax L (o::rest) E h R:=by
  simp only[bS] at e;exact au.rR e.2.1 e.2.2.1 e.2.2.2.1 (by rw[e.1];exact aq e.2.2.2.2.1 e.2.2.2.2.2 I) hp hw
theorem zy (s:Sat h S)(k:Nat)(I:isAggT C.P t=some false)(e:(o.op,wantE L E o.guard,o.dst,Nat.blt d ax,bE E x,getA S k,nth cs off)=(Op.load t x,some true,some d,true,some (V.ptr id off),some (pt id (.cells n cs st)),some v))(hw:au C ax L rest ((d,v)::E) h R): au C ax L (o::rest) E h R:=by
  simp only[bS] at e;exact au.op e.2.1 e.2.2.1 e.2.2.2.1 (by rw[e.1];exact o_load e.2.2.2.2.1 (s.ld e.2.2.2.2.2.1 I e.2.2.2.2.2.2)) hw
theorem zY {I:Oper}{ae3:Operand}{ae4:TypeId}(s:Sat h S)(k:Nat)(hf:∀a b:Nat,fieldAddrV C.P ae4 (.ptr a b) i=some (.ptr a (b+j)))(ha:isAggT C.P t=some false)
 (e:(I.op,wantE L E I.guard,I.dst,Nat.blt vj ax,bE E ae3,o.op,wantE L ((vj,.ptr a (b+j))::E) o.guard,o.dst,Nat.blt d ax,bE ((vj,.ptr a (b+j))::E) x,getA S k,nth cs (b+j))=(Op.fieldAddr ae4 ae3 i,some true,some vj,true,some (V.ptr a b),Op.load t x,some true,some d,true,some (V.ptr a (b+j)),some (pt a (.cells n cs st)),some v))
 (hw:au C ax L rest ((d,v)::(vj,.ptr a (b+j))::E) h R): au C ax L (I::o::rest) E h R:=by
  simp only[bS] at e;obtain⟨e1,e2,e3,e4,e5,e6,e7,e8,e9,e10,e11,e12⟩:=e;exact au.op e2 e3 e4 (by rw[e1];exact mX e5 (hf a b)) (au.op e7 e8 e9 (by rw[e6];exact o_load e10 (s.ld e11 ha e12)) hw)
theorem zS (e:(wantE L E o.guard,o.dst,o.op,bE E x,bE E y)=(some true,none,Op.store t x y,some v,some u))(ho:∃h₁,j7 C.P h t v u=some h₁/\Sat h₁ S')(hr:∀h₁,Sat h₁ S'->au C ax L rest E h₁ R): au C ax L (o::rest) E h R:=by
  simp only[bS] at e;exact au.yU e.1 e.2.1 e.2.2.1 e.2.2.2.1 e.2.2.2.2 ho hr
end
theorem lI : bq Tryz.prog 3=some 1:=by kernel_rfl
theorem bT : isAggT Tryz.prog 3=some false:=by kernel_rfl
theorem BW : zeroT Tryz.prog 3=some (.int .i64 0):=by kernel_rfl
theorem BX : bq Tryz.prog 4=some 1:=by kernel_rfl
theorem sF : isAggT Tryz.prog 4=some false:=by kernel_rfl
theorem Xw : bq Tryz.prog 5=some 1:=by kernel_rfl
theorem zt5 : zeroT Tryz.prog 5=some (.int .u8 0):=by kernel_rfl
theorem RY : isAggT Tryz.prog 9=some false:=by kernel_rfl
theorem BY : isAggT Tryz.prog 24=some false:=by kernel_rfl
theorem adL : bq Tryz.prog 25=some 1:=by kernel_rfl
theorem Eo : isAggT Tryz.prog 25=some false:=by kernel_rfl
theorem dQ : bq Tryz.prog 29=some 1:=by kernel_rfl
theorem b8 : isAggT Tryz.prog 29=some false:=by kernel_rfl
theorem lQ : zeroT Tryz.prog 29=some .aZ:=by kernel_rfl
theorem aa0 : bq Tryz.prog 32=some 1:=by kernel_rfl
theorem Pw : isAggT Tryz.prog 32=some false:=by kernel_rfl
theorem Px : bq Tryz.prog 42=some 1:=by kernel_rfl
theorem sG : isAggT Tryz.prog 42=some false:=by kernel_rfl
theorem aa1 : bq Tryz.prog 45=some 1:=by kernel_rfl
theorem HE : isAggT Tryz.prog 45=some false:=by kernel_rfl
theorem Ap : bq Tryz.prog 47=some 6:=by kernel_rfl
theorem HF : isAggT Tryz.prog 47=some true:=by kernel_rfl
theorem UX : zeroT Tryz.prog 47=some (.agg [(.int .i64 0),(.int .u64 0),(.int .u64 0),(.int .u64 0),.aZ,.aZ]):=by kernel_rfl
theorem BZ (a b:Nat): fieldAddrV Tryz.prog 47 (.ptr a b) 0=some (.ptr a (b+0)):=by kernel_rfl
theorem aa2 (a b:Nat): fieldAddrV Tryz.prog 47 (.ptr a b) 1=some (.ptr a (b+1)):=by kernel_rfl
theorem aa3 (a b:Nat): fieldAddrV Tryz.prog 47 (.ptr a b) 2=some (.ptr a (b+2)):=by kernel_rfl
theorem aa4 (a b:Nat): fieldAddrV Tryz.prog 47 (.ptr a b) 3=some (.ptr a (b+3)):=by kernel_rfl
theorem aa5 (a b:Nat): fieldAddrV Tryz.prog 47 (.ptr a b) 4=some (.ptr a (b+4)):=by kernel_rfl
theorem wq (a b:Nat): fieldAddrV Tryz.prog 47 (.ptr a b) 5=some (.ptr a (b+5)):=by kernel_rfl
theorem UY (ps:List (Nat×V)): buildV Tryz.prog 47 ps=(fillV (nth [(0,1),(1,1),(2,1),(3,1),(4,1),(5,1)]) ((.agg [(.int .i64 0),(.int .u64 0),(.int .u64 0),(.int .u64 0),.aZ,.aZ]):V).cells ps).map .agg:=by kernel_rfl
theorem Aq : bq Tryz.prog 53=some 2:=by kernel_rfl
theorem UZ : isAggT Tryz.prog 53=some true:=by kernel_rfl
theorem Py : zeroT Tryz.prog 53=some (.agg [(.str []),(.str [])]):=by kernel_rfl
theorem FL (a b:Nat): fieldAddrV Tryz.prog 53 (.ptr a b) 0=some (.ptr a (b+0)):=by kernel_rfl
theorem aa6 (a b:Nat): fieldAddrV Tryz.prog 53 (.ptr a b) 1=some (.ptr a (b+1)):=by kernel_rfl
theorem aa7 (ps:List (Nat×V)): buildV Tryz.prog 53 ps=(fillV (nth [(0,1),(1,1)]) ((.agg [(.str []),(.str [])]):V).cells ps).map .agg:=by kernel_rfl
theorem xX : isAggT Tryz.prog 69=some false:=by kernel_rfl
theorem U0 : isAggT Tryz.prog 78=some false:=by kernel_rfl
theorem aa8 : bq Tryz.prog 92=some 1:=by kernel_rfl
theorem fH : isAggT Tryz.prog 92=some false:=by kernel_rfl
theorem lR : bq Tryz.prog 94=some 2:=by kernel_rfl
theorem HG : isAggT Tryz.prog 94=some true:=by kernel_rfl
theorem Pz : zeroT Tryz.prog 94=some (.agg [.cf,(.int .i64 0)]):=by kernel_rfl
theorem jx (a b:Nat): fieldAddrV Tryz.prog 94 (.ptr a b) 0=some (.ptr a (b+0)):=by kernel_rfl
theorem sH (a b:Nat): fieldAddrV Tryz.prog 94 (.ptr a b) 1=some (.ptr a (b+1)):=by kernel_rfl
theorem aa9 (ps:List (Nat×V)): buildV Tryz.prog 94 ps=(fillV (nth [(0,1),(1,1)]) ((.agg [.cf,(.int .i64 0)]):V).cells ps).map .agg:=by kernel_rfl
theorem U1 : bq Tryz.prog 98=some 1:=by kernel_rfl
theorem gu : isAggT Tryz.prog 98=some false:=by kernel_rfl
theorem adM (a b l:Nat)(c:Cap)(k:IntKind)(n:Int): indexAddrV Tryz.prog 98 (.sl a b l c) (.int k n)=cond (decide (0<=n)&&decide (n<(l:Int))) (some (.ptr a (b+n.toNat*1))) none:=by kernel_rfl
theorem iB (a b:Nat): fieldAddrV Tryz.prog 101 (.ptr a b) 0=some (.ptr a (b+0)):=by kernel_rfl
theorem ew (a b:Nat): fieldAddrV Tryz.prog 101 (.ptr a b) 1=some (.ptr a (b+1)):=by kernel_rfl
theorem nP (a b:Nat): fieldAddrV Tryz.prog 101 (.ptr a b) 2=some (.ptr a (b+2)):=by kernel_rfl
theorem cM (a b:Nat): fieldAddrV Tryz.prog 101 (.ptr a b) 3=some (.ptr a (b+3)):=by kernel_rfl
theorem PA (ps:List (Nat×V)): buildV Tryz.prog 101 ps=(fillV (nth [(0,1),(1,1),(2,1),(3,1)]) ((.agg [(.int .i64 0),(.int .i64 0),.aZ,.aZ]):V).cells ps).map .agg:=by kernel_rfl
theorem qS : isAggT Tryz.prog 114=some false:=by kernel_rfl
theorem acy : bq Tryz.prog 116=some 3:=by kernel_rfl
theorem rS (a b:Nat): fieldAddrV Tryz.prog 116 (.ptr a b) 0=some (.ptr a (b+0)):=by kernel_rfl
theorem tH (a b:Nat): fieldAddrV Tryz.prog 116 (.ptr a b) 1=some (.ptr a (b+1)):=by kernel_rfl
theorem Dq (a b:Nat): fieldAddrV Tryz.prog 116 (.ptr a b) 2=some (.ptr a (b+2)):=by kernel_rfl
theorem acz (ps:List (Nat×V)): buildV Tryz.prog 116 ps=(fillV (nth [(0,1),(1,1),(2,1)]) ((.agg [.cf,.mU,(.bool false)]):V).cells ps).map .agg:=by kernel_rfl
theorem Dr : isAggT Tryz.prog 117=some false:=by kernel_rfl
theorem Ds (a b:Nat): fieldAddrV Tryz.prog 119 (.ptr a b) 0=some (.ptr a (b+0)):=by kernel_rfl
theorem NJ (a b:Nat): fieldAddrV Tryz.prog 119 (.ptr a b) 1=some (.ptr a (b+1)):=by kernel_rfl
theorem vN (a b:Nat): fieldAddrV Tryz.prog 119 (.ptr a b) 2=some (.ptr a (b+2)):=by kernel_rfl
theorem vO (a b:Nat): fieldAddrV Tryz.prog 119 (.ptr a b) 3=some (.ptr a (b+3)):=by kernel_rfl
theorem acA (ps:List (Nat×V)): buildV Tryz.prog 119 ps=(fillV (nth [(0,1),(1,1),(2,1),(3,1),(4,1),(5,1)]) ((.agg [.cf,.cf,.cf,.cf,.aZ,(.int .u64 0)]):V).cells ps).map .agg:=by kernel_rfl
theorem Xx : bq Tryz.prog 141=some 0:=by kernel_rfl
theorem JJ : zeroT Tryz.prog 141=some (.agg []):=by kernel_rfl
theorem Xy (ps:List (Nat×V)): buildV Tryz.prog 141 ps=(fillV (nth []) ((.agg []):V).cells ps).map .agg:=by kernel_rfl
theorem jB : bq Tryz.prog 148=some 4:=by kernel_rfl
theorem qf : isAggT Tryz.prog 148=some true:=by kernel_rfl
theorem vl : zeroT Tryz.prog 148=some (.agg [.cf,(.int .i64 0),.cf,.cf]):=by kernel_rfl
theorem l8 (a b:Nat): fieldAddrV Tryz.prog 148 (.ptr a b) 0=some (.ptr a (b+0)):=by kernel_rfl
theorem yV (a b:Nat): fieldAddrV Tryz.prog 148 (.ptr a b) 1=some (.ptr a (b+1)):=by kernel_rfl
theorem vP (a b:Nat): fieldAddrV Tryz.prog 148 (.ptr a b) 2=some (.ptr a (b+2)):=by kernel_rfl
theorem rT (a b:Nat): fieldAddrV Tryz.prog 148 (.ptr a b) 3=some (.ptr a (b+3)):=by kernel_rfl
theorem JK (ps:List (Nat×V)): buildV Tryz.prog 148 ps=(fillV (nth [(0,1),(1,1),(2,1),(3,1)]) ((.agg [.cf,(.int .i64 0),.cf,.cf]):V).cells ps).map .agg:=by kernel_rfl
theorem acB : bq Tryz.prog 169=some 1:=by kernel_rfl
theorem PB : isAggT Tryz.prog 169=some false:=by kernel_rfl
theorem acC : bq Tryz.prog 170=some 1:=by kernel_rfl
theorem YW (a b:Nat): fieldAddrV Tryz.prog 172 (.ptr a b) 0=some (.ptr a (b+0)):=by kernel_rfl
theorem HH (a b:Nat): fieldAddrV Tryz.prog 172 (.ptr a b) 1=some (.ptr a (b+1)):=by kernel_rfl
theorem HI (a b:Nat): fieldAddrV Tryz.prog 172 (.ptr a b) 2=some (.ptr a (b+2)):=by kernel_rfl
theorem NK (a b:Nat): fieldAddrV Tryz.prog 172 (.ptr a b) 3=some (.ptr a (b+3)):=by kernel_rfl
theorem yW (a b:Nat): fieldAddrV Tryz.prog 172 (.ptr a b) 4=some (.ptr a (b+4)):=by kernel_rfl
theorem NL (a b:Nat): fieldAddrV Tryz.prog 172 (.ptr a b) 5=some (.ptr a (b+5)):=by kernel_rfl
theorem YX (a b:Nat): fieldAddrV Tryz.prog 172 (.ptr a b) 6=some (.ptr a (b+6)):=by kernel_rfl
theorem Dt (a b:Nat): fieldAddrV Tryz.prog 172 (.ptr a b) 7=some (.ptr a (b+7)):=by kernel_rfl
theorem Du (a b:Nat): fieldAddrV Tryz.prog 172 (.ptr a b) 8=some (.ptr a (b+8)):=by kernel_rfl
theorem rU (a b:Nat): fieldAddrV Tryz.prog 172 (.ptr a b) 9=some (.ptr a (b+9)):=by kernel_rfl
theorem U2 (a b:Nat): fieldAddrV Tryz.prog 172 (.ptr a b) 10=some (.ptr a (b+10)):=by kernel_rfl
theorem U3 (a b:Nat): fieldAddrV Tryz.prog 172 (.ptr a b) 11=some (.ptr a (b+11)):=by kernel_rfl
theorem acD (ps:List (Nat×V)): buildV Tryz.prog 172 ps=(fillV (nth [(0,1),(1,1),(2,1),(3,1),(4,1),(5,1),(6,1),(7,1),(8,1),(9,1),(10,1),(11,1)]) ((.agg [(.int .i64 0),.aZ,.aZ,.mU,.aZ,(.int .i64 0),.aZ,(.int .i64 0),(.int .i64 0),(.bool false),.cf,.aZ]):V).cells ps).map .agg:=by kernel_rfl
theorem NM (a b:Nat): fieldAddrV Tryz.prog 174 (.ptr a b) 0=some (.ptr a (b+0)):=by kernel_rfl
theorem yX (a b:Nat): fieldAddrV Tryz.prog 174 (.ptr a b) 1=some (.ptr a (b+1)):=by kernel_rfl
theorem nQ (a b:Nat): fieldAddrV Tryz.prog 174 (.ptr a b) 2=some (.ptr a (b+2)):=by kernel_rfl
theorem tI (a b:Nat): fieldAddrV Tryz.prog 174 (.ptr a b) 3=some (.ptr a (b+3)):=by kernel_rfl
theorem HJ (a b:Nat): fieldAddrV Tryz.prog 174 (.ptr a b) 4=some (.ptr a (b+4)):=by kernel_rfl
theorem YY (a b:Nat): fieldAddrV Tryz.prog 174 (.ptr a b) 5=some (.ptr a (b+5)):=by kernel_rfl
theorem acE (ps:List (Nat×V)): buildV Tryz.prog 174 ps=(fillV (nth [(0,1),(1,1),(2,1),(3,1),(4,1),(5,1)]) ((.agg [.cf,(.int .u64 0),.aZ,.aZ,(.int .i64 0),(.int .u64 0)]):V).cells ps).map .agg:=by kernel_rfl
theorem PC : bq Tryz.prog 185=some 2:=by kernel_rfl
theorem acF : isAggT Tryz.prog 185=some true:=by kernel_rfl
theorem PD : zeroT Tryz.prog 185=some (.agg [(.int .i64 0),.aZ]):=by kernel_rfl
theorem YZ (a b:Nat): fieldAddrV Tryz.prog 185 (.ptr a b) 1=some (.ptr a (b+1)):=by kernel_rfl
theorem acG (ps:List (Nat×V)): buildV Tryz.prog 185 ps=(fillV (nth [(0,1),(1,1)]) ((.agg [(.int .i64 0),.aZ]):V).cells ps).map .agg:=by kernel_rfl
theorem aU : bq Tryz.prog 189=some 1:=by kernel_rfl
theorem bD : isAggT Tryz.prog 189=some true:=by kernel_rfl
theorem jC : zeroT Tryz.prog 189=some (.agg [.aZ]):=by kernel_rfl
theorem ey (a b:Nat): fieldAddrV Tryz.prog 189 (.ptr a b) 0=some (.ptr a (b+0)):=by kernel_rfl
theorem Ar (ps:List (Nat×V)): buildV Tryz.prog 189 ps=(fillV (nth [(0,1)]) ((.agg [.aZ]):V).cells ps).map .agg:=by kernel_rfl
theorem Dv : bq Tryz.prog 206=some 4:=by kernel_rfl
theorem acH : isAggT Tryz.prog 206=some true:=by kernel_rfl
theorem xb : zeroT Tryz.prog 206=some (.agg [(.int .i64 0),(.int .i64 0),(.bool false),.aZ]):=by kernel_rfl
theorem HK (a b:Nat): fieldAddrV Tryz.prog 206 (.ptr a b) 0=some (.ptr a (b+0)):=by kernel_rfl
theorem vQ (a b:Nat): fieldAddrV Tryz.prog 206 (.ptr a b) 1=some (.ptr a (b+1)):=by kernel_rfl
theorem NN (a b:Nat): fieldAddrV Tryz.prog 206 (.ptr a b) 2=some (.ptr a (b+2)):=by kernel_rfl
theorem vR (a b:Nat): fieldAddrV Tryz.prog 206 (.ptr a b) 3=some (.ptr a (b+3)):=by kernel_rfl
theorem PE (ps:List (Nat×V)): buildV Tryz.prog 206 ps=(fillV (nth [(0,1),(1,1),(2,1),(3,1)]) ((.agg [(.int .i64 0),(.int .i64 0),(.bool false),.aZ]):V).cells ps).map .agg:=by kernel_rfl
theorem sI : isAggT Tryz.prog 211=some false:=by kernel_rfl
theorem acI (a b l:Nat)(c:Cap)(k:IntKind)(n:Int): indexAddrV Tryz.prog 211 (.sl a b l c) (.int k n)=cond (decide (0<=n)&&decide (n<(l:Int))) (some (.ptr a (b+n.toNat*5))) none:=by kernel_rfl
theorem FM : isAggT Tryz.prog 212=some false:=by kernel_rfl
theorem Dw : isAggT Tryz.prog 213=some false:=by kernel_rfl
theorem Dx (a b:Nat): fieldAddrV Tryz.prog 215 (.ptr a b) 0=some (.ptr a (b+0)):=by kernel_rfl
theorem Y0 (a b:Nat): fieldAddrV Tryz.prog 215 (.ptr a b) 1=some (.ptr a (b+1)):=by kernel_rfl
theorem nR (a b:Nat): fieldAddrV Tryz.prog 215 (.ptr a b) 2=some (.ptr a (b+2)):=by kernel_rfl
theorem yY (a b:Nat): fieldAddrV Tryz.prog 215 (.ptr a b) 3=some (.ptr a (b+3)):=by kernel_rfl
theorem vS (a b:Nat): fieldAddrV Tryz.prog 215 (.ptr a b) 4=some (.ptr a (b+4)):=by kernel_rfl
theorem HL (a b:Nat): fieldAddrV Tryz.prog 215 (.ptr a b) 5=some (.ptr a (b+5)):=by kernel_rfl
theorem acJ (ps:List (Nat×V)): buildV Tryz.prog 215 ps=(fillV (nth [(0,1),(1,1),(2,1),(3,1),(4,1),(5,1)]) ((.agg [.cf,.cf,.aZ,.mU,.mU,(.int .i64 0)]):V).cells ps).map .agg:=by kernel_rfl
theorem FN : bq Tryz.prog 218=some 5:=by kernel_rfl
theorem acK : isAggT Tryz.prog 218=some true:=by kernel_rfl
theorem acL : zeroT Tryz.prog 218=some (.agg [(.int .i64 0),.aZ,(.int .i64 0),(.bool false),(.bool false)]):=by kernel_rfl
theorem rV (a b:Nat): fieldAddrV Tryz.prog 218 (.ptr a b) 0=some (.ptr a (b+0)):=by kernel_rfl
theorem Dy (a b:Nat): fieldAddrV Tryz.prog 218 (.ptr a b) 1=some (.ptr a (b+1)):=by kernel_rfl
theorem tJ (a b:Nat): fieldAddrV Tryz.prog 218 (.ptr a b) 2=some (.ptr a (b+2)):=by kernel_rfl
theorem HM (a b:Nat): fieldAddrV Tryz.prog 218 (.ptr a b) 3=some (.ptr a (b+3)):=by kernel_rfl
theorem HN (a b:Nat): fieldAddrV Tryz.prog 218 (.ptr a b) 4=some (.ptr a (b+4)):=by kernel_rfl
theorem JL (ps:List (Nat×V)): buildV Tryz.prog 218 ps=(fillV (nth [(0,1),(1,1),(2,1),(3,1),(4,1)]) ((.agg [(.int .i64 0),.aZ,(.int .i64 0),(.bool false),(.bool false)]):V).cells ps).map .agg:=by kernel_rfl
theorem Dz : bq Tryz.prog 224=some 2:=by kernel_rfl
theorem Xz : isAggT Tryz.prog 224=some true:=by kernel_rfl
theorem DB : zeroT Tryz.prog 224=some (.agg [(.int .u64 0),(.bool false)]):=by kernel_rfl
theorem HO (a b:Nat): fieldAddrV Tryz.prog 224 (.ptr a b) 0=some (.ptr a (b+0)):=by kernel_rfl
theorem Y1 (cs:List V): ug Tryz.prog 224 (.agg cs) 0=nth cs 0:=by kernel_rfl
theorem NO (a b:Nat): fieldAddrV Tryz.prog 224 (.ptr a b) 1=some (.ptr a (b+1)):=by kernel_rfl
theorem acM (ps:List (Nat×V)): buildV Tryz.prog 224 ps=(fillV (nth [(0,1),(1,1)]) ((.agg [(.int .u64 0),(.bool false)]):V).cells ps).map .agg:=by kernel_rfl
theorem acN (ps:List (Nat×V)): buildV Tryz.prog 230 ps=(fillV (λi=>some (i*1,1)) ((.agg [(.bool false),(.bool false)]):V).cells ps).map .agg:=by kernel_rfl
theorem NP (a b:Nat): fieldAddrV Tryz.prog 253 (.ptr a b) 0=some (.ptr a (b+0)):=by kernel_rfl
theorem acO (ps:List (Nat×V)): buildV Tryz.prog 253 ps=(fillV (nth [(0,1),(1,1)]) ((.agg [.mU,.mU]):V).cells ps).map .agg:=by kernel_rfl
theorem XA (a b:Nat)(k:IntKind)(n:Int): indexAddrV Tryz.prog 257 (.ptr a b) (.int k n)=cond (decide (0<=n)&&decide (n<(512:Nat))) (some (.ptr a (b+n.toNat*1))) none:=by kernel_rfl
theorem acP : bq Tryz.prog 269=some 512:=by kernel_rfl
theorem acQ : isAggT Tryz.prog 269=some true:=by kernel_rfl
theorem acR (ps:List (Nat×V)): buildV Tryz.prog 278 ps=(fillV (λi=>some (i*1,1)) ((.agg [(.int .u64 0),(.int .u64 0),(.int .u64 0)]):V).cells ps).map .agg:=by kernel_rfl
def slR (v:V)(a b:Nat): V:=match v with
 |.sl id off _ (.exact c)=>.sl id (cond (Nat.beq c a) off (off+a*1)) (b-a) (.exact (c-a))
 |.sl id off _ (.rest _ alt)=>.sl id (off+a*1) (b-a) (.rest 1 (cond (Nat.beq a 0) alt (cond (Nat.blt a b) (off+a*1) off)))
 |v=>v
theorem fR {h:H}{v:V}(hv:View h v l)(mq:a<=b)(hb:b<=l.length):
  sliceV Tryz.prog h 29 v (some a) (some b) none=some (slR v a b)/\View h (slR v a b) ((l.take b).drop a)/\∀i∈rowIds (slR v a b),i∈rowIds v:=by
 have I:∀x∈(l.take b).drop a,x<256:=λx hx=>hv.1 x (iL (jd hx));have hlen:((l.take b).drop a).length=b-a:=by grind
 obtain⟨hl,Kx⟩:=hv;rcases Kx with⟨rfl|⟨ea,rfl⟩,rfl⟩|⟨id,off,cap,n,cs,st,rfl,hg,h1,h2,h3,h4⟩
 .simp only[bY] at hb;have:b=0:=by omega
  have:a=0:=by omega
  subst_vars
  refine⟨?_,⟨by simp,.inl ⟨.inl U,by simp⟩⟩,λi hi=>hi⟩;simp only[sliceV,aP,fF];rfl
 .simp only[bY] at hb;have:b=0:=by omega
  have:a=0:=by omega
  subst_vars
  refine⟨?_,⟨by simp,.inl ⟨.inr ⟨ea,U⟩,by simp⟩⟩,λi hi=>hi⟩;simp only[sliceV,aP,fF];rfl
 .have JE:∀o,o=off+a\/b-a=0->(cs.drop o).take (b-a)=ofBytes ((l.take b).drop a):=by
   grind[ofBytes,List.map_drop,List.map_take,List.drop_take,List.drop_drop]
  cases cap with
  |exact c =>
   refine⟨?_,⟨I,.inr ⟨id,_,_,n,cs,st,by rw[hlen];rfl,hg,h1,?_,?_,?_⟩⟩,λi hi=>by simpa[rowIds,slR] using hi⟩
   .simp only[sliceV,slR,aP,fF,dw];grind[aR]
   .grind
   .grind[fO]
   .omega
  |rest e alt =>
   have he:e=1:=h4;subst he;refine⟨?_,⟨I,.inr ⟨id,_,_,n,cs,st,by rw[hlen];rfl,hg,h1,by omega,by grind,U⟩⟩,λi hi=>by simpa[rowIds,slR] using hi⟩;simp only[sliceV,slR,aP,fF,dw,kg];grind[aR]
theorem iu {h:H}{v:V}(hv:View h v l)(ha:a<=l.length):
  sliceV Tryz.prog h 29 v (some a) none none=some (slR v a l.length)/\View h (slR v a l.length) (l.drop a)/\∀i∈rowIds (slR v a l.length),i∈rowIds v:=by
 obtain⟨h1,h2,h3⟩:=fR hv ha (aH _);refine⟨?_,by grind,h3⟩;obtain⟨_,I⟩:=hv;rcases I with⟨rfl|⟨ea,rfl⟩,rfl⟩|⟨id,off,cap,n,cs,st,rfl,hg,g1,g2,g3,g4⟩
 .simpa[sliceV,aP,fF] using h1
 .simpa[sliceV,aP,fF] using h1
 .simp_all[sliceV]
theorem U4 {h:H}{v:V}(hv:View h v l)(hb:b<=l.length):
  sliceV Tryz.prog h 29 v none (some b) none=some (slR v 0 b)/\View h (slR v 0 b) (l.take b)/\∀i∈rowIds (slR v 0 b),i∈rowIds v:=by
 obtain⟨h1,h2,h3⟩:=fR hv (gG b) hb;refine⟨?_,by grind,h3⟩;obtain⟨_,I⟩:=hv;rcases I with⟨rfl|⟨ea,rfl⟩,rfl⟩|⟨id,off,cap,n,cs,st,rfl,hg,g1,g2,g3,g4⟩
 .simpa[sliceV,aP,fF] using h1
 .simpa[sliceV,aP,fF] using h1
 .simp_all[sliceV]
theorem eU {h:H}{v:V}(hv:View h v l)(hi:l[i]?=some b):
  ∃id off,indexAddrV Tryz.prog 29 v (.int .i64 (i:Int))=some (.ptr id off)/\loadV Tryz.prog h 5 (.ptr id off)=some (.int .u8 (b:Int)):=by
 obtain⟨hl,I⟩:=hv;rcases I with⟨_,rfl⟩|⟨id,off,cap,n,cs,st,rfl,hg,h1,h2,h3,h4⟩
 .grind
 .refine⟨id,off+i*1,?_,?_⟩
  .simp only[indexAddrV,aP,fF,fS];grind
  .simp only[loadV,NA,Bn,hg,gB,cH];have e:=dg (λq=>q[i]?) h3;grind[ofBytes]
theorem View.cells {h:H}{v:V}(hv:View h v l): v.cells=[v]/\Am.storable v=true:=by
 obtain⟨_,hv⟩:=hv;rcases hv with⟨rfl|⟨I,rfl⟩,_⟩|⟨id,off,cap,n,cs,st,rfl,_⟩<;>exact⟨U,U⟩
def plain1 : V->Bool
 |.bool _|.int _ _|.str _|.cf|.ptr _ _|.aZ|.sl _ _ _ _|.mU|.map _|.Ij|.qA|.vW _ _=>true
 |.fn (.func _) [] []=>true
 |_=>false
def aa_ : V->Bool
 |.agg l=>l.all plain1
 |.aV l=>l.all plain1
 |.iface _ v=>plain1 v
 |v=>plain1 v
theorem PF (k:FloatKind): fkBeq k k=true:=by cases k<;>rfl
theorem Kz : ∀l:List Nat,natsBeq l l=true:=by grind[qI]
theorem U5 (v:V)(h:plain1 v=true): v.beq v=true:=by
 cases v<;>simp[plain1,V.beq,fe,ua,D4,Kz,PF] at h ⊢
 rename_i f a b;cases f<;>cases a<;>cases b<;>simp[plain1,V.beq,V.beqL] at h ⊢
theorem XB : ∀(l:List V),l.all plain1=true->V.beqL l l=true:=by
 intro l;induction l<;>grind[V.beqL,U5]
theorem bp (v:V)(h:aa_ v=true): v.beq v=true:=by
 cases v with
 |agg l=>exact XB l h
 |aV l=>exact XB l h
 |iface t v=>simp only[V.beq,kg,C6];exact U5 v h
 |_=>exact U5 _ h
section
variable {h:H} {v w:V} {m:List Nat}
theorem PG (s:Sat h (aY v l::X::S))(hX:cy X (cE w m))(I:l.length+m.length<=140737488355328):
  ∃v' h',appendV Tryz.prog h #[29,29] v w=some (v',h')/\Sat h' (aY v' (l++m)::X::S):=by
 obtain⟨v',h',e1,e2,e3,e4⟩:=BO s.wf (s.buf (k:=0) U) (s.aD (k:=1) U hX) I;exact⟨v',h',e1,s.Dp e3 e2 e4⟩
theorem RZ (s:Sat h S)(I:c<1073741824):
  ∃v h',makeSliceV Tryz.prog h 29 (.int .i64 0) (.int .i64 (c:Int))=some (v,h')/\Sat h' (aY v []::S):=by
 obtain⟨v,h',e1,e2,e3,e4⟩:=FE s.wf I;exact⟨v,h',e1,s.Kw e3 e2 e4⟩
theorem NQ : ∀n:Nat,repeatL [V.int .u8 0] n=ofBytes (List.replicate n 0):=by
 intro n;induction n<;>grind[repeatL,ofBytes]
theorem R1 (s:Sat h S)(hc:c<1073741824):
  ∃v h',makeSliceV Tryz.prog h 29 (.int .i64 (c:Int)) (.int .i64 (c:Int))=some (v,h')/\Sat h' (aY v (List.replicate c 0)::S):=by
 obtain⟨i,hi,i1,i2⟩:=Dn;have I:lH (h.new (.cells c (repeatL [.int .u8 0] c) false)) (.sl h.next 0 c (.exact c)) (List.replicate c 0):=by
  refine⟨λb I=>by grind,.inr (.inl ⟨h.next,[],c,by simp,?_,by simp⟩)⟩<;>grind[jv,NQ]
 refine⟨.sl h.next 0 c (.exact c),h.new (.cells c (repeatL [.int .u8 0] c) false),?_,s.Kw (fL.Dm s.wf _) I λi hi=>by simp[rowIds] at hi;omega⟩
 grind[makeSliceV,Tryz.underlying29,pJ,V.cells,Nat.ble,Nat.beq]
theorem R2 (s:Sat h S)(I:b<256): ∃v h',buildSliceV Tryz.prog h 29 1 [(0,.int .u8 b)]=some (v,h')/\Sat h' (aY v [b]::S):=by
 obtain⟨v,h',e1,e2,e3,e4⟩:=IE s.wf I;exact⟨v,h',e1,s.Kw e3 e2 e4⟩
theorem Sat.eX (s:Sat h (aY v l::S))(hl:1<=l.length): ∃id c cap rest,v=.sl id 0 l.length cap/\Sat h (pt id (.cells c (ofBytes l++rest) false)::S)/\l.length+rest.length=c /\
  (∀(h':H) (I:List Nat),I.length=l.length->(∀b∈I,b<256)->Sat h' (pt id (.cells c (ofBytes I++rest) false)::S)->Sat h' (aY v I::S)):=by
 obtain⟨m,r,h1,h2,h3,a,b,g1,g2,g3,⟨gl,g4⟩,g5⟩:=s.ok;rcases g4 with⟨rfl,rfl⟩|⟨id,cs,c,rfl,hg,hc⟩|⟨id,rfl,hg,h5⟩
 .grind
 .refine⟨id,c,_,cs,U,⟨s.wf,m,r,h1,h2,h3,a,b,g1,g2,g3,hg,g5⟩,hc,λh' I e1 e2 s'=>s'.eD ?_⟩;intro m' r' hm;exact⟨e2,.inr (.inl ⟨id,cs,c,by rw[e1],hm,by omega⟩)⟩
 .refine⟨id,l.length,_,[],U,⟨s.wf,m,r,h1,h2,h3,a,b,g1,g2,g3,by rw[gd];exact hg,g5⟩,by simp,λh' I e1 e2 s'=>s'.eD ?_⟩;intro m' r' hm;have D3:m' id=some (.cells l.length (ofBytes I++[]) false):=hm;exact⟨e2,.inr (.inr ⟨id,by rw[e1],by grind,by omega⟩)⟩
theorem MI (l:List Nat)(i b:Nat): (ofBytes l).set i (.int .u8 (b:Int))=ofBytes (l.set i b):=by simp[ofBytes,C8]
theorem wu (l:List Nat)(n:Nat): (ofBytes l).take n=ofBytes (l.take n):=by simp[ofBytes,rI]
theorem B0 (l:List Nat)(n:Nat): (ofBytes l).drop n=ofBytes (l.drop n):=by simp[ofBytes,tD]
theorem oP (s:Sat h (aY v l::S))(hi:i<l.length)(hb:b<256):
  ∃id off,indexAddrV Tryz.prog 29 v (.int .i64 (i:Int))=some (.ptr id off)/\∃h',j7 Tryz.prog h 5 (.ptr id off) (.int .u8 (b:Int))=some h'/\Sat h' (aY v (l.set i b)::S):=by
 have hv:=(s.buf (k:=0) U).1;obtain⟨id,c,cap,rest,rfl,s1,hc,hf⟩:=s.eX (by omega);refine⟨id,i,?_,?_⟩
 .simp_all[indexAddrV,fF]
 .obtain⟨h',e1,I⟩:=s1.kz (t:=5) (P:=Tryz.prog) (v:=.int .u8 (b:Int)) (k:=0) (off:=i) U fF (by simp[dN];omega) (by omega) U U;refine⟨h',e1,hf h' (l.set i b) (by simp) (λx hx => ?_) ?_⟩
  .grind
  .have e3:(ofBytes l++rest).set i (.int .u8 (b:Int))=ofBytes (l.set i b)++rest:=by
    grind[dN,MI]
   rw[e3] at I;exact I
def az (l:List Nat)(a:Nat)(m:List Nat): List Nat:=l.take a++(m++l.drop (a+m.length))
theorem bF (h:a+m.length<=l.length:=by omega): (az l a m).length=l.length:=by simp[az];omega
theorem xg (hl:∀b∈l,b<256)(hm:∀b∈m,b<256): ∀b∈az l a m,b<256:=by grind[az]
theorem KA (s:Sat h (aY v l::X::S))(hX:cy X (cE w m))(mq:a<b)(hb:b<=l.length)(hm:1<=m.length):
  ∃h',copyV Tryz.prog h 29 (slR v a b) w=some (.int .i64 (min m.length (b-a):Nat),h')/\Sat h' (aY v (az l a (m.take (b-a)))::X::S):=by
 have hw:=s.aD (k:=1) U hX;have NR:=hw.1;have hv:=(s.buf (k:=0) U).1;obtain⟨id,c,cap,rest,rfl,s1,hc,hf⟩:=s.eX (by omega);have jE:∃Ej,slR (.sl id 0 l.length cap) a b=.sl id a (b-a) Ej:=by
  cases cap with
  |exact c =>
   refine⟨.exact (c-a),?_⟩;simp only[slR];by_cases XC:c=a
   .obtain⟨m',r,h1,h2,h3⟩:=s.at (k:=0) U;rcases h3.2 with⟨e,_⟩|⟨wS,cs',c',e,hg,R3⟩|⟨wS,e,_⟩
    .cases e
    .grind
    .grind
   grind[fO]
  |rest e alt=>simp[slR]
 obtain⟨Ej,jE⟩:=jE;rw[jE];have uq:=hw;rcases uq.2 with⟨_,rfl⟩|⟨wz,I,HP,n2,qJ,st2,rfl,FO,q1,q2,q3,q4⟩
 .grind
 .have adN:Nat.min m.length (b-a)=(m.take (b-a)).length:=by
   grind
  have jl:rdN h wz I (Nat.min m.length (b-a)*1)=some (ofBytes (m.take (b-a))):=by
   have IJ:View h (.sl wz I (m.take (b-a)).length HP) (m.take (b-a)):=by
    refine⟨λx hx=>NR x (iL hx),.inr ⟨wz,I,HP,n2,qJ,st2,U,FO,q1,?_,?_,?_⟩⟩
    .grind
    .rw[<-wu,<-q3,rH,cz]
    .grind
   rw[cH,adN];exact IJ.rdN.2
  simp only[copyV,aP,fF,jl];have hlen:(m.take (b-a)).length<=b-a:=by grind
  have FP:wrN h id a (ofBytes (m.take (b-a)))=some (h.put id (some (.cells c (ofBytes (az l a (m.take (b-a)))++rest) false))):=by
   simp only[wrN,s1.row (k:=0) U,dN];rw[aR.2 (by omega),ag];have e0:(ofBytes l++rest).take a++(ofBytes (m.take (b-a))++(ofBytes l++rest).drop (a+(m.take (b-a)).length))=ofBytes (az l a (m.take (b-a)))++rest:=by
    grind[dN,wu,B0,az,t_]
   cases R4:(Nat.beq a 0&&Nat.beq (m.take (b-a)).length c)<;>grind[beq_iff,List.drop_eq_nil_of_le,dN]
  rw[FP];refine⟨_,U,hf _ _ bF (xg hv (λx hx=>NR x (iL hx))) ?_⟩;exact s1.put (k:=0) U
end
section
variable {h:H} {v w x:V}
theorem ldN (I:isAggT P t=some true)(hs:bq P t=some q)(hg:T.get h.tr id=some (.cells n cs st))(hl:cs.length=n)(hb:off+q<=n):
  loadV P h t (.ptr id off)=some (.agg ((cs.drop off).take q)):=by
 grind[loadV,rdN,aR,beq_iff]
theorem Sat.Y2 (s:Sat h (.arr k v cs::S))(I:cs≠[]): ∃id n cap N rest,v=.sl id 0 n cap/\cs.length=n*k/\N=cs.length+rest.length/\Sat h (pt id (.cells N (cs++rest) false)::S) /\
  (∀(h':H) (cs':List V) (S':List aG),cs'.length=cs.length->cs'.all storable=true->Sat h' (pt id (.cells N (cs'++rest) false)::S')->Sat h' (.arr k v cs'::S')):=by
 obtain⟨m,r,h1,h2,h3,a,b,g1,g2,g3,⟨gl,g4⟩,g5⟩:=s.ok;rcases g4 with⟨_,e⟩|⟨id,n,cap,N,rest,rfl,hg,q1,q2,q3,q4⟩
 .grind
 .refine⟨id,n,cap,N,rest,U,q1,q2.symm,⟨s.wf,m,r,h1,h2,h3,a,b,g1,g2,g3,hg,g5⟩,λh' cs' S' e1 e2 s'=>s'.eD ?_⟩;intro m' r' hm;exact⟨e2,.inr ⟨id,n,cap,N,rest,U,hm,by omega,by omega,q3,q4⟩⟩
theorem Sat.JM (s:Sat h S)(I:getA S j=some (.arr k v cs)): cs.all storable=true:=by
 obtain⟨m,r,h1,h2,h3⟩:=s.at I;exact h3.1
theorem Sat.uO (s:Sat h S)(I:getA S j=some (.arr k v cs)): v.cells=[v]/\storable v=true/\v.beq v=true:=by
 obtain⟨m,r,h1,h2,h3⟩:=s.at I;rcases h3.2 with⟨rfl,_⟩|⟨id,n,cap,N,rest,rfl,_⟩
 .exact⟨U,U,U⟩
 .exact⟨U,U,Ao _ _ _ _⟩
theorem Sat.fq (s:Sat h S)(hj:getA S j=some (.arr k v cs))(hn:cs.length=n*k)(I:1<=k)(hu:P.underlying t=some (.slice e)): lenV P h t v=some (.int .i64 n):=by
 obtain⟨m,r,h1,h2,h3⟩:=s.at hj;rcases h3.2 with⟨rfl,rfl⟩|⟨id,n',cap,N,rest,rfl,_,q,_⟩
 .have:n=0:=by
   rcases nq n with h0|h0
   .exact h0
   .have:=tC h0 I;simp at hn;omega
  simp_all[lenV]
 .have:n'=n:=Ng I (by omega);subst this;simp only[lenV,hu]
theorem xY (z:List V)(n:Nat): (repeatL z n).length=n*z.length:=by
 induction n<;>grind[repeatL]
theorem FQ {z:List V}(I:z.all storable=true)(n:Nat): (repeatL z n).all storable=true:=by
 induction n<;>grind[repeatL]
theorem B1 (s:Sat h S){i:TypeInfo}(hu:P.underlying t=some (.slice e))(hi:P.info? e=some i)(hz:zeroT P e=some z)(hk:i.size=k)(hb:i.bytes<=4096)(hl:z.cells.length=k)(I:z.cells.all storable=true)
 (h1:1<=k)(hn:n<=c)(hc:c<1073741824):
  ∃v h',makeSliceV P h t (.int .i64 (n:Int)) (.int .i64 (c:Int))=some (v,h')/\Sat h' (.arr k v (repeatL z.cells n)::S):=by
 refine⟨.sl h.next 0 n (.exact c),h.new (.cells (c*k) (repeatL z.cells c) false),?_,(s.new _).eD λm r hm => ?_⟩
 .grind[makeSliceV,aR,Nat.beq_refl]
 .refine⟨FQ I n,.inr ⟨h.next,n,.exact c,c*k,repeatL z.cells (c-n),U,?_,by rw[xY,hl],?_,FQ I _,U,hn⟩⟩
  .have:repeatL z.cells n++repeatL z.cells (c-n)=repeatL z.cells c:=by
    have:∀a b,repeatL z.cells a++repeatL z.cells b=repeatL z.cells (a+b):=λa b=>by
     induction a<;>grind[repeatL]
    rw[this,show n+(c-n)=c by omega]
   rw[this];exact hm
  .rw[xY,xY,hl,<-yG,show n+(c-n)=c by omega]
theorem yZ (I:T.get h.tr id=some (.cells n cs false))(hl:cs.length=n)(hb:off+vs.length<=n):
  wrN h id off vs=some (h.put id (some (.cells n (cs.take off++(vs++cs.drop (off+vs.length))) false))):=by
 grind[wrN,aR,beq_iff,List.drop_eq_nil_of_le]
theorem pL (I:T.get h.tr id=some (.cells n cs st))(hl:cs.length=n)(hb:off+q<=n:=by omega): rdN h id off q=some ((cs.drop off).take q):=by
 grind[rdN,aR,beq_iff]
def NS (X:aG)(k:Nat)(v:V)(cs:List V): Prop:=∀m r,X.p m r->qV m k v cs\/qV r k v cs
theorem jg (k:Nat)(v:V)(cs:List V): NS (.arr k v cs) k v cs:=λ_ _ h=>.inl h
theorem Sat.B2 (s:Sat h S)(I:getA S j=some X)(hX:NS X k v cs): qV (T.get h.tr) k v cs:=by
 obtain⟨m,r,h1,h2,h3⟩:=s.at I;rcases hX _ _ h3 with q|q
 .exact q.up h1
 .exact q.up h2
theorem adO (a:qV (T.get h.tr) k v cs)(hi:i*k+k<=cs.length)(hk:1<=k)(hu:P.underlying t=some (.slice e))(I:bq P e=some k):
  ∃id off,indexAddrV P t v (.int .i64 (i:Int))=some (.ptr id off)/\∀m c t',((cs.drop (i*k)).take k)[m]?=some c->isAggT P t'=some false->loadV P h t' (.ptr id (off+m))=some c:=by
 rcases a.2 with⟨_,rfl⟩|⟨id,n,cap,N,rest,rfl,hg,e1,e2,_⟩
 .grind
 .refine⟨id,i*k,?_,λm c t' hc ht=>BP ht hg ?_⟩
  .simp only[indexAddrV,hu,I,fS];have:i<n:=by
    have h4:i*k+k=(i+1)*k:=by grind
    rw[h4,e1] at hi;exact Nat.lt_of_succ_le (Nh hi hk)
   grind
  grind[gB]
theorem U6 (hX:NS X k w ds)(s:Sat h (.arr k v cs::X::S)){i:TypeInfo}(hu:P.underlying t=some (.slice e))(hi:P.info? e=some i)(hz:zeroT P e=some z)(hk:i.size=k)(hb:i.bytes<=4096)(hl:z.cells.length=k)
 (h1:1<=k)(fY:cs.length+ds.length<=1073741824):
  ∃v' h',appendV P h #[t,t] v w=some (v',h')/\Sat h' (.arr k v' (cs++ds)::X::S):=by
 have adP:=s.JM (j:=0) U;have am:=s.B2 (j:=1) U hX;have sJ:=am.1;have kK:(cs++ds).all storable=true:=by grind
 -- what is appended
 have xS:∃m,srcV h k w=some (ds,m)/\ds.length=m*k:=by
  rcases am.2 with⟨rfl,rfl⟩|⟨id,n,cap,N,rest,rfl,hg,e1,e2,e3,e4⟩
  .exact⟨0,U,by simp⟩
  .refine⟨n,?_,e1⟩;simp only[srcV];rw[pL hg (by grind)];grind
 obtain⟨m,xS,hm⟩:=xS;have I:∀n:Nat,n*k=cs.length->lB (n+m) i.bytes=true:=λn hn=>by
  have e2:n+m<=(n+m)*k:=Nat.le_mul_of_pos_right _ h1;have e3:(n+m)*i.bytes<=(n+m)*4096:=CV _ hb;grind[ow]
 have pH:∀(σ:H) (n:Nat) (T:List aG),Sat σ T->n*k=cs.length->1<=m->Sat (j6 σ k cs ds (n+m)).2 (.arr k (j6 σ k cs ds (n+m)).1 (cs++ds)::T):=by
  intro σ n T sT hn o7;refine(sT.new (.cells ((n+m)*k) (cs++ds) false)).eD λa r D3=>⟨kK,.inr ⟨σ.next,n+m,.rest k 0,(n+m)*k,[],U,by rw[gd];exact D3,by grind,by grind,U,U,U,U,by omega⟩⟩
 unfold appendV;simp only[hu,hi,hz,hk,hl,xS];rw[show(Nat.ble 1 k&&Nat.ble i.bytes 4096&&Nat.beq k k)=true by simp_all,ag];cases Bx:Nat.beq m 0 with
 |true =>
  have:m=0:=beq_iff.1 Bx;subst this;have xh:ds=[]:=iK (by omega);subst xh;obtain⟨m,r,q1,q2,q3⟩:=s.at (k:=0) U;rcases q3.2 with⟨rfl,rfl⟩|⟨id,n,cap,N,rest,rfl,hg,e1,e2,e3,e4⟩
  .grind
  .grind
 |false =>
  have o7:1<=m:=by
   grind[qT]
  obtain⟨a,r,q1,q2,q3⟩:=s.at (k:=0) U;rcases q3.2 with⟨rfl,rfl⟩|⟨id,n,cap,N,rest,rfl,hg,e1,e2,e3,e4⟩
  .have hg:=I 0 (by simp);rw[eW] at hg;simp only[hg,ag];have:=pH h 0 (.arr k .aZ []::X::S) s (by simp) o7;rw[eW] at this;refine⟨_,_,U,?_⟩;exact(this.sE [1]).drop
  .cases cap with
   |exact c =>
    obtain⟨e4,e5⟩:=e4;simp only[eW];have kU:(cs++rest).take cs.length=cs:=ga U;cases hq:Nat.ble (n+m) c with
    |true =>
     have Bt:=aR.1 hq;have dL:n*k+ds.length<=N:=by rw[hm,<-yG,e4];exact qb _ Bt
     rw[yZ (q1 _ _ hg) (by grind) dL];obtain⟨m',r',p1,p2,p3,x1,x2,x3,x4,x5,⟨_,x6⟩,x7⟩:=s.ok;have pG:x1 id=some (.cells N (cs++rest) false):=by
      rcases x6 with⟨x6,_⟩|⟨wS,n',Ej,N',Xr,x6,x8,x9,XD,_⟩
      .cases x6
      .injection x6 with y1 y2 y3 y4;subst y1;rw[x8];have:=p1 _ _ (x4 _ _ x8);rw[q1 _ _ hg] at this;injection this with this;rw[this]
     have s0:Sat h (pt id (.cells N (cs++rest) false)::X::S):=⟨s.wf,m',r',p1,p2,p3,x1,x2,x3,x4,x5,pG,x7⟩;have s1:=s0.put (k:=0) (o':=.cells N ((cs++rest).take (n*k)++(ds++(cs++rest).drop (n*k+ds.length))) false) U;refine⟨_,_,U,Sat.eD s1 λa' r'' ha=>⟨kK,.inr ⟨id,n+m,.exact c,N,rest.drop ds.length,U,?_,by grind,by grind,?_,e4,Bt⟩⟩⟩
     .have ha':a' id=some (.cells N ((cs++rest).take (n*k)++(ds++(cs++rest).drop (n*k+ds.length))) false):=ha;simp_all[vE]
     .grind
    |false =>
     rw[aS,I n e1.symm,ag,pL (q1 _ _ hg) (by grind)];rw[gi,<-e1,kU];have:=pH h n _ s e1.symm o7;exact⟨_,_,U,(this.sE [1]).drop⟩
   |rest e' alt =>
    obtain⟨ek,rfl,rfl,e7⟩:=e4;have ek:=ek.symm;subst ek;simp only[kg,ag,gd,eW] at hg e2 ⊢;have v7:fJ h id 0 k=n:=by
     simp only[fJ,q1 _ _ hg];grind[Nat.mul_div_cancel]
    rw[v7];rw[show Nat.ble (n+m) n=false by
     grind[aR],aS,I n e1.symm,show Nat.ble 2 ((n+m)*k)=true from aR.2 (by
      have:2*1<=(n+m)*k:=tC (by omega) h1;omega),kf,ag,pL (q1 _ _ hg) (by omega),q1 _ _ hg]
    simp only;obtain⟨m',r',p1,p2,p3,x1,x2,x3,x4,x5,⟨_,x6⟩,x7⟩:=s.ok;have pG:x1 id=some (.cells N cs false):=by
     grind
    have s0:Sat h (pt id (.cells N cs false)::X::S):=⟨s.wf,m',r',p1,p2,p3,x1,x2,x3,x4,x5,pG,x7⟩;have:=pH (h.put id none) n _ s0.kill e1.symm o7;rw[gi,g_ (by omega)];exact⟨_,_,U,this⟩
theorem iw (s:Sat h (.arr k v cs::.arr k w ds::S)){i:TypeInfo}(hu:P.underlying t=some (.slice e))(hi:P.info? e=some i)(hz:zeroT P e=some z)(hk:i.size=k)(hb:i.bytes<=4096)(hl:z.cells.length=k)
 (h1:1<=k)(I:cs.length+ds.length<=1073741824):
  ∃v' h',appendV P h #[t,t] v w=some (v',h')/\Sat h' (.arr k v' (cs++ds)::.arr k w ds::S):=U6 (jg _ _ _) s hu hi hz hk hb hl h1 I
def roH (k:Nat)(v:V)(cs:List V): aG:=.xs λo:Option (Nat×Nat×Cap×Nat×List V)=>match o with
 |none=>.pu (cs.all storable=true/\v=.aZ/\cs=[])
 |some (id,n,cap,N,rest)=>.an (.ro id (.cells N (cs++rest) false)) (.pu (cs.all storable=true/\v=.sl id 0 n cap/\cs.length=n*k/\cs.length+rest.length=N/\rest.all storable=true /\
  (match cap with|.exact c=>N=c*k/\n<=c|.rest e alt=>e=k/\alt=0/\rest=[]/\1<=n)))
theorem FR (k:Nat)(v:V)(cs:List V): NS (roH k v cs) k v cs:=λm r h=>by
 obtain⟨_|⟨id,n,cap,N,rest⟩,h⟩:=h
 .exact .inr ⟨h.1,.inl h.2⟩
 .exact .inr ⟨h.2.1,.inr ⟨id,n,cap,N,rest,h.2.2.1,h.1,h.2.2.2⟩⟩
theorem Sat.rW (s:Sat h (.arr k v cs::S)): Sat h (roH k v cs::S):=by
 obtain⟨m,r,h1,h2,h3,a,b,g1,g2,g3,⟨I,g4⟩,g5⟩:=s.ok;rcases g4 with⟨e1,e2⟩|⟨id,n,cap,N,rest,e,hg,q⟩
 .exact j8.2 ⟨none,s.drop.ir ⟨I,e1,e2⟩⟩
 .have s1:Sat h (pt id (.cells N (cs++rest) false)::S):=⟨s.wf,m,r,h1,h2,h3,a,b,g1,g2,g3,hg,g5⟩;exact j8.2 ⟨some (id,n,cap,N,rest),s1.freeze.eD λa b hq=>⟨hq,I,e,q⟩⟩
end
section
variable {h:H} {v w x:V}
theorem Sat.gX {l:List V}(s:Sat h S)(hk:getA S j=some (pt id (.cells n cs false)))(hs:bq P t=some n)(hl:l.length=n)(I:l.all storable=true):
  ∃h₁,j7 P h t (.ptr id 0) (.agg l)=some h₁/\Sat h₁ (setA S j (pt id (.cells n l false))):=by
 refine⟨h.put id (some (.cells n l false)),?_,s.put hk⟩;simp only[j7,hs,V.cells,I,hl,kg,kf,ag,wrN,s.row hk];grind[aR]
theorem kY (s:Sat h S)(hu:P.underlying t=some (.slice e))(hz:zeroT P e=some z)(hk:bq P e=some k)(hl:z.cells.length=k)(h1:1<=k)(h2:k<=65536)(hx:x.cells.length=k)(I:x.cells.all storable=true):
  ∃v h',buildSliceV P h t 1 [(0,x)]=some (v,h')/\Sat h' (.arr k v x.cells::S):=by
 refine⟨.sl h.next 0 1 (.exact 1),newRow h x.cells,?_,?_⟩
 .grind[buildSliceV,repeatL,fillV,Nat.beq_refl,aR]
 .refine(s.new _).eD λm r hm=>⟨I,.inr ⟨h.next,1,.exact 1,k,[],U,?_,by omega,by omega,U,by omega,aH _⟩⟩
  rw[hm,hx,gd]
end
section
variable {h:H} {v w x:V}
theorem ViewM.slice {m:PM}(hv:ViewM m v l)(mq:a<=b)(hb:b<=l.length): ViewM m (slR v a b) ((l.take b).drop a):=by
 have I:∀x∈(l.take b).drop a,x<256:=λx hx=>hv.1 x (iL (jd hx));have hlen:((l.take b).drop a).length=b-a:=by grind
 obtain⟨hl,Kx⟩:=hv;rcases Kx with⟨rfl|⟨ea,rfl⟩,rfl⟩|⟨id,off,cap,n,cs,st,rfl,hg,h1,h2,h3,h4⟩
 .simp at hb
  subst_vars
  exact⟨by simp,.inl ⟨.inl U,by simp⟩⟩
 .simp at hb
  subst_vars
  exact⟨by simp,.inl ⟨.inr ⟨ea,U⟩,by simp⟩⟩
 .have JE:∀o,o=off+a\/b-a=0->(cs.drop o).take (b-a)=ofBytes ((l.take b).drop a):=by
   grind[ofBytes,List.map_take,List.map_drop,List.drop_take,List.drop_drop]
  cases cap with
  |exact c =>
   refine⟨I,.inr ⟨id,_,_,n,cs,st,by rw[hlen];rfl,hg,h1,?_,?_,?_⟩⟩<;>grind[fO]
  |rest e alt =>
   exact⟨I,.inr ⟨id,_,_,n,cs,st,by rw[hlen];rfl,hg,h1,by omega,by grind,U⟩⟩
theorem Ep (hX:cy X (cE v l))(I:a<=b)(hb:b<=l.length): cy X (cE (slR v a b) ((l.take b).drop a)):=λm r hm =>
 (hX m r hm).imp (λh=>ViewM.slice h I hb) (λh=>ViewM.slice h I hb)
theorem NT (I:cy X (cE v l))(ha:a<=l.length): cy X (cE (slR v a l.length) (l.drop a)):=by
 grind[Ep,List.take_length]
theorem Sat.lJ (s:Sat h S): Sat h (.arr k .aZ []::S):=(s.ir aa).eD λ_ _ _=>⟨U,.inl ⟨U,U⟩⟩
theorem Sat.FT (s:Sat h S): Sat h (aY .aZ []::S):=(s.ir aa).eD λ_ _ _=>⟨by simp,.inl ⟨U,U⟩⟩
theorem Sat.vm (s:Sat h S): Sat h (oh .aZ []::S):=(s.ir aa).eD λ_ _ _=>⟨by simp,.inl ⟨.inl U,U⟩⟩
theorem IK (s:Sat h S){i:TypeInfo}(hu:P.underlying t=some (.slice e))(hi:P.info? e=some i)(I:zeroT P e=some z)(hk:i.size=k)(hb:i.bytes<=4096)(hl:z.cells.length=k)
 (h1:1<=k)(hn:n<1073741824):
  ∃id h',makeSliceV P h t (.int .i64 (n:Int)) (.int .i64 (n:Int))=some (.sl id 0 n (.exact n),h')/\Sat h' (pt id (.cells (n*k) (repeatL z.cells n) false)::S):=by
 refine⟨h.next,h.new (.cells (n*k) (repeatL z.cells n) false),?_,s.new _⟩<;>grind[makeSliceV,aR,Nat.beq_refl]
theorem tK {o:Nat}{c:Cap}(hv:v=.sl i o n c)(hu:P.underlying t=some (.slice e)): lenV P h t v=some (.int .i64 n):=by subst hv;exact aaZ hu
theorem adQ {ts:Array TypeId}{k:IntKind}{a b:Int}: builtinV P h .min ts [.int k a,.int k b]=some (.int k (min a b),h):=by
 grind[builtinV,foldV,Bo,fe]
theorem KB {c:Go.Call}{b:Builtin}(I:c.callee=.builtin b)(ha:lookArgs E c.args.toList=some args)(hf:builtinV P h b c.argTypes args=some (r,h')): opE P E h (.call c)=some (r,h'):=by
 simp only[opE,I,ha,hf]
end
def slR3 (v:V)(a b m:Nat): V:=match v with
 |.sl id off _ _=>.sl id (cond (Nat.beq m a) off (off+a*1)) (b-a) (.exact (m-a))
 |v=>v
section
variable {h:H} {v w x:V}
theorem ViewM.slice3 {m:PM}(hv:ViewM m v l)(mq:a<=b)(hb:b<=c)(hc:c<=l.length)(hl:1<=l.length): ViewM m (slR3 v a b c) ((l.take b).drop a):=by
 have I:∀x∈(l.take b).drop a,x<256:=λx hx=>hv.1 x (iL (jd hx));have hlen:((l.take b).drop a).length=b-a:=by grind
 obtain⟨_,Kx⟩:=hv;rcases Kx with⟨_,rfl⟩|⟨id,off,cap,n,cs,st,rfl,hg,h1,h2,h3,h4⟩
 .grind
 .have JE:∀o,o=off+a\/b-a=0->(cs.drop o).take (b-a)=ofBytes ((l.take b).drop a):=by
   grind[ofBytes,List.map_take,List.map_drop,List.drop_take,List.drop_drop]
  refine⟨I,.inr ⟨id,_,_,n,cs,st,by rw[hlen];rfl,hg,h1,?_,?_,?_⟩⟩<;>grind[fO]
theorem B3 (hX:cy X (cE v l))(I:a<=b)(hb:b<=c)(hc:c<=l.length)(hl:1<=l.length): cy X (cE (slR3 v a b c) ((l.take b).drop a)):=λm r hm =>
 (hX m r hm).imp (λh=>ViewM.slice3 h I hb hc hl) (λh=>ViewM.slice3 h I hb hc hl)
theorem uc (hv:View h v l)(mq:a<=b)(hb:b<=c)(hc:c<=l.length)(hl:1<=l.length): sliceV Tryz.prog h 29 v (some a) (some b) (some c)=some (slR3 v a b c):=by
 obtain⟨_,I⟩:=hv;rcases I with⟨_,rfl⟩|⟨id,off,cap,n,cs,st,rfl,hg,h1,h2,h3,h4⟩
 .grind
 .cases cap with
  |exact q =>
   simp only[sliceV,slR3,aP,fF,dw];grind[aR]
  |rest e alt =>
   have he:e=1:=h4;subst he;simp only[sliceV,slR3,aP,fF,dw,kg];grind[Nat.blt,aR]
theorem iC (hv:View h v l)(hl:1<=l.length:=by omega): ∃id off cap,v=.sl id off l.length cap:=by
 rcases hv.2 with⟨_,rfl⟩|⟨id,off,cap,_,_,_,rfl,_⟩<;>grind
theorem bN {k:IntKind}{n:Int}(I:0<=n:=by omega): mA (some (V.int k n))=some (some n.toNat):=by
 grind[mA,bndV]
end
section
variable {h:H} {v w x:V} {m:List Nat}
theorem aba (s:Sat h S)(hj:getA S j=some (.arr q v cs))(hi:i*q+q<=cs.length)(hq:1<=q)(hu:P.underlying t=some (.slice e))(I:bq P e=some q):
  ∃id off,indexAddrV P t v (.int .i64 (i:Int))=some (.ptr id off)/\(isAggT P e=some true->loadV P h e (.ptr id off)=some (.agg ((cs.drop (i*q)).take q))):=by
 obtain⟨m,r,h1,h2,h3⟩:=s.at hj;rcases h3.2 with⟨_,rfl⟩|⟨id,n,cap,N,rest,rfl,hg,e1,e2,_⟩
 .grind
 .refine⟨id,i*q,?_,λht => ?_⟩
  .simp only[indexAddrV,hu,I,fS];have:i<n:=by
    have h4:i*q+q=(i+1)*q:=by grind
    rw[h4,e1] at hi;exact Nat.lt_of_succ_le (Nh hi hq)
   grind
  .rw[ldN ht I (h1 _ _ hg) (by grind) (by omega)];grind
theorem Sat.abb (s:Sat h (aY v l::X::S))(hX:cy X (cE w m)): ∀i∈rowIds w,i∉rowIds v:=by
 intro i hi fc;obtain⟨a,r,h1,h2,h3,b,c,g1,g2,g3,g4,d,e,k1,k2,k3,k4,k5⟩:=s.ok;have hb:=NG g4 i fc;have hw:∀q:PM,ViewM q w m->q i≠none:=λq hq=>by
  rcases hq.2 with⟨rfl|⟨ea,rfl⟩,_⟩|⟨id,off,cap,n,cs,st,rfl,hg,_⟩<;>grind[rowIds]
 rcases hX _ _ k4 with hq|hq
 .cases hd:d i with
  |none=>grind
  |some o =>
   rcases g1 i with I|I
   .grind
   .rw[k2 _ _ hd] at I;cases I
 .cases hbb:b i with
  |none=>grind
  |some o =>
   rcases h3 i with I|I
   .rw[g2 _ _ hbb] at I;cases I
   .grind
end
abbrev jq := List (Int×V×Nat)
def B4 (κ:IntKind)(e:Int×V×Nat): V×V×Nat:=(.int κ e.1,e.2)
abbrev R5 := B4 .i64
def lookE (n:Int): jq->Option V
 |[]=>none
 |e::l=>if e.1=n then some e.2.1 else lookE n l
def qW (n:Int)(v:V)(c:Nat): jq->jq
 |[]=>[(n,v,c)]
 |e::l=>if e.1=n then(e.1,v,e.2.2)::l else e::qW n v c l
def tL (n:Int): jq->jq
 |[]=>[]
 |e::l=>if e.1=n then l else e::tL n l
def clkE (n:Int)(c:Nat)(l:jq): Nat:=match lookE n l with
 |some _=>c
 |none=>c+1
abbrev pM (κ:IntKind)(id:Nat)(l:jq)(c:Nat): aG:=pt id (.map (l.map (B4 κ)) c)
abbrev KC := pM .i64
def idxE (n:Int): jq->Nat->Option (Nat×V)
 |[],_=>none
 |e::l,i=>if e.1=n then some (i,e.2.1) else idxE n l (i+1)
theorem sK (a b:Int): intBeq a b=decide (a=b):=by
 grind[w6,ua]
theorem y7 {k:IntKind}{n:Int}: ∀(l:jq) (i:Nat),findK (.int k) (.int κ n) (l.map (B4 κ)) i=some (idxE n l i):=by
 intro l;induction l<;>grind[findK,B4,keyBeq,fe,sK,idxE]
theorem uw {n:Int}: ∀(l:jq) (i:Nat),(idxE n l i).map (·.2)=lookE n l:=by
 intro l;induction l<;>grind[idxE,lookE]
theorem NU {n:Int}: ∀(l:jq) (i j:Nat) (v:V),idxE n l i=some (j,v)->i<=j:=by
 intro l;induction l<;>grind[idxE]
theorem acS {n:Int}{v:V}: ∀(l:jq) (i j:Nat) (u:V),idxE n l i=some (j,u)->setNth (l.map (B4 κ)) (j-i) (λe=>(e.1,v,e.2.2))=(qW n v c l).map (B4 κ):=by
 intro l;induction l with
 |nil=>intro i j u h;cases h
 |cons e l ih =>
  intro i j u h;simp only[idxE] at h;simp only[qW,hU,setNth];by_cases he:e.1=n
  .rw[ay he] at h;injection h with h;injection h with I h2;subst I;rw[ay he,gF];rfl
  .rw[ai he] at h;have h3:=NU _ _ _ _ h;grind[fO]
theorem abc {n:Int}: ∀(l:jq) (i j:Nat) (u:V),idxE n l i=some (j,u)->nH (l.map (B4 κ)) (j-i)=(tL n l).map (B4 κ):=by
 intro l;induction l with
 |nil=>intro i j u h;cases h
 |cons e l I =>
  intro i j u h;simp only[idxE] at h;simp only[tL,hU,nH];by_cases he:e.1=n
  .simp_all
  .rw[ai he] at h;have h3:=NU _ _ _ _ h;grind[fO]
theorem Y3 {n:Int}{v:V}: ∀(l:jq),lookE n l=none->qW n v c l=l++[(n,v,c)]:=by
 intro l;induction l<;>grind[lookE,qW]
theorem U7 {n:Int}: ∀(l:jq),lookE n l=none->tL n l=l:=by
 intro l;induction l<;>grind[lookE,tL]
section
variable {h:H} {v:V} {k:IntKind} {l:jq} {n:Int}
theorem Sat.acT (s:Sat h S)(I:getA S j=some (pM κ id l c))(hu:P.underlying t=some (.map kt et))(hk:P.underlying kt=some (.int k))(hz:zeroT P et=some z):
  gA P h t (.map id) (.int κ n) true=some (match lookE n l with|some v=>.aV [v,.bool true]|none=>.aV [z,.bool false]):=by
 have hg:=s.row I;simp only[gA,lookupV,hu,hk,hz,hg,keyBeq,fe,ag,y7];rw[<-uw l 0];cases idxE n l 0<;>grind
theorem Sat.acU (s:Sat h S)(I:getA S j=some (pM κ id l c))(hu:P.underlying t=some (.map kt et))(hk:P.underlying kt=some (.int k))(hz:zeroT P et=some z):
  gA P h t (.map id) (.int κ n) false=some (match lookE n l with|some v=>v|none=>z):=by
 have hg:=s.row I;simp only[gA,lookupV,hu,hk,hz,hg,keyBeq,fe,ag,y7];rw[<-uw l 0];cases idxE n l 0<;>grind
theorem Sat.update (s:Sat h S)(hj:getA S j=some (pM κ id l c))(hu:P.underlying t=some (.map kt et))(hk:P.underlying kt=some (.int k)):
  ∃h',mapUpdateV P h t (.map id) (.int κ n) v=some h'/\Sat h' (setA S j (pM κ id (qW n v c l) (clkE n c l))):=by
 have hg:=s.row hj;refine⟨h.put id (some (.map ((qW n v c l).map (B4 κ)) (clkE n c l))),?_,s.put hj⟩;simp only[mapUpdateV,hu,hk,hg,keyBeq,fe,ag,y7];have hl:=uw (n:=n) l 0;cases I:idxE n l 0 with
 |none =>
  rw[I] at hl;have hl:lookE n l=none:=hl.symm;simp only[clkE,hl,Y3 l hl,rG];rfl
 |some q =>
  obtain⟨i,u⟩:=q;rw[I] at hl;have hl:lookE n l=some u:=hl.symm;simp only[clkE,hl];rw[<-acS (v:=v) (c:=c) l 0 i u I,h_]
theorem Sat.delete (s:Sat h S)(I:getA S j=some (pM κ id l c))(hu:P.underlying t=some (.map kt et))(hk:P.underlying kt=some (.int k)):
  ∃h',rM P h t (.map id) (.int κ n)=some h'/\Sat h' (setA S j (pM κ id (tL n l) c)):=by
 have hg:=s.row I;simp only[rM,hu,hk,hg,keyBeq,fe,ag,y7];have hl:=uw (n:=n) l 0;cases hq:idxE n l 0 with
 |none =>
  rw[hq] at hl;have hl:lookE n l=none:=hl.symm;refine⟨h,U,?_⟩;rw[U7 l hl];have:∀(S:List aG) (j:Nat) (A:aG),getA S j=some A->setA S j A=S:=by
   intro S;induction S with
   |nil=>intro j A h;cases h
   |cons B S ih =>
    intro j A h;cases j<;>grind[getA,setA]
  rw[this S j _ I];exact s
 |some q =>
  obtain⟨i,u⟩:=q;refine⟨_,U,?_⟩;have e:=abc (κ:=κ) l 0 i u hq;rw[h_] at e;rw[e];exact s.put I
theorem Sat.adR (s:Sat h S)(I:getA S j=some (pM κ id l c))(hu:P.underlying t=some (.map kt et)): lenV P h t (.map id)=some (.int .i64 (l.length:Int)):=by
 have hg:=s.row I;simp_all[lenV]
end
section
variable {h:H} {o:Oper} {z:Operand} {a b v:V}
theorem OpR.upd (hE:∀env,mc env E->evOp C (ev C 0) env h o=(match mapUpdateV C.P h t a b v with|some h'=>some (cY,h')|none=>none))
 (ho:∃h₁,mapUpdateV C.P h t a b v=some h₁/\Sat h₁ S'): OpR C E h o λ_ h₁=>Sat h₁ S':=by
 obtain⟨h₁,e1,I⟩:=ho;exact⟨cY,h₁,I,λenv he=>⟨0,by grind⟩⟩
theorem OpR.mapUpdate (I:o.op=.mapUpdate t x y z)(hx:bE E x=some a)(hy:bE E y=some b)(hz:bE E z=some v)
 (ho:∃h₁,mapUpdateV C.P h t a b v=some h₁/\Sat h₁ S'): OpR C E h o λ_ h₁=>Sat h₁ S':=by
 refine OpR.upd (t:=t) (a:=a) (b:=b) (v:=v) (λenv he => ?_) ho;simp only[evOp,I,cF he hx,cF he hy,cF he hz,wT];cases mapUpdateV C.P h t a b v<;>rfl
theorem OpR.builtin {bi:Builtin}{R:V->H->Prop}(I:o.op=.call cl)(hc:cl.callee=.builtin bi)(ha:lookArgs E cl.args.toList=some args)(ho:∃v h₁,builtinV C.P h bi cl.argTypes args=some (v,h₁)/\R v h₁): OpR C E h o R:=by
 grind[OpR.of,opE]
theorem OpR.qy {m:List Nat}(hP:C.P=Tryz.prog)(s:Sat h (aY v l::X::S))(hX:cy X (cE u m))(I:o.op=.call cl)(hc:cl.callee=.builtin .append)(yT:cl.argTypes = #[29,29])(ha:lookArgs E cl.args.toList=some [v,u])
 (fY:l.length+m.length<=140737488355328): OpR C E h o λv' h₁=>Sat h₁ (aY v' (l++m)::X::S):=by
 grind[PG,OpR.builtin,builtinV]
theorem OpR.ux (hP:C.P=Tryz.prog)(s:Sat h S)(I:o.op=.makeSlice t x y)(ht:t=29)(hx:bE E x=some (.int .i64 0))(hy:bE E y=some (.int .i64 (c:Int)))(hc:c<1073741824): OpR C E h o λv' h₁=>Sat h₁ (aY v' []::S):=by
 grind[RZ,OpR.of,Ak]
theorem OpR.FU (hP:C.P=Tryz.prog)(s:Sat h S)(I:o.op=.makeSlice t x y)(ht:t=29)(hx:bE E x=some (.int .i64 (c:Int)))(hy:bE E y=some (.int .i64 (c:Int)))(hc:c<1073741824): OpR C E h o λv' h₁=>Sat h₁ (aY v' (List.replicate c 0)::S):=by
 grind[R1,OpR.of,Ak]
theorem OpR.acV {m:List Nat}{p:Nat}(hP:C.P=Tryz.prog)(s:Sat h (aY v l::X::S))(hX:cy X (cE u m))(I:o.op=.call cl)(hc:cl.callee=.builtin .copy)(yT:cl.argTypes = #[29,29])(ha:lookArgs E cl.args.toList=some [slR v p q,u])
 (hpq:p<q)(hq:q<=l.length)(hm:1<=m.length): OpR C E h o λ_ h₁=>Sat h₁ (aY v (az l p (m.take (q-p)))::X::S):=by
 grind[KA,OpR.builtin,builtinV]
theorem OpR.JN (hP:C.P=Tryz.prog)(s:Sat h S)(I:o.op=.buildSlice t 1 ps)(ht:t=29)(hx:lookParts E ps.toList=some [(0,.int .u8 (n:Int))])(hn:n<256): OpR C E h o λv' h₁=>Sat h₁ (aY v' [n]::S):=by
 grind[R2,OpR.of,iZ]
end
section
def lookL (n:Int): List (Int×α)->Option α
 |[]=>none
 |e::l=>if e.1=n then some e.2 else lookL n l
def cD (n:Int)(a:α): List (Int×α)->List (Int×α)
 |[]=>[(n,a)]
 |e::l=>if e.1=n then(n,a)::l else e::cD n a l
def qz (n:Int): List (Int×α)->List (Int×α)
 |[]=>[]
 |e::l=>if e.1=n then l else e::qz n l
theorem mP {n k:Int}{a:α}: ∀l:List (Int×α),lookL k (cD n a l)=if n=k then some a else lookL k l:=by
 intro l;induction l<;>grind[cD,lookL]
theorem vn {n:Int}: ∀ {l:List (Int×α)},lookL n l=none↔n∉l.map (·.1):=by
 intro l;induction l<;>grind[lookL]
theorem IL {n k:Int}: ∀ {l:List (Int×α)},(l.map (·.1)).Nodup->lookL k (qz n l)=if n=k then none else lookL k l:=by
 intro l;induction l<;>grind[qz,lookL,vn]
theorem wA {n:Int}{a:α}: ∀ {l:List (Int×α)} {k:Int},k∈(cD n a l).map (·.1)↔k=n\/k∈l.map (·.1):=by
 intro l;induction l<;>grind[cD]
theorem oA {n:Int}{a:α}: ∀ {l:List (Int×α)},(l.map (·.1)).Nodup->((cD n a l).map (·.1)).Nodup:=by
 intro l;induction l<;>grind[cD,wA]
theorem U8 {n:Int}: ∀ {l:List (Int×α)} {k:Int},k∈(qz n l).map (·.1)->k∈l.map (·.1):=by
 intro l;induction l<;>grind[qz]
theorem As {n:Int}: ∀ {l:List (Int×α)},(l.map (·.1)).Nodup->((qz n l).map (·.1)).Nodup:=by
 intro l;induction l<;>grind[qz,U8]
def jD (f:V->α->aG): jq->List (Int×α)->aG
 |[],[]=>.pu True
 |e::l,x::m=>.an (.an (.pu (e.1=x.1)) (f e.2.1 x.2)) (jD f l m)
 |_,_=>.pu False
variable {f:V->α->aG} {a b:PM}
theorem FW : ∀ {l:jq} {m:List (Int×α)},(jD f l m).p a b->l.map (·.1)=m.map (·.1):=by
 intro l;induction l with
 |nil=>intro m h;cases m with
  |nil=>rfl
  |cons x m=>exact h.elim
 |cons e l I=>intro m h;cases m with
  |nil=>exact h.elim
  |cons x m=>simp only[hU];rw[h.1.1,I h.2]
theorem vo {n:Int}: ∀ {l:jq} {m:List (Int×α)},(jD f l m).p a b->(lookE n l=none/\lookL n m=none)\/∃u x,lookE n l=some u/\lookL n m=some x/\(f u x).p a b:=by
 intro l;induction l with
 |nil=>intro m h;cases m with
  |nil=>exact .inl ⟨U,U⟩
  |cons x m=>exact h.elim
 |cons e l ih=>intro m h;cases m with
  |nil=>exact h.elim
  |cons x m =>
   obtain⟨⟨I,h2⟩,h3⟩:=h;have I:e.1=x.1:=I;grind[lookE,lookL]
theorem R6 {n:Int}{x:α}(hu:(f u x).p a b): ∀ {l:jq} {m:List (Int×α)},(jD f l m).p a b->(jD f (qW n u c l) (cD n x m)).p a b:=by
 intro l;induction l with
 |nil=>intro m h;cases m with
  |nil=>exact⟨⟨U,hu⟩,aa⟩
  |cons x m=>exact h.elim
 |cons e l ih=>intro m h;cases m with
  |nil=>exact h.elim
  |cons y m =>
   obtain⟨⟨I,h2⟩,h3⟩:=h;have I:e.1=y.1:=I;simp only[qW,cD,<-I];by_cases he:e.1=n
   .rw[ay he,ay he];exact⟨⟨he,hu⟩,h3⟩
   .rw[ai he,ai he];exact⟨⟨I,h2⟩,ih h3⟩
theorem R7 {n:Int}: ∀ {l:jq} {m:List (Int×α)},(jD f l m).p a b->(jD f (tL n l) (qz n m)).p a b:=by
 intro l;induction l with
 |nil=>intro m h;cases m with
  |nil=>trivial
  |cons x m=>exact h.elim
 |cons e l ih=>intro m h;cases m with
  |nil=>exact h.elim
  |cons y m =>
   obtain⟨⟨I,h2⟩,h3⟩:=h;have I:e.1=y.1:=I;simp only[tL,qz,<-I];by_cases he:e.1=n
   .grind
   .rw[ai he,ai he];exact⟨⟨I,h2⟩,ih h3⟩
theorem bf.U9 (I:∀u x,bf (f u x)): ∀(l:jq) (m:List (Int×α)),bf (jD f l m):=by
 intro l;induction l with
 |nil=>intro m;cases m<;>exact bf.pu _
 |cons e l ih=>intro m;cases m with
  |nil=>exact bf.pu _
  |cons x m=>exact bf.an (bf.an (bf.pu _) (I _ _)) (ih m)
def sL (c:Nat): Nat->jq->Prop
 |_,[]=>True
 |b,e::l=>b<=e.2.2/\e.2.2<c/\sL c (e.2.2+1) l
theorem PI : ∀ {l:jq} {b b':Nat},b'<=b->sL c b l->sL c b' l:=by
 intro l;cases l with
 |nil=>intro b b' _ _;trivial
 |cons e l=>intro b b' h I;exact⟨c_ h I.1,I.2⟩
theorem R8 {k:Int}(hn:n=c): ∀ {l:jq} {b:Nat},b<=c->sL c b l->sL (clkE k c l) b (qW k u n l):=by
 subst hn;intro l;induction l with
 |nil=>intro b hb _;exact⟨hb,tu _,aa⟩
 |cons e l ih =>
  intro b hb h;have I:=ih (b:=e.2.2+1) (by have:=h.2.1;omega) h.2.2;by_cases he:e.1=k
  .simp only[qW,clkE,lookE,ay he];exact h
  .simp only[qW,clkE,lookE,ai he];refine⟨h.1,?_,I⟩;have:=h.2.1;split<;>omega
theorem R9 {k:Int}: ∀ {l:jq} {b:Nat},sL c b l->sL c b (tL k l):=by
 intro l;induction l with
 |nil=>intro b h;exact h
 |cons e l I =>
  intro b h;simp only[tL];by_cases he:e.1=k
  .rw[ay he];exact PI (by have:=h.1;omega) h.2.2
  .rw[ai he];exact⟨h.1,h.2.1,I h.2.2⟩
def sM (κ:IntKind)(f:V->α->aG)(v:V)(m:List (Int×α)): aG :=
 xs λid:Nat=>xs λl:jq=>xs λc:Nat=>star [.pu (v=.map id/\sL c 0 l/\(m.map (·.1)).Nodup),pM κ id l c,jD f l m]
abbrev pN {α:Type}(f:V->α->aG)(v:V)(m:List (Int×α)): aG:=sM .i64 f v m
section
variable {h:H} {v:V} {k:IntKind} {m:List (Int×α)} {n:Int} {x:α}
theorem lT : Sat h (sM κ f v m::S)↔∃id l c,v=.map id/\sL c 0 l/\(m.map (·.1)).Nodup/\Sat h (pM κ id l c::jD f l m::S):=by
 simp[sM,j8,dx,ur,and_assoc]
theorem xj : Sat h (pN f v m::S)↔∃id l c,v=.map id/\sL c 0 l/\(m.map (·.1)).Nodup/\Sat h (KC id l c::jD f l m::S):=lT
theorem om (hf:∀u x,bf (f u x))(s:Sat h (sM κ f v m::S))(hu:P.underlying t=some (.map kt et))(I:P.underlying kt=some (.int k))(hz:zeroT P et=some z):
  (lookL n m=none/\gA P h t v (.int κ n) true=some (.aV [z,.bool false])/\gA P h t v (.int κ n) false=some z) \/
  ∃u x,lookL n m=some x/\gA P h t v (.int κ n) true=some (.aV [u,.bool true])/\gA P h t v (.int κ n) false=some u/\Sat h (f u x::sM κ f v m::S):=by
 obtain⟨id,l,c,rfl,hb,hn,s1⟩:=lT.1 s;have e2:=s1.acT (n:=n) (j:=0) U hu I hz;have e1:=s1.acU (n:=n) (j:=0) U hu I hz;obtain⟨a,b,q1,q2,q3⟩:=s1.at (k:=1) U;rcases vo (n:=n) q3 with⟨g1,g2⟩|⟨u,x,g1,g2,g3⟩
 .grind
 .rw[g1] at e1 e2;refine .inr ⟨u,x,g2,e2,e1,?_⟩;have s2:Sat h (jD f l m::pM κ id l c::S):=s1.sE [1];have s3:=s2.dup (bf.U9 hf l m);have s4:Sat h (f u x::jD f l m::pM κ id l c::S):=s3.eD λa' b' h'=>by
   grind[vo]
  have s5:Sat h (pM κ id l c::jD f l m::f u x::S):=s4.sE [2,1];exact(lT.2 ⟨id,l,c,U,hb,hn,s5⟩:Sat h (sM κ f (.map id) m::f u x::S)).sE [1]
theorem oB (I:∀u x,bf (f u x))(s:Sat h (f u x::sM κ f v m::S))(hu:P.underlying t=some (.map kt et))(hk:P.underlying kt=some (.int k)):
  ∃h',mapUpdateV P h t v (.int κ n) u=some h'/\Sat h' (sM κ f v (cD n x m)::S):=by
 have s0:Sat h (sM κ f v m::f u x::S):=s.sE [1];obtain⟨id,l,c,rfl,hb,hn,s1⟩:=lT.1 s0;obtain⟨h',e1,e2⟩:=s1.update (n:=n) (v:=u) (j:=0) U hu hk;refine⟨h',e1,?_⟩;have e3:Sat h' (f u x::jD f l m::pM κ id (qW n u c l) (clkE n c l)::S):=e2.sE [2,1];have e4:Sat h' (jD f (qW n u c l) (cD n x m)::pM κ id (qW n u c l) (clkE n c l)::S):=e3.map λa b h=>by
  obtain⟨p1,p2,d1,d2,d3,d4,p3,p4,d5,d6,d7,d8,d9⟩:=h;exact⟨λ_=>none,p4,λ_=>.inl U,λ_ _ h=>(by cases h),PM.le_trans d7 d3,R6 (I _ _ _ _ d4) (bf.U9 I _ _ _ _ d8),d9⟩
 exact lT.2 ⟨id,_,_,U,R8 U (gG _) hb,oA hn,e4.sE [1]⟩
theorem U_ (s:Sat h (sM κ f v m::S))(hu:P.underlying t=some (.map kt et))(I:P.underlying kt=some (.int k)):
  ∃h',rM P h t v (.int κ n)=some h'/\Sat h' (sM κ f v (qz n m)::S):=by
 obtain⟨id,l,c,rfl,hb,hn,s1⟩:=lT.1 s;obtain⟨h',e1,e2⟩:=s1.delete (n:=n) (j:=0) U hu I;refine⟨h',e1,?_⟩;have e3:Sat h' (jD f l m::pM κ id (tL n l) c::S):=e2.sE [1];have e4:Sat h' (jD f (tL n l) (qz n m)::pM κ id (tL n l) c::S):=e3.eD λa b h=>R7 h;exact lT.2 ⟨id,_,_,U,R9 hb,As hn,e4.sE [1]⟩
theorem Va (s:Sat h (sM κ f v m::S))(hu:P.underlying t=some (.map kt et)): lenV P h t v=some (.int .i64 (m.length:Int)):=by
 obtain⟨id,l,c,rfl,hb,hn,s1⟩:=lT.1 s;have e:=s1.adR (j:=0) U hu;obtain⟨a,b,q1,q2,I⟩:=s1.at (k:=1) U;have:=dg List.length (FW I);grind
theorem Vb (s:Sat h (pt id (.map [] 0)::S)): Sat h (sM κ f (.map id) []::S):=by
 have s1:Sat h (jD f [] []::pt id (.map [] 0)::S):=s.ir aa;exact lT.2 ⟨id,[],0,U,aa,by simp,s1.sE [1]⟩
theorem qX (s:Sat h (pt id (.map [] 0)::S)): Sat h (pN f (.map id) []::S):=Vb s
theorem KD (s:Sat h S)(I:getA S j=some (sM κ f v m)): ∃id,v=.map id:=by
 have s1:=s.take j I;grind[lT]
end
end
theorem OpR.delete {h:H}{o:Oper}{u:TypeId}{m k:V}(I:o.op=.call cl)(hc:cl.callee=.builtin .delete)(yT:cl.argTypes = #[t,u])(ha:lookArgs E cl.args.toList=some [m,k])
 (ho:∃h₁,rM C.P h t m k=some h₁/\Sat h₁ S'): OpR C E h o λ_ h₁=>Sat h₁ S':=by
 obtain⟨h₁,e1,e2⟩:=ho;refine OpR.builtin I hc ha ⟨.aV [],h₁,?_,e2⟩<;>grind[builtinV]
end Go.Proofs.YtdonpgpfplgigaaGreat.Am
