/- TreeFull: a part of its proof; conditions: its statement's. -/
import Derived.Test.YtdonpgpfplgigaaGreatS01
import Derived.Scope
import Derived.Test.YtdonpgpfplgigaaGreatProg
import Derived.KernelRfl
import Derived.Shelf.SlIterI.Sorted
import Derived.Defers
import Derived.Recover
set_option linter.defProp false
namespace Go.Proofs.YtdonpgpfplgigaaGreat.Am
open Go
def aP:=@Tryz.underlying29
def FE:=@Tryz.func211
abbrev cu:=Nat->Option (List V->H->Option (V×H))
variable {ps:Array (Nat×Operand)} {ops:Array Oper} {st:Bool} {C:gO} {code:Code} {c₀:Ctx} {env:Env} {Q:Ex->List (Nat×V)->H->Prop} {fn:Func} {h h' σ h₁ fb:H} {κ:IntKind} {E E':List (Nat×V)} {R:List (Nat×V)->H->Prop} {d₀:List Deferred} {hs:List H} {fL es l:List Nat} {L rest:List Oper} {args first cap vs cs ds:List V} {a b i c k id n d off j g vq k' q:Nat} {Hs:Nat->H} {early:Nat->Option (Nat×FV)} {Fl:Nat->Prop} {vv:Nat->V} {o':Obj} {x y:Operand} {P:Program} {φ:Prop} {self:Self} {s':St} {α:Type} {td:TypeDesc} {t t' e kt et:TypeId} {r u z:V} {BG:V->H->Prop} {w₀ w:World}
theorem Vi {a b:IntKind}(h:ikBeq a b=true): a=b:=by cases a<;>cases b<;>first|rfl|(simp[ikBeq] at h)
theorem xn {a b:Int}(h:intBeq a b=true): a=b:=by
 cases a<;>cases b<;>simp[intBeq] at h<;>rw[h]
theorem FF : ∀ {a b:List Nat},natsBeq a b=true->a=b
 |[],[],_=>rfl
 |[],_::_,h=>by simp[natsBeq] at h
 |_::_,[],h=>by simp[natsBeq] at h
 |x::a,y::b,h=>by
  simp only[natsBeq] at h;cases I:Nat.beq x y with
  |false=>grind
  |true=>rw[I,ag] at h;rw[beq_iff.1 I,FF h]
theorem R6 {a b:Cap}(h:a.beq b=true): a=b:=by
 cases a<;>cases b<;>simp[Cap.beq] at h
 .rw[h]
 .grind
mutual
theorem HI : ∀(a b:V),V.beq a b=true->a=b
 |.bool a,b,h=>by cases b<;>simp[V.beq] at h;rw[h]
 |.int j a,b,h=>by
  cases b<;>simp[V.beq] at h
  rw[Vi h.1,xn h.2]
 |.str a,b,h=>by cases b<;>simp[V.beq] at h;rw[FF h]
 |.cg,b,h=>by cases b<;>simp[V.beq] at h;rfl
 |.ptr x y,b,h=>by cases b<;>simp[V.beq] at h;rw[h.1,h.2]
 |.aZ,b,h=>by cases b<;>simp[V.beq] at h;rfl
 |.sl x y z u,b,h=>by
  cases b<;>simp[V.beq] at h
  rw[h.1.1.1,h.1.1.2,h.1.2,R6 h.2]
 |.mZ,b,h=>by cases b<;>simp[V.beq] at h;rfl
 |.map x,b,h=>by cases b<;>simp[V.beq] at h;rw[h]
 |.fn f x y,b,h=>by
  cases f with
  |func k=>cases b with
   |fn g u v=>cases g with
    |func j =>
     simp[V.beq] at h;rw[h.1.1,wD x u h.1.2,wD y v h.2]
    |_=>simp[V.beq] at h
   |_=>simp[V.beq] at h
  |_=>cases b<;>simp[V.beq] at h
 |.Iv,b,h=>by cases b<;>simp[V.beq] at h;rfl
 |.iface t v,b,h=>by
  cases b<;>simp[V.beq] at h
  rw[h.1,HI v _ h.2]
 |.qE,b,h=>by cases b<;>simp[V.beq] at h;rfl
 |.agg l,b,h=>by cases b<;>simp[V.beq] at h;rw[wD l _ h]
 |.aX l,b,h=>by cases b<;>simp[V.beq] at h;rw[wD l _ h]
 |.Rx _,b,h=>by cases b<;>simp[V.beq] at h
 |.sle a,b,h=>by cases b<;>simp[V.beq] at h;rw[h]
 |.wg k x,b,h=>by
  cases b with
  |wg j y =>
   simp[V.beq] at h;rw[h.2];cases k<;>cases j<;>first|rfl|(simp[fkBeq] at h)
  |_=>simp[V.beq] at h
theorem wD : ∀(a b:List V),V.beqL a b=true->a=b
 |[],b,h=>by cases b<;>simp[V.beqL] at h;rfl
 |x::a,b,h=>by
  cases b with
  |nil=>simp[V.beqL] at h
  |cons y b =>
   simp only[V.beqL] at h;cases I:V.beq x y with
   |false=>rw[I] at h;cases h
   |true=>rw[I,ag] at h;rw[HI x y I,wD a b h]
end
theorem HJ {m:Nat}: ∀(es:List Nat),(∀idx p,idx<m8 m es->es[idx]?=some p->bit m p=true)/\m8 m es<=es.length:=by
 intro es;induction es<;>grind[m8]
theorem Vj {m:Nat}: ∀(es:List Nat),sq m es=true->∀(I aa8 p q:Nat),I<=aa8->es[I]?=some p->es[aa8]?=some q->bit m q=true->bit m p=true:=by
 intro es;induction es<;>grind[sq]
theorem NU : ∀(es:List Nat),qz fL i es<=es.length/\∀p,es[qz fL i es]?=some p->bit ((nth fL p).getD 0) i=true:=by
 intro es;induction es<;>grind[qz]
section
theorem R7 {o:Oper}{x:Env×V}: ∀(l:List H),sameIn C self L o x l=true->wantedV L x.1 o=true->∀h∈l,∃h',evOp C self x.1 h o=some (x.2,h'):=by
 intro l;induction l with
 |nil=>simp
 |cons y l I =>
  intro hs hw h hm;simp only[sameIn,hw,ag] at hs;cases he:evOp C self x.1 y o with
  |none=>grind
  |some r =>
   grind[HI]
theorem IF : ∀(l:List Oper) (tr:List (Env×V)) (k:Nat),stayOk C self L fL es hs l tr k=true ->
  ∀j o x,l[j]?=some o->tr[j]?=some x->isEff C o.op=false ->
   sq ((nth fL (k+j)).getD 0) es=true/\(m8 ((nth fL (k+j)).getD 0) es=qz fL (k+j) es \/
    sameIn C self L o x ((hs.drop (m8 ((nth fL (k+j)).getD 0) es)).take (qz fL (k+j) es+1-m8 ((nth fL (k+j)).getD 0) es))=true):=by
 intro l;induction l with
 |nil=>simp
 |cons y l I =>
  intro tr k h j o x ho hx he;cases tr with
  |nil=>grind
  |cons z tr =>
   simp only[stayOk] at h;cases j<;>grind[beq_iff]
theorem Zn {ops:List Oper}: ∀(l:List Oper) (tr:List (Env×V)),allW ops l tr=true->∀(i:Nat) (o:Oper) (x:Env×V),l[i]?=some o->tr[i]?=some x->isAlloc true o=true->wantedV ops x.1 o=true:=by
 intro l;induction l with
 |nil=>simp
 |cons y l I =>
  intro tr h i o x ho hx ha;cases tr<;>grind[allW]
theorem JG {o:Oper}(h:isAlloc false o=true): isAlloc true o=true/\o.guard=none:=by
 grind[isAlloc]
theorem Vk {s z:St}(hr:qF C self L s=some z):
    ∃Fl st vv Hs,jk C self Fl L s st vv (fg C L 0) Hs/\st L.length=z/\L.all (λo => !Kb o.op)=true:=by
  unfold qF at hr;cases jd:trace C self L L s [s.h] with
  |none=>grind
  |some q =>
      obtain⟨tr,hs,z'⟩:=q;simp only[jd] at hr;cases FG:stayOk C self L (ancs L []) (fg C L 0) hs L tr 0 with
      |false=>grind
      |true =>
        rw[FG,ag] at hr;obtain⟨fl,eG,hW,hr⟩:∃fl,m7 C fl L=true/\(∀(i:Nat) (o:Oper) (x:Env×V),L[i]?=some o->tr[i]?=some x->isAlloc fl o=true->isAlloc true o=true/\wantedV L x.1 o=true)/\z'=z:=by
          cases h0:m7 C false L with
          |true =>
            rw[h0,ag] at hr;refine⟨false,h0,λi o x _ _ ha => ?_,bD hr⟩<;>grind[JG,wantedV]
          |false =>
            grind[Zn]
        subst hr;simp only[m7,bV] at eG;obtain⟨⟨⟨s1,s2⟩,s3⟩,s4⟩:=eG;obtain⟨st,t1,t2,t3,t4,t5⟩:=Vg L 0 s [s.h] tr hs z' jd;simp only[eW] at t2 t5;have XX:∀i o,L[i]?=some o->∀e∈o.after,iE e=true->e.on<i:=λi o ho e he hb=>by
          have:=Ks L 0 s1 i o ho e he hb;omega
        have af9:∀i o,L[i]?=some o->∀j,bit ((nth (ancs L []) i).getD 0) j=true->j<i:=λi o ho j hj =>
          (Kr XX (λ_=>True) i o ho (λ_ _ _ _ _ _ _ _=>trivial) (λ_ _ _=>trivial) j hj).2
        have I:=(BE (C:=C) L 0).1;have ID:∀p,p∈fg C L 0↔∃o,L[p]?=some o/\isEff C o.op=true:=λp=>by
          grind[RZ]
        have hHs:∀k p,(fg C L 0)[k]?=some p->hs[k+1]?=some (st (p+1)).h:=λk p hp=>by
          grind
        have hH0:hs[0]?=some s.h:=by grind
        have afX:hs.length=(fg C L 0).length+1:=by grind
        have w_:∀i o,L[i]?=some o->∃h,(st i).put o.dst (((tr[i]?).map (·.2)).getD cX) h=some (st (i+1)) /\
            (wantedV L (st i).env o=true->evOp C self (st i).env (st i).h o=some (((tr[i]?).map (·.2)).getD cX,h))/\(wantedV L (st i).env o=false->((tr[i]?).map (·.2)).getD cX=cX/\h=(st i).h):=λi o ho=>by
          grind
        -- all but 'same'; it is wanted for 'heapAt'
        have af_:(∀i o,L[i]?=some o->isEff C o.op=false->∀k,k<=(fg C L 0).length->(∀idx p,idx<k->(fg C L 0)[idx]?=some p->bit ((nth (ancs L []) p).getD 0) i=false) ->
              (∀idx p,k<=idx->(fg C L 0)[idx]?=some p->bit ((nth (ancs L []) i).getD 0) p=false) ->
              wantedV L (st i).env o=true->∃h',evOp C self (st i).env ((hs[k]?).getD s.h) o=some (((tr[i]?).map (·.2)).getD cX,h')) ->
            jk C self (λi=>∃o,L[i]?=some o/\isAlloc fl o=true) L s st (λi=>((tr[i]?).map (·.2)).getD cX) (fg C L 0) (λk=>(hs[k]?).getD s.h):=λPB =>
          { back:=XX
            PK:=λj o ho i x hi hx=>by
              have:=PI L 0 s2 j o ho i x (by omega) hx;grind
            Ds:=λi o ho ⟨o',A2,ha⟩=>by
              grind
            R2:=λi o ho ⟨o',A2,ha⟩ j u hu cq=>by
              rw[ho] at A2;obtain rfl:=bD A2;rcases M3 L 0 s3 i o ho ha j u hu (by omega) with h|h<;>grind[R1]
            ux:=ID
            sorted:=I
            start:=t1
            step:=w_
            PL:=by grind
            FA:=λk p hp=>by grind
            gap:=λi o ho he=>by
              obtain⟨v,h,e1,_⟩:=t5 i o ho;have:=(IF L tr 0 FG i o _ ho e1 he).1;grind[Vj]
            same:=PB }
        refine⟨_,st,_,_,af_ ?_,t2,s4⟩;intro i o ho he k hk h1 h2 hw;obtain⟨v,h,e1,e2,e3,e4⟩:=t5 i o ho;obtain⟨g1,g2⟩:=IF L tr 0 FG i o _ ho e1 he;simp only[eW] at g1 g2;have aeh:m8 ((nth (ancs L []) i).getD 0) (fg C L 0)<=k:=tD λcq=>by
          obtain⟨p,hp⟩:∃p,(fg C L 0)[k]?=some p:=⟨_,aF (by have:=(HJ (m:=(nth (ancs L []) i).getD 0) (fg C L 0)).2;omega)⟩<;>grind[HJ]
        have aga:k<=qz (ancs L []) i (fg C L 0):=tD λcq=>by
          grind[NU]
        have Bz:((tr[i]?).map (·.2)).getD cX=v:=by grind
        rw[Bz];rcases g2 with g2|g2
        . -- its place is known
          have Iw:(st i).h=(hs[k]?).getD s.h:=by
            have lN:k=qz (ancs L []) i (fg C L 0):=by omega
            have cq:∀idx p,idx<k->(fg C L 0)[idx]?=some p->p<i:=λidx p cq hp=>by
              grind[HJ]
            have IG:∀idx p,k<=idx->(fg C L 0)[idx]?=some p->i<=p:=λidx p hle hp=>by
              obtain⟨q,hq⟩:∃q,(fg C L 0)[k]?=some q:=⟨_,aF (by grind)⟩;have hb:=(NU (fL:=ancs L []) (i:=i) (fg C L 0)).2 q (by grind);obtain⟨x,hx,_⟩:=(ID q).1 (aJ hq)<;>grind[List.pairwise_iff_getElem]
            exact FB (Hs:=λk=>(hs[k]?).getD s.h) w_ (λp=>ID p) I t1 (by grind) (λk p hp=>by grind) i k (by grind) hk cq IG
          rw[<-Iw];exact⟨h,e3 hw⟩
        . have hm:(hs[k]?).getD s.h∈(hs.drop (m8 ((nth (ancs L []) i).getD 0) (fg C L 0))).take (qz (ancs L []) i (fg C L 0)+1-m8 ((nth (ancs L []) i).getD 0) (fg C L 0)):=by
            have aei:k<hs.length:=by omega
            refine aJ (i:=k-m8 ((nth (ancs L []) i).getD 0) (fg C L 0)) ?_;rw[ic,ay (by omega),fq,Nat.add_sub_cancel' aeh,aF aei];simp
          exact R7 _ g2 hw _ hm
theorem Zo {S:Nat->Prop}(hb:∀i o,L[i]?=some o->∀e∈o.after,iE e=true->e.on<i)(I:∀i o,¬ nm L S i o): ∀i,i<L.length->S i:=by
 intro i;induction i using Nat.strongRecOn with
 |_ i ih =>
  intro hi;refine G7 λhS => ?_;refine I i L[i] ⟨aF hi,hS,λe he R8 => ?_⟩<;>grind
theorem iU.done {s:St}{st:Nat->St}{c:Ctx}{S:Nat->Prop}{a:Act}
 (D:jk C self Fl L s st vv es Hs)(I:iU C self Fl L s st vv es Hs c₀ w₀ d₀ S early k c a w)(k9:∀p,es[k]?=some p->¬ S p)(kL:∀i,i<L.length->S i):
  Rel c (st L.length).h w/\fV c (st L.length).env (st L.length).ax a:=by
 have cq:∀p∈es,p<L.length:=λp hp=>by
  obtain⟨o,ho,_⟩:=(D.ux p).1 hp<;>grind
 have afL:∀p,early p=none:=λp=>by
  cases h:early p with
  |none=>rfl
  |some b =>
   obtain⟨_,idx,h1,h2⟩:=I.vS p b h<;>grind
 refine⟨?_,?_⟩
 .rw[D.Kt L.length k (aH _) I.NQ (λidx p _ hp=>cq p (aJ hp)) (λidx p hle hp=>by grind)];exact I.rel
 .have hv:∀t,a.tmps.getD t undef=conc c ((st L.length).env.v t)/\wf c ((st L.length).env.v t):=λt=>by
   rcases I.tmp t with⟨i,o,g1,g2,g3,g4,g5⟩|⟨g1,g2,g3⟩
   .have:(st L.length).env.v t=vv i:=by
     rcases D.JP t L.length (aH _) with⟨j,oj,h1,h2,h3,h4,h5⟩|⟨h1,_⟩<;>grind
    rcases g5 with⟨b,e1,_⟩|⟨_,e2,e3⟩
    .grind
    .grind
   .have:(st L.length).env.v t=s.env.v t:=by
     rcases D.JP t L.length (aH _) with⟨j,oj,h1,h2,h3,h4,h5⟩|⟨_,h⟩<;>grind
    rw[this];exact⟨g2,g3⟩
  exact⟨by rw[I.size,D.ax L.length (aH _)],λt=>(hv t).1,λt=>(hv t).2⟩
theorem iU.congr {s:St}{st:Nat->St}{c:Ctx}{S S':Nat->Prop}{a:Act}
 (I:iU C self Fl L s st vv es Hs c₀ w₀ d₀ S early k c a w)(h:∀j,S j↔S' j): iU C self Fl L s st vv es Hs c₀ w₀ d₀ S' early k c a w:=by
 have:S=S':=funext λj=>propext (h j);rw[<-this];exact I
theorem Vl (hS:kS C.P self)(hT:iR C){r:Option Nat}(hL:ops.toList=L){Q:Exit->Act->World->Prop}{s:St}{st:Nat->St}(D:jk C self Fl L s st vv es Hs)
 (hQ:∀c a w,Rel c (st L.length).h w->fV c (st L.length).env (st L.length).ax a->dB c₀ w₀ c w->a.defers=d₀->Q .normal a w):
  ∀(fuel:Nat) (lC:Array Bool) (early:Nat->Option (Nat×FV)) (k:Nat) (c:Ctx) (a:Act) (w:World),lC.size=L.length->lC.count false<=fuel ->
   iU C self Fl L s st vv es Hs c₀ w₀ d₀ (λj=>lC.getD j false=true) early k c a w->wpAnyIn (Fr r) 0 C.P .any ops Q fuel lC a w:=by
 intro fuel;induction fuel with
 |zero =>
  intro lC early k c a w gm qX I;have kL:∀i,i<L.length->lC.getD i false=true:=λi hi=>by
   have h0:lC.count false=0:=by omega
   have:false∉lC:=Array.count_eq_zero.1 h0;rw[yu,CU (by omega)];grind
  obtain⟨nO,k',c',I',k9⟩:=iU.IE D (es.length-k) k early c U I;obtain⟨r1,r2⟩:=I'.done D k9 kL;refine⟨?_,hQ c' a w r1 r2 I'.NR I'.defers⟩;refine List.eq_nil_iff_forall_not_mem.2 λj hj => ?_;obtain⟨h1,o,h2,_⟩:=mem_ready.1 hj;have cq:j<L.length:=by grind
  have h3:=kL j cq;rw[yu,CU (by omega)] at h1 h3;simp at h1 h3;rw[h1] at h3;cases h3
 |succ fuel ih =>
  intro lC early k c a w gm qX I;obtain⟨nO,k',c',I',k9⟩:=iU.IE D (es.length-k) k early c U I;have abe:∀j,j∈Region.ready .any ops lC↔∃o,nm L (λj=>lC.getD j false=true) j o:=λj=>by
   rw[mem_ready];constructor
   .rintro⟨h1,o,h2,h3⟩;refine⟨o,by grind,λh4 => ?_,λe he hb=>h3 e he ?_⟩
    .grind
    .rw[<-hb];cases e;rename_i on g;cases g<;>rfl
   .rintro⟨o,R⟩;have h2:=R.at_;rw[<-hL,nA] at h2;refine⟨?_,o,h2,λe he hb=>R.PR e he ?_⟩
    .have cq:j<lC.size:=by grind
     have h4:=R.not;grind
    .rw[<-hb];cases e;rename_i on g;cases g<;>rfl
  refine⟨λBD => ?_,λi hi => ?_⟩
  .have kL:=Zo (S:=λj=>lC.getD j false=true) D.back (λi o R=>by
    grind)
   obtain⟨r1,r2⟩:=I'.done D k9 kL;exact hQ c' a w r1 r2 I'.NR I'.defers
  .obtain⟨o,R⟩:=(abe i).1 hi;have cq:i<lC.size:=by rw[gm];exact(List.getElem?_eq_some_iff.1 R.at_).1
   have afM:lC[i]=false:=by
    have:=R.not;rw[yu,CU cq] at this;simpa using this
   refine I'.abc hS hT hL D k9 R ?_;intro Zp k'' Ko Kp D3 I'';refine ih (lC.setIfInBounds i true) Zp k'' Ko Kp D3 (by grind) ?_ (I''.congr λj => ?_)
   .grind
   .by_cases kJ:j=i
    .subst kJ;simp[yu,cq]
    simp_all[jS]
theorem R9 (hS:kS C.P self)(hT:iR C)(hm:C.P.follows .mixedOrders=true){r:Option Nat}{s:St}(hr:qF C self ops.toList s=some s'){Q:Exit->Act->World->Prop}{c:Ctx}{a:Act}(h:Rel c s.h w)(he:fV c s.env s.ax a)
 (hQ:∀c' a' w',Rel c' s'.h w'->fV c' s'.env s'.ax a'->dB c w c' w'->a'.defers=a.defers->Q .normal a' w'):
  (Code.region id ops true).wpIn (Fr r) 0 C.P Q a w:=by
 obtain⟨Fl,st,vv,Hs,D,hz,_⟩:=Vk hr;refine wpIn_region_any hm ?_;have aej:dB c w c { w with drawn:=w.drawn+1 }:=dB.drew c w;have uQ:Rel c s.h { w with drawn:=w.drawn+1 }:=h.drew;refine Vl hS hT U D (c₀:=c) (w₀:=w) (d₀:=a.defers) (λc' a' w' r1 r2 r3 r4=>hQ c' a' w' (by grind) (by grind) r3 r4)
  ops.size (Array.replicate ops.size false) (λ_=>none) 0 c a _ (by simp) (by simp) ?_
 have I:∀j,¬ (Array.replicate ops.size false).getD j false=true:=λj=>by
  rw[yu,Array.getElem?_replicate];split<;>simp
 refine⟨λi o hi=>absurd hi (I i),λidx p h=>by omega,gh _,λidx p _ _ hp=>absurd hp (I p),(λp b h=>by cases h),(by rw[D.PL];exact uQ),he.size,
  λt=>.inr ⟨λj o hj=>absurd hj (I j),he.val t,he.Fe t⟩,(λp b h=>by cases h),(λp q b b' h=>by cases h),aej,U⟩
end
end Go.Proofs.YtdonpgpfplgigaaGreat.Am
namespace Go.Proofs.YtdonpgpfplgigaaGreat.Am
open Go
variable {ps:Array (Nat×Operand)} {ops:Array Oper} {st:Bool} {C:gO} {code:Code} {c₀:Ctx} {env:Env} {Q:Ex->List (Nat×V)->H->Prop} {fn:Func} {h h' σ h₁ fb:H} {κ:IntKind} {E E':List (Nat×V)} {R:List (Nat×V)->H->Prop} {d₀:List Deferred} {hs:List H} {fL es l:List Nat} {L rest:List Oper} {args first cap vs cs ds:List V} {a b i c k id n d off j g vq k' q:Nat} {Hs:Nat->H} {early:Nat->Option (Nat×FV)} {Fl:Nat->Prop} {vv:Nat->V} {o':Obj} {x y:Operand} {P:Program} {φ:Prop} {self:Self} {s':St} {α:Type} {td:TypeDesc} {t t' e kt et:TypeId} {r u z:V} {BG:V->H->Prop} {w₀ w:World}
section
variable {b:Frame} {a:Act} {k:List Item} {cs:List Frame}
theorem qH {c:Code}: step P (lone (b.atR a (.code (.scope c)::k)) cs w)=.next (lone (b.atR a (.code c::.inScope c::k)) cs w) :=
 by rfl
theorem JH {c:Code}: step P (lone (b.atR a (.inScope c::k)) cs w)=.next (lone (b.atR a k) cs w) :=
 by rfl
end
theorem PS {r:Option Nat}{c:Code}{Q:Exit->Act->World->Prop}{a:Act}(h:c.wpIn (Fr r) 0 P (Exit.noGoto Q) a w): (Code.scope c).wpIn (Fr r) 0 P Q a w:=by
 intro b k cs hro hb hr;obtain⟨e,BA,BB,hq,I⟩:=h b (.inScope c::k) cs hro hb hr;cases e with
 |normal=>exact⟨.normal,BA,BB,hq,.of_steps (.one (fenced_calm hb hr U) qH) (StepsIn.trans I (.one (fenced_calm hb hr U) JH))⟩
 |exit id=>exact⟨.exit id,BA,BB,hq,.of_steps (.one (fenced_calm hb hr U) qH) ⟨λk' hk=>I.1 k' (by simpa[exitTo] using hk),λhr hk=>I.2 hr (by simpa[exitTo] using hk)⟩⟩
 |goto l=>exact hq.elim
 |ret=>exact⟨_,BA,BB,hq,.of_steps (.one (fenced_calm hb hr U) qH) I⟩
 |panic ch=>exact⟨_,BA,BB,hq,.of_steps (.one (fenced_calm hb hr U) qH) I⟩
 |outgrown=>exact⟨_,BA,BB,hq,.of_steps (.one (fenced_calm hb hr U) qH) I⟩
def FH (P:Program)(self:Self)(m:Nat): Prop:=∀(b:Code) (s:St) (ex:Ex) (s':St),self (.loop b) s=some (ex,s') ->
 ∀(r:Option Nat) (c:Ctx) (a:Act) (w:World) (Q:Exit->Act->World->Prop),Rel c s.h w->fV c s.env s.ax a ->
  (∀e I w',(e=exOf ex/\I.defers=a.defers/\∃c',Rel c' s'.h w'/\fV c' s'.env s'.ax I/\dB c w c' w')->Q e I w')->Code.roundsIn (Fr r) 0 P b Q m a w
section
theorem D_ {m:Nat}(hS:kS C.P self)(hL:FH C.P self m): FH C.P (evStep C self) (m+1):=by
 intro b s ex s' hr r c a w Q h he hQ;unfold evStep at hr;simp only at hr;cases hb:self b s with
 |none=>grind
 |some q =>
  obtain⟨I,Ka⟩:=q;rw[hb] at hr;refine wpIn_mono (hS b s I Ka hb r c a w h he) ?_;rintro e BA BB ⟨rfl,q2,c₁,q3,q4,q5⟩;cases I with
  |normal =>
   refine hL b Ka ex s' hr r c₁ BA BB Q q3 q4 ?_;rintro afI acR acS ⟨p1,p2,c₂,p3,p4,p5⟩;exact hQ _ _ _ ⟨p1,by grind,c₂,p3,p4,q5.trans p5⟩
  |exit i =>
   obtain⟨rfl,rfl⟩:=hr;exact hQ _ _ _ ⟨U,q2,c₁,q3,q4,q5⟩
  |ret =>
   obtain⟨rfl,rfl⟩:=hr;exact hQ _ _ _ ⟨U,q2,c₁,q3,q4,q5⟩
theorem R_ {m:Nat}(hm:C.P.follows .mixedOrders=true)(hT:iR C)(hS:kS C.P self)(hL:FH C.P self m): kS C.P (evStep C self):=by
 intro code s ex s' hr r c a w h he;have same:∀ {ex:Ex} {s':St},(Ex.normal,s)=(ex,s')->exOf ex=.normal/\s'=s:=λe=>by cases e;exact⟨U,U⟩
 cases code with
 |skip =>
  simp only[evStep,aA,bW] at hr;obtain⟨rfl,rfl⟩:=hr;exact wpIn_skip ⟨U,U,c,h,he,dB.refl c w⟩
 |label l =>
  simp only[evStep,aA,bW] at hr;obtain⟨rfl,rfl⟩:=hr;exact wpIn_label ⟨U,U,c,h,he,dB.refl c w⟩
 |region id ops draw =>
  unfold evStep at hr;simp only at hr;cases draw with
  |true =>
   rw[ag] at hr;cases hd:qF C self ops.toList s with
   |none=>simp[hd] at hr
   |some I =>
    simp only[hd,aA,bW] at hr;obtain⟨rfl,rfl⟩:=hr;exact R9 hS hT hm hd h he λc' a' w' r1 r2 r3 r4=>⟨U,r4,c',r1,r2,r3⟩
  |false =>
   rw[aT] at hr;cases hd:evOps C self ops.toList ops.toList s with
   |none=>simp[hd] at hr
   |some I =>
    simp only[hd,aA,bW] at hr;obtain⟨rfl,rfl⟩:=hr;refine wpIn_region ?_;rw[List.range_eq_range',<-Hg];exact Vd hS hT ops.toList 0 s I c a w (λj=>by rw[eW,nA]) hd h he λc' a' w' r1 r2 r3 r4=>⟨U,r4,c',r1,r2,r3⟩
 |seq x y =>
  unfold evStep at hr;simp only at hr;cases hx:self x s with
  |none=>rw[hx] at hr;simp at hr
  |some r =>
   obtain⟨II,I⟩:=r;rw[hx] at hr;refine wpIn_seq (wpIn_mono (hS x s II I hx r c a w h he) ?_);rintro e BA BB ⟨rfl,q2,c₁,q3,q4,q5⟩;cases II with
   |normal =>
    simp only at hr;refine wpIn_mono (hS y I ex s' hr r c₁ BA BB q3 q4) ?_;rintro e acR acS ⟨rfl,p2,c₂,p3,p4,p5⟩;exact⟨U,by rw[p2,q2],c₂,p3,p4,q5.trans p5⟩
   |exit i =>
    simp only[aA,bW] at hr;obtain⟨rfl,rfl⟩:=hr;exact⟨U,q2,c₁,q3,q4,q5⟩
   |ret =>
    simp only[aA,bW] at hr;obtain⟨rfl,rfl⟩:=hr;exact⟨U,q2,c₁,q3,q4,q5⟩
 |cond x y z =>
  unfold evStep at hr;simp only at hr;split at hr
  .rename_i t hx;obtain⟨e1,_⟩:=Fh he hx;refine wpIn_cond (t:=t) (by rw[e1];rfl) ?_;have:=hS (cond t y z) s ex s' hr r c a w h he;cases t<;>simpa using this
  .cases hr
 |block id b =>
  unfold evStep at hr;simp only at hr;cases hb:self b s with
  |none=>rw[hb] at hr;simp at hr
  |some r =>
   obtain⟨II,I⟩:=r;rw[hb] at hr;refine wpIn_block (wpIn_mono (hS b s II I hb r c a w h he) ?_);rintro e BA BB ⟨rfl,q2,c₁,q3,q4,q5⟩;cases II with
   |normal =>
    simp only[aA,bW] at hr;obtain⟨rfl,rfl⟩:=hr;simp only[exOf,Exit.inBlock];exact⟨aa,q2,c₁,q3,q4,q5⟩
   |exit i =>
    simp only at hr;by_cases hi:i=id
    .rw[qW hi,ag] at hr;simp only[aA,bW] at hr;obtain⟨rfl,rfl⟩:=hr;simp only[exOf,Exit.inBlock,hi,dI];exact⟨aa,q2,c₁,q3,q4,q5⟩
    .rw[fM hi,aT] at hr;simp only[aA,bW] at hr;obtain⟨rfl,rfl⟩:=hr;simp only[exOf,Exit.inBlock,hi,gR];exact⟨aa,q2,c₁,q3,q4,q5⟩
   |ret =>
    simp only[aA,bW] at hr;obtain⟨rfl,rfl⟩:=hr;simp only[exOf,Exit.inBlock];exact⟨aa,q2,c₁,q3,q4,q5⟩
 |loop b =>
  exact wpIn_loop_rounds (m+1) (D_ hS hL b s ex s' hr r c a w _ h he (λ_ _ _ hq=>hq))
 |exit id =>
  simp only[evStep,aA,bW] at hr;obtain⟨rfl,rfl⟩:=hr;exact wpIn_exit ⟨U,U,c,h,he,dB.refl c w⟩
 |scope b =>
  unfold evStep at hr;simp only at hr;refine PS (wpIn_mono (hS b s ex s' hr r c a w h he) ?_);rintro e BA BB ⟨rfl,q2,c₁,q3,q4,q5⟩;cases ex<;>exact⟨U,q2,c₁,q3,q4,q5⟩
 |ret =>
  simp only[evStep,aA,bW] at hr;obtain⟨rfl,rfl⟩:=hr;exact wpIn_ret ⟨U,U,c,h,he,dB.refl c w⟩
 |_=>simp[evStep] at hr
theorem Sa (hm:C.P.follows .mixedOrders=true)(hT:iR C): ∀n,kS C.P (ev C n)/\FH C.P (ev C n) n:=by
 intro n;induction n with
 |zero=>exact⟨λ_ _ _ _ h=>by simp[ev] at h,λ_ _ _ _ h=>by simp[ev] at h⟩
 |succ n I=>exact⟨R_ hm hT I.1 I.2,D_ I.1 I.2⟩
theorem Du (hm:C.P.follows .mixedOrders=true)(I:iR C)(n:Nat): Km C.P (ev C n)/\True:=⟨(Sa hm I n).1.wide,aa⟩
theorem Kx (hm:C.P.follows .mixedOrders=true)(hT:iR C){f:FuncId}{v:V}(hr:run C n f args h=some (v,h')){c:Ctx}
 (I:Rel c h w)(hw:∀x∈args,wf c x): kK C.P f args c w v h' :=
 (callF_ok (Du hm hT n).1 hT hr I hw).1
theorem Rel.empty (w:World): Rel ⟨λ_=>(0,0),λ_=>0,0,λ_=>false⟩ ⟨0,.lf⟩ w :=
 ⟨U,λid o h=>by simp[T.wj] at h,λid h=>absurd h (vL _),λid h=>absurd h (vL _),λi j o o' h=>by simp[T.wj] at h,λid o h=>by simp[T.wj] at h,λid cs st h=>by simp,λid o h=>by simp⟩
end
def leftC : Code->Code
 |.seq a _=>a
 |c=>c
def eC : Code->Code
 |.seq _ b=>b
 |c=>c
def oE (f g:Self): Prop:=∀c s r,f c s=some r->g c s=some r
section
variable {f g:Self}
theorem sC (h : oE f g) {r : V × H} (hr : callF C f k args σ = some r) : callF C g k args σ = some r := by
 unfold callF at hr ⊢
 cases I : C.told k with
 | some t => grind
 | none =>
  simp only [I] at hr ⊢
  cases hf : C.P.funcs[k]? with
  | none => grind
  | some fn =>
   simp only [hf] at hr ⊢
   cases hb : fn.body with
   | none => grind
   | some c =>
    simp only [hb] at hr ⊢
    cases hq : (fn.name == "runtime.NumGoroutine" || Nat.blt fn.ntmps args.length) with
    | true => grind
    | false =>
     simp only [hq, aT] at hr ⊢
     cases hs : f c ⟨bindArgs args 0 .lf, fn.ntmps, σ⟩ with
     | none => grind
     | some q => rw [h _ _ _ hs]; rw [hs] at hr; exact hr
theorem M4 (h:oE f g){r:V×H}(hr:roundV f id args σ=some r): roundV g id args σ=some r:=by
 unfold roundV at hr ⊢;cases ho:σ.tr.get id with
 |none=>grind
 |some o =>
  simp only[ho] at hr ⊢;cases o with
  |loop busy ax env ps fL bd =>
   cases busy with
   |true=>cases hr
   |false =>
    cases he:bindPs ax ps args env with
    |none=>grind
    |some e =>
     simp only[he] at hr ⊢;cases h1:f fL ⟨e,ax,σ⟩ with
     |none=>grind
     |some q =>
      rw[h fL _ _ h1];simp only[h1] at hr;split at hr
      .rename_i Ka hq;split at hr
       .split at hr
        .rename_i aaZ I;rw[h bd _ _ I];exact hr
        .rename_i aaZ I;rw[h bd _ _ I];exact hr
        .grind
       .cases hr
      .cases hr
  |_=>cases hr
theorem oc (h:oE f g){o:Oper}{r:V×H}(hr:evOp C f env σ o=some r): evOp C g env σ o=some r:=by
 unfold evOp at hr ⊢;cases I:o.op<;>simp only[I] at hr ⊢<;>try exact hr
 rename_i cl;unfold evCall at hr ⊢;cases ha:evArgs env cl.args.toList with
 |none=>grind
 |some args =>
  cases hc:cl.callee with
  |builtin b=>grind
  |value x =>
   cases hx:evO env x with
   |none=>grind
   |some fv =>
    unfold callV at hr ⊢;grind[sC,M4]
  |invoke x m =>
   grind[sC]
theorem sD (h:oE f g): ∀(l:List Oper) (s s':St),evOps C f L l s=some s'->evOps C g L l s=some s':=by
 intro l;induction l with
 |nil=>intro s s' hr;exact hr
 |cons o l I =>
  intro s s' hr;simp only[evOps] at hr ⊢;cases hw:wantedV L s.env o with
  |true =>
   cases ho:evOp C f s.env s.h o with
   |none=>grind
   |some q =>
    grind[oc]
  |false =>
   grind
theorem Ah (h:oE f g): ∀(l:List Oper) (s:St) (hs:List H) (r:List (Env×V)×List H×St),trace C f L l s hs=some r->trace C g L l s hs=some r:=by
 intro l;induction l with
 |nil=>intro s hs r hr;exact hr
 |cons o l I =>
  intro s hs r hr;simp only[trace] at hr ⊢;have key:∀q,cond (wantedV L s.env o) (evOp C f s.env s.h o) (some (cX,s.h))=some q->cond (wantedV L s.env o) (evOp C g s.env s.h o) (some (cX,s.h))=some q:=by
   grind[oc]
  cases hc:cond (wantedV L s.env o) (evOp C f s.env s.h o) (some (cX,s.h)) with
  |none=>grind
  |some q =>
   grind
theorem M5 (h:oE f g){o:Oper}{x:Env×V}: ∀(l:List H),sameIn C f L o x l=true->sameIn C g L o x l=true:=by
 intro l;induction l with
 |nil=>intro hr;exact hr
 |cons y l I =>
  intro hr;simp only[sameIn] at hr ⊢;cases hw:wantedV L x.1 o with
  |false=>simp
  |true =>
   cases ho:evOp C f x.1 y o with
   |none=>grind
   |some q =>
    grind[oc]
theorem M6 (h:oE f g): ∀(l:List Oper) (tr:List (Env×V)) (i:Nat),stayOk C f L fL es hs l tr i=true->stayOk C g L fL es hs l tr i=true:=by
 intro l;induction l with
 |nil=>intro tr i hr;cases tr<;>exact hr
 |cons o l I =>
  intro tr i hr;cases tr<;>grind[stayOk,M5]
theorem M7 (h:oE f g){s:St}(hr:qF C f L s=some s'): qF C g L s=some s':=by
 grind[qF,Ah,M6]
theorem M8 (h:oE f g): oE (evStep C f) (evStep C g):=by
 intro c s r hr;cases c with
 |region id ops draw =>
  grind[evStep,M7,sD]
 |seq a b =>
  simp only[evStep] at hr ⊢;cases I:f a s with
  |none=>grind
  |some q =>
   obtain⟨ex,s1⟩:=q;rw[h _ _ _ I];rw[I] at hr;cases ex with
   |normal=>exact h _ _ _ hr
   |exit i=>exact hr
   |ret=>exact hr
 |cond x a b =>
  simp only[evStep] at hr ⊢;split at hr
  .exact h _ _ _ hr
  .cases hr
 |block id b =>
  simp only[evStep] at hr ⊢;cases I:f b s with
  |none=>grind
  |some q=>rw[h _ _ _ I];rw[I] at hr;exact hr
 |loop b =>
  simp only[evStep] at hr ⊢;cases I:f b s with
  |none=>grind
  |some q =>
   obtain⟨ex,s1⟩:=q;rw[h _ _ _ I];rw[I] at hr;cases ex with
   |normal=>exact h _ _ _ hr
   |exit i=>exact hr
   |ret=>exact hr
 |scope b=>exact h _ _ _ hr
 |_=>exact hr
theorem PT : ∀n,oE (ev C n) (ev C (n+1)):=by
 intro n;induction n with
 |zero=>intro c s r hr;cases hr
 |succ n I=>exact M8 I
theorem iN {m:Nat}(hle:n<=m): oE (ev C n) (ev C m):=by
 induction hle with
 |refl=>intro c s r hr;exact hr
 |step _ I=>intro c s r hr;exact PT _ c s r (I c s r hr)
end
def look : List (Nat×V)->Nat->Option V
 |[],_=>none
 |x::E,k=>cond (Nat.beq x.1 k) (some x.2) (look E k)
def mj (env:Env)(E:List (Nat×V)): Prop:=∀t v,look E t=some v->T.get env t=some v
theorem mj.set (h:mj env E)(d:Nat)(v:V): mj (env.set d (some v)) ((d,v)::E):=by
 intro t u hl;simp only[look] at hl;rw[bg];by_cases I:d=t
 .simp_all
 .rw[fM I,aT] at hl;rw[ai (λe=>I e.symm)];exact h t u hl
theorem mj.sub (h:mj env E)(hs:∀t v,look E' t=some v->look E t=some v): mj env E':=λt v hl=>h t v (hs t v hl)
def bE (E:List (Nat×V)): Operand->Option V
 |.tmp t=>look E t
 |.const c=>ofValue c
 |.global _=>none
 |.func f=>some (.fn (.func f) [] [])
theorem cE (h:mj env E){v:V}(I:bE E x=some v): evO env x=some v:=by
 cases x with
 |tmp t=>simp only[evO,Env.v,h t v I]
 |const c=>exact I
 |global g=>cases I
 |func f=>exact I
def lookArgs (E:List (Nat×V)): List Operand->Option (List V)
 |[]=>some []
 |x::l=>match bE E x with
  |none=>none
  |some v=>match lookArgs E l with
   |none=>none
   |some m=>some (v::m)
theorem oR (h:mj env E): ∀ {l:List Operand} {m:List V},lookArgs E l=some m->evArgs env l=some m:=by
 intro l;induction l<;>grind[lookArgs,evArgs,cE]
def lookParts (E:List (Nat×V)): List (Nat×Operand)->Option (List (Nat×V))
 |[]=>some []
 |x::l=>match bE E x.2 with
  |none=>none
  |some v=>match lookParts E l with
   |none=>none
   |some m=>some ((x.1,v)::m)
theorem BH (h:mj env E): ∀ {l:List (Nat×Operand)} {m:List (Nat×V)},lookParts E l=some m->evParts env l=some m:=by
 intro l;induction l<;>grind[lookParts,evParts,cE]
def lookOpt (E:List (Nat×V)): Option Operand->Option (Option V)
 |none=>some none
 |some x=>match bE E x with
  |some v=>some (some v)
  |none=>none
theorem Ai (h:mj env E){x:Option Operand}{v:Option V}(I:lookOpt E x=some v): optV env x=some v:=by
 cases x<;>grind[lookOpt,optV,cE]
section
variable (P:Program)
def lD (E:List (Nat×V))(x:Operand)(g:V->Option (V×H)): Option (V×H):=match bE E x with
 |some v=>g v
 |none=>none
def xo (E:List (Nat×V))(x y:Operand)(g:V->V->Option (V×H)): Option (V×H):=match bE E x with
 |some v=>match bE E y with
  |some u=>g v u
  |none=>none
 |none=>none
noncomputable def opE (E:List (Nat×V))(h:H)(o:Op): Option (V×H):=match o with
 |.move x|.assign x=>lD E x λv=>some (v,h)
 |.pick c a b=>lD E c λv=>match v with
  |.bool t=>lD E (cond t a b) λv=>some (v,h)
  |_=>none
 |.alloc t=>match zeroT P t with
  |some z=>some (.ptr h.next 0,newRow h z.cells)
  |none=>none
 |.box _ x=>lD E x λv=>cond (v.cells.all storable) (some (.ptr h.next 0,newRow h v.cells)) none
 |.build t ps=>match lookParts E ps.toList with
  |some l=>bO (buildV P t l) h
  |none=>none
 |.buildSlice t n ps=>match lookParts E ps.toList with
  |some l=>buildSliceV P h t n l
  |none=>none
 |.load t a=>lD E a λv=>bO (loadV P h t v) h
 |.store t a x=>xo E a x λp v=>w9 (j8 P h t p v)
 |.nilCheck x=>lD E x λv=>match v with
  |.ptr a b=>some (.ptr a b,h)
  |_=>none
 |.binOp op t x y _=>xo E x y λa b=>bO (binV P h op t x y a b) h
 |.unOp op _ x=>lD E x λa=>bO (unV op a) h
 |.convert s d x=>lD E x λa=>match convV P h s d a with
   |some r=>some r
   |none=>convB P h s d a
 |.sliceToArrayPointer d x=>lD E x λa=>bO (arrPtrV P d a) h
 |.makeInterface t x=>lD E x λa=>bO (makeIfaceV P t a) h
 |.makeFunc f a b=>match lookArgs E a.toList with
  |some x=>match lookArgs E b.toList with
   |some y=>some (.fn f x y,h)
   |none=>none
  |none=>none
 |.makeMap _ r=>match r with
  |none=>some (.map h.next,h.new (.map [] 0))
  |some _=>none
 |.makeSlice t l c=>xo E l c λa b=>makeSliceV P h t a b
 |.slice t x lo hi mx=>lD E x λv=>match lookOpt E lo with
  |some a=>match lookOpt E hi with
   |some b=>match lookOpt E mx with
    |some c=>match mF a with
     |some a=>match mF b with
      |some b=>match mF c with
       |some c=>bO (sliceV P h t v a b c) h
       |none=>none
      |none=>none
     |none=>none
    |none=>none
   |none=>none
  |none=>none
 |.fieldAddr t x i=>lD E x λv=>bO (fieldAddrV P t v i) h
 |.field t x i=>lD E x λv=>bO (uo P t v i) h
 |.indexAddr t x i=>xo E x i λv j=>bO (indexAddrV P t v j) h
 |.index t x i=>xo E x i λv j=>bO (indexV P t v j) h
 |.lookup t x k ok=>xo E x k λm j=>bO (gC P h t m j ok) h
 |.extract t i=>lD E t λv=>match v with
  |.aX l=>bO (nth l i) h
  |_=>none
 |.typeAssert x _ a ok=>lD E x λv=>bO (assertV P v a ok) h
 |.call c=>match c.callee with
  |.builtin b=>match lookArgs E c.args.toList with
   |some args=>builtinV P h b c.argTypes args
   |none=>none
  |_=>none
 |_=>none
end
theorem jT {g:V->Option (V×H)}{r:V×H}(h:lD E x g=some r): ∃v,bE E x=some v/\g v=some r:=by
 grind[lD]
theorem vT {g:V->V->Option (V×H)}{r:V×H}(h:xo E x y g=some r): ∃v u,bE E x=some v/\bE E y=some u/\g v u=some r:=by
 grind[xo]
set_option maxHeartbeats 1000000 in
theorem FI {o:Oper}{r:V×H}(hE:mj env E)(hr:opE C.P E h o.op=some r): evOp C self env h o=some r:=by
 unfold opE at hr;unfold evOp;split at hr
 .rename_i x I;obtain⟨v,h1,h2⟩:=jT hr;simp only[I,cE hE h1,bO];exact h2
 .rename_i x I;obtain⟨v,h1,h2⟩:=jT hr;simp only[I,cE hE h1,bO];exact h2
 .rename_i c a b I;obtain⟨v,h1,h2⟩:=jT hr;split at h2
  .rename_i t;obtain⟨u,h3,h4⟩:=jT h2;simp only[I,cE hE h1,cE hE h3,bO];exact h4
  .cases h2
 .rename_i t I;simp only[I];exact hr
 .rename_i t x I;obtain⟨v,h1,h2⟩:=jT hr;simp only[I,cE hE h1];exact h2
 .rename_i t ps I;cases hp:lookParts E ps.toList with
  |none=>simp[hp] at hr
  |some l=>simp only[hp] at hr;simp only[I,BH hE hp];exact hr
 .rename_i t n ps I;cases hp:lookParts E ps.toList with
  |none=>simp[hp] at hr
  |some l=>simp only[hp] at hr;simp only[I,BH hE hp];exact hr
 .rename_i t a I;obtain⟨v,h1,h2⟩:=jT hr;simp only[I,cE hE h1];exact h2
 .rename_i t a x I;obtain⟨v,u,h1,h2,h3⟩:=vT hr;simp only[I,cE hE h1,cE hE h2];exact h3
 .rename_i x I;obtain⟨v,h1,h2⟩:=jT hr;split at h2
  .simp only[I,cE hE h1];exact h2
  .cases h2
 .rename_i op t x y u I;obtain⟨v,u,h1,h2,h3⟩:=vT hr;simp only[I,cE hE h1,cE hE h2];exact h3
 .rename_i op t x I;obtain⟨v,h1,h2⟩:=jT hr;simp only[I,cE hE h1];exact h2
 .rename_i s d x I;obtain⟨v,h1,h2⟩:=jT hr;simp only[I,cE hE h1];exact h2
 .rename_i d x I;obtain⟨v,h1,h2⟩:=jT hr;simp only[I,cE hE h1];exact h2
 .rename_i t x I;obtain⟨v,h1,h2⟩:=jT hr;simp only[I,cE hE h1];exact h2
 .rename_i f a b I;cases ha:lookArgs E a.toList with
  |none=>simp[ha] at hr
  |some x =>
   cases hb:lookArgs E b.toList with
   |none=>simp[ha,hb] at hr
   |some y=>simp only[ha,hb] at hr;simp only[I,oR hE ha,oR hE hb];exact hr
 .rename_i t r I;simp only[I];exact hr
 .rename_i t l c I;obtain⟨v,u,h1,h2,h3⟩:=vT hr;simp only[I,cE hE h1,cE hE h2];exact h3
 .rename_i t x lo hi mx I;obtain⟨v,h1,h2⟩:=jT hr;cases ha:lookOpt E lo with
  |none=>simp[ha] at h2
  |some a =>
   cases hb:lookOpt E hi with
   |none=>simp[ha,hb] at h2
   |some b =>
    cases hc:lookOpt E mx with
    |none=>simp[ha,hb,hc] at h2
    |some c =>
     simp only[ha,hb,hc] at h2;simp only[I,cE hE h1,Ai hE ha,Ai hE hb,Ai hE hc];cases pa:mF a with
     |none=>simp[pa] at h2
     |some a =>
      cases pb:mF b with
      |none=>simp[pa,pb] at h2
      |some b =>
       cases pc:mF c with
       |none=>simp[pa,pb,pc] at h2
       |some c=>simp only[pa,pb,pc] at h2 ⊢;exact h2
 .rename_i t x i I;obtain⟨v,h1,h2⟩:=jT hr;simp only[I,cE hE h1];exact h2
 .rename_i t x i I;obtain⟨v,h1,h2⟩:=jT hr;simp only[I,cE hE h1];exact h2
 .rename_i t x i I;obtain⟨v,u,h1,h2,h3⟩:=vT hr;simp only[I,cE hE h1,cE hE h2];exact h3
 .rename_i t x i I;obtain⟨v,u,h1,h2,h3⟩:=vT hr;simp only[I,cE hE h1,cE hE h2];exact h3
 .rename_i t x k ok I;obtain⟨v,u,h1,h2,h3⟩:=vT hr;simp only[I,cE hE h1,cE hE h2];exact h3
 .rename_i t i I;obtain⟨v,h1,h2⟩:=jT hr;split at h2
  .simp only[I,cE hE h1];exact h2
  .cases h2
 .rename_i x t a ok I;obtain⟨v,h1,h2⟩:=jT hr;simp only[I,cE hE h1];exact h2
 .rename_i cl I;split at hr
  .rename_i b hc;cases ha:lookArgs E cl.args.toList with
   |none=>simp[ha] at hr
   |some args=>simp only[ha] at hr;simp only[I,evCall,hc,oR hE ha];exact hr
  .cases hr
 .cases hr
def iS (C:gO)(f:FuncId)(args:List V)(h:H)(v:V)(h':H): Prop:=∃N,callF C (ev C N) f args h=some (v,h')
def Call (C:gO)(f:FuncId)(args:List V)(h:H)(R:V->H->Prop): Prop:=∃v h',iS C f args h v h'/\R v h'
variable {cl:Go.Call}
theorem Call.mono {f:FuncId}{R I:V->H->Prop}(hc:Call C f args h R)(hr:∀v h',R v h'->I v h'): Call C f args h I:=by
 obtain⟨v,h',h1,h2⟩:=hc;exact⟨v,h',h1,hr v h' h2⟩
theorem iS.told {f:FuncId}{g:List V->H->Option (V×H)}{v:V}(I:C.told f=some g)(hf:C.P.funcs[f]?=some fn)(hb:fn.body.isSome=true)(hr:g args h=some (v,h')): iS C f args h v h':=by
 refine⟨0,?_⟩<;>grind[callF,hasBody]
theorem iS.body {f:FuncId}{v:V}(I:iS C f args h v h'): hasBody C.P f=true:=by
 obtain⟨N,hN⟩:=I<;>grind[callF,hasBody]
theorem jU (C:gO)(n:Nat)(c:Code)(s:St): ev C (n+1) c s=evStep C (ev C n) c s:=rfl
def WP (C:gO)(ax:Nat)(code:Code)(E:List (Nat×V))(h:H)(Q:Ex->List (Nat×V)->H->Prop): Prop :=
 ∀env,mj env E->∃N ex I h' E',ev C N code ⟨env,ax,h⟩=some (ex,⟨I,ax,h'⟩)/\mj I E'/\Q ex E' h'
def au (C:gO)(ax:Nat)(L l:List Oper)(E:List (Nat×V))(h:H)(Q:List (Nat×V)->H->Prop): Prop :=
 ∀env,mj env E->∃N I h' E',evOps C (ev C N) L l ⟨env,ax,h⟩=some ⟨I,ax,h'⟩/\mj I E'/\Q E' h'
section
variable {ax:Nat} {l:List Oper}
theorem WP.sub {I:List (Nat×V)}(hs:∀t v,look I t=some v->look E t=some v)(hw:WP C ax code I h Q): WP C ax code E h Q:=λenv hE=>hw env (hE.sub hs)
theorem WP.skip (I:Q .normal E h): WP C ax .skip E h Q:=λenv hE=>⟨1,.normal,env,h,E,U,hE,I⟩
theorem WP.ret (I:Q .ret E h): WP C ax .ret E h Q:=λenv hE=>⟨1,.ret,env,h,E,U,hE,I⟩
theorem WP.exit (I:Q (.exit i) E h): WP C ax (.exit i) E h Q:=λenv hE=>⟨1,.exit i,env,h,E,U,hE,I⟩
theorem WP.region (hl:ops.toList=l)(hw:au C ax l l E h λE' h'=>Q .normal E' h'): WP C ax (.region id ops false) E h Q:=by
 intro env hE;obtain⟨N,I,h',E',h1,h2,h3⟩:=hw env hE;refine⟨N+1,.normal,I,h',E',?_,h2,h3⟩<;>grind[jU,evStep]
theorem WP.seq {a b:Code}(hw:WP C ax a E h λex E' h'=>match ex with
  |.normal=>WP C ax b E' h' Q
  |ex=>Q ex E' h'): WP C ax (.seq a b) E h Q:=by
 intro env hE;obtain⟨N,ex,I,h',E',h1,h2,h3⟩:=hw env hE;cases ex with
 |normal =>
  obtain⟨M,sE,Kz,IJ,E2,g1,g2,g3⟩:=h3 I h2;refine⟨Nat.max N M+1,sE,Kz,IJ,E2,?_,g2,g3⟩;rw[jU];simp only[evStep,iN (rI N M) _ _ _ h1];exact iN (rH N M) _ _ _ g1
 |exit i =>
  refine⟨N+1,.exit i,I,h',E',?_,h2,h3⟩<;>grind[jU,evStep]
 |ret =>
  refine⟨N+1,.ret,I,h',E',?_,h2,h3⟩<;>grind[jU,evStep]
theorem WP.cond {a b:Code}{t:Bool}(hx:bE E x=some (.bool t))(hw:WP C ax (_root_.cond t a b) E h Q): WP C ax (.cond x a b) E h Q:=by
 intro env hE;obtain⟨N,ex,I,h',E',h1,h2,h3⟩:=hw env hE;refine⟨N+1,ex,I,h',E',?_,h2,h3⟩<;>grind[jU,evStep,cE]
theorem WP.block {b:Code}(hw:WP C ax b E h λex E' h'=>match ex with
  |.exit j=>_root_.cond (Nat.beq j i) (Q .normal E' h') (Q (.exit j) E' h')
  |ex=>Q ex E' h'): WP C ax (.block i b) E h Q:=by
 intro env hE;obtain⟨N,ex,I,h',E',h1,h2,h3⟩:=hw env hE;cases ex with
 |exit j =>
  cases hj:Nat.beq j i with
  |true =>
   simp only[hj,ag] at h3;refine⟨N+1,.normal,I,h',E',?_,h2,h3⟩<;>grind[jU,evStep]
  |false =>
   simp only[hj,aT] at h3;refine⟨N+1,.exit j,I,h',E',?_,h2,h3⟩<;>grind[jU,evStep]
 |normal =>
  refine⟨N+1,.normal,I,h',E',?_,h2,h3⟩<;>grind[jU,evStep]
 |ret =>
  refine⟨N+1,.ret,I,h',E',?_,h2,h3⟩<;>grind[jU,evStep]
theorem WP.scope {b:Code}(hw:WP C ax b E h Q): WP C ax (.scope b) E h Q:=by
 intro env hE;obtain⟨N,ex,I,h',E',h1,h2,h3⟩:=hw env hE;exact⟨N+1,ex,I,h',E',h1,h2,h3⟩
theorem WP.loop {b:Code}(hw:WP C ax b E h λex E' h'=>match ex with
  |.normal=>WP C ax (.loop b) E' h' Q
  |ex=>Q ex E' h'): WP C ax (.loop b) E h Q:=by
 intro env hE;obtain⟨N,ex,I,h',E',h1,h2,h3⟩:=hw env hE;cases ex with
 |normal =>
  obtain⟨M,sE,Kz,IJ,E2,g1,g2,g3⟩:=h3 I h2;refine⟨Nat.max N M+1,sE,Kz,IJ,E2,?_,g2,g3⟩;rw[jU];simp only[evStep,iN (rI N M) _ _ _ h1];exact iN (rH N M) _ _ _ g1
 |exit i =>
  refine⟨N+1,.exit i,I,h',E',?_,h2,h3⟩<;>grind[jU,evStep]
 |ret =>
  refine⟨N+1,.ret,I,h',E',?_,h2,h3⟩<;>grind[jU,evStep]
theorem au.nil (I:R E h): au C ax L [] E h R:=λenv hE=>⟨0,env,h,E,U,hE,I⟩
def wantE (L:List Oper)(E:List (Nat×V))(g:Option (Nat×Bool)): Option Bool:=match g with
 |none=>some true
 |some (j,want)=>match (nth L j).bind (·.dst) with
  |some d=>match look E d with
   |some (.bool b)=>some (b == want)
   |some _=>some false
   |none=>none
  |none=>none
theorem k_ {o:Oper}{b:Bool}(I:mj env E)(hw:wantE L E o.guard=some b): wantedV L env o=b:=by
 unfold wantE at hw;unfold wantedV;split at hw
 .grind
 .rename_i j want hg;simp only[hg];split at hw
  .rename_i d hd;simp only[hd];split at hw
   .rename_i b' hl;simp only[Env.v,I d _ hl];simpa using hw
   .rename_i v fG hl;simp only[Env.v,I d _ hl];grind
   .cases hw
  .cases hw
theorem au.op {o:Oper}{v:V}(hg:wantE L E o.guard=some true)(hd:o.dst=some d)(hn:Nat.blt d ax=true)(ho:opE C.P E h o.op=some (v,h₁))
 (hw:au C ax L rest ((d,v)::E) h₁ R): au C ax L (o::rest) E h R:=by
 intro env hE;obtain⟨N,I,h',E',h1,h2,h3⟩:=hw (env.set d (some v)) (hE.set d v)<;>grind[evOps,k_,FI,St.put]
theorem au.op0 {o:Oper}{v:V}(hg:wantE L E o.guard=some true)(hd:o.dst=none)(ho:opE C.P E h o.op=some (v,h₁))
 (hw:au C ax L rest E h₁ R): au C ax L (o::rest) E h R:=by
 intro env hE;obtain⟨N,I,h',E',h1,h2,h3⟩:=hw env hE<;>grind[evOps,k_,FI,St.put]
theorem au.no {o:Oper}(hg:wantE L E o.guard=some false)(hd:o.dst=some d)(hn:Nat.blt d ax=true)
 (hw:au C ax L rest ((d,cX)::E) h R): au C ax L (o::rest) E h R:=by
 intro env hE;obtain⟨N,I,h',E',h1,h2,h3⟩:=hw (env.set d (some cX)) (hE.set d cX)<;>grind[evOps,k_,St.put]
theorem IK {o:Oper}{k:FuncId}{v:V}(hE:mj env E)(sB:o.op=.call cl)(hc:cl.callee=.value x)
 (hx:bE E x=some (.fn (.func k) first cap))(ha:lookArgs E cl.args.toList=some args)(I:iS C k (first++(args++cap)) h v h₁):
  ∃N,evOp C (ev C N) env h o=some (v,h₁):=by
 have hb:=I.body;obtain⟨N,hN⟩:=I;refine⟨N,?_⟩;simp only[evOp,sB,evCall,oR hE ha,hc,cE hE hx,callV,hb,ag];exact hN
theorem au.call {o:Oper}{k:FuncId}(hg:wantE L E o.guard=some true)(hd:o.dst=some d)(hn:Nat.blt d ax=true)
 (sB:o.op=.call cl)(hc:cl.callee=.value x)(hx:bE E x=some (.fn (.func k) first cap))(ha:lookArgs E cl.args.toList=some args)
 (I:Call C k (first++(args++cap)) h BG)(hw:∀v h₁,BG v h₁->au C ax L rest ((d,v)::E) h₁ R): au C ax L (o::rest) E h R:=by
 intro env hE;obtain⟨v,h₁,Sb,hr⟩:=I;obtain⟨N,hN⟩:=IK hE sB hc hx ha Sb;obtain⟨M,yc,h',E',h1,h2,h3⟩:=hw v h₁ hr (env.set d (some v)) (hE.set d v);refine⟨Nat.max N M,yc,h',E',?_,h2,h3⟩;simp only[evOps,k_ hE hg,ag,oc (iN (rI N M)) hN,St.put,hd,hn];exact sD (iN (rH N M)) _ _ _ h1
end
def Has (E:List (Nat×V)): List (Nat×V)->Prop
 |[]=>True
 |p::F=>look E p.1=some p.2/\Has E F
theorem Has.sub : ∀ {F:List (Nat×V)},Has E F->∀t v,look F t=some v->look E t=some v:=by
 intro F;induction F with
 |nil=>intro _ t v h;cases h
 |cons p F ih =>
  intro I t v h;simp only[look] at h;by_cases hp:p.1=t
  .subst hp;rw[qW U,ag] at h;rw[I.1];exact h
  .rw[fM hp,aT] at h;exact ih I.2 t v h
theorem WP.has {ax:Nat}{F:List (Nat×V)}(I:Has E F)(hw:WP C ax code F h Q): WP C ax code E h Q:=WP.sub I.sub hw
theorem acW {s:St}(I:mj s.env E){t:Nat}{v:V}(h:look E t=some v): resV P s (.tmp t)=some v:=by
 simp only[resV,Env.v,I t v h]
noncomputable def resE (P:Program)(E:List (Nat×V))(h:H): ResultVar->Option V
 |.tmp t=>look E t
 |.cell a t=>match look E a with
  |some p=>loadV P h t p
  |none=>none
theorem Zq {s:St}(hE:mj s.env E){x:ResultVar}{v:V}(I:resE P E s.h x=some v): resV P s x=some v:=by
 cases x with
 |tmp t=>exact acW hE I
 |cell a t =>
  simp only[resE] at I;cases ha:look E a with
  |none=>grind
  |some p=>simp only[ha] at I;simp only[resV,Env.v,hE a p ha];exact I
noncomputable def resLE (P:Program)(E:List (Nat×V))(h:H)(rs:List ResultVar): Option V:=match mapO (resE P E h) rs with
 |some [v]=>some v
 |some vs=>some (.aX vs)
 |none=>none
theorem NV {s:St}(I:mj s.env E): ∀ {rs:List ResultVar} {vs:List V},mapO (resE P E s.h) rs=some vs->mapO (resV P s) rs=some vs:=by
 intro rs;induction rs<;>grind[mapO,Zq]
def argE : List V->Nat->List (Nat×V)
 |[],_=>[]
 |v::l,k=>(k,v)::argE l (k+1)
theorem Sc : ∀(l:List V) (k t:Nat),look (argE l k) t=if k<=t/\t<k+l.length then l[t-k]? else none:=by
 intro l;induction l with
 |nil=>simp[argE,look]
 |cons v l I =>
  intro k t;simp only[argE,look];by_cases h:k=t
  .simp_all
  grind[fM]
theorem NX (l:List V): mj (bindArgs l 0 .lf) (argE l 0):=by
 intro t v h;grind[Sc,wA]
theorem Call.of_wp {f : FuncId} {R : V → H → Prop} (ht : C.told f = none) (hf : C.P.funcs[f]? = some fn) (hb : fn.body = some code)
  (hq : (fn.name == "runtime.NumGoroutine" || Nat.blt fn.ntmps args.length) = false)
  (hw : WP C fn.ntmps code (argE args 0) h fun ex E' h' => (match ex with | .exit _ => False | _ => True) ∧ ∃ v, resLE C.P E' h' fn.results.toList = some v ∧ R v h') : Call C f args h R := by
 obtain ⟨N, ex, I, h', E', h1, h2, h3, v, h4, h5⟩ := hw _ (NX args)
 refine ⟨v, h', ⟨N, ?_⟩, h5⟩
 unfold callF
 unfold resLE at h4
 cases hm : mapO (resE C.P E' h') fn.results.toList with
 | none => grind
 | some vs =>
  have Ea := NV (P := C.P) (s := ⟨I, fn.ntmps, h'⟩) h2 hm
  cases ex with
  | exit i => grind
  | normal =>
   grind
  | ret =>
   grind
noncomputable section
end
def crcStep : Nat->Nat->Nat
 |r,0=>r
 |r,k+1=>crcStep (cond (Nat.beq (r%2) 1) (Nat.xor (r/2) 3988292384) (r/2)) k
def crcL : Nat->List Nat->Nat
 |r,[]=>r
 |r,b::l=>crcL (crcStep (Nat.xor r b) 8) l
def bytesIn : List V->Option (List Nat)
 |[]=>some []
 |.int .u8 n::l=>cond (decide (0<=n)&&decide (n<256)) (match bytesIn l with
  |some m=>some (n.toNat::m)
  |none=>none) none
 |_=>none
def yS (s:Int)(l:List Nat): V:=.int .u32 ((Nat.xor (crcL (Nat.xor s.toNat 4294967295) l) 4294967295:Nat):Int)
noncomputable def toldMore : List V->H->Option (V×H)
 |[.int .u32 s,.sl id off len _],h=>cond (decide (0<=s)&&decide (s<4294967296)&&Nat.ble len 4611686018427387904) (match rdN h id off len with
  |some cs=>match bytesIn cs with
   |some l=>some (yS s l,h)
   |none=>none
  |none=>none) none
 |[.int .u32 s,.aZ],h=>cond (decide (0<=s)&&decide (s<4294967296)) (some (yS s [],h)) none
 |[.int .u32 s,.sle _],h=>cond (decide (0<=s)&&decide (s<4294967296)) (some (yS s [],h)) none
 |_,_=>none
theorem wrap_u32 (h:n<4294967296): IntKind.wrap .u32 (n:Int)=(n:Int):=by
 grind[IntKind.wrap,IntKind.bits,IntKind.signed]
theorem IL (h:n<4294967296): ((n:Int)%(2^(IntKind.u32).bits:Int)).toNat=n:=by
 grind[IntKind.bits]
theorem qI (I:a<4294967296)(hb:b<4294967296:=by omega): Nat.xor a b<4294967296:=Nat.xor_lt_two_pow (n:=32) I hb
theorem Aj (I:a<4294967296)(hb:b<4294967296): intV .xor .u32 (a:Int) (b:Int)=some (.int .u32 ((Nat.xor a b:Nat):Int)):=by
 grind[intV,bitsV,IL,wrap_u32,qI]
theorem Sd (I:a<4294967296): intV .and .u32 (a:Int) 1=some (.int .u32 ((a%2:Nat):Int)):=by
 have h1:((1:Int)%(2^(IntKind.u32).bits:Int)).toNat=1:=by rfl
 simp only[intV,bitsV];rw[IL I,h1];have:Nat.land a 1=a%2:=Nat.and_one_is_mod a;rw[this,wrap_u32 (by omega)]
theorem FJ : shiftV .shr .u32 (a:Int) 1=some (.int .u32 ((a/2:Nat):Int)):=by
 grind[shiftV,IntKind.bits]
theorem Zr {c:Ctx}(h:Rel c σ w)(hr:rdN σ id off k=some vs): vs.length=k/\∀j,j<k->Bh σ id (off+j)=vs[j]?:=by
 unfold rdN at hr;split at hr
 .rename_i n cs st I;have hn:n=cs.length:=(h.obj id _ I).1;grind[aS,beq_iff,Bh,gE]
 .cases hr
def unblk : Code->Code
 |.block _ c=>c
 |c=>c
def unloop : Code->Code
 |.loop c=>c
 |c=>c
noncomputable def lI : Code:=(Tryz.f211.body).getD .skip
noncomputable def lE : Code:=unloop (unblk (eC (leftC (eC (eC lI)))))
noncomputable def qi : Code:=unblk (leftC (eC (eC lE)))
noncomputable def qJ : Code:=unloop (unblk (eC (eC (eC qi))))
theorem jb (C:gO)(n:Nat)(c:Code)(s:St): ev C (n+1) c s=evStep C (ev C n) c s:=rfl
theorem wrap_i64 (h:n<9223372036854775808): IntKind.wrap .i64 (n:Int)=(n:Int):=by
 grind[IntKind.bits,IntKind.wrap]
theorem BI (h:n<9223372036854775807): intV .add .i64 (n:Int) 1=some (.int .i64 ((n+1:Nat):Int)):=by
 have:((n:Int)+1)=((n+1:Nat):Int):=by omega
 simp only[intV,this,wrap_i64 (show n+1<9223372036854775808 by omega)]
section
theorem ct {o:Oper}(hg:o.guard=none)(hd:o.dst=some d)(I:Nat.blt d n=true):
  evOps C self L (o::rest) ⟨env,n,h⟩=(evOp C self env h o).bind λr=>evOps C self L rest ⟨env.set d (some r.1),n,r.2⟩:=by
 grind[evOps,wantedV,St.put]
end
noncomputable def mR7 : Code:=leftC qJ
noncomputable def xp : Code:=eC (eC qJ)
noncomputable def mR8 : Code:=leftC (unblk (leftC xp))
noncomputable def mIf : Code:=eC (unblk (leftC xp))
noncomputable def Vm : Code:=eC xp
section
variable (n:Nat) (env:Env) (h:H)
theorem Se (I:T.get env 20=some (.int .i64 j)): ev C (n+1) mR7 ⟨env,34,h⟩=some (.normal,⟨env.set 21 (some (.bool (decide ((j:Int)<8)))),34,h⟩):=by
 simp only[mR7,qJ,qi,lE,lI,Tryz.f211,dz,leftC,eC,unblk,unloop,jb,evStep,aT];rw[ct U U U];simp only[evOp,evO,Env.v,I,ofValue,ofScalar,binV,ikBeq,ag,intV,bO,dO,evOps]
theorem abf {x:Nat}(hx:x<4294967296)(h5:T.get env 5=some (.int .u32 x)):
  ∃I,ev C (n+1) mR8 ⟨env,34,h⟩=some (.normal,⟨I,34,h⟩)/\T.get I 24=some (.bool (Nat.beq (x%2) 1))/\∀t,t≠22->t≠23->t≠24->T.get I t=T.get env t:=by
 refine⟨((env.set 22 (some (.int .u32 x))).set 23 (some (.int .u32 ((x%2:Nat):Int)))).set 24 (some (.bool (Nat.beq (x%2) 1))),?_,by simp[bg],λt h1 h2 h3=>by simp[bg,h1,h2,h3]⟩;simp only[mR8,xp,qJ,qi,lE,lI,Tryz.f211,dz,leftC,eC,unblk,unloop,jb,evStep,aT];rw[ct U U U];simp only[evOp,evO,Env.v,h5,bO,dO];rw[ct U U U];simp only[evOp,evO,Env.v,bg,dI,ofValue,ofScalar,binV,ikBeq,ag,Sd hx,bO,dO];rw[ct U U U];simp only[evOp,evO,Env.v,bg,dI,ofValue,ofScalar,binV,ikBeq,ag,intV,bO,dO,evOps];rfl
theorem Sf {x:Nat}(I:x<4294967296): Nat.xor (x/2) 3988292384<4294967296:=qI (by omega)
theorem abg {x:Nat}{b:Bool}(hx:x<4294967296)(h5:T.get env 5=some (.int .u32 x))(I:T.get env 24=some (.bool b)):
  ∃e',ev C (n+2) mIf ⟨env,34,h⟩=some (.normal,⟨e',34,h⟩)/\T.get e' 5=some (.int .u32 ((cond b (Nat.xor (x/2) 3988292384) (x/2):Nat):Int))/\∀t,t<25->t≠5->T.get e' t=T.get env t:=by
 simp only[mIf,xp,qJ,qi,lE,lI,Tryz.f211,dz,leftC,eC,unblk,unloop,jb,evStep,evO,Env.v,I];cases b with
 |true =>
  refine⟨(((env.set 25 (some (.int .u32 x))).set 26 (some (.int .u32 ((x/2:Nat):Int)))).set 27 (some (.int .u32 ((Nat.xor (x/2) 3988292384:Nat):Int)))).set 5 (some (.int .u32 ((Nat.xor (x/2) 3988292384:Nat):Int))),?_,by simp[bg],λt h1 h2 => ?_⟩
  .simp only[ag,aT];rw[ct U U U];simp only[evOp,evO,Env.v,h5,bO,dO];rw[ct U U U];simp only[evOp,evO,Env.v,bg,dI,ofValue,ofScalar,binV,FJ,bO,dO];rw[ct U U U];have:=Aj (a:=x/2) (b:=3988292384) (by omega) (by omega);rw[show((3988292384:Nat):Int)=3988292384 from U] at this;simp only[evOp,evO,Env.v,bg,dI,ofValue,ofScalar,binV,ikBeq,ag,this,bO,dO];rw[ct U U U];simp only[evOp,evO,Env.v,bg,dI,bO,dO,evOps]
  grind[bg]
 |false =>
  refine⟨((env.set 28 (some (.int .u32 x))).set 29 (some (.int .u32 ((x/2:Nat):Int)))).set 5 (some (.int .u32 ((x/2:Nat):Int))),?_,by simp[bg],λt h1 h2 => ?_⟩
  .simp only[aT];rw[ct U U U];simp only[evOp,evO,Env.v,h5,bO,dO];rw[ct U U U];simp only[evOp,evO,Env.v,bg,dI,ofValue,ofScalar,binV,FJ,bO,dO];rw[ct U U U];simp only[evOp,evO,Env.v,bg,dI,bO,dO,evOps]
  grind[bg]
theorem Zs (hj:j<8)(I:T.get env 20=some (.int .i64 j)):
  ∃e',ev C (n+1) Vm ⟨env,34,h⟩=some (.normal,⟨e',34,h⟩)/\T.get e' 20=some (.int .i64 ((j+1:Nat):Int))/\∀t,t≠20->t≠30->T.get e' t=T.get env t:=by
 refine⟨(env.set 30 (some (.int .i64 ((j+1:Nat):Int)))).set 20 (some (.int .i64 ((j+1:Nat):Int))),?_,by simp[bg],λt h1 h2=>by simp[bg,h1,h2]⟩;simp only[Vm,xp,qJ,qi,lE,lI,Tryz.f211,dz,leftC,eC,unblk,unloop,jb,evStep,aT];rw[ct U U U];simp only[evOp,evO,Env.v,I,ofValue,ofScalar,binV,ikBeq,ag,BI (show j<9223372036854775807 by omega),bO,dO];rw[ct U U U];simp only[evOp,evO,Env.v,bg,dI,bO,dO,evOps]
section
variable {n:Nat} {s:St}
theorem mo {a b:Code}(I:ev C n a s=some (.normal,s')): ev C (n+1) (.seq a b) s=ev C n b s':=by grind[jb,evStep]
theorem yf {a b:Code}(I:ev C n a s=some (.exit i,s')): ev C (n+1) (.seq a b) s=some (.exit i,s'):=by grind[jb,evStep]
theorem yT {a b:Code}{t:Bool}(I:evO s.env x=some (.bool t)): ev C (n+1) (.cond x a b) s=ev C n (cond t a b) s:=by grind[jb,evStep]
theorem KA {c:Code}(h:ev C n c s=some (.normal,s')): ev C (n+1) (.block i c) s=some (.normal,s'):=by grind[jb,evStep]
theorem A3 {c:Code}(h:ev C n c s=some (.exit i,s')): ev C (n+1) (.block i c) s=some (.normal,s'):=by simp_all[jb,evStep]
theorem NY {b:Code}(h:ev C n b s=some (.normal,s')): ev C (n+1) (.loop b) s=ev C n (.loop b) s':=by grind[jb,evStep]
theorem wE {b:Code}(h:ev C n b s=some (.exit i,s')): ev C (n+1) (.loop b) s=some (.exit i,s'):=by grind[jb,evStep]
end
theorem IM : qJ=.seq mR7 (.seq (.cond (.tmp 21) .skip (.exit 2)) xp):=rfl
theorem Vn : xp=.seq (.block 3 (.seq mR8 mIf)) Vm:=rfl
theorem PU {x:Nat}(hx:x<4294967296)(hj:j<8)(h5:T.get env 5=some (.int .u32 x))(h20:T.get env 20=some (.int .i64 j)):
  ∃e',ev C (n+9) qJ ⟨env,34,h⟩=some (.normal,⟨e',34,h⟩)/\T.get e' 5=some (.int .u32 ((crcStep x 1:Nat):Int))/\T.get e' 20=some (.int .i64 ((j+1:Nat):Int)) /\
   ∀t,t<20->t≠5->T.get e' t=T.get env t:=by
 have cq:decide ((j:Int)<8)=true:=by grind
 have q7:=Se (C:=C) (n+7) env h h20;rw[cq] at q7;have g5:T.get (env.set 21 (some (.bool true))) 5=some (.int .u32 x):=by simp[bg,h5]
 obtain⟨e8,q8,q8a,q8b⟩:=abf (C:=C) (n+3) (env.set 21 (some (.bool true))) h hx g5;have g5':T.get e8 5=some (.int .u32 x):=by grind
 obtain⟨e9,q9,q9a,q9b⟩:=abg (C:=C) (n+2) e8 h hx g5' q8a;have g20:T.get e9 20=some (.int .i64 j):=by
  grind[bg]
 obtain⟨e11,q11,I,agb⟩:=Zs (C:=C) (n+5) e9 h hj g20;refine⟨e11,?_,?_,I,λt h1 h2 => ?_⟩
 .rw[IM,mo q7,mo (s':=⟨env.set 21 (some (.bool true)),34,h⟩) (by rw[yT (t:=true) (by simp[evO,Env.v,bg])];rfl),Vn,
   mo (KA (by rw[mo q8];exact q9)),q11]
 .grind[crcStep]
 .grind[bg]
theorem PV : ∀(k n:Nat) (env:Env) (x:Nat),k<=8->x<4294967296->T.get env 5=some (.int .u32 x)->T.get env 20=some (.int .i64 ((8-k:Nat):Int)) ->
  ∃e',ev C (n+10+k) (.loop qJ) ⟨env,34,h⟩=some (.exit 2,⟨e',34,h⟩)/\T.get e' 5=some (.int .u32 ((crcStep x k:Nat):Int))/\∀t,t<20->t≠5->T.get e' t=T.get env t:=by
 intro k;induction k with
 |zero =>
  intro n env x _ hx h5 I;have q7:=Se (C:=C) (n+7) env h I;refine⟨env.set 21 (some (.bool false)),?_,by simp[bg,h5,crcStep],λt h1 h2 => ?_⟩
  .refine wE ?_;rw[IM,mo q7];exact yf (by rw[yT (t:=false) (by simp[evO,Env.v,bg])];rfl)
  grind[bg]
 |succ k ih =>
  intro n env x hk hx h5 I;obtain⟨e1,q1,q2,q3,q4⟩:=PU (C:=C) (n+1+k) env h hx (show 8-(k+1)<8 by omega) h5 I;have h8:8-(k+1)+1=8-k:=by omega
  rw[h8] at q3;have IN:crcStep x 1<4294967296:=by
   grind[crcStep,Sf]
  obtain⟨e2,p1,p2,p3⟩:=ih n e1 (crcStep x 1) (by omega) IN q2 q3;refine⟨e2,?_,?_,λt h1 h2=>by grind⟩
  .grind[NY]
  .rw[p2];simp only[crcStep]
end
noncomputable def mR3 : Code:=leftC lE
noncomputable def JQ : Code:=eC (eC lE)
noncomputable def Vo : Code:=eC JQ
noncomputable def mR4 : Code:=leftC qi
noncomputable def mR5 : Code:=leftC (eC qi)
noncomputable def mR6 : Code:=leftC (eC (eC qi))
theorem Vp : qi=.seq mR4 (.seq mR5 (.seq mR6 (.block 2 (.loop qJ)))):=rfl
theorem BJ : lE=.seq mR3 (.seq (.cond (.tmp 13) .skip (.exit 0)) JQ):=rfl
theorem Vq : JQ=.seq (.block 1 qi) Vo:=rfl
theorem fO : bq Tryz.prog 5=some 1:=by kernel_rfl
theorem NZ : isAggT Tryz.prog 5=some false:=by kernel_rfl
section
variable {told:cu} (n:Nat) (env:Env) (h:H)
theorem KB {len:Nat}(I:T.get env 12=some (.int .i64 i))(FK:T.get env 11=some (.int .i64 len)):
  ev ⟨Tryz.prog,told⟩ (n+1) mR3 ⟨env,34,h⟩=some (.normal,⟨env.set 13 (some (.bool (decide ((i:Int)<(len:Int))))),34,h⟩):=by
 simp only[mR3,lE,lI,Tryz.f211,dz,leftC,eC,unblk,unloop,jb,evStep,aT];rw[ct U U U];simp_all[evOp,evO,Env.v,binV,ikBeq,intV,bO,evOps]
theorem abh {len:Nat}{cap:Cap}(hi:i<len)(I:T.get env 12=some (.int .i64 i))(u9:T.get env 10=some (.sl id off len cap))(hb:Bh h id (off+i)=some (.int .u8 b)):
  ∃e',ev ⟨Tryz.prog,told⟩ (n+1) mR4 ⟨env,34,h⟩=some (.normal,⟨e',34,h⟩)/\T.get e' 7=some (.int .u8 b)/\∀t,t≠7->t≠14->t≠15->T.get e' t=T.get env t:=by
 refine⟨((env.set 14 (some (.ptr id (off+i)))).set 15 (some (.int .u8 b))).set 7 (some (.int .u8 b)),?_,by simp[bg],λt h1 h2 h3=>by simp[bg,h1,h2,h3]⟩;simp only[mR4,qi,lE,lI,Tryz.f211,dz,leftC,eC,unblk,unloop,jb,evStep,aT];rw[ct U U U];have d1:decide ((0:Int)<=(i:Int))=true:=by simp
 have d2:decide ((i:Int)<(len:Int))=true:=by grind
 simp only[evOp,evO,Env.v,u9,I,indexAddrV,aP,fO,d1,d2,kf,ag,fI,cH,bO,dO];rw[ct U U U];simp only[evOp,evO,Env.v,bg,dI,loadV,NZ,hb,bO,dO];rw[ct U U U];simp only[evOp,evO,Env.v,bg,dI,bO,dO,evOps]
theorem abi {x:Nat}(hx:x<4294967296)(hb:b<256)(h5:T.get env 5=some (.int .u32 x))(h7:T.get env 7=some (.int .u8 b)):
  ∃I,ev ⟨Tryz.prog,told⟩ (n+1) mR5 ⟨env,34,h⟩=some (.normal,⟨I,34,h⟩)/\T.get I 5=some (.int .u32 ((Nat.xor x b:Nat):Int))/\∀t,t<16->t≠5->T.get I t=T.get env t:=by
 refine⟨((((env.set 16 (some (.int .u32 x))).set 17 (some (.int .u8 b))).set 18 (some (.int .u32 b))).set 19 (some (.int .u32 ((Nat.xor x b:Nat):Int)))).set 5 (some (.int .u32 ((Nat.xor x b:Nat):Int))),?_,by simp[bg],λt h1 h2 => ?_⟩
 .simp only[mR5,qi,lE,lI,Tryz.f211,dz,leftC,eC,unblk,unloop,jb,evStep,aT];rw[ct U U U];simp only[evOp,evO,Env.v,h5,bO,dO];rw[ct U U U];have g7:T.get (env.set 16 (some (.int .u32 x))) 7=some (.int .u8 b):=by simp[bg,h7]
  simp only[evOp,evO,Env.v,g7,bO,dO];rw[ct U U U];simp only[evOp,evO,Env.v,bg,dI,convV,Tryz.underlying5,Tryz.underlying260,wrap_u32 (show b<4294967296 by omega),dO];rw[ct U U U];have g16:T.get (((env.set 16 (some (.int .u32 x))).set 17 (some (.int .u8 b))).set 18 (some (.int .u32 b))) 16=some (.int .u32 x):=by simp[bg]
  have g18:T.get (((env.set 16 (some (.int .u32 x))).set 17 (some (.int .u8 b))).set 18 (some (.int .u32 b))) 18=some (.int .u32 b):=by simp[bg]
  simp only[evOp,evO,Env.v,g16,g18,binV,ikBeq,ag,Aj hx (show b<4294967296 by omega),bO,dO];rw[ct U U U];simp only[evOp,evO,Env.v,bg,dI,bO,dO,evOps]
 grind[bg]
theorem abj : ev ⟨Tryz.prog,told⟩ (n+1) mR6 ⟨env,34,h⟩=some (.normal,⟨env.set 20 (some (.int .i64 0)),34,h⟩):=by
 rfl
theorem Zt (hi:i<9223372036854775807)(I:T.get env 12=some (.int .i64 i)):
  ∃e',ev ⟨Tryz.prog,told⟩ (n+1) Vo ⟨env,34,h⟩=some (.normal,⟨e',34,h⟩)/\T.get e' 12=some (.int .i64 ((i+1:Nat):Int))/\∀t,t≠12->t≠31->T.get e' t=T.get env t:=by
 refine⟨(env.set 31 (some (.int .i64 ((i+1:Nat):Int)))).set 12 (some (.int .i64 ((i+1:Nat):Int))),?_,by simp[bg],λt h1 h2=>by simp[bg,h1,h2]⟩;simp only[Vo,JQ,lE,lI,Tryz.f211,dz,leftC,eC,unblk,unloop,jb,evStep,aT];rw[ct U U U];simp only[evOp,evO,Env.v,I,ofValue,ofScalar,binV,ikBeq,ag,BI hi,bO,dO];rw[ct U U U];simp only[evOp,evO,Env.v,bg,dI,bO,dO,evOps]
theorem FL : ∀(k x:Nat),x<4294967296->crcStep x k<4294967296:=by
 intro k;induction k<;>grind[crcStep,Sf]
theorem Vr {x len:Nat}{cap:Cap}(hx:x<4294967296)(hb:b<256)(hi:i<len)(h5:T.get env 5=some (.int .u32 x))(I:T.get env 12=some (.int .i64 i))(u9:T.get env 10=some (.sl id off len cap))
 (hr:Bh h id (off+i)=some (.int .u8 b)):
  ∃e',ev ⟨Tryz.prog,told⟩ (n+22) qi ⟨env,34,h⟩=some (.normal,⟨e',34,h⟩)/\T.get e' 5=some (.int .u32 ((crcStep (Nat.xor x b) 8:Nat):Int))/\∀t,t=10\/t=11\/t=12->T.get e' t=T.get env t:=by
 obtain⟨e4,q4,q4a,q4b⟩:=abh (told:=told) (n+20) env h hi I u9 hr;obtain⟨e5,q5,q5a,q5b⟩:=abi (told:=told) (n+19) e4 h hx hb (by grind) q4a;have q6:=abj (told:=told) (n+18) e5 h;obtain⟨e2,q2,XY,XZ⟩:=PV (C:=⟨Tryz.prog,told⟩) h 8 n (e5.set 20 (some (.int .i64 0))) (Nat.xor x b) (by omega) (qI hx) (by simp[bg,q5a]) (by simp[bg])<;>simp_all[bg,Vp,mo,A3]
theorem PW {len:Nat}{cap:Cap}(hlen:len<9223372036854775807): ∀(l:List Nat) (i n:Nat) (env:Env) (x:Nat),i+l.length=len->x<4294967296->(∀b∈l,b<256) ->
  (∀j b:Nat,l[j]?=some b->Bh h id (off+(i+j))=some (.int .u8 (b:Int)))->T.get env 5=some (.int .u32 x)->T.get env 12=some (.int .i64 i)->T.get env 10=some (.sl id off len cap)->T.get env 11=some (.int .i64 len) ->
  ∃e',ev ⟨Tryz.prog,told⟩ (n+30+l.length) (.loop lE) ⟨env,34,h⟩=some (.exit 0,⟨e',34,h⟩)/\T.get e' 5=some (.int .u32 ((crcL x l:Nat):Int)):=by
 intro l;induction l with
 |nil =>
  intro i n env x hi hx _ _ h5 I u9 FK;have q3:=KB (told:=told) (n+27) env h I FK;have hd:decide ((i:Int)<(len:Int))=false:=by grind
  rw[hd] at q3;refine⟨env.set 13 (some (.bool false)),?_,by simp[bg,h5,crcL]⟩;refine wE ?_;rw[BJ,mo q3];exact yf (by rw[yT (t:=false) (by simp[evO,Env.v,bg])];rfl)
 |cons b l ih =>
  intro i n env x hi hx X0 jm h5 I u9 FK;simp only[aW] at hi;have q3:=KB (told:=told) (n+l.length+28) env h I FK;have hd:decide ((i:Int)<(len:Int))=true:=by grind
  rw[hd] at q3;have hb:b<256:=X0 b (by simp);have hr:=jm 0 b (by simp);rw[eF] at hr;obtain⟨e1,q1,q1a,q1b⟩:=Vr (told:=told) (cap:=cap) (n+l.length+4) (env.set 13 (some (.bool true))) h hx hb (show i<len by omega) (by simp[bg,h5]) (by simp[bg,I]) (by simp[bg,u9]) hr;obtain⟨e2,q2,XY,XZ⟩:=Zt (told:=told) (n+l.length+26) e1 h (show i<9223372036854775807 by omega) (by grind[bg]);have rR:crcStep (Nat.xor x b) 8<4294967296:=FL 8 _ (qI hx);obtain⟨e3,q3',q3a⟩:=ih (i+1) n e2 (crcStep (Nat.xor x b) 8) (by omega) rR (λc hc=>X0 c (by grind)) (λj c hj=>by
   have:=jm (j+1) c (by grind)
   rwa [show i+(j+1)=i+1+j from by omega] at this) (by grind) XY (by grind[bg]) (by grind[bg])
  refine⟨e3,?_,by rw[q3a];simp only[crcL]⟩;have abk:ev ⟨Tryz.prog,told⟩ (n+l.length+30) lE ⟨env,34,h⟩=some (.normal,⟨e2,34,h⟩):=by
   rw[BJ,mo q3,mo (s':=⟨env.set 13 (some (.bool true)),34,h⟩) (by rw[yT (t:=true) (by simp[evO,Env.v,bg])];rfl),Vq,
    mo (KA q1),q2]
  rw[aW,show n+30+(l.length+1)=(n+l.length+30)+1 from by omega,NY abk,show n+l.length+30=n+30+l.length from by omega];exact q3'
noncomputable def mR0 : Code:=leftC lI
noncomputable def mR1 : Code:=leftC (eC lI)
noncomputable def mR2 : Code:=leftC (leftC (eC (eC lI)))
noncomputable def Vs : Code:=eC (eC (eC lI))
theorem Vt : lI=.seq mR0 (.seq mR1 (.seq (.seq mR2 (.block 0 (.loop lE))) Vs)):=rfl
theorem abl : ev ⟨Tryz.prog,told⟩ (n+1) mR0 ⟨env,34,h⟩=some (.normal,⟨env.set 4 (some (.int .u32 0)),34,h⟩):=by
 rfl
theorem abm {x:Nat}(hx:x<4294967296)(h0:T.get env 0=some (.int .u32 x)):
  ∃I,ev ⟨Tryz.prog,told⟩ (n+1) mR1 ⟨env,34,h⟩=some (.normal,⟨I,34,h⟩)/\T.get I 5=some (.int .u32 ((Nat.xor x 4294967295:Nat):Int))/\∀t,t≠5->t≠8->t≠9->T.get I t=T.get env t:=by
 refine⟨((env.set 8 (some (.int .u32 x))).set 9 (some (.int .u32 ((Nat.xor x 4294967295:Nat):Int)))).set 5 (some (.int .u32 ((Nat.xor x 4294967295:Nat):Int))),?_,by simp[bg],λt h1 h2 h3=>by simp[bg,h1,h2,h3]⟩;simp only[mR1,lI,Tryz.f211,dz,leftC,eC,jb,evStep,aT];rw[ct U U U];simp only[evOp,evO,Env.v,h0,bO,dO];rw[ct U U U];have:=Aj (a:=x) (b:=4294967295) hx (by omega);rw[show((4294967295:Nat):Int)=4294967295 from U] at this;simp only[evOp,evO,Env.v,bg,dI,ofValue,ofScalar,binV,ikBeq,ag,this,bO,dO];rw[ct U U U];simp only[evOp,evO,Env.v,bg,dI,bO,dO,evOps]
theorem abn {x:V}{len:Nat}(h1:T.get env 1=some x)(hl:lenV Tryz.prog h 29 x=some (.int .i64 len)):
  ∃I,ev ⟨Tryz.prog,told⟩ (n+1) mR2 ⟨env,34,h⟩=some (.normal,⟨I,34,h⟩)/\T.get I 10=some x/\T.get I 11=some (.int .i64 len)/\T.get I 12=some (.int .i64 ((0:Nat):Int))/\T.get I 5=T.get env 5:=by
 refine⟨((env.set 10 (some x)).set 11 (some (.int .i64 len))).set 12 (some (.int .i64 0)),?_,by simp[bg],by simp[bg],by simp[bg],by simp[bg]⟩;simp only[mR2,lI,Tryz.f211,dz,leftC,eC,jb,evStep,aT];rw[ct U U U];simp only[evOp,evO,Env.v,h1,bO,dO];rw[ct U U U];simp only[evOp,evCall,evArgs,evO,Env.v,bg,dI,builtinV,hl,gQ,dO];rw[ct U U U];simp only[evOp,evO,ofValue,ofScalar,bO,dO,evOps]
theorem Zu {x:Nat}(hx:x<4294967296)(h5:T.get env 5=some (.int .u32 x)):
  ∃I,ev ⟨Tryz.prog,told⟩ (n+2) Vs ⟨env,34,h⟩=some (.ret,⟨I,34,h⟩)/\T.get I 4=some (.int .u32 ((Nat.xor x 4294967295:Nat):Int)):=by
 refine⟨((env.set 32 (some (.int .u32 x))).set 33 (some (.int .u32 ((Nat.xor x 4294967295:Nat):Int)))).set 4 (some (.int .u32 ((Nat.xor x 4294967295:Nat):Int))),?_,by simp[bg]⟩;simp only[Vs,lI,Tryz.f211,dz,eC,jb,evStep,aT];rw[ct U U U];simp only[evOp,evO,Env.v,h5,bO,dO];rw[ct U U U];have:=Aj (a:=x) (b:=4294967295) hx (by omega);rw[show((4294967295:Nat):Int)=4294967295 from U] at this;simp only[evOp,evO,Env.v,bg,dI,ofValue,ofScalar,binV,ikBeq,ag,this,bO,dO];rw[ct U U U];simp only[evOp,evO,Env.v,bg,dI,bO,dO,evOps]
end
theorem PX : ∀(cs:List V) (l:List Nat),bytesIn cs=some l->cs=l.map (λ(b:Nat)=>V.int .u8 (b:Int))/\∀b∈l,b<256:=by
 intro cs;induction cs with
 |nil=>grind[bytesIn]
 |cons v cs I =>
  intro l h;unfold bytesIn at h;grind
theorem HK : ∀(l:List Nat) (x:Nat),x<4294967296->(∀b∈l,b<256)->crcL x l<4294967296:=by
 intro l;induction l with
 |nil=>intro x I _;exact I
 |cons b l ih =>
  intro x I hb;have h1:=hb b (by simp);exact ih _ (FL 8 _ (qI I)) (λc hc=>hb c (by grind))
theorem Et {s : Int} {x : V} {len : Nat} (IP : 0 ≤ s) (ej : s < 4294967296) (hl : lenV Tryz.prog σ 29 x = some (.int .i64 len)) (hlen : len = l.length) (k9 : len < 9223372036854775807)
  (hb : ∀ b ∈ l, b < 256) (hx : l = [] ∨ ∃ id off cap, x = .sl id off len cap ∧ ∀ j b : Nat, l[j]? = some b → Bh σ id (off + (0 + j)) = some (.int .u8 (b : Int))) :
  run ⟨Tryz.prog, fun _ => none⟩ (l.length + 40) 211 [.int .u32 s, x] σ = some (yS s l, σ) := by
 obtain ⟨u, rfl⟩ : ∃ u : Nat, s = (u : Int) := ⟨s.toNat, by omega⟩
 have hu : u < 4294967296 := by omega
 have q0 := abl (told := fun _ => none) (l.length + 38) (bindArgs [.int .u32 u, x] 0 .lf) σ
 obtain ⟨e1, q1, q1a, q1b⟩ := abm (told := fun _ => none) (l.length + 37) ((bindArgs [.int .u32 u, x] 0 .lf).set 4 (some (.int .u32 0))) σ hu (by rfl)
 obtain ⟨e2, q2, XY, XZ, q2c, q2d⟩ := abn (told := fun _ => none) (l.length + 35) e1 σ (x := x) (by grind [bg, bindArgs]) hl
 have I : Nat.xor u 4294967295 < 4294967296 := qI hu (by omega)
 have acX : ∃ e', ev ⟨Tryz.prog, fun _ => none⟩ (5 + 30 + l.length) (.loop lE) ⟨e2, 34, σ⟩ = some (.exit 0, ⟨e', 34, σ⟩) ∧ T.get e' 5 = some (.int .u32 ((crcL (Nat.xor u 4294967295) l : Nat) : Int)) := by
  rcases hx with rfl | ⟨id, off, cap, rfl, jm⟩
  ·have q3 := KB (told := fun _ => none) 32 e2 σ q2c XZ
   have hd : decide ((((0 : Nat) : Int)) < (len : Int)) = false := by grind
   rw [hd] at q3
   refine ⟨e2.set 13 (some (.bool false)), ?_, by simp [bg, q2d, q1a, crcL]⟩
   refine wE ?_
   rw [BJ, mo q3]
   exact yf (by rw [yT (t := false) (by simp [evO, Env.v, bg])]; rfl)
  ·exact PW σ k9 l 0 5 e2 _ (by omega) I hb jm (by grind) q2c XY XZ
 obtain ⟨e3, q3, q3a⟩ := acX
 obtain ⟨e4, q4, q4a⟩ := Zu (told := fun _ => none) (l.length + 35) e3 σ (HK l _ I hb) q3a
 have acY : ev ⟨Tryz.prog, fun _ => none⟩ (l.length + 40) lI ⟨bindArgs [.int .u32 u, x] 0 .lf, 34, σ⟩ = some (.ret, ⟨e4, 34, σ⟩) := by
  rw [Vt, mo q0, mo q1, mo (s' := ⟨e3, 34, σ⟩) (by
   rw [mo q2]
   grind [A3]), q4]
 unfold run callF
 simp only [FE]
 rw [show Tryz.f211.body = some lI from rfl]
 rw [show (Tryz.f211.name == "runtime.NumGoroutine" || Nat.blt Tryz.f211.ntmps [V.int .u32 (u : Int), x].length) = false from rfl]
 simp only [aT]
 rw [show Tryz.f211.ntmps = 34 from rfl, acY]
 simp only
 rw [show Tryz.f211.results = #[.tmp 4] from rfl]
 simp only [mapO, resV, Env.v, q4a, yS, fI]
section
variable {c:Ctx}
theorem M9 (hP:C.P=Tryz.prog)(hm:C.P.follows .mixedOrders=true){v:V}(hr:toldMore args σ=some (v,fb))(h:Rel c σ w)(hw:∀x∈args,wf c x):
  kK C.P 211 args c w v fb:=by
 rw[hP] at hm ⊢;have hT:iR ⟨Tryz.prog,λ_=>none⟩:=λf g hg=>by cases hg
 unfold toldMore at hr;split at hr
 .rename_i s id off len cap;cases Sg:(decide (0<=s)&&decide (s<4294967296)&&Nat.ble len 4611686018427387904) with
  |false=>grind
  |true =>
   rw[Sg,ag] at hr;simp only[bV,ke,aS] at Sg;obtain⟨I,k9⟩:=Sg;cases jm:rdN σ id off len with
   |none=>grind
   |some cs =>
    simp only[jm] at hr;cases hb:bytesIn cs with
    |none=>grind
    |some l =>
     simp only[hb,aA,bW] at hr;obtain⟨rfl,rfl⟩:=hr;obtain⟨b1,b2⟩:=PX cs l hb;obtain⟨d1,d2⟩:=Zr h jm;have hl:len=l.length:=by grind
     refine Kx (C:=⟨Tryz.prog,λ_=>none⟩) hm hT (Et I.1 I.2 (len:=len) (by simp[lenV,aP]) hl (by omega) b2 (.inr ⟨id,off,cap,U,λj b hj => ?_⟩)) h hw
     .grind
 .rename_i s;cases I:(decide (0<=s)&&decide (s<4294967296)) with
  |false=>grind
  |true =>
   rw[I,ag] at hr;simp only[bV,ke] at I;obtain⟨rfl,rfl⟩:=hr;exact Kx (C:=⟨Tryz.prog,λ_=>none⟩) hm hT (Et I.1 I.2 (len:=0) (l:=[]) (by simp[lenV,aP]) U (by omega) (by simp) (.inl U)) h hw
 .rename_i s _;cases I:(decide (0<=s)&&decide (s<4294967296)) with
  |false=>grind
  |true =>
   rw[I,ag] at hr;simp only[bV,ke] at I;obtain⟨rfl,rfl⟩:=hr;exact Kx (C:=⟨Tryz.prog,λ_=>none⟩) hm hT (Et I.1 I.2 (len:=0) (l:=[]) (by simp[lenV,aP]) U (by omega) (by simp) (.inl U)) h hw
 .cases hr
end
end Go.Proofs.YtdonpgpfplgigaaGreat.Am
namespace Go.Proofs.YtdonpgpfplgigaaGreat.Am
open Go Go.Maps Go.RowKit
variable {ps:Array (Nat×Operand)} {ops:Array Oper} {st:Bool} {C:gO} {code:Code} {c₀:Ctx} {env:Env} {Q:Ex->List (Nat×V)->H->Prop} {fn:Func} {cl:Go.Call} {h h' σ h₁ fb:H} {κ:IntKind} {E E':List (Nat×V)} {R:List (Nat×V)->H->Prop} {d₀:List Deferred} {hs:List H} {fL es l:List Nat} {L rest:List Oper} {args first cap vs cs ds:List V} {a b i c k id n d off j g vq k' q:Nat} {Hs:Nat->H} {early:Nat->Option (Nat×FV)} {Fl:Nat->Prop} {vv:Nat->V} {o':Obj} {x y:Operand} {P:Program} {φ:Prop} {self:Self} {s':St} {α:Type} {td:TypeDesc} {t t' e kt et:TypeId} {r u z:V} {BG:V->H->Prop} {w₀ w:World}
def keyInts : List (V×V×Nat)->Option (List Int)
 |[]=>some []
 |(.int .i64 n,_,_)::l=>cond (Lit.int .i64 n).wf (match keyInts l with
  |some m=>some (n::m)
  |none=>none) none
 |_=>none
def bornUp (clock:Nat): Nat->List (V×V×Nat)->Bool
 |_,[]=>true
 |b,(_,_,x)::l=>cond (Nat.ble b x&&Nat.blt x clock) (bornUp clock (x+1) l) false
def insI (x:Int): List Int->List Int
 |[]=>[x]
 |y::l=>cond (decide (x<=y)) (x::y::l) (y::insI x l)
def oX : List Int->List Int
 |[]=>[]
 |x::l=>insI x (oX l)
def uy : List Int->Bool
 |[]=>true
 |x::l=>l.all (λy=>decide (x<y))&&uy l
def jB (l:List Int): List V:=l.map (V.int .i64)
noncomputable def toldSorted (gs:List Nat): List V->H->Option (V×H)
 |[.fn (.func g) [] [.ptr b 0]],h=>match h.tr.get b with
  |some (.cells n [.map id] false)=>match h.tr.get id with
   |some (.map es clock)=>cond (Nat.beq n 1&&z_ gs g&&bornUp clock 0 es&&Nat.ble es.length 1048576) (match keyInts es with
    |some ks=>cond (uy (oX ks)) (match ks with
     |[]=>some (.aZ,h)
     |_=>some (.sl h.next 0 ks.length (.rest 1 0),newRow h (jB (oX ks)))) none
    |none=>none) none
   |_=>none
  |_=>none
 |_,_=>none
theorem BK (x:Int): ∀l:List Int,(insI x l).Perm (x::l)
 |[]=>.refl _
 |y::l=>by
  simp only[insI];cases decide (x<=y) with
  |true=>rfl
  |false=>exact((BK x l).cons y).trans (.swap x y l)
theorem iI : ∀l:List Int,(oX l).Perm l
 |[]=>.refl _
 |x::l=>(BK x _).trans ((iI l).cons x)
theorem IQ : ∀l:List Int,uy l=true->l.Pairwise (· < ·)
 |[],_=>.nil
 |x::l,h=>by
  simp only[uy,bV,nG,ke] at h;exact List.pairwise_cons.2 ⟨h.1,IQ l h.2⟩
theorem yU : ∀ {l m:List Int},l.Perm m->l.Pairwise (· <= ·)->m.Pairwise (· <= ·)->l=m
 |[],m,I,_,_=>I.nil_eq
 |a::r,[],I,_,_=>absurd I.symm.nil_eq (by simp)
 |a::r,b::s,I,h1,h2=>by
  obtain⟨a1,a2⟩:=List.pairwise_cons.1 h1;obtain⟨b1,b2⟩:=List.pairwise_cons.1 h2;have mA:a=b:=by
   have ha:a∈b::s:=I.mem_iff.1 (by simp);have hb:b∈a::r:=I.mem_iff.2 (by simp);grind
  subst mA;rw[yU (List.Perm.cons_inv I) a2 b2]
theorem IS {clock:Nat}: ∀(l:List (V×V×Nat)) (b:Nat),bornUp clock b l=true->(∀x∈l,b<=x.2.2/\x.2.2<clock)/\(l.map (·.2.2)).Nodup
 |[],_,_=>⟨by simp,by simp⟩
 |(k,v,x)::l,b,h=>by
  simp only[bornUp] at h;cases I:(Nat.ble b x&&Nat.blt x clock) with
  |false=>grind
  |true =>
   rw[I,ag] at h;simp only[bV,aS,gi] at I;obtain⟨i1,i2⟩:=IS l (x+1) h<;>grind
theorem FM {c:Ctx}: ∀(l:List (V×V×Nat)) (ks:List Int),keyInts l=some ks->l.map (λx=>conc c x.1)=ks.map (Value.int .i64)/\∀n∈ks,(Lit.int .i64 n).wf=true
 |[],ks,h=>by grind[keyInts]
 |(k,v,b)::l,ks,h=>by
  unfold keyInts at h;split at h
  .grind
  .rename_i n v' b' I he;obtain⟨⟨rfl,rfl,rfl⟩,rfl⟩:=he;cases hw:(Lit.int .i64 n).wf with
   |false=>grind
   |true =>
    cases hm:keyInts l with
    |none=>grind
    |some m =>
     simp[hw,hm] at h;obtain⟨i1,i2⟩:=FM (c:=c) l m hm<;>grind[conc]
  .cases h
section
variable {c:Ctx} {w':World}
theorem Rel.below (h:Rel c σ w)(I:Below w.heap.size w w'): Rel c σ w'/\dB c w c w':=by
 have rows:∀b,b<w.heap.size->rowSize w' b=rowSize w b:=λb cq=>by unfold rowSize;rw[I.block b cq]
 refine⟨⟨h.next,h.live,λid hi=>j_ (h.o8 id hi) I.size,λid hi=>by rw[rows _ (h.o8 id hi)];exact h.zz id hi,h.inj,
  λid o ho=>(h.obj id o ho).later (Ext.refl c) (h.live id o ho) (I.block _ (h.o8 id (h.live id o ho))),h.one,h.fx⟩,
  ⟨Ext.refl c,I.size,rows,λb cq _=>I.block b cq,λid h1 h2=>by omega,I.os,I.output⟩⟩
theorem Rel.take {C:Array Value}{T:TypeId}(h:Rel c σ w)(hb:b<w.heap.size)(hr:∀id,id<c.N->(c.ρ id).1≠b)(kR:∀v∈cs,wf c v/\storable v=true)
 (hg:w.heap[b]?=some (.cells C T (0,0)))(hC:C.toList.take cs.length=cs.map (conc c)): Rel (c.grow b 0 C.size) (Am.newRow σ cs) w:=by
 have e:=uc hr 0 C.size;have hN:(c.grow b 0 C.size).N=c.N+1:=rfl;have hle:cs.length<=C.size:=by
  have:=dg List.length hC;simp at this;omega
 have key:∀i o,(Am.newRow σ cs).tr.get i=some o->(i=c.N/\o=.cells cs.length cs false)\/(i<c.N/\σ.tr.get i=some o):=by
  intro i o hi;rw[Am.newRow,ja,h.next] at hi
  by_cases h1:i=c.N
  .grind
  .simp[h1] at hi;exact .inr ⟨h.live i o hi,hi⟩
 refine⟨by simp[Am.newRow,H.new,Ctx.grow,h.next],λi o hi => ?_,λi hi => ?_,λi hi => ?_,λi j o o' hi hj he => ?_,λi o hi => ?_,λi xb rQ hi hx => ?_,λi o hi hx => ?_⟩
 .grind
 .by_cases h1:i=c.N
  .grind[bQ]
  .rw[d_ c _ _ _ (by omega)];exact h.o8 i (by omega)
 .by_cases h1:i=c.N
  .grind[Ctx.grow,rowSize]
  .rw[d_ c _ _ _ (by omega),<-h.zz i (by omega)];simp[Ctx.grow,hr i (by omega)]
 .rcases key i o hi with⟨I,_⟩|⟨I,a2⟩<;>rcases key j o' hj with⟨b1,_⟩|⟨b1,b2⟩
  .omega
  .grind[bQ,d_]
  .grind[bQ,d_]
  .rw[d_ c _ _ _ I,d_ c _ _ _ b1] at he;rw[ir c _ _ _ I,ir c _ _ _ b1];exact h.inj i j _ _ a2 b2 he
 .rcases key i o hi with⟨rfl,rfl⟩|⟨I,a2⟩
  .refine⟨U,λv hv=>⟨(dh e v (kR v hv).1).2,(kR v hv).2⟩,C,T,(0,0),by rw[bQ];exact hg,by grind[bQ],λj v hj => ?_,U⟩;rw[bQ,(dh e v (kR v (aJ hj)).1).1];have h1:(C.toList.take cs.length)[j]?=some (conc c v):=by grind
   grind
  .exact(h.obj i o a2).later e I U
 .rcases key i _ hi with⟨rfl,_⟩|⟨I,a2⟩
  .rw[bQ]
  .rw[ir c _ _ _ I] at hx;rw[d_ c _ _ _ I];exact h.one i xb rQ a2 hx
 .rcases key i o hi with⟨rfl,_⟩|⟨I,a2⟩
  .grind[Ab]
  .rw[ir c _ _ _ I] at hx;exact h.fx i o a2 hx
def qK (_:Value): Option (DataW Unit×List MemPlace):=some (.nil,[])
def IT (P:Program)(f K:Nat)(gs:List Nat): Prop:=∀g∈gs,∀(Bm b nn:Nat) (I:DataW Unit) (w:World),Bm<w.heap.size->w.cell? ⟨Bm,0,none⟩=some (.map (some b)) ->
 w.ownsMap P K qK b nn I->Maps.size I<=maxLen->Maps.size I*8<=140737488355328 ->
 Calls P f #[.func (.func g) #[] #[.pointer (some ⟨Bm,0,none⟩)]] w λe w'=>∃(v:Value) (ss:List Int),e=.returned v/\ss.Perm (intKeys I) /\
  w'.ownsRow w.heap.size K 1 v ss.length ((ss.mergeSort (λx y=>decide (x<=y))).map encZ)/\(v=.slice none 0 0↔ss=[])/\Below w.heap.size w w'
theorem JI {f K:Nat}{gs:List Nat}(hK:P.underlying K=some (.int .i64))(hS:IT P f K gs){v:V}(hr:toldSorted gs args σ=some (v,fb))
 (h:Rel c σ w): kK P f args c w v fb:=by
 unfold toldSorted at hr;split at hr
 .rename_i g b;split at hr
  .rename_i n id X1;split at hr
   .rename_i es clock hgm;cases hq:(Nat.beq n 1&&z_ gs g&&bornUp clock 0 es&&Nat.ble es.length 1048576) with
    |false=>grind
    |true =>
     rw[hq,ag] at hr;simp only[bV,beq_iff,aS,Es] at hq;obtain⟨⟨⟨q1,q2⟩,q3⟩,q4⟩:=hq;subst q1;cases hk:keyInts es with
     |none=>grind
     |some ks =>
      simp only[hk] at hr;cases I:uy (oX ks) with
      |false=>grind
      |true =>
       simp only[I,ag] at hr;obtain⟨k1,k2⟩:=FM (c:=c) es ks hk;obtain⟨b1,b2⟩:=IS es 0 q3;have cq:=IQ _ I;have fB:ks.Nodup:=(iI ks).nodup_iff.1 (cq.imp λ{a b} mA=>by omega);have X2:=h.one b _ _ X1 (h.Hz X1 (by simp));have sr:=cell_of h X1 (j:=0) (v:=.map id) U;have aek:iX c b 0=⟨(c.ρ b).1,0,none⟩:=by simp[iX,X2]
       rw[aek] at sr;have abo:w.cell? ⟨(c.ρ b).1,0,none⟩=some (.map (some (c.ρ id).1)):=by simpa[conc] using sr
       obtain⟨m1,m2⟩:=h.obj id _ hgm;have JR:∀x∈es,∃n,n∈ks/\(cZ c x).key=.int .i64 n:=λx hx=>by
        have:conc c x.1∈ks.map (Value.int .i64):=by grind
        obtain⟨n,hn,he⟩:=List.mem_map.1 this;exact⟨n,hn,he.symm⟩
       have jm:∀x∈es,∀n,(cZ c x).key=.int .i64 n->n∈ks->WideElems.rd P K qK (cZ c x)=some (.int .i64 n,.nil):=λx hx n hn hm=>by
        grind[WideElems.rd,Maps.keyOf_int_mk,qK]
       have PY:w.ownsMap P K qK (c.ρ id).1 es.length (.map (((es.map (cZ c)).toArray.toList.map (WideElems.rg P K qK)).foldr DataW.insert [])):=by
        refine⟨(es.map (cZ c)).toArray,clock,m2,⟨by simp[maxLen];omega,⟨λx hx => ?_,?_,?_⟩,λx hx => ?_⟩,by simp,U⟩
        .simp only[List.mem_map] at hx;obtain⟨y,hy,rfl⟩:=hx;exact(b1 y hy).2
        .grind[cZ]
        .have:(es.map (cZ c)).toArray.toList.map (·.key)=ks.map (Value.int .i64):=by simp_all[cZ,Function.comp_def]
         grind
        grind
       have gm:Maps.size (H:=Unit) (.map (((es.map (cZ c)).toArray.toList.map (WideElems.rg P K qK)).foldr DataW.insert []))=es.length:=by
        rw[Maps.size_eq,(WideShapes.sorted_perm _).length_eq];simp
       have xq:(intKeys (H:=Unit) (.map (((es.map (cZ c)).toArray.toList.map (WideElems.rg P K qK)).foldr DataW.insert []))).Perm ks:=by
        refine((WideShapes.sorted_perm _).map _).trans ?_;have:(((es.map (cZ c)).toArray.toList.map (WideElems.rg P K qK)).map λp=>intOf p.1)=ks:=by
         have nP:∀x∈es,Value.int .i64 (intOf (WideElems.rg P K qK (cZ c x)).1)=conc c x.1:=λx hx=>by
          obtain⟨n,hn,he⟩:=JR x hx;rw[WideElems.rg_of (jm x hx n he hn)];exact he.symm
         have h1:((((es.map (cZ c)).toArray.toList.map (WideElems.rg P K qK)).map λp=>intOf p.1).map (Value.int .i64))=ks.map (Value.int .i64):=by
          grind[List.map_congr_left]
         grind[List.map_inj_right]
        rw[this]
       have FN:=hS g q2 (c.ρ b).1 (c.ρ id).1 es.length _ w (h.o8 b (h.live b _ X1)) abo PY (by rw[gm];simp[maxLen];omega) (by omega);have JS:([V.fn (.func g) [] [.ptr b 0]].map (conc c)).toArray = #[.func (.func g) #[] #[.pointer (some ⟨(c.ρ b).1,0,none⟩)]]:=by simp[conc,concL,X2]
       unfold kK;rw[JS];refine FN.mono ?_;rintro e w' ⟨rv,ss,rfl,s1,s2,s3,s4⟩;obtain⟨g1,g2⟩:=h.below s4;have hss:ss.Perm ks:=s1.trans xq;have hms:ss.mergeSort (λx y=>decide (x<=y))=oX ks:=by
        refine yU (((List.mergeSort_perm ss _).trans hss).trans (iI ks).symm) ?_ (cq.imp λ{a b} mA=>by omega)<;>grind[List.pairwise_mergeSort]
       rw[hms] at s2;split at hr
       .-- no key
        have BD:ss=[]:=by simp_all
        grind[conc,wf]
       .obtain⟨rfl,rfl⟩:=hr;have agc:ss≠[]:=λe=>by
         simp_all
        have jF:ss.length=ks.length:=hss.length_eq;rcases s2.2 with⟨e1,_⟩|⟨gb,cap,cur,rfl,l1,l2,l3,l4,l5,l6⟩
        .grind
        have ael:gb<w'.heap.size:=(Array.getElem?_eq_some_iff.1 l2).1;have tg:∀i,i<c.N->(c.ρ i).1≠gb:=λi hi e=>by have:=h.o8 i hi;omega
        have kR:∀x∈jB (oX ks),wf c x/\storable x=true:=λx hx=>by
         obtain⟨n,_,rfl⟩:=List.mem_map.1 hx<;>grind[wf,storable]
        have xw:(jB (oX ks)).length=ks.length:=by simp[jB,(iI ks).length_eq]
        have acZ:cur.toList.take (jB (oX ks)).length=(jB (oX ks)).map (conc c):=by
         simp_all[jB,conc]
        have R:=g1.take ael tg kR l2 acZ;have su:(c.grow gb 0 cur.size).room σ.next 0 1=cap:=by
         simp only[Ctx.room,h.next,Ctx.grow,dI]
         simp[l5]
        refine⟨c.grow gb 0 cur.size,?_,?_,R,g2.JO tg l1⟩
        .simp only[conc,su];simp[h.next,Ctx.grow,jF]
        .exact⟨by rw[h.next];simp[Ctx.grow],aH _,by omega⟩
   .cases hr
  .cases hr
 .cases hr
end
end Go.Proofs.YtdonpgpfplgigaaGreat.Am
namespace Go.Proofs.YtdonpgpfplgigaaGreat.Am
open Go
variable {ps:Array (Nat×Operand)} {ops:Array Oper} {st:Bool} {C:gO} {code:Code} {c₀:Ctx} {env:Env} {Q:Ex->List (Nat×V)->H->Prop} {fn:Func} {cl:Go.Call} {h h' σ h₁ fb:H} {κ:IntKind} {E E':List (Nat×V)} {R:List (Nat×V)->H->Prop} {d₀:List Deferred} {hs:List H} {fL es l:List Nat} {L rest:List Oper} {args first cap vs cs ds:List V} {a b i c k id n d off j g vq k' q:Nat} {Hs:Nat->H} {early:Nat->Option (Nat×FV)} {Fl:Nat->Prop} {vv:Nat->V} {o':Obj} {x y:Operand} {P:Program} {φ:Prop} {self:Self} {s':St} {α:Type} {td:TypeDesc} {t t' e kt et:TypeId} {r u z:V} {BG:V->H->Prop} {w₀ w:World}
abbrev sF := List (Nat×List V×List V)
noncomputable def resOf (P:Program)(s:St)(rs:List ResultVar): Option V:=match mapO (resV P s) rs with
 |some [v]=>some v
 |some vs=>some (.aX vs)
 |none=>none
noncomputable def evOpsD (C:gO)(self:Self)(L:List Oper): List Oper->St->sF->Option (St×sF)
 |[],s,d=>some (s,d)
 |o::rest,s,d=>match o.op with
  |.defer cl=>match o.guard,o.dst,cl.callee,evArgs s.env cl.args.toList with
   |none,none,.value x,some args=>match evO s.env x with
    |some (.fn (.func g) first cap)=>evOpsD C self L rest s ((g,first++args,cap)::d)
    |_=>none
   |_,_,_,_=>none
  |_=>cond (wantedV L s.env o)
   (match evOp C self s.env s.h o with
    |some (v,h)=>match s.put o.dst v h with
     |some s'=>evOpsD C self L rest s' d
     |none=>none
    |none=>none)
   (match s.put o.dst cX s.h with
    |some s'=>evOpsD C self L rest s' d
    |none=>none)
noncomputable def evTop (C:gO)(n:Nat): Nat->Code->St->sF->Option (Ex×St×sF)
 |0,_,_,_=>none
 |m+1,c,s,d=>match c with
  |.seq a b=>match evTop C n m a s d with
   |some (.normal,s',I)=>evTop C n m b s' I
   |r=>r
  |.region _ ops false=>match evOpsD C (ev C n) ops.toList ops.toList s d with
   |some (s',I)=>some (.normal,s',I)
   |none=>none
  |c=>match ev C n c s with
   |some (ex,s')=>some (ex,s',d)
   |none=>none
def quietParts : Code->Option (Nat×Nat×Code)
 |.seq (.region _ ops false) rest=>match ops.toList with
  |[I,Pu]=>match I.op,I.guard,I.dst,Pu.op,Pu.guard,Pu.dst with
   |.call cl,none,some vq,.assign (.tmp t),none,some abp=>match cl.callee,cl.args.toList with
    |.builtin .recover,[]=>cond (Nat.beq t vq) (some (vq,abp,rest)) none
    |_,_=>none
   |_,_,_,_,_,_=>none
  |_=>none
 |_=>none
noncomputable def defCall (C : gO) (n : Nat) (g : Nat) (args : List V) (h : H) : Option H := match C.P.funcs[g]? with
 | none => none
 | some fn => match fn.body with
  | none => none
  | some code => match quietParts code with
   | some (vq, I, rest) => cond (Nat.blt vq fn.ntmps && Nat.blt I fn.ntmps && Nat.ble args.length fn.ntmps && !(fn.name == "runtime.NumGoroutine"))
    (match ev C n rest ⟨((bindArgs args 0 .lf).set vq (some .qE)).set I (some .qE), fn.ntmps, h⟩ with
     | some (.normal, s) | some (.ret, s) => match resOf C.P s fn.results.toList with
      | some _ => some s.h
      | none => none
     | _ => none) none
   | none => match callF C (ev C n) g args h with
    | some (_, h') => some h'
    | none => none
noncomputable def runDefs (C:gO)(n:Nat): sF->H->Option H
 |[],h=>some h
 |(g,args,cap)::d,h=>match C.told g with
  |some _=>none
  |none=>match defCall C n g (args++cap) h with
   |some h'=>runDefs C n d h'
   |none=>none
noncomputable def toldDefer (C:gO)(n f:Nat)(args:List V)(h:H): Option (V×H):=match C.P.funcs[f]? with
 |none=>none
 |some fn=>match fn.body with
  |none=>none
  |some c=>cond (Nat.blt fn.ntmps args.length) none (match evTop C n 1000 c ⟨bindArgs args 0 .lf,fn.ntmps,h⟩ [] with
   |some (.exit _,_,_)=>none
   |some (_,s,d)=>match runDefs C n d s.h with
    |some h'=>match resOf C.P ⟨s.env,s.ax,h'⟩ fn.results.toList with
     |some v=>some (v,h')
     |none=>none
    |none=>none
   |none=>none)
section
variable {c:Ctx}
theorem Eu {s:St}{a:Act}{v:V}(h:Rel c s.h w)(he:fV c s.env s.ax a)(hr:resOf P s fn.results.toList=some v):
  (results fn a.tmps).run P w=.ok (conc c v) w/\wf c v:=by
 unfold resOf at hr;cases I:mapO (resV P s) fn.results.toList with
 |none=>grind
 |some vs =>
  obtain⟨q1,q2⟩:=Fu h he I;rw[q1];rcases vs with _|⟨v0,_|⟨v1,vs⟩⟩<;>grind[conc,wf,iF,kQ]
structure ud (c:Ctx)(d:sF)(ds:List Deferred): Prop where
 eq:ds=d.map λx=>{ target:=.fn (.func x.1) (x.2.2.map (conc c)).toArray,args:=(x.2.1.map (conc c)).toArray }
 IU:∀x∈d,(∀v∈x.2.1,wf c v)/\∀v∈x.2.2,wf c v
theorem ud.ext {c':Ctx}{d:sF}{ds:List Deferred}(h:ud c d ds)(e:Ext c c'): ud c' d ds where
 eq:=by
  rw[h.eq];refine yC λx I => ?_;rw[(pF e (h.IU x I).1).1,(pF e (h.IU x I).2).1]
 IU:=λx I=>⟨(pF e (h.IU x I).1).2,(pF e (h.IU x I).2).2⟩
theorem Sh {a:Act}(he:fV c env n a): ∀(l:List Operand) (vs:List V),evArgs env l=some vs->l.map a.eval=vs.map (conc c)/\∀v∈vs,wf c v:=by
 intro l;induction l<;>grind[evArgs,Fh]
theorem Si (hS:kS C.P self)(hT:iR C){Q:Exit->Act->World->Prop}: ∀(l:List Oper) (k:Nat) (s s':St) (d d':sF) (c:Ctx) (a:Act) (w:World),
  (∀j,l[j]?=ops[k+j]?)->evOpsD C self ops.toList l s d=some (s',d')->Rel c s.h w->fV c s.env s.ax a->ud c d a.defers ->
  (∀c' a' w',Rel c' s'.h w'->fV c' s'.env s'.ax a'->dB c w c' w'->ud c' d' a'.defers->Q .normal a' w') ->
  wpOpsIn (Fr none) 0 C.P ops Q (List.range' k l.length) a w:=by
 intro l;induction l with
 |nil =>
  grind[evOpsD,wpOpsIn,dB.refl]
 |cons o l ih =>
  intro k s s' d d' c a w hl hr h he hd hQ;have h0:ops[k]?=some o:=by simpa using(hl 0).symm
  have D8:∀j,l[j]?=ops[k+1+j]?:=λj=>by have:=hl (j+1);grind
  simp only[aW,Hq,wpOpsIn,h0];rw[Fz he];have common:(cond (wantedV ops.toList s.env o)
    (match evOp C self s.env s.h o with
     |some (v,h)=>match s.put o.dst v h with
      |some s'=>evOpsD C self ops.toList l s' d
      |none=>none
     |none=>none)
    (match s.put o.dst cX s.h with
     |some s'=>evOpsD C self ops.toList l s' d
     |none=>none))=some (s',d') ->
    (if wantedV ops.toList s.env o=true then o.wpIn (Fr none) 0 C.P a w (wpOpsIn (Fr none) 0 C.P ops Q (List.range' (k+1) l.length)) Q else(∀f,o.about C.P w a.eval=some f->(Fr none).fn f)/\wpOpsIn (Fr none) 0 C.P ops Q (List.range' (k+1) l.length) (a.put o.dst undef) w):=by
   intro hr;cases hw:wantedV ops.toList s.env o with
   |true =>
    rw[hw,ag] at hr;cases ho:evOp C self s.env s.h o with
    |none=>grind
    |some r =>
     obtain⟨v,fb⟩:=r;simp only[ho] at hr;cases hp:s.put o.dst v fb with
     |none=>grind
     |some I =>
      simp only[hp] at hr;refine(Dr hS hT h (he.NM o) ho).wpIn (pL ho) ?_;intro c' w' r1 r2 r3;obtain⟨p1,p2,p3⟩:=St.Ff (he.ext r2.ext) r3 hp;refine ih (k+1) I s' d d' c' _ w' D8 hr (by grind) p1 (by rw[put_defers];exact hd.ext r2.ext) ?_;intro Ko Kp D3 q1 q2 q3 q4;exact hQ Ko Kp D3 q1 q2 (r2.trans q3) q4
   |false =>
    refine⟨λ_ _=>trivial,?_⟩;cases hp:s.put o.dst cX s.h with
    |none=>grind
    |some I =>
     obtain⟨p1,p2,p3⟩:=St.Ff he (show wf c cX by simp[cX,wf,iq]) hp<;>grind[vj,put_defers]
  unfold evOpsD at hr;split at hr
  .rename_i cl fN;split at hr
   .rename_i x args hg U4 afB JS;split at hr
    .rename_i g first cap X3
     have ac0:wantedV ops.toList s.env o=true:=by simp[wantedV,hg]
     simp only[ac0,dI];obtain⟨e1,e2⟩:=Sh he _ _ JS;obtain⟨f1,f2⟩:=Fh he X3;have fw:(∀x∈first,wf c x)/\(∀x∈cap,wf c x):=by
      grind[wf,kQ]
     have Bv:(execOp a.eval o).run C.P w=.ok (.defer { target:=.fn (.func g) (cap.map (conc c)).toArray,args:=((first++args).map (conc c)).toArray }) w:=by
      simp_all[conc,iF,execOp,resolve,Deferred.ofValue]
     refine⟨λ_ _=>trivial,?_⟩;rw[show(Fr none).round=none from U,Oper.semAt_none,Bv];simp only[Oper.uponIn,U4,Act.put];refine ih (k+1) s s' ((g,first++args,cap)::d) d' c _ w D8 hr h ⟨he.size,he.val,he.Fe⟩ ⟨by simp[hd.eq],λx hx => ?_⟩ ?_
     .rcases List.mem_cons.1 hx with rfl|hx
      .grind
      .exact hd.IU x hx
     .omega
    .cases hr
   .cases hr
  .grind
theorem Vu (hm:C.P.follows .mixedOrders=true)(hT:iR C): ∀(m:Nat) (code:Code) (s:St) (d:sF) (ex:Ex) (s':St) (d':sF),evTop C n m code s d=some (ex,s',d') ->
  ∀(c:Ctx) (a:Act) (w:World),Rel c s.h w->fV c s.env s.ax a->ud c d a.defers ->
   code.wp C.P (λe a' w'=>e=exOf ex/\∃c',Rel c' s'.h w'/\fV c' s'.env s'.ax a'/\dB c w c' w'/\ud c' d' a'.defers) a w:=by
 have hS:=(Du (C:=C) hm hT n).1;intro m;induction m with
 |zero=>grind[evTop]
 |succ m ih =>
  intro code s d ex s' d' hr c a w h he hd;have rest:(match ev C n code s with
    |some (ex,s')=>some (ex,s',d)
    |none=>none)=some (ex,s',d')->code.wp C.P (λe a' w'=>e=exOf ex/\∃c',Rel c' s'.h w'/\fV c' s'.env s'.ax a'/\dB c w c' w'/\ud c' d' a'.defers) a w:=by
   intro hr;cases pn:ev C n code s with
   |none=>grind
   |some r =>
    rw[pn] at hr;obtain⟨rfl,rfl,rfl⟩:=hr;refine Code.wp_mono ?_ (hS _ _ _ _ pn c a w h he);rintro e a' w' ⟨rfl,q2,c',q3,q4,q5⟩;exact⟨U,c',q3,q4,q5,by rw[q2];exact hd.ext q5.ext⟩
  unfold evTop at hr;split at hr
  .rename_i x y;cases hx:evTop C n m x s d with
   |none=>grind
   |some r =>
    obtain⟨II,I,vq⟩:=r;rw[hx] at hr;refine wp_seq (Code.wp_mono ?_ (ih x s d II I vq hx c a w h he hd));rintro e BA BB ⟨rfl,c₁,q3,q4,q5,q6⟩;cases II with
    |normal =>
     refine Code.wp_mono ?_ (ih y I vq ex s' d' hr c₁ BA BB q3 q4 q6);rintro e acR acS ⟨rfl,c₂,p3,p4,p5,p6⟩;exact⟨U,c₂,p3,p4,q5.trans p5,p6⟩
    |exit i =>
     obtain⟨rfl,rfl,rfl⟩:=hr;exact⟨U,c₁,q3,q4,q5,q6⟩
    |ret =>
     obtain⟨rfl,rfl,rfl⟩:=hr;exact⟨U,c₁,q3,q4,q5,q6⟩
  .rename_i id ops;cases hx:evOpsD C (ev C n) ops.toList ops.toList s d with
   |none=>grind
   |some r =>
    obtain⟨I,vq⟩:=r;rw[hx] at hr;simp only[aA,bW] at hr;obtain⟨rfl,rfl,rfl⟩:=hr;refine wpIn_wide.1 (show(Code.region id ops false).wpIn (Fr none) 0 C.P _ a w from wpIn_region ?_);rw[List.range_eq_range',<-Hg];exact Si (Sa (C:=C) hm hT n).1 hT ops.toList 0 s I d vq c a w (λj=>by simp) hx h he hd λc' a' w' r1 r2 r3 r4=>⟨U,c',r1,r2,r3,r4⟩
  .grind
theorem Vv (hm : C.P.follows .mixedOrders = true) (hT : iR C) {v : V} (hg : C.told g = none) (hr : callF C (ev C n) g args σ = some (v, fb)) (h : Rel c σ w) (hw : ∀ x ∈ args, wf c x) :
  CallsD C.P g (args.map (conc c)).toArray .returning w (fun e u' w' => u' = .returning ∧ (∃ x, e = .returned x) ∧ ∃ c', Rel c' fb w' ∧ dB c w c' w') ∧ ∀ (x : Array Value) (w : World), (callFunc g x).run C.P w = .ok (.enter g x) w := by
 have hS := (Du (C := C) hm hT n).1
 have hen := (callF_ok hS hT hr h hw).2
 unfold callF at hr
 rw [hg] at hr
 simp only at hr
 cases hf : C.P.funcs[g]? with
 | none => grind
 | some fn =>
  simp only [hf] at hr
  cases hb : fn.body with
  | none => grind
  | some code =>
   simp only [hb] at hr
   cases hq : (fn.name == "runtime.NumGoroutine" || Nat.blt fn.ntmps args.length) with
   | true => grind
   | false =>
    simp only [Bool.or_eq_false_iff] at hq
    have hle : args.length ≤ fn.ntmps := by
     grind [gi]
    have I := sy (c := c) hle hw
    have done : ∀ ex s, ev C n code ⟨bindArgs args 0 .lf, fn.ntmps, σ⟩ = some (ex, s) → (ex = .normal ∨ ex = .ret) →
      (match mapO (resV C.P s) fn.results.toList with
       | some [v] => some (v, s.h)
       | some vs => some (.aX vs, s.h)
       | none => none) = some (v, fb) →
      CallsD C.P g (args.map (conc c)).toArray .returning w (fun e u' w' => u' = .returning ∧ (∃ x, e = .returned x) ∧ ∃ c', Rel c' fb w' ∧ dB c w c' w') := by
     intro ex s hs hex hmr
     have hwp := hS code _ ex s hs c _ w h I
     have uR : resOf C.P s fn.results.toList = some v ∧ s.h = fb := by
      grind [resOf]
     have Sj := callsD_of_wp (u := .returning) (R := fun e w' => (∃ x, e = .returned x) ∧ ∃ c', Rel c' fb w' ∧ dB c w c' w') hf hb (Code.wp_mono (Q' := bodyPost C.P fn fun e w' => (∃ x, e = .returned x) ∧ ∃ c', Rel c' fb w' ∧ dB c w c' w') ?_ hwp)
     ·omega
     ·rintro e a' w' ⟨rfl, hd, c', r1, r2, r3⟩
      have JN : a'.defers = [] ∧ ∃ x, (results fn a'.tmps).run C.P w' = .ok x w' ∧ (∃ y, Ending.returned x = .returned y) ∧ ∃ c', Rel c' fb w' ∧ dB c w c' w' :=
       ⟨hd, _, (Eu r1 r2 uR.1).1, ⟨_, rfl⟩, c', by grind, r3⟩
      grind [bodyPost, exOf]
    split at hr
    ·grind
    ·grind
    ·grind
theorem JJ {o:Oper}{ρ:Operand->Value}(ho:o.op=.call cl)(I:cl.callee=.builtin .recover)(ha:cl.args.toList=[])(w:World): (execOp ρ o).run P w=.ok .recover w:=by
 simp_all[execOp,resolve,invoke,builtin]
theorem IV (hm:C.P.follows .mixedOrders=true)(hT:iR C){abp:Nat}{rest:Code}{ex:Ex}{I:St}{v:V}(hf:C.P.funcs[g]?=some fn)(hb:fn.body=some code)
 (hq:quietParts code=some (vq,abp,rest))(h1:vq<fn.ntmps)(h2:abp<fn.ntmps)(hle:args.length<=fn.ntmps)
 (afN:ev C n rest ⟨((bindArgs args 0 .lf).set vq (some .qE)).set abp (some .qE),fn.ntmps,σ⟩=some (ex,I))(hex:ex=.normal\/ex=.ret)(uR:resOf C.P I fn.results.toList=some v)
 (h:Rel c σ w)(hw:∀x∈args,wf c x):
  CallsD C.P g (args.map (conc c)).toArray .returning w (λe u' w'=>u'=.returning/\(∃x,e=.returned x)/\∃c',Rel c' I.h w'/\dB c w c' w'):=by
 have hS:=(Du (C:=C) hm hT n).1;unfold quietParts at hq;split at hq
 .rename_i id ops X4;split at hq
  .rename_i acN Pu agd;split at hq
   .rename_i cl afO t afP q6 q2 q4 q9 q3 q5;split at hq
    .rename_i q7 q8;cases ht:Nat.beq t afO with
     |false=>grind
     |true =>
      rw[ht,ag] at hq;simp only[aA,bW] at hq;obtain⟨rfl,rfl,rfl⟩:=hq;have:=beq_iff.1 ht;subst this;have ac1:ops = #[acN,Pu]:=by grind
      subst ac1;refine callsD_of_wpS hf hb λc₀ cs hu=>(wpS_seq ?_);have aaQ:=sy (c:=c) hle hw;generalize hA:({ tmps:=(args.map (conc c)).toArray++Array.replicate (fn.ntmps-(args.map (conc c)).toArray.size) undef,defers:=[] }:Act)=A at aaQ ⊢;have hAd:A.defers=[]:=by grind
      have aa1:=(aaQ.put (d:=t) (v:=.qE) h1 (by simp[wf])).put (d:=afP) (v:=.qE) h2 (by simp[wf]);have Bv:=hS _ _ _ _ afN c _ w h aa1;rw[show conc c .qE=.nilIface from by rfl] at Bv;have aem:recoverD (c₀::cs)=none:=by simp[recoverD,hu]
      have h5:(A.put (some t) .nilIface).eval (.tmp t)=.nilIface:=by
       have:=(aaQ.put (d:=t) (v:=.qE) h1 (by simp[wf])).val t;grind[conc,Act.eval,Env.v,bg]
      refine wpS_region ?_;rw[show List.range (#[acN,Pu]:Array Oper).size=[0,1] from U];simp only[wpOpsS,qf,jN,oJ,Region.wanted,q2,q3,dI];rw[JJ q6 q7 q8];simp only[aem,q4];have aen:(execOp (A.put (some t) .nilIface).eval Pu).run C.P w=.ok (.value .nilIface) w:=by simp[execOp,q9,h5]
      rw[aen];simp only[Oper.upon,q5,Exit.thenS];refine wpS_of_wp (Code.wp_mono ?_ Bv);rintro e a' w' ⟨rfl,dd,c',r1,e2,p1⟩;have JN:a'.defers=[]/\∃u',c₀::cs={ c₀ with mode:=u' }::cs/\∃v,(results fn a'.tmps).run C.P w'=.ok v w'/\(u'=.returning/\(∃x,Ending.returned v=.returned x)/\∃c',Rel c' I.h w'/\dB c w c' w') :=
       ⟨dd.trans hAd,.returning,by rw[<-hu],_,(Eu r1 e2 uR).1,U,⟨_,U⟩,c',r1,p1⟩
      rcases hex with rfl|rfl
      .exact JN
      .exact JN
    .cases hq
   .cases hq
  .cases hq
 .cases hq
theorem PZ (hm : C.P.follows .mixedOrders = true) (hT : iR C) (hg : C.told g = none) (hr : defCall C n g args σ = some fb) (h : Rel c σ w) (hw : ∀ x ∈ args, wf c x) :
  CallsD C.P g (args.map (conc c)).toArray .returning w (fun e u' w' => u' = .returning ∧ (∃ x, e = .returned x) ∧ ∃ c', Rel c' fb w' ∧ dB c w c' w') ∧ ∀ (x : Array Value) (w : World), (callFunc g x).run C.P w = .ok (.enter g x) w := by
 unfold defCall at hr
 cases hf : C.P.funcs[g]? with
 | none => grind
 | some fn =>
  simp only [hf] at hr
  cases hb : fn.body with
  | none => grind
  | some code =>
   simp only [hb] at hr
   split at hr
   ·rename_i vq I rest hq
    cases hc : (Nat.blt vq fn.ntmps && Nat.blt I fn.ntmps && Nat.ble args.length fn.ntmps && !(fn.name == "runtime.NumGoroutine")) with
    | false => grind
    | true =>
     rw [hc, ag] at hr
     simp only [bV, gi, aS, Bool.not_eq_true'] at hc
     refine ⟨?_, fun x w => by simp_all [callFunc]⟩
     split at hr
     ·grind [IV]
     ·grind [IV]
     ·cases hr
   grind [Vv]
theorem Sk (hm:C.P.follows .mixedOrders=true)(hT:iR C){s:St}{v:V}(uR:resOf C.P ⟨s.env,s.ax,h'⟩ fn.results.toList=some v):
  ∀(d:sF) (h:H) (c:Ctx) (a:Act) (ds:List Deferred) (w:World),runDefs C n d h=some h'->Rel c h w->fV c s.env s.ax a->ud c d ds->dB c₀ w₀ c w ->
   Leaves C.P fn a.tmps (λe w'=>∃c',e=.returned (conc c' v)/\wf c' v/\Rel c' h' w'/\dB c₀ w₀ c' w') ds .returning w:=by
 intro d;induction d with
 |nil =>
  intro h c a ds w hr I he hd hs;simp only[runDefs,aA] at hr;subst hr;have:ds=[]:=by rw[hd.eq];rfl
  subst this;obtain⟨q1,q2⟩:=Eu (s:=⟨s.env,s.ax,h⟩) I he uR;exact⟨_,q1,c,U,q2,I,hs⟩
 |cons x d ih =>
  intro h c a ds w hr I he hd hs;obtain⟨g,args,cap⟩:=x;simp only[runDefs] at hr;cases ht:C.told g with
  |some t=>grind
  |none =>
   rw[ht] at hr;cases hc:defCall C n g (args++cap) h with
   |none=>grind
   |some h₁ =>
    rw[hc] at hr;have o9:=hd.IU (g,args,cap) (by simp);obtain⟨k1,k2⟩:=PZ hm hT ht hc I (λx hx=>by
     grind)
    have hds:ds={ target:=.fn (.func g) (cap.map (conc c)).toArray,args:=(args.map (conc c)).toArray }::d.map λx=>{ target:=.fn (.func x.1) (x.2.2.map (conc c)).toArray,args:=(x.2.1.map (conc c)).toArray }:=by rw[hd.eq];rfl
    rw[hds];refine leaves_cons (f:=g) (args:=((args++cap).map (conc c)).toArray) (by simp) ?_ ?_
    .grind[invoke]
    .refine k1.mono ?_;rintro e u' BB ⟨rfl,⟨y,rfl⟩,c₁,r1,r2⟩;have Sg:ud c d (d.map λx=>{ target:=.fn (.func x.1) (x.2.2.map (conc c)).toArray,args:=(x.2.1.map (conc c)).toArray }):=⟨U,λz hz=>hd.IU z (by grind)⟩;exact ih h₁ c₁ a _ BB hr r1 (he.ext r2.ext) (Sg.ext r2.ext) (hs.trans r2)
theorem KC (hm:C.P.follows .mixedOrders=true)(hT:iR C){f:Nat}{v:V}(hr:toldDefer C n f args σ=some (v,fb))(h:Rel c σ w)(hw:∀x∈args,wf c x):
  kK C.P f args c w v fb:=by
 unfold toldDefer at hr;cases hf:C.P.funcs[f]? with
 |none=>grind
 |some fn =>
  simp only[hf] at hr;cases hb:fn.body with
  |none=>grind
  |some code =>
   simp only[hb] at hr;cases hq:Nat.blt fn.ntmps args.length with
   |true=>grind
   |false =>
    rw[hq,aT] at hr;have hle:args.length<=fn.ntmps:=by
     grind[gi]
    have HF:=sy (c:=c) hle hw;refine calls_of_wp_defers hf hb ?_;have done:∀ex s d,evTop C n 1000 code ⟨bindArgs args 0 .lf,fn.ntmps,σ⟩ []=some (ex,s,d)->(ex=.normal\/ex=.ret) ->
      (match runDefs C n d s.h with
       |some h'=>match resOf C.P ⟨s.env,s.ax,h'⟩ fn.results.toList with
        |some v=>some (v,h')
        |none=>none
       |none=>none)=some (v,fb) ->
      code.wp C.P (bodyPostD C.P fn λe w'=>∃c',e=.returned (conc c' v)/\wf c' v/\Rel c' fb w'/\dB c w c' w')
       { tmps:=(args.map (conc c)).toArray++Array.replicate (fn.ntmps-(args.map (conc c)).toArray.size) undef,defers:=[] } w:=by
     intro ex s d hs hex I;refine Code.wp_mono ?_ (Vu hm hT 1000 code _ [] ex s d hs c _ w h HF ⟨U,λx hx=>by cases hx⟩);rintro e a' w' ⟨rfl,c',r1,r2,r3,r4⟩;cases jm:runDefs C n d s.h with
     |none=>grind
     |some h' =>
      rw[jm] at I;simp only at I;cases hro:resOf C.P ⟨s.env,s.ax,h'⟩ fn.results.toList with
      |none=>grind
      |some v' =>
       rw[hro] at I;obtain⟨rfl,rfl⟩:=I<;>grind[Sk,bodyPostD,exOf]
    split at hr
    .cases hr
    .rename_i ex s d fG hs;cases ex<;>grind
    .cases hr
end

/- Heaps compared. -/
def nQ (h:H): Prop:=∀id o,T.get h.tr id=some o->id<h.next
theorem nQ.new (hw:nQ h)(o:Obj): nQ (h.new o):=by
 intro id q I;rw[ja] at I;show id<h.next+1
 split at I
 .omega
 .exact Nat.lt_succ_of_lt (hw id q I)
theorem nQ.put (hw:nQ h)(xk:id<h.next)(o:Option Obj): nQ (h.put id o):=by
 intro j q I;rw[iz] at I;show j<h.next
 split at I
 .omega
 .exact hw j q I
structure fK (k:Nat)(S:List Nat)(h h':H): Prop where
 wf:nQ h'
 le:h.next<=h'.next
 bd:h'.next<=h.next+k
 get:∀id,id<h.next->id∉S->T.get h'.tr id=T.get h.tr id
theorem fK.refl (hw:nQ h)(S:List Nat): fK 0 S h h:=⟨hw,aH _,aH _,λ_ _ _=>U⟩
theorem fK.trans {S S':List Nat}{I:H}(a:fK k S h h')(b:fK k' S' h' I)(hs:∀i∈S',i∈S\/h.next<=i): fK (k+k') S h I:=by
 refine⟨b.wf,cN a.le b.le,by have:=a.bd;have:=b.bd;omega,λid xk hn => ?_⟩;rw[b.get id (j_ xk a.le) (λhm => ?_),a.get id xk hn];rcases hs id hm with h1|h1
 .exact hn h1
 .omega
theorem fK.mono {S S':List Nat}(a:fK k S h h')(hk:k<=k')(hs:∀i∈S,i∈S'): fK k' S' h h' :=
 ⟨a.wf,a.le,cN a.bd (C0 hk _),λid I hn=>a.get id I (λhm=>hn (hs id hm))⟩
theorem fK.row {S:List Nat}(a:fK k S h h')(hw:nQ h){o:Obj}(I:T.get h.tr id=some o)(hn:id∉S): T.get h'.tr id=some o:=by
 rw[a.get id (hw id o I) hn];exact I
theorem fK.Dv (hw:nQ h)(o:Obj): fK 1 [] h (h.new o) :=
 ⟨hw.new o,rN _,aH _,λid I _=>by rw[ja,ai (by omega)]⟩
theorem fK.X5 (hw:nQ h)(I:id<h.next)(o:Option Obj): fK 0 [id] h (h.put id o) :=
 ⟨hw.put I o,aH _,aH _,λj _ hn=>by rw[iz,ai (λe=>hn (by simp[e]))]⟩
theorem dJ (l:List Nat): (ofBytes l).length=l.length:=by simp[ofBytes]
theorem ue (l m:List Nat): ofBytes (l++m)=ofBytes l++ofBytes m:=by simp[ofBytes]
def View (h:H)(v:V)(l:List Nat): Prop:=(∀b∈l,b<256)/\(((v=.aZ\/∃a,v=.sle a)/\l=[]) \/
 ∃id off cap n cs st,v=.sl id off l.length cap/\T.get h.tr id=some (.cells n cs st)/\cs.length=n/\off+l.length<=n/\(cs.drop off).take l.length=ofBytes l /\
  (match cap with|.exact c=>l.length<=c|.rest e _=>e=1))
def lF (h:H)(v:V)(l:List Nat): Prop:=(∀b∈l,b<256)/\((v=.aZ/\l=[]) \/
 (∃id cs c,v=.sl id 0 l.length (.exact c)/\T.get h.tr id=some (.cells c (ofBytes l++cs) false)/\l.length+cs.length=c) \/
 (∃id,v=.sl id 0 l.length (.rest 1 0)/\T.get h.tr id=some (.cells l.length (ofBytes l) false)/\1<=l.length))
def rowIds : V->List Nat
 |.sl id _ _ _=>[id]
 |_=>[]
theorem lF.view {v:V}(I:lF h v l): View h v l:=by
 obtain⟨hl,I⟩:=I;refine⟨hl,?_⟩;rcases I with I|⟨id,cs,c,rfl,hg,hc⟩|⟨id,rfl,hg,h1⟩
 .exact .inl ⟨.inl I.1,I.2⟩
 .refine .inr ⟨id,0,.exact c,c,_,false,U,hg,by simp[dJ,hc],by omega,?_,by show l.length<=c;omega⟩;rw[ga,fY (dJ l)]
 .refine .inr ⟨id,0,.rest 1 0,_,_,false,U,hg,dJ l,by omega,?_,U⟩;rw[ga];exact h_ (by rw[dJ];exact aH _)
theorem View.qA {S:List Nat}{v:V}(hv:View h v l)(hw:nQ h)(I:fK k S h h')(hn:∀i∈rowIds v,i∉S): View h' v l:=by
 obtain⟨hl,hv⟩:=hv;refine⟨hl,?_⟩;rcases hv with hv|⟨id,off,cap,n,cs,st,rfl,hg,h1,h2,h3,h4⟩
 .exact .inl hv
 .exact .inr ⟨id,off,cap,n,cs,st,U,I.row hw hg (hn id (by simp[rowIds])),h1,h2,h3,h4⟩
theorem lF.qA {S:List Nat}{v:V}(hv:lF h v l)(hw:nQ h)(hk:fK k S h h')(hn:∀i∈rowIds v,i∉S): lF h' v l:=by
 obtain⟨hl,hv⟩:=hv;refine⟨hl,?_⟩;rcases hv with hv|⟨id,cs,c,rfl,I,hc⟩|⟨id,rfl,I,h1⟩
 .exact .inl hv
 .exact .inr (.inl ⟨id,cs,c,U,hk.row hw I (hn id (by simp[rowIds])),hc⟩)
 .exact .inr (.inr ⟨id,U,hk.row hw I (hn id (by simp[rowIds])),h1⟩)
theorem View.len {v:V}(hv:View h v l): lenV Tryz.prog h 29 v=some (.int .i64 l.length):=by
 obtain⟨_,hv⟩:=hv;rcases hv with⟨rfl|⟨I,rfl⟩,rfl⟩|⟨id,off,cap,n,cs,st,rfl,_⟩<;>simp[lenV,aP]
theorem View.rdN {len:Nat}{cap:Cap}(hv:View h (.sl id off len cap) l): len=l.length/\rdN h id off len=some (ofBytes l):=by
 obtain⟨_,hv⟩:=hv;rcases hv with⟨I,_⟩|⟨w8,off',Bx,n,cs,st,I,hg,h1,h2,h3,h4⟩
 .rcases I with I|⟨_,I⟩<;>cases I
 .injection I with e1 e2 e3 e4;subst e1;subst e2;subst e3;refine⟨U,?_⟩;unfold Am.rdN;simp only[hg];rw[aS.2 h2,ag];cases hc:(Nat.beq off 0&&Nat.beq l.length n) with
  |true =>
   simp only[bV,beq_iff] at hc;obtain⟨rfl,hn⟩:=hc;rw[ag,<-h3,ga,h_ (by omega)]
  |false=>rw[aT,h3]
theorem Dw : ∃i,Tryz.prog.info? 5=some i/\i.size=1/\i.bytes=1:=by
 refine⟨_,(show Tryz.prog.info? 5=some ((Tryz.prog.info? 5).getD default) by kernel_rfl),by kernel_rfl,by kernel_rfl⟩
theorem qY : zeroT Tryz.prog 5=some (.int .u8 0):=by kernel_rfl
theorem P3 {x:V}{m:List Nat}(hx:View h x m): srcV h 1 x=some (ofBytes m,m.length):=by
 obtain⟨hl,I⟩:=hx;rcases I with⟨rfl|⟨ea,rfl⟩,rfl⟩|⟨id,off,cap,n,cs,st,rfl,hg,h1,h2,h3,h4⟩
 .rfl
 .rfl
 .simp only[srcV,cH];rw[(View.rdN (l:=m) ⟨hl,.inr ⟨id,off,cap,n,cs,st,U,hg,h1,h2,h3,h4⟩⟩).2];rfl
theorem BL {s x:V}{m:List Nat}(hw:nQ h)(hs:lF h s l)(hx:View h x m)(gm:l.length+m.length<=140737488355328):
  ∃v' h',appendV Tryz.prog h #[29,29] s x=some (v',h')/\lF h' v' (l++m)/\fK 1 (rowIds s) h h'/\(∀i∈rowIds v',i∈rowIds s\/h.next<=i):=by
 obtain⟨i,hi,i1,i2⟩:=Dw;have kL:∀b∈l++m,b<256:=λb hb=>by
  rcases List.mem_append.1 hb with hb|hb
  .exact hs.1 b hb
  .exact hx.1 b hb
 have N3:lu (l.length+m.length) 1=true:=ow.2 ⟨gm,by omega⟩;unfold appendV;simp only[aP,hi,qY,i1,i2,V.cells,aW,b6,P3 hx];rw[show(Nat.ble 1 1&&Nat.ble 1 4096&&Nat.beq (0+1) 1)=true from U,ag];cases hm:Nat.beq m.length 0 with
 |true =>
  have wo:m=[]:=iZ (beq_iff.1 hm);subst wo;rw[ag,fZ];have I:=hs;obtain⟨_,I⟩:=I;rcases I with⟨rfl,rfl⟩|⟨id,cs,c,rfl,hg,hc⟩|⟨id,rfl,hg,h1⟩
  .exact⟨_,_,U,hs,(fK.refl hw _).mono (gh _) (λ_ h=>h),λi hi=>.inl hi⟩
  .exact⟨_,_,U,hs,(fK.refl hw _).mono (gh _) (λ_ h=>h),λi hi=>.inl hi⟩
  .exact⟨_,_,U,hs,(fK.refl hw _).mono (gh _) (λ_ h=>h),λi hi=>.inl hi⟩
 |false =>
  have wo:1<=m.length:=by
   rcases oL m.length with h0|h0
   .rw[qW h0] at hm;cases hm
   .exact h0
  rw[aT];have nN:∀(σ:H) (old:List Nat),nQ σ->1<=(old++m).length->(∀b∈old++m,b<256)->lF (j7 σ 1 (ofBytes old) (ofBytes m) (old.length+m.length)).2 (j7 σ 1 (ofBytes old) (ofBytes m) (old.length+m.length)).1 (old++m):=by
   intro σ old _ h1 h2;refine⟨h2,.inr (.inr ⟨σ.next,?_,?_,h1⟩)⟩
   .simp only[j7,aO]
   .simp only[j7];rw[ja,ay U,cH,aO,ue]
  have I:=hs;obtain⟨_,I⟩:=I;rcases I with⟨rfl,rfl⟩|⟨id,cs,c,rfl,hg,hc⟩|⟨id,rfl,hg,h1⟩
  .simp only;have aeo:lu m.length 1=true:=by simpa using N3
   rw[aeo,ag];have:=nN h [] hw (by simpa using wo) (by simpa using hx.1);simp only[b6,eW,dL] at this;exact⟨_,_,U,by rw[dL];exact this,(fK.Dv hw _).mono (aH _) (λi hi=>by simp at hi),λi hi=>.inr (by simp[rowIds] at hi;omega)⟩
  .simp only[cH,eW];have hv:=lF.view hs;cases hq:Nat.ble (l.length+m.length) c with
   |true =>
    have Bn:=aS.1 hq;rw[ag];unfold wrN;simp only[hg,dJ];rw[hq,ag];simp only;have pK:(cond (Nat.beq l.length 0&&Nat.beq m.length c) (ofBytes m) ((ofBytes l++cs).take l.length++(ofBytes m++(ofBytes l++cs).drop (l.length+m.length))))=ofBytes (l++m)++cs.drop m.length:=by
     have e1:(ofBytes l++cs).take l.length=ofBytes l:=fY (dJ l);have e2:(ofBytes l++cs).drop (l.length+m.length)=cs.drop m.length:=by
      rw[vJ,dJ,show l.length+m.length-l.length=m.length from by omega,qd (by rw[dJ];omega),dL]
     cases hz:(Nat.beq l.length 0&&Nat.beq m.length c) with
     |true =>
      simp only[bV,beq_iff] at hz;have IA:l=[]:=iZ hz.1;subst IA;have kR:cs.drop m.length=[]:=qd (by simp at hc;omega);simp[kR]
     |false=>rw[aT,e1,e2,ue,dN]
    rw[pK];refine⟨_,_,U,⟨kL,.inr (.inl ⟨id,cs.drop m.length,c,by simp,?_,by simp;omega⟩)⟩,(fK.X5 hw (hw id _ hg) _).mono (gh _) (λi hi=>by simpa[rowIds] using hi),λi hi=>.inl (by simpa[rowIds] using hi)⟩;rw[iz,ay U]
   |false =>
    rw[aT,N3,ag,hv.rdN.2];simp only;exact⟨_,_,U,nN h l hw (by simp;omega) kL,(fK.Dv hw _).mono (aH _) (λi hi=>by simp at hi),λi hi=>.inr (by simp[rowIds] at hi;omega)⟩
  .simp only[kg,ag,cH,eW];have hv:=lF.view hs;have wq:fF h id 0 1=l.length:=by simp[fF,hg]
   have hf:Nat.ble (l.length+m.length) l.length=false:=by
    cases hq:Nat.ble (l.length+m.length) l.length with
    |true=>have:=aS.1 hq;omega
    |false=>rfl
   rw[wq,hf,aT,N3,show Nat.ble 2 (l.length+m.length)=true from aS.2 (by omega),kf,ag,hv.rdN.2,hg];simp only;have uz:nQ (h.put id none):=hw.put (hw id _ hg) _;refine⟨_,_,U,nN (h.put id none) l uz (by simp;omega) kL,?_,λi hi=>.inr (by simp[rowIds,H.put] at hi;omega)⟩;refine((fK.X5 hw (hw id _ hg) none).trans (S':=[]) (fK.Dv uz _) (λi hi=>by simp at hi)).mono (aH _) (λi hi=>by simpa[rowIds] using hi)
section
variable {a b:Operand} {v:V}
theorem b7 (I:bE E x=some v): opE P E h (.move x)=some (v,h):=by simp only[opE,lD,I]
theorem iV (I:bE E x=some v): opE P E h (.assign x)=some (v,h):=by simp only[opE,lD,I]
theorem oT (I:bE E x=some (.bool true))(ha:bE E a=some v): opE P E h (.pick x a b)=some (v,h):=by simp only[opE,lD,I,ag,ha]
theorem rU (I:bE E x=some (.bool false))(hb:bE E b=some v): opE P E h (.pick x a b)=some (v,h):=by simp only[opE,lD,I,aT,hb]
theorem vr {o:Nat}(I:bE E x=some (.ptr i o)): opE P E h (.nilCheck x)=some (.ptr i o,h):=by simp only[opE,lD,I]
theorem m9 {t:Nat}(I:bE E x=some v)(hf:fieldAddrV P t v i=some r): opE P E h (.fieldAddr t x i)=some (r,h):=by simp only[opE,lD,I,hf,bO]
theorem o_load (I:bE E x=some v)(hf:loadV P h t v=some r): opE P E h (.load t x)=some (r,h):=by simp only[opE,lD,I,hf,bO]
theorem N4 (I:bE E x=some v)(hy:bE E y=some u)(hf:j8 P h t v u=some h₁): opE P E h (.store t x y)=some (cX,h₁):=by simp only[opE,xo,I,hy,hf,w9]
theorem aq {op:BinOp}(I:bE E x=some v)(hy:bE E y=some u)(hf:binV P h op t x y v u=some r): opE P E h (.binOp op t x y t')=some (r,h):=by simp only[opE,xo,I,hy,hf,bO]
theorem eo {op:UnOp}(I:bE E x=some v)(hf:unV op v=some r): opE P E h (.unOp op t x)=some (r,h):=by simp only[opE,lD,I,hf,bO]
theorem cS {s d:TypeId}(I:bE E x=some v)(hf:convV P h s d v=some (r,h₁)): opE P E h (.convert s d x)=some (r,h₁):=by simp only[opE,lD,I,hf]
theorem bM (I:bE E x=some v)(hy:bE E y=some u)(hf:indexAddrV P t v u=some r): opE P E h (.indexAddr t x y)=some (r,h):=by simp only[opE,xo,I,hy,hf,bO]
theorem Ak (I:bE E x=some v)(hy:bE E y=some u)(hf:indexV P t v u=some r): opE P E h (.index t x y)=some (r,h):=by simp only[opE,xo,I,hy,hf,bO]
theorem gP {l:List V}(I:bE E x=some (.aX l))(hf:nth l i=some r): opE P E h (.extract x i)=some (r,h):=by simp only[opE,lD,I,hf,bO]
theorem cO {l:List (Nat×V)}(I:lookParts E ps.toList=some l)(hf:buildV P t l=some r): opE P E h (.build t ps)=some (r,h):=by simp only[opE,I,hf,bO]
theorem fC (I:bE E x=some v)(hs:v.cells.all storable=true): opE P E h (.box t x)=some (.ptr h.next 0,newRow h v.cells):=by simp only[opE,lD,I,hs,ag]
theorem cm (I:zeroT P t=some v): opE P E h (.alloc t)=some (.ptr h.next 0,newRow h v.cells):=by simp only[opE,I]
theorem oz (I:bE E x=some v)(hf:makeIfaceV P t v=some r): opE P E h (.makeInterface t x)=some (r,h):=by simp only[opE,lD,I,hf,bO]
theorem JT {f:Fn}{p q:Array Operand}{l m:List V}(I:lookArgs E p.toList=some l)(hy:lookArgs E q.toList=some m): opE P E h (.makeFunc f p q)=some (.fn f l m,h):=by simp only[opE,I,hy]
theorem aD {c:Go.Call}(I:c.callee=.builtin .len)(ha:lookArgs E c.args.toList=some [v])(ht:c.argTypes.toList=[t])(hf:lenV P h t v=some r): opE P E h (.call c)=some (r,h):=by
 simp only[opE,I,ha,builtinV,ht,hf,gQ]
theorem iY {c:Go.Call}(I:c.callee=.builtin .append)(ha:lookArgs E c.args.toList=some [v,u])(hf:appendV P h c.argTypes v u=some (r,h₁)): opE P E h (.call c)=some (r,h₁):=by
 simp only[opE,I,ha,builtinV,hf]
theorem Al (I:bE E x=some v)(hy:bE E y=some u)(hf:makeSliceV P h t v u=some (r,h₁)): opE P E h (.makeSlice t x y)=some (r,h₁):=by simp only[opE,xo,I,hy,hf]
theorem je {t:Nat}{l:List (Nat×V)}(I:lookParts E ps.toList=some l)(hf:buildSliceV P h t n l=some (r,h₁)): opE P E h (.buildSlice t n ps)=some (r,h₁):=by simp only[opE,I,hf]
theorem bK {lo hi mx:Option Operand}{p q m:Option V}{p' q' m':Option Nat}(I:bE E x=some v)(h1:lookOpt E lo=some p)(h2:lookOpt E hi=some q)(h3:lookOpt E mx=some m)
 (g1:mF p=some p')(g2:mF q=some q')(g3:mF m=some m')(hf:sliceV P h t v p' q' m'=some r): opE P E h (.slice t x lo hi mx)=some (r,h):=by simp only[opE,lD,I,h1,h2,h3,g1,g2,g3,hf,bO]
theorem BM (I:isAggT P t=some false)(hg:T.get h.tr id=some (.cells n cs st))(hn:nth cs off=some v): loadV P h t (.ptr id off)=some v:=by
 simp only[loadV,I,Bh,hg,hn]
theorem b9 (I:isAggT P t=some true)(hs:bq P t=some n)(hg:T.get h.tr id=some (.cells n cs st)): loadV P h t (.ptr id 0)=some (.agg cs):=by
 simp only[loadV,I,hs,rdN,hg,eW];rw[aS.2 (aH n),ag,kg,kg];rfl
end
section
variable {ax:Nat} {o:Oper}
theorem IW (hw:nQ h)(I:b<256):
  ∃v h₁,buildSliceV Tryz.prog h 29 1 [(0,.int .u8 b)]=some (v,h₁)/\lF h₁ v [b]/\fK 1 [] h h₁/\∀i∈rowIds v,h.next<=i:=by
 refine⟨.sl h.next 0 1 (.exact 1),newRow h [.int .u8 b],?_,⟨by simpa using I,.inr (.inl ⟨h.next,[],1,U,?_,U⟩)⟩,fK.Dv hw _,λi hi=>by simp[rowIds] at hi;omega⟩
 .simp only[buildSliceV,aP,fO,qY,V.cells];rfl
 .rw[newRow,ja,ay U];rfl
theorem au.P4 (hP:C.P=Tryz.prog)(hw:nQ h)(hg:wantE L E o.guard=some true)(hd:o.dst=some d)(hn:Nat.blt d ax=true)(I:o.op=.buildSlice t 1 ps)(ht:t=29)
 (hx:lookParts E ps.toList=some [(0,.int .u8 (b:Int))])(hb:b<256)
 (hr:∀v h₁,lF h₁ v [b]->fK 1 [] h h₁->(∀i∈rowIds v,h.next<=i)->au C ax L rest ((d,v)::E) h₁ R): au C ax L (o::rest) E h R:=by
 obtain⟨v,h₁,e1,e2,e3,e4⟩:=IW hw hb;refine au.op hg hd hn (v:=v) (h₁:=h₁) ?_ (hr v h₁ e2 e3 e4);rw[I,ht,hP];exact je hx e1
theorem au.app {c:Go.Call}{s x:V}{m:List Nat}(hP:C.P=Tryz.prog)(hw:nQ h)(hg:wantE L E o.guard=some true)(hd:o.dst=some d)(hn:Nat.blt d ax=true)(I:o.op=.call c)(hc:c.callee=.builtin .append)
 (yV:c.argTypes = #[29,29])(ha:lookArgs E c.args.toList=some [s,x])(hs:lF h s l)(hx:View h x m)(gm:l.length+m.length<=140737488355328)
 (hr:∀v h₁,lF h₁ v (l++m)->fK 1 (rowIds s) h h₁->(∀i∈rowIds v,i∈rowIds s\/h.next<=i)->au C ax L rest ((d,v)::E) h₁ R): au C ax L (o::rest) E h R:=by
 obtain⟨v,h₁,e1,e2,e3,e4⟩:=BL hw hs hx gm;refine au.op hg hd hn (v:=v) (h₁:=h₁) ?_ (hr v h₁ e2 e3 e4);rw[I,hP];exact iY hc ha (by rw[yV];exact e1)
theorem FO (hw:nQ h)(hc:c<1073741824):
  ∃v h₁,makeSliceV Tryz.prog h 29 (.int .i64 0) (.int .i64 (c:Int))=some (v,h₁)/\lF h₁ v []/\fK 1 [] h h₁/\∀i∈rowIds v,h.next<=i:=by
 obtain⟨i,hi,i1,i2⟩:=Dw;refine⟨.sl h.next 0 0 (.exact c),h.new (.cells c (repeatL [.int .u8 0] c) false),?_,⟨by simp,.inr (.inl ⟨h.next,repeatL [.int .u8 0] c,c,U,?_,?_⟩)⟩,fK.Dv hw _,λi hi=>by simp[rowIds] at hi;omega⟩
 .simp only[makeSliceV,aP,hi,qY,i1,i2,V.cells,aW,b6,fI,cH];rw[show(decide ((0:Int)<=0)&&decide ((0:Int)<=(c:Int))&&decide ((c:Int)<1073741824)&&Nat.ble 1 4096&&Nat.beq (0+1) 1&&Nat.ble 1 1)=true by simp;omega,ag];rfl
 .rw[ja,ay U];rfl
 .have:∀n,(repeatL [V.int .u8 0] n).length=n:=λn=>by
   induction n with
   |zero=>rfl
   |succ n I=>simp[repeatL,I]
  simp[this]
end
section
variable {ax:Nat} {o:Oper} {v:V} {a b:Operand}
theorem zm (e:(o.op,wantE L E o.guard,o.dst,Nat.blt d ax,bE E x)=(Op.move x,some true,some d,true,some v))(hw:au C ax L rest ((d,v)::E) h R): au C ax L (o::rest) E h R:=by
  simp only[bW] at e;exact au.op e.2.1 e.2.2.1 e.2.2.2.1 (by rw[e.1];exact b7 e.2.2.2.2) hw
theorem za (e:(o.op,wantE L E o.guard,o.dst,Nat.blt d ax,bE E x)=(Op.assign x,some true,some d,true,some v))(hw:au C ax L rest ((d,v)::E) h R): au C ax L (o::rest) E h R:=by
  simp only[bW] at e;exact au.op e.2.1 e.2.2.1 e.2.2.2.1 (by rw[e.1];exact iV e.2.2.2.2) hw
theorem zn (e:(o.op,wantE L E o.guard,o.dst,Nat.blt d ax,bE E x)=(Op.nilCheck x,some true,some d,true,some (V.ptr j k)))(hw:au C ax L rest ((d,.ptr j k)::E) h R): au C ax L (o::rest) E h R:=by
  simp only[bW] at e;exact au.op e.2.1 e.2.2.1 e.2.2.2.1 (by rw[e.1];exact vr e.2.2.2.2) hw
theorem zf (e:(o.op,wantE L E o.guard,o.dst,Nat.blt d ax,bE E x)=(Op.fieldAddr t x i,some true,some d,true,some v))(I:fieldAddrV C.P t v i=some r)(hw:au C ax L rest ((d,r)::E) h R): au C ax L (o::rest) E h R:=by
  simp only[bW] at e;exact au.op e.2.1 e.2.2.1 e.2.2.2.1 (by rw[e.1];exact m9 e.2.2.2.2 I) hw
theorem zl (e:(o.op,wantE L E o.guard,o.dst,Nat.blt d ax,bE E x)=(Op.load t x,some true,some d,true,some v))(I:loadV C.P h t v=some r)(hw:au C ax L rest ((d,r)::E) h R): au C ax L (o::rest) E h R:=by
  simp only[bW] at e;exact au.op e.2.1 e.2.2.1 e.2.2.2.1 (by rw[e.1];exact o_load e.2.2.2.2 I) hw
theorem ze {l:List V}(e:(o.op,wantE L E o.guard,o.dst,Nat.blt d ax,bE E x,nth l i)=(Op.extract x i,some true,some d,true,some (V.aX l),some r))(hw:au C ax L rest ((d,r)::E) h R): au C ax L (o::rest) E h R:=by
  simp only[bW] at e;exact au.op e.2.1 e.2.2.1 e.2.2.2.1 (by rw[e.1];exact gP e.2.2.2.2.1 e.2.2.2.2.2) hw
theorem zp (e:(o.op,wantE L E o.guard,o.dst,Nat.blt d ax,bE E x,bE E b)=(Op.pick x a b,some true,some d,true,some (V.bool false),some v))(hw:au C ax L rest ((d,v)::E) h R): au C ax L (o::rest) E h R:=by
  simp only[bW] at e;exact au.op e.2.1 e.2.2.1 e.2.2.2.1 (by rw[e.1];exact rU e.2.2.2.2.1 e.2.2.2.2.2) hw
theorem zq (e:(o.op,wantE L E o.guard,o.dst,Nat.blt d ax,bE E x,bE E a)=(Op.pick x a b,some true,some d,true,some (V.bool true),some v))(hw:au C ax L rest ((d,v)::E) h R): au C ax L (o::rest) E h R:=by
  simp only[bW] at e;exact au.op e.2.1 e.2.2.1 e.2.2.2.1 (by rw[e.1];exact oT e.2.2.2.2.1 e.2.2.2.2.2) hw
theorem zb {op:BinOp}(e:(o.op,wantE L E o.guard,o.dst,Nat.blt d ax,bE E x,bE E y)=(Op.binOp op t x y t',some true,some d,true,some v,some u))(I:binV C.P h op t x y v u=some r)(hw:au C ax L rest ((d,r)::E) h R): au C ax L (o::rest) E h R:=by
  simp only[bW] at e;exact au.op e.2.1 e.2.2.1 e.2.2.2.1 (by rw[e.1];exact aq e.2.2.2.2.1 e.2.2.2.2.2 I) hw
theorem zx (e:(wantE L E o.guard,o.dst,Nat.blt d ax)=(some false,some d,true))(hw:au C ax L rest ((d,cX)::E) h R): au C ax L (o::rest) E h R:=by
  simp only[bW] at e;exact au.no e.1 e.2.1 e.2.2 hw
theorem zo (e:(wantE L E o.guard,o.dst,Nat.blt d ax)=(some true,some d,true))(ho:opE C.P E h o.op=some (v,h₁))(hw:au C ax L rest ((d,v)::E) h₁ R): au C ax L (o::rest) E h R:=by
  simp only[bW] at e;exact au.op e.1 e.2.1 e.2.2 ho hw
theorem zv (I:R E h): au C ax L [] E h R:=au.nil I
variable {c f:Code}
theorem zw (hw:WP C ax c E h λex E' h'=>match ex with
    |.normal=>WP C ax f E' h' Q
    |ex=>Q ex E' h'): WP C ax (.seq c f) E h Q:=WP.seq hw
theorem zr (hl:ops.toList=L)(hw:au C ax L L E h λE' h'=>Q .normal E' h'): WP C ax (.region k ops false) E h Q:=WP.region hl hw
theorem zg (hl:ops.toList=L)(hw:au C ax L L E h λE' h'=>WP C ax f E' h' Q): WP C ax (.seq (.region k ops false) f) E h Q:=WP.seq (WP.region hl hw)
theorem zi (I:bE E x=some (.bool true))(hw:WP C ax c E h Q): WP C ax (.cond x c f) E h Q:=WP.cond I hw
theorem zj (I:bE E x=some (.bool false))(hw:WP C ax f E h Q): WP C ax (.cond x c f) E h Q:=WP.cond I hw
end
inductive Md where
  |c (c:Code)
  |o (L l:List Oper)
def FP (C:gO)(ax:Nat)(Q:Ex->List (Nat×V)->H->Prop): List Code->Ex->List (Nat×V)->H->Prop
  |[]=>Q
  |b::K=>λex E' h'=>match ex with
    |.normal=>WP C ax b E' h' (FP C ax Q K)
    |ex=>FP C ax Q K ex E' h'
def X6 : List (Nat×V)->Nat->Option V
  |[],_=>none
  |(d,v)::E,k=>cond (Nat.beq d k) (some v) (X6 E k)
theorem Sl : ∀(E:List (Nat×V)) (k:Nat),X6 E k=look E k
  |[],_=>rfl
  |(d,v)::E,k=>by simp only[X6,look,Sl E k]
def FQ (E:List (Nat×V)): Operand->Option V
  |.tmp t=>X6 E t
  |.const c=>ofValue c
  |.global _=>none
  |.func f=>some (.fn (.func f) [] [])
theorem Sn (E:List (Nat×V))(x:Operand): FQ E x=bE E x:=by cases x<;>first|rfl|exact Sl _ _
def pur (E:List (Nat×V)): Op->Option V
  |.move x=>FQ E x
  |.assign x=>FQ E x
  |.nilCheck x=>match FQ E x with
    |some (.ptr j k)=>some (.ptr j k)
    |_=>none
  |.extract x i=>match FQ E x with
    |some (.aX l)=>nth l i
    |_=>none
  |.pick x a b=>match FQ E x with
    |some (.bool true)=>FQ E a
    |some (.bool false)=>FQ E b
    |_=>none
  |_=>none
def runM (ax:Nat): Nat->Md->List (Nat×V)->List Code->Option (Md×List (Nat×V)×List Code)
  |0,m,E,K=>some (m,E,K)
  |n+1,.o _ [],E,b::K=>runM ax n (.c b) E K
  |n+1,.o L (o::l),E,K=>match wantE L E o.guard,o.dst with
    |some false,some d=>cond (Nat.blt d ax) (runM ax n (.o L l) ((d,cX)::E) K) none
    |some true,some d=>match pur E o.op with
      |some v=>cond (Nat.blt d ax) (runM ax n (.o L l) ((d,v)::E) K) none
      |none=>none
    |_,_=>none
  |n+1,.c (.seq a b),E,K=>runM ax n (.c a) E (b::K)
  |n+1,.c (.region _ ops false),E,K=>runM ax n (.o ops.toList ops.toList) E K
  |n+1,.c (.cond x a b),E,K=>match FQ E x with
    |some (.bool true)=>runM ax n (.c a) E K
    |some (.bool false)=>runM ax n (.c b) E K
    |_=>none
  |n+1,.c .skip,E,b::K=>runM ax n (.c b) E K
  |_+1,_,_,_=>none
abbrev Gl (C:gO)(ax:Nat)(h:H)(Q:Ex->List (Nat×V)->H->Prop)(m:Md)(E:List (Nat×V))(K:List Code): Prop:=match m with
  |.c c=>WP C ax c E h (FP C ax Q K)
  |.o L l=>au C ax L l E h λE' h'=>FP C ax Q K .normal E' h'
class KD (C:gO)(ax:Nat)(R:List (Nat×V)->H->Prop)(Q:outParam (Ex->List (Nat×V)->H->Prop))where
  K:List Code
  eq:R=λE' h'=>FP C ax Q K .normal E' h'
class X7 (C:gO)(ax:Nat)(R:Ex->List (Nat×V)->H->Prop)(Q:outParam (Ex->List (Nat×V)->H->Prop))where
  K:List Code
  eq:R=FP C ax Q K
instance (priority:=50) (C:gO) (ax:Nat) (R:List (Nat×V)->H->Prop):KD C ax R (λ_=>R):=⟨[],U⟩
instance (priority:=60) (C:gO) (ax:Nat) (Q:Ex->List (Nat×V)->H->Prop):KD C ax (λE' h'=>Q .normal E' h') Q:=⟨[],U⟩
instance (priority:=70) (C:gO) (ax:Nat) (f:Code) (Q:Ex->List (Nat×V)->H->Prop) (K:List Code):KD C ax (λE' h'=>WP C ax f E' h' (FP C ax Q K)) Q:=⟨f::K,U⟩
instance (priority:=65) (C:gO) (ax:Nat) (f:Code) (Q:Ex->List (Nat×V)->H->Prop):KD C ax (λE' h'=>WP C ax f E' h' Q) Q:=⟨[f],U⟩
instance (priority:=80) (C:gO) (ax:Nat) (K:List Code) (Q:Ex->List (Nat×V)->H->Prop):KD C ax (λE' h'=>FP C ax Q K .normal E' h') Q:=⟨K,U⟩
instance (priority:=50) (C:gO) (ax:Nat) (Q:Ex->List (Nat×V)->H->Prop):X7 C ax Q Q:=⟨[],U⟩
instance (priority:=80) (C:gO) (ax:Nat) (K:List Code) (Q:Ex->List (Nat×V)->H->Prop):X7 C ax (FP C ax Q K) Q:=⟨K,U⟩
section
variable {ax:Nat} {l:List Oper} {m m':Md} {K K':List Code} {f:Code}
theorem abq {o:Op}{v:V}(e:pur E o=some v): opE C.P E h o=some (v,h):=by
  unfold pur at e;simp only[Sn] at e;split at e
  . exact b7 e
  . exact iV e
  . split at e
    . rename_i I
      cases e;exact vr I
    . cases e
  . split at e
    . rename_i I
      exact gP I e
    . cases e
  . split at e
    . rename_i I;exact oT I e
    . rename_i I;exact rU I e
    . cases e
  . cases e
theorem N5 : ∀(n:Nat) (m:Md) (E:List (Nat×V)) (K:List Code),runM ax n m E K=some (m',E',K')->Gl C ax h Q m' E' K'->Gl C ax h Q m E K:=by
  intro n;induction n with
  |zero=>intro m E K e hw;simp only[runM,aA,bW] at e;obtain⟨rfl,rfl,rfl⟩:=e;exact hw
  |succ n I =>
    intro m E K e hw;unfold runM at e;split at e
    . rename_i he;cases he
    . rename_i he;cases he
      exact au.nil (I _ _ _ e hw)
    . rename_i he;cases he
      split at e
      . rename_i d hg hd
        cases hn:Nat.blt d ax with
        |false=>rw[hn] at e;cases e
        |true=>rw[hn] at e;exact au.no hg hd hn (I _ _ _ e hw)
      . rename_i d hg hd
        split at e
        . rename_i v hv
          cases hn:Nat.blt d ax with
          |false=>rw[hn] at e;cases e
          |true=>rw[hn] at e;exact au.op hg hd hn (abq hv) (I _ _ _ e hw)
        . cases e
      . cases e
    . rename_i he;cases he
      exact WP.seq (I _ _ _ e hw)
    . rename_i he;cases he
      exact WP.region U (I _ _ _ e hw)
    . rename_i he;cases he
      rw[Sn] at e;split at e
      . rename_i hx;exact WP.cond hx (I _ _ _ e hw)
      . rename_i hx;exact WP.cond hx (I _ _ _ e hw)
      . cases e
    . rename_i he;cases he
      exact WP.skip (I _ _ _ e hw)
    . cases e
theorem zk (n:Nat)[a:KD C ax R Q](e:runM ax n (.o L l) E (KD.K C ax R)=some (m',E',K'))(hw:Gl C ax h Q m' E' K'): au C ax L l E h R:=by
  rw[a.eq];exact N5 n (.o L l) E _ e hw
theorem zK {I:Ex->List (Nat×V)->H->Prop}(n:Nat)[a:X7 C ax I Q](e:runM ax n (.c f) E (X7.K C ax I)=some (m',E',K'))(hw:Gl C ax h Q m' E' K'): WP C ax f E h I:=by
  rw[a.eq];exact N5 n (.c f) E _ e hw
end
section
variable {ax:Nat} {l:List Oper} {o:Oper}
def OpR (C:gO)(E:List (Nat×V))(h:H)(o:Oper)(R:V->H->Prop): Prop:=∃v h₁,R v h₁/\∀env,mj env E->∃N,evOp C (ev C N) env h o=some (v,h₁)
theorem OpR.call {k:FuncId}{R:V->H->Prop}(sB:o.op=.call cl)(hc:cl.callee=.value x)(hx:bE E x=some (.fn (.func k) first cap))
 (ha:lookArgs E cl.args.toList=some args)(I:Am.Call C k (first++(args++cap)) h R): OpR C E h o R:=by
 obtain⟨v,h₁,Sb,hr⟩:=I;exact⟨v,h₁,hr,λenv hE=>IK hE sB hc hx ha Sb⟩
theorem OpR.of {v:V}{R:V->H->Prop}(ho:opE C.P E h o.op=some (v,h₁))(hr:R v h₁): OpR C E h o R:=⟨v,h₁,hr,λ_ I=>⟨0,FI I ho⟩⟩
theorem au.any (hg:wantE L E o.guard=some true)(hd:o.dst=some d)(hn:Nat.blt d ax=true)(ho:OpR C E h o BG)
 (hw:∀v h₁,BG v h₁->au C ax L rest ((d,v)::E) h₁ R): au C ax L (o::rest) E h R:=by
 intro env hE;obtain⟨v,h₁,hr,pn⟩:=ho;obtain⟨N,hN⟩:=pn env hE;obtain⟨M,I,h',E',h1,h2,h3⟩:=hw v h₁ hr (env.set d (some v)) (hE.set d v);refine⟨Nat.max N M,I,h',E',?_,h2,h3⟩;simp only[evOps,k_ hE hg,ag,oc (iN (rI N M)) hN,St.put,hd,hn];exact sD (iN (rH N M)) _ _ _ h1
def JU : List (Env×V)->List (List (Nat×V)×V)->Prop
 |[],[]=>True
 |x::l,y::m=>mj x.1 y.1/\x.2=y.2/\JU l m
 |_,_=>False
def aB (C:gO)(ax:Nat)(L l:List Oper)(E:List (Nat×V))(h:H)(hs:List H)(Q:List (Nat×V)->H->List (List (Nat×V)×V)->List H->Prop): Prop :=
 ∀env,mj env E->∃N I h' E' tr ts IX,trace C (ev C N) L l ⟨env,ax,h⟩ hs=some (tr,IX,⟨I,ax,h'⟩)/\mj I E'/\JU tr ts/\Q E' h' ts IX
variable {Q:List (Nat×V)->H->List (List (Nat×V)×V)->List H->Prop}
theorem aB.nil (I:Q E h [] hs): aB C ax L [] E h hs Q:=λenv hE=>⟨0,env,h,E,[],[],hs,U,hE,aa,I⟩
theorem aB.any {e:Bool}(hg:wantE L E o.guard=some true)(hd:o.dst=some d)(hn:Nat.blt d ax=true)(he:isEff C o.op=e)(ho:OpR C E h o BG)
 (hw:∀v h₁,BG v h₁->aB C ax L rest ((d,v)::E) h₁ (cond e (hs++[h₁]) hs) λE' h' ts I=>Q E' h' ((E,v)::ts) I): aB C ax L (o::rest) E h hs Q:=by
 intro env hE;obtain⟨v,h₁,hr,pn⟩:=ho;obtain⟨N,hN⟩:=pn env hE;obtain⟨M,yc,h',E',tr,ts,I,h1,h2,h3,h4⟩:=hw v h₁ hr (env.set d (some v)) (hE.set d v);refine⟨Nat.max N M,yc,h',E',(env,v)::tr,(E,v)::ts,I,?_,h2,⟨hE,U,h3⟩,h4⟩;simp only[trace,k_ hE hg,ag,oc (iN (rI N M)) hN,St.put,hd,hn,he];rw[Ah (iN (rH N M)) _ _ _ _ h1]
theorem aB.lJ {e:Bool}(hg:wantE L E o.guard=some true)(hd:o.dst=none)(he:isEff C o.op=e)(ho:OpR C E h o BG)
 (hw:∀v h₁,BG v h₁->aB C ax L rest E h₁ (cond e (hs++[h₁]) hs) λE' h' ts I=>Q E' h' ((E,v)::ts) I): aB C ax L (o::rest) E h hs Q:=by
 intro env hE;obtain⟨v,h₁,hr,pn⟩:=ho;obtain⟨N,hN⟩:=pn env hE;obtain⟨M,yc,h',E',tr,ts,I,h1,h2,h3,h4⟩:=hw v h₁ hr env hE;refine⟨Nat.max N M,yc,h',E',(env,v)::tr,(E,v)::ts,I,?_,h2,⟨hE,U,h3⟩,h4⟩;simp only[trace,k_ hE hg,ag,oc (iN (rI N M)) hN,St.put,hd,he];rw[Ah (iN (rH N M)) _ _ _ _ h1]
theorem aB.op {v:V}(hg:wantE L E o.guard=some true)(hd:o.dst=some d)(hn:Nat.blt d ax=true)(he:isEff C o.op=false)(ho:opE C.P E h o.op=some (v,h))
 (hw:aB C ax L rest ((d,v)::E) h hs λE' h' ts I=>Q E' h' ((E,v)::ts) I): aB C ax L (o::rest) E h hs Q :=
 aB.any hg hd hn he (OpR.of (R:=λv' h'=>v'=v/\h'=h) ho ⟨U,U⟩) (λv' h' hr=>by obtain⟨rfl,rfl⟩:=hr;exact hw)
theorem aB.no {e:Bool}(hg:wantE L E o.guard=some false)(hd:o.dst=some d)(hn:Nat.blt d ax=true)(he:isEff C o.op=e)
 (hw:aB C ax L rest ((d,cX)::E) h (cond e (hs++[h]) hs) λE' h' ts I=>Q E' h' ((E,cX)::ts) I): aB C ax L (o::rest) E h hs Q:=by
 intro env hE;obtain⟨M,yc,h',E',tr,ts,I,h1,h2,h3,h4⟩:=hw (env.set d (some cX)) (hE.set d cX);refine⟨M,yc,h',E',(env,cX)::tr,(E,cX)::ts,I,?_,h2,⟨hE,U,h3⟩,h4⟩;simp only[trace,k_ hE hg,aT,St.put,hd,hn,ag,he];rw[h1]
def KE (C:gO)(L:List Oper)(o:Oper)(x:List (Nat×V)×V)(h:H): Prop :=
 wantE L x.1 o.guard=some false\/(wantE L x.1 o.guard=some true/\(∃h',opE C.P x.1 h o.op=some (x.2,h'))/\x.2.beq x.2=true)
def FR (C:gO)(L:List Oper)(an es:List Nat)(hs:List H): List Oper->List (List (Nat×V)×V)->Nat->Prop
 |o::l,x::tr,i=>(isEff C o.op=true\/(sq ((nth an i).getD 0) es&&Nat.beq (m8 ((nth an i).getD 0) es) (qz an i es))=true \/
   (sq ((nth an i).getD 0) es=true/\∀h∈(hs.drop (m8 ((nth an i).getD 0) es)).take (qz an i es+1-m8 ((nth an i).getD 0) es),KE C L o x h))/\FR C L an es hs l tr (i+1)
 |[],[],_=>True
 |_,_,_=>False
theorem Sq {x:Env×V}{y:List (Nat×V)×V}(hE:mj x.1 y.1)(hv:x.2=y.2): ∀(hs:List H),(∀h∈hs,KE C L o y h)->sameIn C self L o x hs=true:=by
 intro hs;induction hs with
 |nil=>intro _;rfl
 |cons h hs ih =>
  intro I;simp only[sameIn];rcases I h a_ with hg|⟨hg,⟨h',ho⟩,hb⟩
  .rw[k_ hE hg,aT]
  .rw[k_ hE hg,ag,FI hE ho];simp only;rw[hv,hb,ag];exact ih (λh hh=>I h (bk _ hh))
theorem IY {an:List Nat}: ∀(l:List Oper) (tr:List (Env×V)) (ts:List (List (Nat×V)×V)) (i:Nat),JU tr ts->FR C L an es hs l ts i->stayOk C self L an es hs l tr i=true:=by
 intro l;induction l with
 |nil=>intro tr ts i hn eG;cases tr<;>cases ts<;>first|rfl|(exact eG.elim)|(exact hn.elim)
 |cons o l ih =>
  intro tr ts i hn eG;cases tr with
  |nil=>cases ts with
   |nil=>exact eG.elim
   |cons y ts=>exact hn.elim
  |cons x tr =>
   cases ts with
   |nil=>exact hn.elim
   |cons y ts =>
    obtain⟨n1,n2,n3⟩:=hn;obtain⟨s1,s2⟩:=eG;simp only[stayOk];have I:=ih tr ts (i+1) n3 s2;cases he:isEff C o.op with
    |true=>rw[ag];exact I
    |false =>
     rw[aT];rcases s1 with s1|s1|⟨s1,s3⟩
     .rw[he] at s1;cases s1
     .rw[s1,ag];exact I
     .cases hq:(sq ((nth an i).getD 0) es&&Nat.beq (m8 ((nth an i).getD 0) es) (qz an i es)) with
      |true=>rw[ag];exact I
      |false=>rw[aT,s1,Sq n1 n2 _ s3,kf,ag];exact I
theorem WP.draw {Q:Ex->List (Nat×V)->H->Prop}(hl:ops.toList=L)(eG:m7 C false L=true)
 (hw:aB C ax L L E h [h] λE' h' ts hs=>FR C L (ancs L []) (fg C L 0) hs L ts 0/\Q .normal E' h'): WP C ax (.region id ops true) E h Q:=by
 intro env hE;obtain⟨N,I,h',E',tr,ts,IX,h1,h2,h3,h4,h5⟩:=hw env hE;refine⟨N+1,.normal,I,h',E',?_,h2,h5⟩;subst hl;rw[jU];simp only[evStep,ag,qF,eG,h1,IY _ _ _ _ h3 h4]
def N6 (L:List Oper): List Oper->List (List (Nat×V)×V)->Prop
 |o::l,x::ts=>(isAlloc true o=false\/wantE L x.1 o.guard=some true)/\N6 L l ts
 |_,_=>True
theorem N6.all : ∀(l:List Oper) (tr:List (Env×V)) (ts:List (List (Nat×V)×V)),JU tr ts->N6 L l ts->allW L l tr=true:=by
 intro l;induction l with
 |nil=>intro tr ts _ _;rfl
 |cons o l I =>
  intro tr ts hn hf;cases tr with
  |nil=>rfl
  |cons x tr =>
   cases ts with
   |nil=>exact hn.elim
   |cons y ts =>
    obtain⟨n1,n2,n3⟩:=hn;obtain⟨f1,f2⟩:=hf;simp only[allW];rcases f1 with f1|f1
    .rw[f1];exact I tr ts n3 f2
    .rw[k_ n1 f1];simp only[Bool.or_true,ag];exact I tr ts n3 f2
theorem WP.ac2 {Q:Ex->List (Nat×V)->H->Prop}(hl:ops.toList=L)(eG:m7 C true L=true)
 (hw:aB C ax L L E h [h] λE' h' ts hs=>(FR C L (ancs L []) (fg C L 0) hs L ts 0/\N6 L L ts)/\Q .normal E' h'): WP C ax (.region id ops true) E h Q:=by
 intro env hE;obtain⟨N,I,h',E',tr,ts,IX,h1,h2,h3,⟨h4,h6⟩,h5⟩:=hw env hE;refine⟨N+1,.normal,I,h',E',?_,h2,h5⟩;subst hl;rw[jU];simp only[evStep,ag,qF,eG,h1,IY _ _ _ _ h3 h4,N6.all _ _ _ h3 h6,kf];cases m7 C false ops.toList<;>rfl
end
def planOk (C:gO)(an es:List Nat): List Oper->List (Option (Nat×Nat))->Nat->Bool
 |[],[],_=>true
 |o::l,p::ps,i=>(match p with
   |none=>isEff C o.op||(sq ((nth an i).getD 0) es&&Nat.beq (m8 ((nth an i).getD 0) es) (qz an i es))
   |some (lo,n)=>sq ((nth an i).getD 0) es&&Nat.beq lo (m8 ((nth an i).getD 0) es)&&Nat.beq n (qz an i es+1-m8 ((nth an i).getD 0) es))&&planOk C an es l ps (i+1)
 |_,_,_=>false
def Ao (C:gO)(L:List Oper)(hs:List H): List Oper->List (List (Nat×V)×V)->List (Option (Nat×Nat))->Prop
 |o::l,x::tr,p::ps=>(match p with
   |none=>True
   |some (lo,n)=>∀h∈(hs.drop lo).take n,KE C L o x h)/\Ao C L hs l tr ps
 |[],[],_=>True
 |_,_,_=>False
theorem Ao.stay {an:List Nat}: ∀(l:List Oper) (ts:List (List (Nat×V)×V)) (ps:List (Option (Nat×Nat))) (i:Nat),planOk C an es l ps i=true->Ao C L hs l ts ps->FR C L an es hs l ts i:=by
 intro l;induction l with
 |nil=>intro ts ps i h1 h2;cases ts with
  |nil=>trivial
  |cons x ts=>exact h2.elim
 |cons o l ih =>
  intro ts ps i h1 h2;cases ts with
  |nil=>cases ps<;>exact h2.elim
  |cons x ts =>
   cases ps with
   |nil=>exact h2.elim
   |cons p ps =>
    simp only[planOk,bV] at h1;obtain⟨I,a2⟩:=h1;obtain⟨b1,b2⟩:=h2;refine⟨?_,ih ts ps (i+1) a2 b2⟩;cases p with
    |none =>
     simp only[Hu] at I;rcases I with I|I
     .exact .inl I
     .exact .inr (.inl I)
    |some q =>
     obtain⟨lo,n⟩:=q;simp only[bV,beq_iff] at I;obtain⟨⟨c1,c2⟩,c3⟩:=I;refine .inr (.inr ⟨c1,?_⟩);subst c2;subst c3;exact b1
theorem WP.drawn {ax:Nat}(ps:List (Option (Nat×Nat)))(hl:ops.toList=L)(eG:m7 C false L=true)
 (hp:planOk C (ancs L []) (fg C L 0) L ps 0=true)
 (hw:aB C ax L L E h [h] λE' h' ts hs=>Ao C L hs L ts ps/\Q .normal E' h'): WP C ax (.region id ops true) E h Q:=by
 refine WP.draw hl eG ?_;intro env hE;obtain⟨N,I,h',E',tr,ts,IX,h1,h2,h3,h4,h5⟩:=hw env hE;exact⟨N,I,h',E',tr,ts,IX,h1,h2,h3,Ao.stay _ _ _ _ hp h4,h5⟩
theorem WP.abr {ax:Nat}(ps:List (Option (Nat×Nat)))(hl:ops.toList=L)(eG:m7 C true L=true)
 (hp:planOk C (ancs L []) (fg C L 0) L ps 0=true)
 (hw:aB C ax L L E h [h] λE' h' ts hs=>(Ao C L hs L ts ps/\N6 L L ts)/\Q .normal E' h'): WP C ax (.region id ops true) E h Q:=by
 refine WP.ac2 hl eG ?_;intro env hE;obtain⟨N,I,h',E',tr,ts,IX,h1,h2,h3,h4,h5⟩:=hw env hE;exact⟨N,I,h',E',tr,ts,IX,h1,h2,h3,⟨Ao.stay _ _ _ _ hp h4.1,h4.2⟩,h5⟩
theorem gF {a b:H}{l:List H}{p:H->Prop}(ha:p a)(hb:p b): ∀x∈((a::b::l).drop 0).take 2,p x:=by
 intro x I;simp only[ga,List.take_succ_cons,tF,gd,jQ,mM] at I;rcases I with rfl|rfl
 .exact ha
 .exact hb
theorem BN {a b c:H}{l:List H}{p:H->Prop}(ha:p a)(hb:p b)(hc:p c): ∀x∈((a::b::c::l).drop 0).take 3,p x:=by
 intro x I;simp only[ga,List.take_succ_cons,tF,gd,jQ,mM] at I;rcases I with rfl|rfl|rfl
 .exact ha
 .exact hb
 .exact hc
theorem fe (k:IntKind): ikBeq k k=true:=by cases k<;>rfl
theorem uf (n:Int): intBeq n n=true:=by cases n<;>simp[intBeq]
theorem Eb (c:Cap): c.beq c=true:=by cases c<;>simp[Cap.beq]
theorem Ap (a b c:Nat)(d:Cap): (V.sl a b c d).beq (.sl a b c d)=true:=by simp[V.beq,Eb]
theorem nR {v:V}(hv:View h v l): v.beq v=true:=by
 obtain⟨_,hv⟩:=hv;rcases hv with⟨rfl|⟨I,rfl⟩,_⟩|⟨id,off,cap,n,cs,st,rfl,_⟩
 .simp[V.beq]
 .simp[V.beq]
 .exact Ap _ _ _ _
section
variable {ax:Nat} {Q:List (Nat×V)->H->List (List (Nat×V)×V)->List H->Prop} {o:Oper} {v:V} {a b:Operand}
theorem zM (e:(o.op,wantE L E o.guard,o.dst,Nat.blt d ax,isEff C o.op,bE E x)=(Op.move x,some true,some d,true,false,some v))(hw:aB C ax L rest ((d,v)::E) h hs λE' h' ts I=>Q E' h' ((E,v)::ts) I): aB C ax L (o::rest) E h hs Q:=by
  simp only[bW] at e;exact aB.op e.2.1 e.2.2.1 e.2.2.2.1 e.2.2.2.2.1 (by rw[e.1];exact b7 e.2.2.2.2.2) hw
theorem zA (e:(o.op,wantE L E o.guard,o.dst,Nat.blt d ax,isEff C o.op,bE E x)=(Op.assign x,some true,some d,true,false,some v))(hw:aB C ax L rest ((d,v)::E) h hs λE' h' ts I=>Q E' h' ((E,v)::ts) I): aB C ax L (o::rest) E h hs Q:=by
  simp only[bW] at e;exact aB.op e.2.1 e.2.2.1 e.2.2.2.1 e.2.2.2.2.1 (by rw[e.1];exact iV e.2.2.2.2.2) hw
theorem zN (e:(o.op,wantE L E o.guard,o.dst,Nat.blt d ax,isEff C o.op,bE E x)=(Op.nilCheck x,some true,some d,true,false,some (V.ptr j k)))(hw:aB C ax L rest ((d,.ptr j k)::E) h hs λE' h' ts I=>Q E' h' ((E,.ptr j k)::ts) I): aB C ax L (o::rest) E h hs Q:=by
  simp only[bW] at e;exact aB.op e.2.1 e.2.2.1 e.2.2.2.1 e.2.2.2.2.1 (by rw[e.1];exact vr e.2.2.2.2.2) hw
theorem zF (e:(o.op,wantE L E o.guard,o.dst,Nat.blt d ax,isEff C o.op,bE E x)=(Op.fieldAddr t x i,some true,some d,true,false,some v))(hf:fieldAddrV C.P t v i=some r)(hw:aB C ax L rest ((d,r)::E) h hs λE' h' ts I=>Q E' h' ((E,r)::ts) I): aB C ax L (o::rest) E h hs Q:=by
  simp only[bW] at e;exact aB.op e.2.1 e.2.2.1 e.2.2.2.1 e.2.2.2.2.1 (by rw[e.1];exact m9 e.2.2.2.2.2 hf) hw
theorem zL (e:(o.op,wantE L E o.guard,o.dst,Nat.blt d ax,isEff C o.op,bE E x)=(Op.load t x,some true,some d,true,false,some v))(hf:loadV C.P h t v=some r)(hw:aB C ax L rest ((d,r)::E) h hs λE' h' ts I=>Q E' h' ((E,r)::ts) I): aB C ax L (o::rest) E h hs Q:=by
  simp only[bW] at e;exact aB.op e.2.1 e.2.2.1 e.2.2.2.1 e.2.2.2.2.1 (by rw[e.1];exact o_load e.2.2.2.2.2 hf) hw
theorem zO (e:(wantE L E o.guard,o.dst,Nat.blt d ax,isEff C o.op)=(some true,some d,true,false))(ho:opE C.P E h o.op=some (v,h))(hw:aB C ax L rest ((d,v)::E) h hs λE' h' ts I=>Q E' h' ((E,v)::ts) I): aB C ax L (o::rest) E h hs Q:=by
  simp only[bW] at e;exact aB.op e.1 e.2.1 e.2.2.1 e.2.2.2 ho hw
end
abbrev PM := Nat->Option Obj
variable {m':PM}
def PM.le (a b:PM): Prop:=∀i o,a i=some o->b i=some o
def PM.dj (a b:PM): Prop:=∀i,a i=none\/b i=none
def PM.upd (m:PM)(id:Nat)(o:Option Obj): PM:=λi=>if i=id then o else m i
def PM.un (a b:PM): PM:=λi=>(a i).orElse λ_=>b i
theorem PM.le_refl (a:PM): a.le a:=λ_ _ h=>h
theorem PM.le_trans {a b c:PM}(x:a.le b)(y:b.le c): a.le c:=λi o h=>y i o (x i o h)
theorem PM.pM {a b I b':PM}(hd:a.dj b)(ha:I.le a)(hb:b'.le b): I.dj b':=by
 intro i;rcases hd i with h|h
 .left;cases h1:I i with
  |none=>rfl
  |some o=>rw[ha i o h1] at h;cases h
 .right;cases h1:b' i with
  |none=>rfl
  |some o=>rw[hb i o h1] at h;cases h
theorem PM.rV {a b:PM}(h:a.dj b): b.dj a:=λi=>(h i).symm
theorem PM.KF (a b:PM): a.le (a.un b):=λi o h=>by simp[PM.un,h]
theorem PM.KG {a b:PM}(I:a.dj b): b.le (a.un b):=λi o h=>by
 rcases I i with h1|h1<;>grind[PM.un]
theorem PM.FT {a b c:PM}(ha:a.le c)(hb:b.le c): (a.un b).le c:=λi o h=>by
 simp only[PM.un] at h;cases I:a i with
 |none=>rw[I] at h;exact hb i o h
 |some x=>rw[I] at h;injection h with h;subst h;exact ha i _ I
theorem PM.FU {a b c:PM}(I:a.dj c)(hb:b.dj c): (a.un b).dj c:=λi=>by
 rcases I i with h|h
 .rcases hb i with h2|h2<;>grind[PM.un]
 .grind
def ViewM (m:PM)(v:V)(l:List Nat): Prop:=(∀b∈l,b<256)/\(((v=.aZ\/∃a,v=.sle a)/\l=[]) \/
 ∃id off cap n cs st,v=.sl id off l.length cap/\m id=some (.cells n cs st)/\cs.length=n/\off+l.length<=n/\(cs.drop off).take l.length=ofBytes l /\
  (match cap with|.exact c=>l.length<=c|.rest e _=>e=1))
def uS (m:PM)(v:V)(l:List Nat): Prop:=(∀b∈l,b<256)/\((v=.aZ/\l=[]) \/
 (∃id cs c,v=.sl id 0 l.length (.exact c)/\m id=some (.cells c (ofBytes l++cs) false)/\l.length+cs.length=c) \/
 (∃id,v=.sl id 0 l.length (.rest 1 0)/\m id=some (.cells l.length (ofBytes l) false)/\1<=l.length))
theorem ViewM.up {m:PM}{v:V}(h:ViewM m v l)(hm:PM.le m m'): ViewM m' v l:=by
 obtain⟨h1,I⟩:=h;refine⟨h1,?_⟩;rcases I with I|⟨id,off,cap,n,cs,st,e,hg,h3⟩
 .grind
 .exact .inr ⟨id,off,cap,n,cs,st,e,hm _ _ hg,h3⟩
theorem uS.up {m:PM}{v:V}(h:uS m v l)(hm:PM.le m m'): uS m' v l:=by
 obtain⟨h1,h2⟩:=h;refine⟨h1,?_⟩;rcases h2 with h2|⟨id,cs,c,e,I,h3⟩|⟨id,e,I,h3⟩
 .grind
 .exact .inr (.inl ⟨id,cs,c,e,hm _ _ I,h3⟩)
 .exact .inr (.inr ⟨id,e,hm _ _ I,h3⟩)
theorem uS.view {m:PM}{v:V}(I:uS m v l): ViewM m v l:=by
 obtain⟨hl,I⟩:=I;refine⟨hl,?_⟩<;>grind[dJ]
def qZ (m:PM)(k:Nat)(v:V)(cs:List V): Prop:=cs.all storable=true/\((v=.aZ/\cs=[]) \/
 ∃id n cap N rest,v=.sl id 0 n cap/\m id=some (.cells N (cs++rest) false)/\cs.length=n*k/\cs.length+rest.length=N/\rest.all storable=true /\
  (match cap with|.exact c=>N=c*k/\n<=c|.rest e alt=>e=k/\alt=0/\rest=[]/\1<=n))
theorem qZ.up {m:PM}{v:V}(h:qZ m k v cs)(hm:PM.le m m'): qZ m' k v cs:=by
 obtain⟨h1,I⟩:=h;refine⟨h1,?_⟩;rcases I with I|⟨id,n,cap,N,rest,e,hg,h3⟩
 .grind
 .exact .inr ⟨id,n,cap,N,rest,e,hm _ _ hg,h3⟩
inductive aE : Type 1 where
 |pt (id:Nat) (o:Obj)
 |ro (id:Nat) (o:Obj)
 |pu (φ:Prop)
 |buf (v:V) (l:List Nat)
 |b8 (v:V) (l:List Nat)
 |rdb (v:V) (l:List Nat)
 |arr (k:Nat) (v:V) (cs:List V)
 |an (A B:aE)
 |xs {α:Type} (f:α->aE)
 |all {α:Type} (f:α->aE)
 |se (A B:aE)
variable {A B X:aE} {S S':List aE}
abbrev pt := aE.pt
abbrev ro := aE.ro
abbrev pu := aE.pu
abbrev xs {α:Type}(f:α->aE): aE:=aE.xs f
abbrev bf := aE.buf
abbrev og := aE.b8
abbrev cK := aE.rdb
def aE.p : aE->PM->PM->Prop
 |.pt id o,m,_=>m id=some o
 |.ro id o,_,r=>r id=some o
 |.pu φ,_,_=>φ
 |.buf v l,m,_=>uS m v l
 |.b8 v l,_,r=>ViewM r v l
 |.rdb v l,m,r=>ViewM m v l\/ViewM r v l
 |.arr k v cs,m,_=>qZ m k v cs
 |.an A B,m,r=>A.p m r/\B.p m r
 |.xs f,m,r=>∃x,(f x).p m r
 |.all f,m,r=>∀x,(f x).p m r
 |.se A B,m,r=>∃a b,PM.dj a b/\PM.le a m/\PM.le b m/\A.p a r/\B.p b r
theorem aE.mono : ∀(A:aE) (m m' r I:PM),PM.le m m'->PM.le r I->A.p m r->A.p m' I:=by
 intro A;induction A with
 |pt id o=>intro m m' r I hm hr h;exact hm _ _ h
 |ro id o=>intro m m' r I hm hr h;exact hr _ _ h
 |pu φ=>intro m m' r I hm hr h;exact h
 |buf v l=>intro m m' r I hm hr h;exact uS.up h hm
 |b8 v l=>intro m m' r I hm hr h;exact ViewM.up h hr
 |rdb v l =>
  intro m m' r I hm hr h;rcases h with h|h
  .exact .inl (ViewM.up h hm)
  .exact .inr (ViewM.up h hr)
 |arr k v cs=>intro m m' r I hm hr h;exact qZ.up h hm
 |an A B ia ib=>intro m m' r I hm hr h;exact⟨ia _ _ _ _ hm hr h.1,ib _ _ _ _ hm hr h.2⟩
 |xs f ih=>intro m m' r I hm hr h;obtain⟨x,hx⟩:=h;exact⟨x,ih x _ _ _ _ hm hr hx⟩
 |all f ih=>intro m m' r I hm hr h x;exact ih x _ _ _ _ hm hr (h x)
 |se A B ia ib =>
  intro m m' r I hm hr h;obtain⟨a,b,h1,h2,h3,h4,h5⟩:=h;exact⟨a,b,h1,PM.le_trans h2 hm,PM.le_trans h3 hm,ia _ _ _ _ (PM.le_refl _) hr h4,ib _ _ _ _ (PM.le_refl _) hr h5⟩
def star : List aE->aE
 |[]=>.pu True
 |A::L=>.se A (star L)
theorem aE.up {m r I:PM}(h:A.p m r)(hm:m.le m')(hr:r.le I): A.p m' I:=A.mono m m' r I hm hr h
def cC (A B:aE): Prop:=∀m r,A.p m r->B.p m r
def aI (A:aE): Prop:=∀m r,A.p m r->A.p (λ_=>none) r
theorem aI.ro (id:Nat)(o:Obj): aI (.ro id o):=λ_ _ h=>h
theorem aI.pu (φ:Prop): aI (.pu φ):=λ_ _ h=>h
theorem aI.xs {f:α->aE}(h:∀x,aI (f x)): aI (.xs f):=λm r ⟨x,I⟩=>⟨x,h x m r I⟩
theorem aI.an (I:aI A)(h2:aI B): aI (.an A B):=λm r h=>⟨I m r h.1,h2 m r h.2⟩
def getA : List aE->Nat->Option aE
 |[],_=>none
 |A::_,0=>some A
 |_::L,k+1=>getA L k
theorem kT (I:getA S k=some X): getA (A::S) (k+1)=some X:=I
def setA : List aE->Nat->aE->List aE
 |[],_,_=>[]
 |_::L,0,B=>B::L
 |A::L,k+1,B=>A::setA L k B
def aM : List aE->Nat->List aE
 |[],_=>[]
 |_::L,0=>L
 |A::L,k+1=>A::aM L k
def bringA (S:List aE): List Nat->List aE
 |[]=>S
 |k::ks=>match getA S k with
  |some A=>A::bringA (aM S k) ks
  |none=>[]
def P5 (k:Nat): List Nat->Nat
 |[]=>0
 |x::l=>cond (Nat.blt x k) (P5 k l+1) (P5 k l)
def abt : List Nat->List Nat->List Nat
 |_,[]=>[]
 |seen,k::ks=>(k-P5 k seen)::abt (k::seen) ks
theorem Sr {L:List aE}{m r:PM}(h:(star (A::B::L)).p m r): (star (B::A::L)).p m r:=by
 obtain⟨a,b,h1,h2,h3,h4,c,d,g1,g2,g3,g4,g5⟩:=h;have Ss:a.dj c:=PM.pM h1 (PM.le_refl _) g2;have I:a.dj d:=PM.pM h1 (PM.le_refl _) g3;exact⟨c,a.un d,PM.rV (PM.FU Ss (PM.rV g1)),PM.le_trans g2 h3,PM.FT h2 (PM.le_trans g3 h3),g4,a,d,I,PM.KF _ _,PM.KG I,h4,g5⟩
theorem BO {L I:List aE}(h:∀m r,(star L).p m r->(star I).p m r){m r:PM}(hs:(star (A::L)).p m r): (star (A::I)).p m r:=by
 obtain⟨a,b,h1,h2,h3,h4,h5⟩:=hs;exact⟨a,b,h1,h2,h3,h4,h _ _ h5⟩
theorem BP : ∀ {S:List aE} {k:Nat} {A:aE},getA S k=some A->∀m r,(star S).p m r->(star (A::aM S k)).p m r:=by
 intro S;induction S with
 |nil=>intro k A h;cases h
 |cons B S I =>
  intro k A h m r hs;cases k with
  |zero=>injection h with h;subst h;exact hs
  |succ k =>
   exact Sr (BO (I h) hs)
theorem BQ {L:List aE}{m r:PM}(h:(star (A::L)).p m r): (star L).p m r:=by
 obtain⟨a,b,I,h2,h3,h4,h5⟩:=h<;>grind[aE.up,PM.le_refl]
theorem Su {L:List aE}{m r:PM}(h:(star (A::L)).p m r): A.p m r:=by
 obtain⟨a,b,I,h2,h3,h4,h5⟩:=h<;>grind[aE.up,PM.le_refl]
theorem FW : ∀(ks:List Nat) (S:List aE) (m r:PM),(star S).p m r->(bringA S ks=[]\/True)->(star (bringA S ks)).p m r:=by
 intro ks;induction ks with
 |nil=>intro S m r h _;exact h
 |cons k ks I =>
  intro S m r h _;simp only[bringA];cases hk:getA S k with
  |none=>trivial
  |some A=>exact BO (λm r h=>I _ m r h (.inr aa)) (BP hk m r h)
theorem KH {L:List aE}: ∀m r,(star (star L::S)).p m r↔(star (L++S)).p m r:=by
 induction L with
 |nil =>
  intro m r;constructor
  .intro h;exact BQ h
  .intro h;exact⟨λ_=>none,m,λ_=>.inl U,λ_ _ h=>(by cases h),PM.le_refl _,aa,h⟩
 |cons A L ih =>
  intro m r;constructor
  .rintro⟨a,b,h1,h2,h3,⟨c,d,g1,g2,g3,g4,g5⟩,h5⟩;have I:c.dj b:=PM.pM h1 g2 (PM.le_refl _);have hdb:d.dj b:=PM.pM h1 g3 (PM.le_refl _);exact⟨c,d.un b,PM.rV (PM.FU (PM.rV g1) (PM.rV I)),PM.le_trans g2 h2,PM.FT (PM.le_trans g3 h2) h3,g4,(ih _ _).1 ⟨d,b,hdb,PM.KF _ _,PM.KG hdb,g5,h5⟩⟩
  .rintro⟨c,e,h1,h2,h3,h4,h5⟩;obtain⟨d,b,g1,g2,g3,g4,g5⟩:=(ih _ _).2 h5;have Sj:c.dj d:=PM.pM h1 (PM.le_refl _) g2;have I:c.dj b:=PM.pM h1 (PM.le_refl _) g3;exact⟨c.un d,b,PM.FU I g1,PM.FT h2 (PM.le_trans g2 h3),PM.le_trans g3 h3,⟨c,d,Sj,PM.KF _ _,PM.KG Sj,h4,g4⟩,g5⟩
structure Sat (h:H)(S:List aE): Prop where
 wf:nQ h
 ok:∃m r,PM.le m (T.get h.tr)/\PM.le r (T.get h.tr)/\PM.dj m r/\(star S).p m r
section
theorem Sat.map (s:Sat h S)(I:∀m r,(star S).p m r->(star S').p m r): Sat h S':=by
 obtain⟨m,r,h1,h2,h3,h4⟩:=s.ok;exact⟨s.wf,m,r,h1,h2,h3,I _ _ h4⟩
theorem Sat.at (s:Sat h S)(I:getA S k=some A): ∃m r,PM.le m (T.get h.tr)/\PM.le r (T.get h.tr)/\A.p m r:=by
 obtain⟨m,r,h1,h2,h3,h4⟩:=s.ok;exact⟨m,r,h1,h2,Su (BP I m r h4)⟩
theorem Sat.take (k:Nat)(s:Sat h S)(I:getA S k=some A): Sat h (A::aM S k):=s.map (BP I)
theorem Sat.sG (ks:List Nat)(s:Sat h S): Sat h (bringA S (abt [] ks)):=s.map λm r h=>FW _ S m r h (.inr aa)
theorem Sat.ae (ks:List Nat)(s:Sat h S): Sat h (bringA S ks):=s.map λm r h=>FW _ S m r h (.inr aa)
theorem Sat.drop (s:Sat h (A::S)): Sat h S:=s.map λ_ _ h=>BQ h
theorem Vw : ∀(S:List aE) (k:Nat) (m r:PM),(star S).p m r->(star (aM S k)).p m r:=by
 intro S;induction S with
 |nil=>intro k m r h;exact h
 |cons B S I =>
  intro k m r h;cases k with
  |zero=>exact BQ h
  |succ k=>exact BO (I k) h
theorem Sat.del (k:Nat)(s:Sat h S): Sat h (aM S k):=s.map (Vw S k)
theorem Sat.dM (s:Sat h (A::S))(he:cC A B): Sat h (B::S):=s.map λm r ⟨a,b,I,h2,h3,h4,h5⟩=>⟨a,b,I,h2,h3,he _ _ h4,h5⟩
theorem Sat.dup (s:Sat h (A::S))(hp:aI A): Sat h (A::A::S):=s.map λm r hs=>by
 obtain⟨a,b,h1,h2,h3,I,h5⟩:=hs;exact⟨λ_=>none,m,λ_=>.inl U,λ_ _ h=>(by cases h),PM.le_refl _,hp _ _ I,a,b,h1,h2,h3,I,h5⟩
theorem Sat.gJ (s:Sat h S)(I:φ): Sat h (pu φ::S):=s.map λm _ hs=>⟨λ_=>none,m,λ_=>.inl U,λ_ _ h=>(by cases h),PM.le_refl _,I,hs⟩
theorem Sat.two {C:aE}(s:Sat h (A::B::S))(I:aI A)(pB:aI B)(hC:∀m r,A.p m r->B.p m r->C.p m r): Sat h (C::S):=s.map λm r hs=>by
 obtain⟨a,b,h1,h2,h3,h4,c,d,g1,g2,g3,g4,g5⟩:=hs;exact⟨λ_=>none,d,λ_=>.inl U,λ_ _ h=>(by cases h),PM.le_trans g3 h3,hC _ _ (I _ _ h4) (pB _ _ g4),g5⟩
theorem jv {f:α->aE}: Sat h (xs f::S)↔∃x,Sat h (f x::S):=by
 constructor
 .intro s;obtain⟨m,r,I,h2,h3,a,b,g1,g2,g3,⟨x,g4⟩,g5⟩:=s.ok;exact⟨x,s.wf,m,r,I,h2,h3,a,b,g1,g2,g3,g4,g5⟩
 .rintro⟨x,s⟩;exact s.dM λm r h=>⟨x,h⟩
theorem uA : Sat h (pu φ::S)↔φ/\Sat h S:=by
 constructor
 .intro s;obtain⟨m,r,I,h2,h3,a,b,g1,g2,g3,g4,g5⟩:=s.ok;exact⟨g4,s.drop⟩
 .rintro⟨I,s⟩;exact s.gJ I
theorem cY {L:List aE}: Sat h (star L::S)↔Sat h (L++S) :=
 ⟨λs=>s.map λm r hs=>(KH m r).1 hs,λs=>s.map λm r hs=>(KH m r).2 hs⟩
theorem Sat.row {o:Obj}(s:Sat h S)(I:getA S k=some (pt id o)): T.get h.tr id=some o:=by
 obtain⟨m,r,h1,h2,h3⟩:=s.at I;exact h1 _ _ h3
theorem Sat.abu {o:Obj}(s:Sat h S)(I:getA S k=some (ro id o)): T.get h.tr id=some o:=by
 obtain⟨m,r,h1,h2,h3⟩:=s.at I;exact h2 _ _ h3
theorem Sat.ne {o:Obj}(s:Sat h (pt i o::pt j o'::S)): i≠j:=by
 rintro rfl;obtain⟨m,r,h1,h2,h3,a,b,I,g2,g3,g4,c,d,k1,k2,k3,k4,k5⟩:=s.ok;have e1:a i=some o:=g4;have e2:b i=some o':=k2 _ _ k4;rcases I i with e|e
 .grind
 .grind
theorem abv {m:PM}{t:T Obj}{o:Option Obj}(hm:m.le (T.get t)): (m.upd id o).le (T.get (t.set id o)):=by
 intro i x I;rw[bg];simp only[PM.upd] at I;split
 .grind
 .rename_i e;rw[ai e] at I;exact hm i x I
theorem KI {m:PM}{o:Option Obj}(hm:m.le (T.get h.tr))(hn:m id=none): m.le (T.get (h.put id o).tr):=by
 intro i x I;rw[iz];split
 .grind
 .exact hm i x I
theorem Vx : ∀ {S:List aE} {k id:Nat} {o o':Obj},getA S k=some (pt id o)->∀m r,(star S).p m r->m id=some o/\(star (setA S k (pt id o'))).p (m.upd id (some o')) r:=by
 intro S;induction S with
 |nil=>intro k id o o' h;cases h
 |cons B S ih =>
  intro k id o o' hk m r hs;obtain⟨a,b,h1,h2,h3,h4,h5⟩:=hs;cases k with
  |zero =>
   injection hk with hk;subst hk;have ha:a id=some o:=h4;have hb:b id=none:=by
    rcases h1 id with e|e
    .grind
    .exact e
   refine⟨h2 _ _ ha,a.upd id (some o'),b,λi => ?_,λi x I => ?_,λi x I => ?_,?_,h5⟩
   .by_cases e:i=id
    .grind
    .simp only[PM.upd,ai e];exact h1 i
   .simp only[PM.upd] at I ⊢;split
    .grind
    .rename_i e;rw[ai e] at I;exact h2 i x I
   .simp only[PM.upd];split
    .grind
    .exact h3 i x I
   .show(a.upd id (some o')) id=some o';simp[PM.upd]
  |succ k =>
   obtain⟨g1,g2⟩:=ih (o':=o') hk b r h5;have ha:a id=none:=by
    rcases h1 id with e|e
    .exact e
    .grind
   refine⟨h3 _ _ g1,a,b.upd id (some o'),λi => ?_,λi x I => ?_,λi x I => ?_,h4,g2⟩
   .by_cases e:i=id
    .grind
    .simp only[PM.upd,ai e];exact h1 i
   .simp only[PM.upd];split
    .grind
    .exact h2 i x I
   .simp only[PM.upd] at I ⊢;split
    .grind
    .rename_i e;rw[ai e] at I;exact h3 i x I
theorem Sat.put {o:Obj}(s:Sat h S)(hk:getA S k=some (pt id o)): Sat (h.put id (some o')) (setA S k (pt id o')):=by
 obtain⟨m,r,I,h2,h3,h4⟩:=s.ok;obtain⟨g1,g2⟩:=Vx (o':=o') hk m r h4;have hr:r id=none:=by
  rcases h3 id with e|e
  .grind
  .exact e
 refine⟨s.wf.put (s.wf _ _ (I _ _ g1)) _,m.upd id (some o'),r,abv I,KI h2 hr,λi => ?_,g2⟩;by_cases e:i=id
 .grind
 .simp only[PM.upd,ai e];exact h3 i
theorem Sat.new (s:Sat h S)(o:Obj): Sat (h.new o) (pt h.next o::S):=by
 obtain⟨m,r,h1,h2,h3,h4⟩:=s.ok;have hm:m h.next=none:=by
  cases e:m h.next with
  |none=>rfl
  |some x=>exact absurd (s.wf _ _ (h1 _ _ e)) (Da _)
 have hr:r h.next=none:=by
  cases e:r h.next with
  |none=>rfl
  |some x=>exact absurd (s.wf _ _ (h2 _ _ e)) (Da _)
 have IZ:∀(q:PM),q.le (T.get h.tr)->q h.next=none->q.le (T.get (h.new o).tr):=λq hq hn i x I=>by
  rw[ja];split
  .grind
  .exact hq i x I
 refine⟨s.wf.new o,m.upd h.next (some o),r,λi x I => ?_,IZ r h2 hr,λi => ?_,λi=>if i=h.next then some o else none,m,λi => ?_,λi x I => ?_,λi x I => ?_,?_,h4⟩
 .rw[ja];simp only[PM.upd] at I;split
  .grind
  .rename_i e;rw[ai e] at I;exact h1 i x I
 .by_cases e:i=h.next
  .grind
  .simp only[PM.upd,ai e];exact h3 i
 .grind
 .grind[PM.upd]
 .grind[PM.upd]
 .show(if h.next=h.next then some o else none)=some o
  simp
theorem Sat.kill {o:Obj}(s:Sat h (pt id o::S)): Sat (h.put id none) S:=by
 obtain⟨m,r,I,h2,h3,a,b,g1,g2,g3,g4,g5⟩:=s.ok;have ha:a id=some o:=g4;have hb:b id=none:=by
  rcases g1 id with e|e
  .grind
  .exact e
 have hr:r id=none:=by
  rcases h3 id with e|e
  .rw[g2 _ _ ha] at e;cases e
  .exact e
 exact⟨s.wf.put (s.wf _ _ (I _ _ (g2 _ _ ha))) _,b,r,KI (PM.le_trans g3 I) hb,KI h2 hr,PM.pM h3 g3 (PM.le_refl _),g5⟩
theorem Sat.freeze {o:Obj}(s:Sat h (pt id o::S)): Sat h (ro id o::S):=by
 obtain⟨m,r,h1,h2,h3,a,b,g1,g2,g3,g4,g5⟩:=s.ok;have ha:a id=some o:=g4;have hb:b id=none:=by
  rcases g1 id with e|e
  .grind
  .exact e
 have hr:r id=none:=by
  rcases h3 id with e|e
  .rw[g2 _ _ ha] at e;cases e
  .exact e
 have hle:r.le (r.upd id (some o)):=λi x I=>by
  grind[PM.upd]
 refine⟨s.wf,b,r.upd id (some o),PM.le_trans g3 h1,λi x I => ?_,λi => ?_,λ_=>none,b,λ_=>.inl U,λ_ _ h=>(by cases h),PM.le_refl _,?_,aE.up g5 (PM.le_refl _) hle⟩
 .simp only[PM.upd] at I;split at I
  .rename_i e;subst e;injection I with I;subst I;exact h1 _ _ (g2 _ _ ha)
  .exact h2 i x I
 .by_cases e:i=id
  .grind
  .simp only[PM.upd,ai e];exact PM.pM h3 g3 (PM.le_refl _) i
 .show(r.upd id (some o)) id=some o;simp[PM.upd]
theorem Sat.qA (s:Sat h S)(hk:fK k [] h h'): Sat h' S:=by
 obtain⟨m,r,h1,h2,h3,h4⟩:=s.ok;have I:∀(q:PM),q.le (T.get h.tr)->q.le (T.get h'.tr):=λq hq i x hx=>by
  rw[hk.get i (s.wf _ _ (hq _ _ hx)) jQ];exact hq _ _ hx
 exact⟨hk.wf,m,r,I m h1,I r h2,h3,h4⟩
theorem Sat.abw {X:List Nat}{m₀:PM}(s:Sat h (A::S))(hk:fK k X h h')(hX:∀m r,PM.le m (T.get h.tr)->PM.le r (T.get h.tr)->A.p m r->∀i∈X,m i≠none)
 (hm:PM.le m₀ (T.get h'.tr))(hB:∀r,B.p m₀ r)(hn:∀i,m₀ i≠none->i∈X\/h.next<=i): Sat h' (B::S):=by
 obtain⟨m,r,h1,h2,h3,a,b,g1,g2,g3,g4,g5⟩:=s.ok;have hXa:∀i∈X,a i≠none:=hX a r (PM.le_trans g2 h1) h2 g4;have hXb:∀i∈X,b i=none:=λi hi=>by
  rcases g1 i with e|e<;>grind
 have hXr:∀i∈X,r i=none:=λi hi=>by
  cases e:a i with
  |none=>grind
  |some o =>
   rcases h3 i with e2|e2
   .rw[g2 _ _ e] at e2;cases e2
   .exact e2
 have IZ:∀(q:PM),q.le (T.get h.tr)->(∀i∈X,q i=none)->q.le (T.get h'.tr):=λq hq hz i x hx=>by
  rw[hk.get i (s.wf _ _ (hq _ _ hx)) (λhi=>by grind)];exact hq _ _ hx
 have I:∀(q:PM),q.le (T.get h.tr)->(∀i∈X,q i=none)->m₀.dj q:=λq hq hz i=>by
  cases e:m₀ i with
  |none=>simp
  |some x =>
   right;rcases hn i (by grind) with hi|hi
   .grind
   .cases e2:q i with
    |none=>rfl
    |some y=>exact absurd (s.wf _ _ (hq _ _ e2)) (Nat.not_lt.2 hi)
 have qt:=IZ b (PM.le_trans g3 h1) hXb;have hd:=I b (PM.le_trans g3 h1) hXb;exact⟨hk.wf,m₀.un b,r,PM.FT hm qt,IZ r h2 hXr,PM.FU (I r h2 hXr) (PM.pM h3 g3 (PM.le_refl _)),m₀,b,hd,PM.KF _ _,PM.KG hd,hB r,g5⟩
end
theorem bh (v:V)(l:List Nat): cC (bf v l) (cK v l):=λ_ _ h=>.inl (uS.view h)
theorem bp (v:V)(l:List Nat): cC (og v l) (cK v l):=λ_ _ h=>.inr h
theorem aI.b8 (v:V)(l:List Nat): aI (.b8 v l):=λ_ _ h=>h
section
variable {v:V}
theorem Sat.aC (s:Sat h S)(hk:getA S k=some X)(hX:cC X (cK v l)): View h v l:=by
 obtain⟨m,r,h1,h2,h3⟩:=s.at hk;rcases hX _ _ h3 with I|I
 .exact ViewM.up I h1
 .exact ViewM.up I h2
theorem Sat.buf (s:Sat h S)(I:getA S k=some (bf v l)): lF h v l:=by
 obtain⟨m,r,h1,h2,h3⟩:=s.at I;exact uS.up (l:=l) h3 h1
theorem N7 {m:PM}(I:uS m v l): ∀i∈rowIds v,m i≠none:=by
 obtain⟨_,h2⟩:=I<;>grind[rowIds]
theorem N8 (I:lF h v l): uS (λi=>if i∈rowIds v then T.get h.tr i else none) v l:=by
 obtain⟨h1,h2⟩:=I;refine⟨h1,?_⟩<;>grind[rowIds]
theorem Sv (L:List Nat): PM.le (λi=>if i∈L then T.get h.tr i else none) (T.get h.tr):=λi x I=>by
 grind
theorem Sat.KJ (s:Sat h S)(I:fK k [] h h')(hb:lF h' v l)(hn:∀i∈rowIds v,h.next<=i): Sat h' (bf v l::S):=by
 have s':Sat h (pu True::S):=s.gJ aa;refine s'.abw (B:=bf v l) (m₀:=λi=>if i∈rowIds v then T.get h'.tr i else none) I (λ_ _ _ _ _ i hi=>by cases hi) (Sv _) (λ_=>N8 hb) (λi hi=>.inr ?_)<;>grind
theorem Sat.Dx {v':V}{I:List Nat}(s:Sat h (bf v l::S))(hk:fK k (rowIds v) h h')(hb:lF h' v' I)(hn:∀i∈rowIds v',i∈rowIds v\/h.next<=i): Sat h' (bf v' I::S):=by
 refine s.abw (B:=bf v' I) (m₀:=λi=>if i∈rowIds v' then T.get h'.tr i else none) hk (λ_ _ _ _ h=>N7 h) (Sv _) (λ_=>N8 hb) (λi hi => ?_)<;>grind
theorem Sat.ff (s:Sat h (bf v l::S)): Sat h (og v l::S):=by
 obtain⟨m,r,h1,h2,h3,a,b,g1,g2,g3,g4,g5⟩:=s.ok;have I:r.dj a:=PM.rV (PM.pM h3 g2 (PM.le_refl _));refine⟨s.wf,b,r.un a,PM.le_trans g3 h1,PM.FT h2 (PM.le_trans g2 h1),PM.rV (PM.FU (PM.rV (PM.pM h3 g3 (PM.le_refl _))) g1),λ_=>none,b,λ_=>.inl U,λ_ _ h=>(by cases h),PM.le_refl _,?_,aE.up g5 (PM.le_refl _) (PM.KF _ _)⟩;exact(uS.view g4).up (PM.KG I)
end
theorem BR {a b c d:H}{l:List H}{p:H->Prop}(I:p a)(hb:p b)(hc:p c)(hd:p d): ∀x∈((a::b::c::d::l).drop 0).take 4,p x:=by
 grind
section
variable {v:V}
theorem Sat.ld (s:Sat h S)(I:getA S k=some (pt id (.cells n cs st)))(ht:isAggT P t=some false)(hn:nth cs off=some v): loadV P h t (.ptr id off)=some v:=BM ht (s.row I) hn
theorem Sat.b9 (s:Sat h S)(I:getA S k=some (pt id (.cells n cs st)))(ht:isAggT P t=some true)(hs:bq P t=some n): loadV P h t (.ptr id 0)=some (.agg cs):=Am.b9 ht hs (s.row I)
theorem Sat.kC (s:Sat h S)(hk:getA S k=some (pt id (.cells n cs false)))(hs:bq P t=some 1)(hl:cs.length=n)(ho:off<n)(hv:v.cells=[v])(I:storable v=true):
  ∃h₁,j8 P h t (.ptr id off) v=some h₁/\Sat h₁ (setA S k (pt id (.cells n (cs.set off v) false))):=by
 refine⟨h.put id (some (.cells n (cs.set off v) false)),?_,s.put hk⟩;simp only[j8,hs,hv,aW,b6,l_,mL,I,Bool.and_true];rw[show Nat.beq (0+1) 1=true from U,ag];simp only[wrN,s.row hk,aW,b6];rw[aS.2 (show off+(0+1)<=n by omega),ag];congr 3;rw[CT,ay (by omega)];cases hc:(Nat.beq off 0&&Nat.beq (0+1) n) with
 |true =>
  simp only[bV,beq_iff] at hc;obtain⟨rfl,rfl⟩:=hc;rw[ag];have:cs.drop (0+1)=[]:=qd (by omega);simp[this]
 |false=>rw[aT];rfl
theorem Sat.stN {l:List V}(s:Sat h S)(hk:getA S k=some (pt id (.cells n cs false)))(hs:bq P t=some l.length)(hl:cs.length=n)(ho:off+l.length<=n)(I:l.all storable=true):
  ∃h₁,j8 P h t (.ptr id off) (.agg l)=some h₁/\Sat h₁ (setA S k (pt id (.cells n (cs.take off++(l++cs.drop (off+l.length))) false))):=by
 refine⟨h.put id (some (.cells n (cs.take off++(l++cs.drop (off+l.length))) false)),?_,s.put hk⟩;simp only[j8,hs,V.cells,I,kg,kf,ag,wrN,s.row hk];grind[aS,beq_iff,List.drop_eq_nil_of_le]
end
section
variable {ax:Nat} {o:Oper}
theorem au.cj (s:Sat h S)(I:wantE L E o.guard=some true)(hd:o.dst=some d)(hn:Nat.blt d ax=true)(ho:opE C.P E h o.op=some (.ptr h.next 0,newRow h cs))
 (hr:∀id h₁,Sat h₁ (pt id (.cells cs.length cs false)::S)->au C ax L rest ((d,.ptr id 0)::E) h₁ R): au C ax L (o::rest) E h R :=
 au.op I hd hn ho (hr _ _ (s.new _))
theorem au.yW {v:V}(hg:wantE L E o.guard=some true)(hd:o.dst=none)(I:o.op=.store t x y)(hx:bE E x=some v)(hy:bE E y=some u)
 (ho:∃h₁,j8 C.P h t v u=some h₁/\Sat h₁ S')(hr:∀h₁,Sat h₁ S'->au C ax L rest E h₁ R): au C ax L (o::rest) E h R:=by
 obtain⟨h₁,e1,e2⟩:=ho;exact au.op0 hg hd (by rw[I];exact N4 hx hy e1) (hr h₁ e2)
theorem WP.label {l:Nat}(I:Q .normal E h): WP C ax (.label l) E h Q:=λenv hE=>⟨1,.normal,env,h,E,U,hE,I⟩
theorem WP.split {a b:Code}{t:Bool}(I:bE E x=some (.bool t))(h1:t=true->WP C ax a E h Q)(h2:t=false->WP C ax b E h Q): WP C ax (.cond x a b) E h Q:=by
 grind[WP.cond]
theorem WP.P6 {a b:Code}{t:Bool}(I:bE E x=some (.bool t))(ht:t=true)(h1:WP C ax a E h Q): WP C ax (.cond x a b) E h Q:=by
 subst ht;exact WP.cond I h1
theorem WP.X8 {a b:Code}{t:Bool}(I:bE E x=some (.bool t))(ht:t=false)(h1:WP C ax b E h Q): WP C ax (.cond x a b) E h Q:=by
 subst ht;exact WP.cond I h1
end
section
variable {a b:Operand} {v:V}
theorem ac3 {t:Nat}(I:bE E x=some v)(hf:uo P t v i=some r): opE P E h (.field t x i)=some (r,h):=by grind[opE,lD,bO]
theorem ac4 : opE P E h (.makeMap t none)=some (.map h.next,h.new (.map [] 0)):=rfl
theorem kM {ok:Bool}(I:bE E x=some v)(hy:bE E y=some u)(hf:gC P h t v u ok=some r): opE P E h (.lookup t x y ok)=some (r,h):=by grind[opE,xo,bO]
theorem ac5 {t:Nat}(I:uo P t (.agg cs) i=nth cs off)(hn:nth cs off=some r): uo P t (.agg cs) i=some r:=by grind
theorem kU {s d:TypeId}{k k':IntKind}{n:Int}(hs:P.underlying s=some td)(I:P.underlying d=some (.int k'))(hn:k'.wrap n=n): convV P h s d (.int k n)=some (.int k' n,h):=by simp only[convV,hs,I,hn]
theorem Sw {o:Nat}{c:Cap}(hu:P.underlying t=some (.slice e)): lenV P h t (.sl i o n c)=some (.int .i64 n):=by simp only[lenV,hu]
theorem Zv (hu:P.underlying t=some (.slice e)): lenV P h t .aZ=some (.int .i64 0):=by simp only[lenV,hu]
theorem bw (hu:P.underlying t=some (.slice e))(hv:View h v l): lenV P h t v=some (.int .i64 l.length):=by
 obtain⟨_,hv⟩:=hv;rcases hv with⟨rfl|⟨I,rfl⟩,rfl⟩|⟨id,off,cap,n,cs,st,rfl,_⟩<;>simp[lenV,hu]
theorem N9 (hu:P.underlying t=some .string): lenV P h t (.str l)=some (.int .i64 l.length):=by simp only[lenV,hu]
theorem mki_of (hu:P.underlying t=some td)(I:(match td with|.interface _=>false|_=>true)=true): makeIfaceV P t v=some (.iface t v):=by
 grind[makeIfaceV]
end
section
theorem ak {n:Int}(I : -9223372036854775808<=n:=by omega)(h2:n<9223372036854775808:=by omega): IntKind.wrap .i64 n=n:=by
 grind[IntKind.bits,IntKind.wrap,IntKind.signed]
theorem iO {n:Int}(I:0<=n:=by omega)(h2:n<18446744073709551616:=by omega): IntKind.wrap .u64 n=n:=by
 grind[IntKind.wrap,IntKind.bits,IntKind.signed]
theorem uB {n:Int}(I:0<=n:=by omega)(h2:n<256:=by omega): IntKind.wrap .u8 n=n:=by
 grind[IntKind.wrap,IntKind.bits,IntKind.signed]
variable {a b:Int}
theorem aL {k:IntKind}(hw:k.wrap (a+b)=a+b): binV P h .add t x y (.int k a) (.int k b)=some (.int k (a+b)):=by
 simp_all[binV,fe,intV]
theorem dV {k:IntKind}(hw:k.wrap (a-b)=a-b): binV P h .sub t x y (.int k a) (.int k b)=some (.int k (a-b)):=by
 simp_all[binV,fe,intV]
theorem jf {k:IntKind}(hw:k.wrap (a*b)=a*b): binV P h .mul t x y (.int k a) (.int k b)=some (.int k (a*b)):=by
 simp_all[binV,fe,intV]
theorem dK {k:IntKind}: binV P h .eql t x y (.int k a) (.int k b)=some (.bool (decide (a=b))):=by
 simp only[binV,fe,ag,intV];cases I:intBeq a b with
 |true=>simp[xn I]
 |false =>
  by_cases he:a=b
  .grind[uf]
  .grind
theorem aG {k:IntKind}: binV P h .neq t x y (.int k a) (.int k b)=some (.bool (!decide (a=b))):=by
 simp only[binV,fe,ag,intV];cases I:intBeq a b with
 |true=>simp[xn I]
 |false =>
  by_cases he:a=b
  .grind[uf]
  .grind
theorem aK {k:IntKind}: binV P h .lss t x y (.int k a) (.int k b)=some (.bool (decide (a<b))):=by simp[binV,fe,intV]
theorem tK {k:IntKind}: binV P h .leq t x y (.int k a) (.int k b)=some (.bool (decide (a<=b))):=by simp[binV,fe,intV]
theorem cA {k:IntKind}: binV P h .gtr t x y (.int k a) (.int k b)=some (.bool (decide (a>b))):=by simp[binV,fe,intV]
theorem j6 {k:IntKind}: binV P h .geq t x y (.int k a) (.int k b)=some (.bool (decide (a>=b))):=by simp[binV,fe,intV]
theorem qL : ∀ {l m:List Nat},natsBeq l m=decide (l=m):=by
 intro l;induction l with
 |nil=>grind[natsBeq]
 |cons a l I =>
  intro m;cases m<;>grind[natsBeq,Nat.beq_refl,fM]
theorem P7 {m:List Nat}: binV P h .eql t x y (.str l) (.str m)=some (.bool (decide (l=m))):=by simp[binV,strV,qL]
end
section
variable {ax:Nat} {o:Oper} {p:Bool}
theorem au.xx (I:wantE L E o.guard=some true)(hd:o.dst=some d)(hn:Nat.blt d ax=true)(ho:opE C.P E h o.op=some (.bool p,h))(hp:p=true)(hw:au C ax L rest ((d,.bool true)::E) h R): au C ax L (o::rest) E h R:=by
 grind[au.op]
theorem au.rW (I:wantE L E o.guard=some true)(hd:o.dst=some d)(hn:Nat.blt d ax=true)(ho:opE C.P E h o.op=some (.bool p,h))(hp:p=false)(hw:au C ax L rest ((d,.bool false)::E) h R): au C ax L (o::rest) E h R:=by
 grind[au.op]
theorem au.opB (I:wantE L E o.guard=some true)(hd:o.dst=some d)(hn:Nat.blt d ax=true)(ho:opE C.P E h o.op=some (.bool p,h))(ht:p=true->au C ax L rest ((d,.bool true)::E) h R)(hf:p=false->au C ax L rest ((d,.bool false)::E) h R): au C ax L (o::rest) E h R:=by
 cases p<;>grind[au.op]
theorem au.BS (s:Sat h S)(hg:wantE L E o.guard=some true)(hd:o.dst=some d)(hn:Nat.blt d ax=true)(I:o.op=.makeMap t none)
 (hr:∀id h₁,Sat h₁ (pt id (.map [] 0)::S)->au C ax L rest ((d,.map id)::E) h₁ R): au C ax L (o::rest) E h R :=
 au.op hg hd hn (by rw[I];exact ac4) (hr _ _ (s.new _))
theorem au.lJ (hg:wantE L E o.guard=some true)(hd:o.dst=none)(ho:OpR C E h o BG)
 (hw:∀v h₁,BG v h₁->au C ax L rest E h₁ R): au C ax L (o::rest) E h R:=by
 intro env hE;obtain⟨v,h₁,hr,pn⟩:=ho;obtain⟨N,hN⟩:=pn env hE;obtain⟨M,I,h',E',h1,h2,h3⟩:=hw v h₁ hr env hE;refine⟨Nat.max N M,I,h',E',?_,h2,h3⟩;simp only[evOps,k_ hE hg,ag,oc (iN (rI N M)) hN,St.put,hd];exact sD (iN (rH N M)) _ _ _ h1
variable {Q:List (Nat×V)->H->List (List (Nat×V)×V)->List H->Prop}
theorem aB.xx (hg:wantE L E o.guard=some true)(hd:o.dst=some d)(hn:Nat.blt d ax=true)(he:isEff C o.op=false)(ho:opE C.P E h o.op=some (.bool p,h))(hp:p=true)
 (hw:aB C ax L rest ((d,.bool true)::E) h hs λE' h' ts I=>Q E' h' ((E,.bool true)::ts) I): aB C ax L (o::rest) E h hs Q:=by
 grind[aB.op]
theorem aB.rW (hg:wantE L E o.guard=some true)(hd:o.dst=some d)(hn:Nat.blt d ax=true)(he:isEff C o.op=false)(ho:opE C.P E h o.op=some (.bool p,h))(hp:p=false)
 (hw:aB C ax L rest ((d,.bool false)::E) h hs λE' h' ts I=>Q E' h' ((E,.bool false)::ts) I): aB C ax L (o::rest) E h hs Q:=by
 grind[aB.op]
theorem aB.opB (hg:wantE L E o.guard=some true)(hd:o.dst=some d)(hn:Nat.blt d ax=true)(he:isEff C o.op=false)(ho:opE C.P E h o.op=some (.bool p,h))
 (ht:p=true->aB C ax L rest ((d,.bool true)::E) h hs λE' h' ts I=>Q E' h' ((E,.bool true)::ts) I)
 (hf:p=false->aB C ax L rest ((d,.bool false)::E) h hs λE' h' ts I=>Q E' h' ((E,.bool false)::ts) I): aB C ax L (o::rest) E h hs Q:=by
 cases p<;>grind[aB.op]
theorem OpR.yW {v:V}(I:o.op=.store t x y)(hx:bE E x=some v)(hy:bE E y=some u)
 (ho:∃h₁,j8 C.P h t v u=some h₁/\Sat h₁ S'): OpR C E h o λw h₁=>w=cX/\Sat h₁ S':=by
 obtain⟨h₁,e1,e2⟩:=ho;exact OpR.of (by grind[N4]) ⟨U,e2⟩
end
theorem JV {t:Nat}{p v w:V}(hl:look E a=some p)(I:loadV P h t p=some v)(h2:look E b=some w): resLE P E h [.cell a t,.tmp b]=some (.aX [v,w]):=by grind[resLE,mapO,resE]
theorem Aq {t:Nat}{v:V}(hl:look E t=some v): resLE P E h [.tmp t]=some v:=by grind[resLE,mapO,resE]
def aep : Code->Nat->Code
 |.seq a _,0=>a
 |.seq _ b,_=>b
 |.cond _ a _,0=>a
 |.cond _ _ b,_=>b
 |.block _ a,_=>a
 |.loop a,_=>a
 |.scope a,_=>a
 |c,_=>c
def dm : List Nat->Code->Code
 |[],c=>c
 |k::ks,c=>dm ks (aep c k)
section
variable {ax:Nat} {o:Oper} {v:V} {p:Bool}
theorem zc {k:FuncId}(e:(wantE L E o.guard,o.dst,Nat.blt d ax,o.op,cl.callee,bE E x,lookArgs E cl.args.toList)=(some true,some d,true,Op.call cl,Callee.value x,some (.fn (.func k) first cap),some args))
 (I:Call C k (first++(args++cap)) h BG)(hw:∀v h₁,BG v h₁->au C ax L rest ((d,v)::E) h₁ R): au C ax L (o::rest) E h R:=by
  simp only[bW] at e;exact au.call e.1 e.2.1 e.2.2.1 e.2.2.2.1 e.2.2.2.2.1 e.2.2.2.2.2.1 e.2.2.2.2.2.2 I hw
theorem zt (e:(wantE L E o.guard,o.dst,Nat.blt d ax)=(some true,some d,true))(ho:opE C.P E h o.op=some (.bool p,h))(I:p=true)(hw:au C ax L rest ((d,.bool true)::E) h R): au C ax L (o::rest) E h R:=by
  simp only[bW] at e;exact au.xx e.1 e.2.1 e.2.2 ho I hw
theorem zh (e:(wantE L E o.guard,o.dst,Nat.blt d ax)=(some true,some d,true))(ho:opE C.P E h o.op=some (.bool p,h))(I:p=false)(hw:au C ax L rest ((d,.bool false)::E) h R): au C ax L (o::rest) E h R:=by
  simp only[bW] at e;exact au.rW e.1 e.2.1 e.2.2 ho I hw
theorem zd (e:(wantE L E o.guard,o.dst,Nat.blt d ax)=(some true,some d,true))(ho:opE C.P E h o.op=some (.bool p,h))(I:p=true->au C ax L rest ((d,.bool true)::E) h R)(hf:p=false->au C ax L rest ((d,.bool false)::E) h R): au C ax L (o::rest) E h R:=by
  simp only[bW] at e;exact au.opB e.1 e.2.1 e.2.2 ho I hf
theorem zB {op:BinOp}(e:(o.op,wantE L E o.guard,o.dst,Nat.blt d ax,bE E x,bE E y)=(Op.binOp op t x y t',some true,some d,true,some v,some u))(I:binV C.P h op t x y v u=some (.bool p))(hp:p=true)(hw:au C ax L rest ((d,.bool true)::E) h R): au C ax L (o::rest) E h R:=by
  simp only[bW] at e;exact au.xx e.2.1 e.2.2.1 e.2.2.2.1 (by rw[e.1];exact aq e.2.2.2.2.1 e.2.2.2.2.2 I) hp hw
theorem zC {op:BinOp}(e:(o.op,wantE L E o.guard,o.dst,Nat.blt d ax,bE E x,bE E y)=(Op.binOp op t x y t',some true,some d,true,some v,some u))(I:binV C.P h op t x y v u=some (.bool p))(hp:p=false)(hw:au C ax L rest ((d,.bool false)::E) h R): au C ax L (o::rest) E h R:=by
  simp only[bW] at e;exact au.rW e.2.1 e.2.2.1 e.2.2.2.1 (by rw[e.1];exact aq e.2.2.2.2.1 e.2.2.2.2.2 I) hp hw
theorem zy (s:Sat h S)(k:Nat)(I:isAggT C.P t=some false)(e:(o.op,wantE L E o.guard,o.dst,Nat.blt d ax,bE E x,getA S k,nth cs off)=(Op.load t x,some true,some d,true,some (V.ptr id off),some (pt id (.cells n cs st)),some v))(hw:au C ax L rest ((d,v)::E) h R): au C ax L (o::rest) E h R:=by
  simp only[bW] at e;exact au.op e.2.1 e.2.2.1 e.2.2.2.1 (by rw[e.1];exact o_load e.2.2.2.2.1 (s.ld e.2.2.2.2.2.1 I e.2.2.2.2.2.2)) hw
theorem zY {I:Oper}{afQ:Operand}{afR:TypeId}(s:Sat h S)(k:Nat)(hf:∀a b:Nat,fieldAddrV C.P afR (.ptr a b) i=some (.ptr a (b+j)))(ha:isAggT C.P t=some false)
 (e:(I.op,wantE L E I.guard,I.dst,Nat.blt vq ax,bE E afQ,o.op,wantE L ((vq,.ptr a (b+j))::E) o.guard,o.dst,Nat.blt d ax,bE ((vq,.ptr a (b+j))::E) x,getA S k,nth cs (b+j))=(Op.fieldAddr afR afQ i,some true,some vq,true,some (V.ptr a b),Op.load t x,some true,some d,true,some (V.ptr a (b+j)),some (pt a (.cells n cs st)),some v))
 (hw:au C ax L rest ((d,v)::(vq,.ptr a (b+j))::E) h R): au C ax L (I::o::rest) E h R:=by
  simp only[bW] at e;obtain⟨e1,e2,e3,e4,e5,e6,e7,e8,e9,e10,e11,e12⟩:=e;exact au.op e2 e3 e4 (by rw[e1];exact m9 e5 (hf a b)) (au.op e7 e8 e9 (by rw[e6];exact o_load e10 (s.ld e11 ha e12)) hw)
theorem zS (e:(wantE L E o.guard,o.dst,o.op,bE E x,bE E y)=(some true,none,Op.store t x y,some v,some u))(ho:∃h₁,j8 C.P h t v u=some h₁/\Sat h₁ S')(hr:∀h₁,Sat h₁ S'->au C ax L rest E h₁ R): au C ax L (o::rest) E h R:=by
  simp only[bW] at e;exact au.yW e.1 e.2.1 e.2.2.1 e.2.2.2.1 e.2.2.2.2 ho hr
end
theorem lQ : bq Tryz.prog 3=some 1:=by kernel_rfl
theorem bP : isAggT Tryz.prog 3=some false:=by kernel_rfl
theorem BT : zeroT Tryz.prog 3=some (.int .i64 0):=by kernel_rfl
theorem BU : bq Tryz.prog 4=some 1:=by kernel_rfl
theorem sH : isAggT Tryz.prog 4=some false:=by kernel_rfl
theorem X9 : bq Tryz.prog 5=some 1:=by kernel_rfl
theorem zt5 : zeroT Tryz.prog 5=some (.int .u8 0):=by kernel_rfl
theorem ag9 : isAggT Tryz.prog 9=some false:=by kernel_rfl
theorem BV : isAggT Tryz.prog 24=some false:=by kernel_rfl
theorem aeq : bq Tryz.prog 25=some 1:=by kernel_rfl
theorem Ev : isAggT Tryz.prog 25=some false:=by kernel_rfl
theorem dP : bq Tryz.prog 29=some 1:=by kernel_rfl
theorem bS : isAggT Tryz.prog 29=some false:=by kernel_rfl
theorem lK : zeroT Tryz.prog 29=some .aZ:=by kernel_rfl
theorem abx : bq Tryz.prog 31=some 4:=by kernel_rfl
theorem aer : isAggT Tryz.prog 31=some true:=by kernel_rfl
theorem aes : zeroT Tryz.prog 31=some (.agg [(.int .i64 0),(.int .i64 0),.aZ,.aZ]):=by kernel_rfl
theorem Sx (a b:Nat): fieldAddrV Tryz.prog 31 (.ptr a b) 0=some (.ptr a (b+0)):=by kernel_rfl
theorem yX (a b:Nat): fieldAddrV Tryz.prog 31 (.ptr a b) 2=some (.ptr a (b+2)):=by kernel_rfl
theorem KK (a b:Nat): fieldAddrV Tryz.prog 31 (.ptr a b) 3=some (.ptr a (b+3)):=by kernel_rfl
theorem aby : bq Tryz.prog 32=some 1:=by kernel_rfl
theorem P8 : isAggT Tryz.prog 32=some false:=by kernel_rfl
theorem P9 : bq Tryz.prog 42=some 1:=by kernel_rfl
theorem sI : isAggT Tryz.prog 42=some false:=by kernel_rfl
theorem abz : bq Tryz.prog 45=some 1:=by kernel_rfl
theorem HL : isAggT Tryz.prog 45=some false:=by kernel_rfl
theorem Ar : bq Tryz.prog 47=some 6:=by kernel_rfl
theorem HM : isAggT Tryz.prog 47=some true:=by kernel_rfl
theorem Vy : zeroT Tryz.prog 47=some (.agg [(.int .i64 0),(.int .u64 0),(.int .u64 0),(.int .u64 0),.aZ,.aZ]):=by kernel_rfl
theorem BW (a b:Nat): fieldAddrV Tryz.prog 47 (.ptr a b) 0=some (.ptr a (b+0)):=by kernel_rfl
theorem abA (a b:Nat): fieldAddrV Tryz.prog 47 (.ptr a b) 1=some (.ptr a (b+1)):=by kernel_rfl
theorem abB (a b:Nat): fieldAddrV Tryz.prog 47 (.ptr a b) 2=some (.ptr a (b+2)):=by kernel_rfl
theorem abC (a b:Nat): fieldAddrV Tryz.prog 47 (.ptr a b) 3=some (.ptr a (b+3)):=by kernel_rfl
theorem abD (a b:Nat): fieldAddrV Tryz.prog 47 (.ptr a b) 4=some (.ptr a (b+4)):=by kernel_rfl
theorem wF (a b:Nat): fieldAddrV Tryz.prog 47 (.ptr a b) 5=some (.ptr a (b+5)):=by kernel_rfl
theorem Vz (ps:List (Nat×V)): buildV Tryz.prog 47 ps=(fillV (nth [(0,1),(1,1),(2,1),(3,1),(4,1),(5,1)]) ((.agg [(.int .i64 0),(.int .u64 0),(.int .u64 0),(.int .u64 0),.aZ,.aZ]):V).cells ps).map .agg:=by kernel_rfl
theorem Ew : bq Tryz.prog 53=some 2:=by kernel_rfl
theorem VA : isAggT Tryz.prog 53=some true:=by kernel_rfl
theorem P_ : zeroT Tryz.prog 53=some (.agg [(.str []),(.str [])]):=by kernel_rfl
theorem Sy (a b:Nat): fieldAddrV Tryz.prog 53 (.ptr a b) 0=some (.ptr a (b+0)):=by kernel_rfl
theorem abE (a b:Nat): fieldAddrV Tryz.prog 53 (.ptr a b) 1=some (.ptr a (b+1)):=by kernel_rfl
theorem abF (ps:List (Nat×V)): buildV Tryz.prog 53 ps=(fillV (nth [(0,1),(1,1)]) ((.agg [(.str []),(.str [])]):V).cells ps).map .agg:=by kernel_rfl
theorem yg : isAggT Tryz.prog 69=some false:=by kernel_rfl
theorem VB : isAggT Tryz.prog 78=some false:=by kernel_rfl
theorem abG : bq Tryz.prog 92=some 1:=by kernel_rfl
theorem fD : isAggT Tryz.prog 92=some false:=by kernel_rfl
theorem lM : bq Tryz.prog 94=some 2:=by kernel_rfl
theorem HN : isAggT Tryz.prog 94=some true:=by kernel_rfl
theorem Qa : zeroT Tryz.prog 94=some (.agg [.cg,(.int .i64 0)]):=by kernel_rfl
theorem jx (a b:Nat): fieldAddrV Tryz.prog 94 (.ptr a b) 0=some (.ptr a (b+0)):=by kernel_rfl
theorem sJ (a b:Nat): fieldAddrV Tryz.prog 94 (.ptr a b) 1=some (.ptr a (b+1)):=by kernel_rfl
theorem abH (ps:List (Nat×V)): buildV Tryz.prog 94 ps=(fillV (nth [(0,1),(1,1)]) ((.agg [.cg,(.int .i64 0)]):V).cells ps).map .agg:=by kernel_rfl
theorem VC : bq Tryz.prog 98=some 1:=by kernel_rfl
theorem gx : isAggT Tryz.prog 98=some false:=by kernel_rfl
theorem aet (a b l:Nat)(c:Cap)(k:IntKind)(n:Int): indexAddrV Tryz.prog 98 (.sl a b l c) (.int k n)=cond (decide (0<=n)&&decide (n<(l:Int))) (some (.ptr a (b+n.toNat*1))) none:=by kernel_rfl
theorem iA (a b:Nat): fieldAddrV Tryz.prog 101 (.ptr a b) 0=some (.ptr a (b+0)):=by kernel_rfl
theorem ew (a b:Nat): fieldAddrV Tryz.prog 101 (.ptr a b) 1=some (.ptr a (b+1)):=by kernel_rfl
theorem nT (a b:Nat): fieldAddrV Tryz.prog 101 (.ptr a b) 2=some (.ptr a (b+2)):=by kernel_rfl
theorem cP (a b:Nat): fieldAddrV Tryz.prog 101 (.ptr a b) 3=some (.ptr a (b+3)):=by kernel_rfl
theorem Qb (ps:List (Nat×V)): buildV Tryz.prog 101 ps=(fillV (nth [(0,1),(1,1),(2,1),(3,1)]) ((.agg [(.int .i64 0),(.int .i64 0),.aZ,.aZ]):V).cells ps).map .agg:=by kernel_rfl
theorem qV : isAggT Tryz.prog 114=some false:=by kernel_rfl
theorem ac6 : bq Tryz.prog 116=some 3:=by kernel_rfl
theorem rX (a b:Nat): fieldAddrV Tryz.prog 116 (.ptr a b) 0=some (.ptr a (b+0)):=by kernel_rfl
theorem tL (a b:Nat): fieldAddrV Tryz.prog 116 (.ptr a b) 1=some (.ptr a (b+1)):=by kernel_rfl
theorem Dy (a b:Nat): fieldAddrV Tryz.prog 116 (.ptr a b) 2=some (.ptr a (b+2)):=by kernel_rfl
theorem ac7 (ps:List (Nat×V)): buildV Tryz.prog 116 ps=(fillV (nth [(0,1),(1,1),(2,1)]) ((.agg [.cg,.mZ,(.bool false)]):V).cells ps).map .agg:=by kernel_rfl
theorem Dz : isAggT Tryz.prog 117=some false:=by kernel_rfl
theorem DB (a b:Nat): fieldAddrV Tryz.prog 119 (.ptr a b) 0=some (.ptr a (b+0)):=by kernel_rfl
theorem N_ (a b:Nat): fieldAddrV Tryz.prog 119 (.ptr a b) 1=some (.ptr a (b+1)):=by kernel_rfl
theorem vU (a b:Nat): fieldAddrV Tryz.prog 119 (.ptr a b) 2=some (.ptr a (b+2)):=by kernel_rfl
theorem vV (a b:Nat): fieldAddrV Tryz.prog 119 (.ptr a b) 3=some (.ptr a (b+3)):=by kernel_rfl
theorem ac8 (ps:List (Nat×V)): buildV Tryz.prog 119 ps=(fillV (nth [(0,1),(1,1),(2,1),(3,1),(4,1),(5,1)]) ((.agg [.cg,.cg,.cg,.cg,.aZ,(.int .u64 0)]):V).cells ps).map .agg:=by kernel_rfl
theorem X_ : bq Tryz.prog 141=some 0:=by kernel_rfl
theorem JW : zeroT Tryz.prog 141=some (.agg []):=by kernel_rfl
theorem Ya (ps:List (Nat×V)): buildV Tryz.prog 141 ps=(fillV (nth []) ((.agg []):V).cells ps).map .agg:=by kernel_rfl
theorem jC : bq Tryz.prog 148=some 4:=by kernel_rfl
theorem qj : isAggT Tryz.prog 148=some true:=by kernel_rfl
theorem vt : zeroT Tryz.prog 148=some (.agg [.cg,(.int .i64 0),.cg,.cg]):=by kernel_rfl
theorem me (a b:Nat): fieldAddrV Tryz.prog 148 (.ptr a b) 0=some (.ptr a (b+0)):=by kernel_rfl
theorem yY (a b:Nat): fieldAddrV Tryz.prog 148 (.ptr a b) 1=some (.ptr a (b+1)):=by kernel_rfl
theorem vW (a b:Nat): fieldAddrV Tryz.prog 148 (.ptr a b) 2=some (.ptr a (b+2)):=by kernel_rfl
theorem rY (a b:Nat): fieldAddrV Tryz.prog 148 (.ptr a b) 3=some (.ptr a (b+3)):=by kernel_rfl
theorem JX (ps:List (Nat×V)): buildV Tryz.prog 148 ps=(fillV (nth [(0,1),(1,1),(2,1),(3,1)]) ((.agg [.cg,(.int .i64 0),.cg,.cg]):V).cells ps).map .agg:=by kernel_rfl
theorem ac9 : bq Tryz.prog 169=some 1:=by kernel_rfl
theorem Qc : isAggT Tryz.prog 169=some false:=by kernel_rfl
theorem ac_ : bq Tryz.prog 170=some 1:=by kernel_rfl
theorem Zw (a b:Nat): fieldAddrV Tryz.prog 172 (.ptr a b) 0=some (.ptr a (b+0)):=by kernel_rfl
theorem HO (a b:Nat): fieldAddrV Tryz.prog 172 (.ptr a b) 1=some (.ptr a (b+1)):=by kernel_rfl
theorem HP (a b:Nat): fieldAddrV Tryz.prog 172 (.ptr a b) 2=some (.ptr a (b+2)):=by kernel_rfl
theorem Oa (a b:Nat): fieldAddrV Tryz.prog 172 (.ptr a b) 3=some (.ptr a (b+3)):=by kernel_rfl
theorem yZ (a b:Nat): fieldAddrV Tryz.prog 172 (.ptr a b) 4=some (.ptr a (b+4)):=by kernel_rfl
theorem Ob (a b:Nat): fieldAddrV Tryz.prog 172 (.ptr a b) 5=some (.ptr a (b+5)):=by kernel_rfl
theorem Zx (a b:Nat): fieldAddrV Tryz.prog 172 (.ptr a b) 6=some (.ptr a (b+6)):=by kernel_rfl
theorem DC (a b:Nat): fieldAddrV Tryz.prog 172 (.ptr a b) 7=some (.ptr a (b+7)):=by kernel_rfl
theorem DD (a b:Nat): fieldAddrV Tryz.prog 172 (.ptr a b) 8=some (.ptr a (b+8)):=by kernel_rfl
theorem rZ (a b:Nat): fieldAddrV Tryz.prog 172 (.ptr a b) 9=some (.ptr a (b+9)):=by kernel_rfl
theorem VD (a b:Nat): fieldAddrV Tryz.prog 172 (.ptr a b) 10=some (.ptr a (b+10)):=by kernel_rfl
theorem VE (a b:Nat): fieldAddrV Tryz.prog 172 (.ptr a b) 11=some (.ptr a (b+11)):=by kernel_rfl
theorem ada (ps:List (Nat×V)): buildV Tryz.prog 172 ps=(fillV (nth [(0,1),(1,1),(2,1),(3,1),(4,1),(5,1),(6,1),(7,1),(8,1),(9,1),(10,1),(11,1)]) ((.agg [(.int .i64 0),.aZ,.aZ,.mZ,.aZ,(.int .i64 0),.aZ,(.int .i64 0),(.int .i64 0),(.bool false),.cg,.aZ]):V).cells ps).map .agg:=by kernel_rfl
theorem Oc (a b:Nat): fieldAddrV Tryz.prog 174 (.ptr a b) 0=some (.ptr a (b+0)):=by kernel_rfl
theorem y7 (a b:Nat): fieldAddrV Tryz.prog 174 (.ptr a b) 1=some (.ptr a (b+1)):=by kernel_rfl
theorem nU (a b:Nat): fieldAddrV Tryz.prog 174 (.ptr a b) 2=some (.ptr a (b+2)):=by kernel_rfl
theorem tM (a b:Nat): fieldAddrV Tryz.prog 174 (.ptr a b) 3=some (.ptr a (b+3)):=by kernel_rfl
theorem HQ (a b:Nat): fieldAddrV Tryz.prog 174 (.ptr a b) 4=some (.ptr a (b+4)):=by kernel_rfl
theorem Zy (a b:Nat): fieldAddrV Tryz.prog 174 (.ptr a b) 5=some (.ptr a (b+5)):=by kernel_rfl
theorem adb (ps:List (Nat×V)): buildV Tryz.prog 174 ps=(fillV (nth [(0,1),(1,1),(2,1),(3,1),(4,1),(5,1)]) ((.agg [.cg,(.int .u64 0),.aZ,.aZ,(.int .i64 0),(.int .u64 0)]):V).cells ps).map .agg:=by kernel_rfl
theorem Qd : bq Tryz.prog 185=some 2:=by kernel_rfl
theorem ade : isAggT Tryz.prog 185=some true:=by kernel_rfl
theorem Qe : zeroT Tryz.prog 185=some (.agg [(.int .i64 0),.aZ]):=by kernel_rfl
theorem Zz (a b:Nat): fieldAddrV Tryz.prog 185 (.ptr a b) 1=some (.ptr a (b+1)):=by kernel_rfl
theorem adf (ps:List (Nat×V)): buildV Tryz.prog 185 ps=(fillV (nth [(0,1),(1,1)]) ((.agg [(.int .i64 0),.aZ]):V).cells ps).map .agg:=by kernel_rfl
theorem aV : bq Tryz.prog 189=some 1:=by kernel_rfl
theorem bC : isAggT Tryz.prog 189=some true:=by kernel_rfl
theorem jD : zeroT Tryz.prog 189=some (.agg [.aZ]):=by kernel_rfl
theorem ey (a b:Nat): fieldAddrV Tryz.prog 189 (.ptr a b) 0=some (.ptr a (b+0)):=by kernel_rfl
theorem As (ps:List (Nat×V)): buildV Tryz.prog 189 ps=(fillV (nth [(0,1)]) ((.agg [.aZ]):V).cells ps).map .agg:=by kernel_rfl
theorem DE : bq Tryz.prog 206=some 4:=by kernel_rfl
theorem adg : isAggT Tryz.prog 206=some true:=by kernel_rfl
theorem xy : zeroT Tryz.prog 206=some (.agg [(.int .i64 0),(.int .i64 0),(.bool false),.aZ]):=by kernel_rfl
theorem HR (a b:Nat): fieldAddrV Tryz.prog 206 (.ptr a b) 0=some (.ptr a (b+0)):=by kernel_rfl
theorem vX (a b:Nat): fieldAddrV Tryz.prog 206 (.ptr a b) 1=some (.ptr a (b+1)):=by kernel_rfl
theorem Od (a b:Nat): fieldAddrV Tryz.prog 206 (.ptr a b) 2=some (.ptr a (b+2)):=by kernel_rfl
theorem vY (a b:Nat): fieldAddrV Tryz.prog 206 (.ptr a b) 3=some (.ptr a (b+3)):=by kernel_rfl
theorem Qf (ps:List (Nat×V)): buildV Tryz.prog 206 ps=(fillV (nth [(0,1),(1,1),(2,1),(3,1)]) ((.agg [(.int .i64 0),(.int .i64 0),(.bool false),.aZ]):V).cells ps).map .agg:=by kernel_rfl
theorem sK : isAggT Tryz.prog 211=some false:=by kernel_rfl
theorem adh (a b l:Nat)(c:Cap)(k:IntKind)(n:Int): indexAddrV Tryz.prog 211 (.sl a b l c) (.int k n)=cond (decide (0<=n)&&decide (n<(l:Int))) (some (.ptr a (b+n.toNat*5))) none:=by kernel_rfl
theorem FX : isAggT Tryz.prog 212=some false:=by kernel_rfl
theorem DF : isAggT Tryz.prog 213=some false:=by kernel_rfl
theorem DG (a b:Nat): fieldAddrV Tryz.prog 215 (.ptr a b) 0=some (.ptr a (b+0)):=by kernel_rfl
theorem ZA (a b:Nat): fieldAddrV Tryz.prog 215 (.ptr a b) 1=some (.ptr a (b+1)):=by kernel_rfl
theorem nV (a b:Nat): fieldAddrV Tryz.prog 215 (.ptr a b) 2=some (.ptr a (b+2)):=by kernel_rfl
theorem y8 (a b:Nat): fieldAddrV Tryz.prog 215 (.ptr a b) 3=some (.ptr a (b+3)):=by kernel_rfl
theorem vZ (a b:Nat): fieldAddrV Tryz.prog 215 (.ptr a b) 4=some (.ptr a (b+4)):=by kernel_rfl
theorem HS (a b:Nat): fieldAddrV Tryz.prog 215 (.ptr a b) 5=some (.ptr a (b+5)):=by kernel_rfl
theorem adi (ps:List (Nat×V)): buildV Tryz.prog 215 ps=(fillV (nth [(0,1),(1,1),(2,1),(3,1),(4,1),(5,1)]) ((.agg [.cg,.cg,.aZ,.mZ,.mZ,(.int .i64 0)]):V).cells ps).map .agg:=by kernel_rfl
theorem FY : bq Tryz.prog 218=some 5:=by kernel_rfl
theorem adj : isAggT Tryz.prog 218=some true:=by kernel_rfl
theorem adk : zeroT Tryz.prog 218=some (.agg [(.int .i64 0),.aZ,(.int .i64 0),(.bool false),(.bool false)]):=by kernel_rfl
theorem r7 (a b:Nat): fieldAddrV Tryz.prog 218 (.ptr a b) 0=some (.ptr a (b+0)):=by kernel_rfl
theorem DH (a b:Nat): fieldAddrV Tryz.prog 218 (.ptr a b) 1=some (.ptr a (b+1)):=by kernel_rfl
theorem tN (a b:Nat): fieldAddrV Tryz.prog 218 (.ptr a b) 2=some (.ptr a (b+2)):=by kernel_rfl
theorem HT (a b:Nat): fieldAddrV Tryz.prog 218 (.ptr a b) 3=some (.ptr a (b+3)):=by kernel_rfl
theorem HU (a b:Nat): fieldAddrV Tryz.prog 218 (.ptr a b) 4=some (.ptr a (b+4)):=by kernel_rfl
theorem JY (ps:List (Nat×V)): buildV Tryz.prog 218 ps=(fillV (nth [(0,1),(1,1),(2,1),(3,1),(4,1)]) ((.agg [(.int .i64 0),.aZ,(.int .i64 0),(.bool false),(.bool false)]):V).cells ps).map .agg:=by kernel_rfl
theorem DI : bq Tryz.prog 224=some 2:=by kernel_rfl
theorem Yb : isAggT Tryz.prog 224=some true:=by kernel_rfl
theorem DJ : zeroT Tryz.prog 224=some (.agg [(.int .u64 0),(.bool false)]):=by kernel_rfl
theorem HV (a b:Nat): fieldAddrV Tryz.prog 224 (.ptr a b) 0=some (.ptr a (b+0)):=by kernel_rfl
theorem ZB (cs:List V): uo Tryz.prog 224 (.agg cs) 0=nth cs 0:=by kernel_rfl
theorem Oe (a b:Nat): fieldAddrV Tryz.prog 224 (.ptr a b) 1=some (.ptr a (b+1)):=by kernel_rfl
theorem adl (ps:List (Nat×V)): buildV Tryz.prog 224 ps=(fillV (nth [(0,1),(1,1)]) ((.agg [(.int .u64 0),(.bool false)]):V).cells ps).map .agg:=by kernel_rfl
theorem adm (ps:List (Nat×V)): buildV Tryz.prog 230 ps=(fillV (λi=>some (i*1,1)) ((.agg [(.bool false),(.bool false)]):V).cells ps).map .agg:=by kernel_rfl
theorem Of (a b:Nat): fieldAddrV Tryz.prog 253 (.ptr a b) 0=some (.ptr a (b+0)):=by kernel_rfl
theorem adn (ps:List (Nat×V)): buildV Tryz.prog 253 ps=(fillV (nth [(0,1),(1,1)]) ((.agg [.mZ,.mZ]):V).cells ps).map .agg:=by kernel_rfl
theorem Yc (a b:Nat)(k:IntKind)(n:Int): indexAddrV Tryz.prog 257 (.ptr a b) (.int k n)=cond (decide (0<=n)&&decide (n<(512:Nat))) (some (.ptr a (b+n.toNat*1))) none:=by kernel_rfl
theorem ado : bq Tryz.prog 269=some 512:=by kernel_rfl
theorem adp : isAggT Tryz.prog 269=some true:=by kernel_rfl
theorem adq (ps:List (Nat×V)): buildV Tryz.prog 278 ps=(fillV (λi=>some (i*1,1)) ((.agg [(.int .u64 0),(.int .u64 0),(.int .u64 0)]):V).cells ps).map .agg:=by kernel_rfl
def slR (v:V)(a b:Nat): V:=match v with
 |.sl id off _ (.exact c)=>.sl id (cond (Nat.beq c a) off (off+a*1)) (b-a) (.exact (c-a))
 |.sl id off _ (.rest _ alt)=>.sl id (off+a*1) (b-a) (.rest 1 (cond (Nat.beq a 0) alt (cond (Nat.blt a b) (off+a*1) off)))
 |v=>v
theorem fR {v:V}(hv:View h v l)(mA:a<=b)(hb:b<=l.length):
  sliceV Tryz.prog h 29 v (some a) (some b) none=some (slR v a b)/\View h (slR v a b) ((l.take b).drop a)/\∀i∈rowIds (slR v a b),i∈rowIds v:=by
 have I:∀x∈(l.take b).drop a,x<256:=λx hx=>hv.1 x (iM (i_ hx));have hlen:((l.take b).drop a).length=b-a:=by grind
 obtain⟨hl,KL⟩:=hv;rcases KL with⟨rfl|⟨ea,rfl⟩,rfl⟩|⟨id,off,cap,n,cs,st,rfl,hg,h1,h2,h3,h4⟩
 .simp only[b6] at hb;have:b=0:=by omega
  have:a=0:=by omega
  subst_vars
  refine⟨?_,⟨by simp,.inl ⟨.inl U,by simp⟩⟩,λi hi=>hi⟩;simp only[sliceV,aP,fO];rfl
 .simp only[b6] at hb;have:b=0:=by omega
  have:a=0:=by omega
  subst_vars
  refine⟨?_,⟨by simp,.inl ⟨.inr ⟨ea,U⟩,by simp⟩⟩,λi hi=>hi⟩;simp only[sliceV,aP,fO];rfl
 .have JR:∀o,o=off+a\/b-a=0->(cs.drop o).take (b-a)=ofBytes ((l.take b).drop a):=by
   grind[ofBytes,List.map_drop,List.map_take,List.drop_take,List.drop_drop]
  cases cap with
  |exact c =>
   refine⟨?_,⟨I,.inr ⟨id,_,_,n,cs,st,by rw[hlen];rfl,hg,h1,?_,?_,?_⟩⟩,λi hi=>by simpa[rowIds,slR] using hi⟩
   .simp only[sliceV,slR,aP,fO,dz];grind[aS]
   .grind
   .grind[fM]
   .omega
  |rest e alt =>
   have he:e=1:=h4;subst he;refine⟨?_,⟨I,.inr ⟨id,_,_,n,cs,st,by rw[hlen];rfl,hg,h1,by omega,by grind,U⟩⟩,λi hi=>by simpa[rowIds,slR] using hi⟩;simp only[sliceV,slR,aP,fO,dz,kg];grind[aS]
theorem iu {v:V}(hv:View h v l)(ha:a<=l.length):
  sliceV Tryz.prog h 29 v (some a) none none=some (slR v a l.length)/\View h (slR v a l.length) (l.drop a)/\∀i∈rowIds (slR v a l.length),i∈rowIds v:=by
 obtain⟨h1,h2,h3⟩:=fR hv ha (aH _);refine⟨?_,by grind,h3⟩;obtain⟨_,I⟩:=hv;rcases I with⟨rfl|⟨ea,rfl⟩,rfl⟩|⟨id,off,cap,n,cs,st,rfl,hg,g1,g2,g3,g4⟩
 .simpa[sliceV,aP,fO] using h1
 .simpa[sliceV,aP,fO] using h1
 .simp_all[sliceV]
theorem VF {v:V}(hv:View h v l)(hb:b<=l.length):
  sliceV Tryz.prog h 29 v none (some b) none=some (slR v 0 b)/\View h (slR v 0 b) (l.take b)/\∀i∈rowIds (slR v 0 b),i∈rowIds v:=by
 obtain⟨h1,h2,h3⟩:=fR hv (gh b) hb;refine⟨?_,by grind,h3⟩;obtain⟨_,I⟩:=hv;rcases I with⟨rfl|⟨ea,rfl⟩,rfl⟩|⟨id,off,cap,n,cs,st,rfl,hg,g1,g2,g3,g4⟩
 .simpa[sliceV,aP,fO] using h1
 .simpa[sliceV,aP,fO] using h1
 .simp_all[sliceV]
theorem eU {v:V}(hv:View h v l)(hi:l[i]?=some b):
  ∃id off,indexAddrV Tryz.prog 29 v (.int .i64 (i:Int))=some (.ptr id off)/\loadV Tryz.prog h 5 (.ptr id off)=some (.int .u8 (b:Int)):=by
 obtain⟨hl,I⟩:=hv;rcases I with⟨_,rfl⟩|⟨id,off,cap,n,cs,st,rfl,hg,h1,h2,h3,h4⟩
 .grind
 .refine⟨id,off+i*1,?_,?_⟩
  .simp only[indexAddrV,aP,fO,fI];grind
  .simp only[loadV,NZ,Bh,hg,gE,cH];have e:=dg (λq=>q[i]?) h3;grind[ofBytes]
theorem View.cells {v:V}(hv:View h v l): v.cells=[v]/\Am.storable v=true:=by
 obtain⟨_,hv⟩:=hv;rcases hv with⟨rfl|⟨I,rfl⟩,_⟩|⟨id,off,cap,n,cs,st,rfl,_⟩<;>exact⟨U,U⟩
def plain1 : V->Bool
 |.bool _|.int _ _|.str _|.cg|.ptr _ _|.aZ|.sl _ _ _ _|.mZ|.map _|.Iv|.qE|.wg _ _=>true
 |.fn (.func _) [] []=>true
 |_=>false
def abI : V->Bool
 |.agg l=>l.all plain1
 |.aX l=>l.all plain1
 |.iface _ v=>plain1 v
 |v=>plain1 v
theorem Qg (k:FloatKind): fkBeq k k=true:=by cases k<;>rfl
theorem KM : ∀l:List Nat,natsBeq l l=true:=by grind[qL]
theorem VG (v:V)(h:plain1 v=true): v.beq v=true:=by
 cases v<;>simp[plain1,V.beq,fe,uf,Eb,KM,Qg] at h ⊢
 rename_i f a b;cases f<;>cases a<;>cases b<;>simp[plain1,V.beq,V.beqL] at h ⊢
theorem Yd : ∀(l:List V),l.all plain1=true->V.beqL l l=true:=by
 intro l;induction l<;>grind[V.beqL,VG]
theorem bx (v:V)(h:abI v=true): v.beq v=true:=by
 cases v with
 |agg l=>exact Yd l h
 |aX l=>exact Yd l h
 |iface t v=>simp only[V.beq,kg,Db];exact VG v h
 |_=>exact VG _ h
section
variable {v w:V} {m:List Nat}
theorem Qh (s:Sat h (bf v l::X::S))(hX:cC X (cK w m))(I:l.length+m.length<=140737488355328):
  ∃v' h',appendV Tryz.prog h #[29,29] v w=some (v',h')/\Sat h' (bf v' (l++m)::X::S):=by
 obtain⟨v',h',e1,e2,e3,e4⟩:=BL s.wf (s.buf (k:=0) U) (s.aC (k:=1) U hX) I;exact⟨v',h',e1,s.Dx e3 e2 e4⟩
theorem Sz (s:Sat h S)(I:c<1073741824):
  ∃v h',makeSliceV Tryz.prog h 29 (.int .i64 0) (.int .i64 (c:Int))=some (v,h')/\Sat h' (bf v []::S):=by
 obtain⟨v,h',e1,e2,e3,e4⟩:=FO s.wf I;exact⟨v,h',e1,s.KJ e3 e2 e4⟩
theorem Og : ∀n:Nat,repeatL [V.int .u8 0] n=ofBytes (List.replicate n 0):=by
 intro n;induction n<;>grind[repeatL,ofBytes]
theorem SB (s:Sat h S)(hc:c<1073741824):
  ∃v h',makeSliceV Tryz.prog h 29 (.int .i64 (c:Int)) (.int .i64 (c:Int))=some (v,h')/\Sat h' (bf v (List.replicate c 0)::S):=by
 obtain⟨i,hi,i1,i2⟩:=Dw;have I:lF (h.new (.cells c (repeatL [.int .u8 0] c) false)) (.sl h.next 0 c (.exact c)) (List.replicate c 0):=by
  refine⟨λb I=>by grind,.inr (.inl ⟨h.next,[],c,by simp,?_,by simp⟩)⟩<;>grind[ja,Og]
 refine⟨.sl h.next 0 c (.exact c),h.new (.cells c (repeatL [.int .u8 0] c) false),?_,s.KJ (fK.Dv s.wf _) I λi hi=>by simp[rowIds] at hi;omega⟩
 grind[makeSliceV,Tryz.underlying29,qY,V.cells,Nat.ble,Nat.beq]
theorem SC (s:Sat h S)(I:b<256): ∃v h',buildSliceV Tryz.prog h 29 1 [(0,.int .u8 b)]=some (v,h')/\Sat h' (bf v [b]::S):=by
 obtain⟨v,h',e1,e2,e3,e4⟩:=IW s.wf I;exact⟨v,h',e1,s.KJ e3 e2 e4⟩
theorem Sat.eX (s:Sat h (bf v l::S))(hl:1<=l.length): ∃id c cap rest,v=.sl id 0 l.length cap/\Sat h (pt id (.cells c (ofBytes l++rest) false)::S)/\l.length+rest.length=c /\
  (∀(h':H) (I:List Nat),I.length=l.length->(∀b∈I,b<256)->Sat h' (pt id (.cells c (ofBytes I++rest) false)::S)->Sat h' (bf v I::S)):=by
 obtain⟨m,r,h1,h2,h3,a,b,g1,g2,g3,⟨gl,g4⟩,g5⟩:=s.ok;rcases g4 with⟨rfl,rfl⟩|⟨id,cs,c,rfl,hg,hc⟩|⟨id,rfl,hg,h5⟩
 .grind
 .refine⟨id,c,_,cs,U,⟨s.wf,m,r,h1,h2,h3,a,b,g1,g2,g3,hg,g5⟩,hc,λh' I e1 e2 s'=>s'.dM ?_⟩;intro m' r' hm;exact⟨e2,.inr (.inl ⟨id,cs,c,by rw[e1],hm,by omega⟩)⟩
 .refine⟨id,l.length,_,[],U,⟨s.wf,m,r,h1,h2,h3,a,b,g1,g2,g3,by rw[fZ];exact hg,g5⟩,by simp,λh' I e1 e2 s'=>s'.dM ?_⟩;intro m' r' hm;have Ea:m' id=some (.cells l.length (ofBytes I++[]) false):=hm;exact⟨e2,.inr (.inr ⟨id,by rw[e1],by grind,by omega⟩)⟩
theorem M_ (l:List Nat)(i b:Nat): (ofBytes l).set i (.int .u8 (b:Int))=ofBytes (l.set i b):=by simp[ofBytes,Dd]
theorem wG (l:List Nat)(n:Nat): (ofBytes l).take n=ofBytes (l.take n):=by simp[ofBytes,rL]
theorem BX (l:List Nat)(n:Nat): (ofBytes l).drop n=ofBytes (l.drop n):=by simp[ofBytes,tH]
theorem oU (s:Sat h (bf v l::S))(hi:i<l.length)(hb:b<256):
  ∃id off,indexAddrV Tryz.prog 29 v (.int .i64 (i:Int))=some (.ptr id off)/\∃h',j8 Tryz.prog h 5 (.ptr id off) (.int .u8 (b:Int))=some h'/\Sat h' (bf v (l.set i b)::S):=by
 have hv:=(s.buf (k:=0) U).1;obtain⟨id,c,cap,rest,rfl,s1,hc,hf⟩:=s.eX (by omega);refine⟨id,i,?_,?_⟩
 .simp_all[indexAddrV,fO]
 .obtain⟨h',e1,I⟩:=s1.kC (t:=5) (P:=Tryz.prog) (v:=.int .u8 (b:Int)) (k:=0) (off:=i) U fO (by simp[dJ];omega) (by omega) U U;refine⟨h',e1,hf h' (l.set i b) (by simp) (λx hx => ?_) ?_⟩
  .grind
  .have e3:(ofBytes l++rest).set i (.int .u8 (b:Int))=ofBytes (l.set i b)++rest:=by
    grind[dJ,M_]
   rw[e3] at I;exact I
def az (l:List Nat)(a:Nat)(m:List Nat): List Nat:=l.take a++(m++l.drop (a+m.length))
theorem bG (h:a+m.length<=l.length:=by omega): (az l a m).length=l.length:=by simp[az];omega
theorem xz (hl:∀b∈l,b<256)(hm:∀b∈m,b<256): ∀b∈az l a m,b<256:=by grind[az]
theorem KN (s:Sat h (bf v l::X::S))(hX:cC X (cK w m))(mA:a<b)(hb:b<=l.length)(hm:1<=m.length):
  ∃h',copyV Tryz.prog h 29 (slR v a b) w=some (.int .i64 (min m.length (b-a):Nat),h')/\Sat h' (bf v (az l a (m.take (b-a)))::X::S):=by
 have hw:=s.aC (k:=1) U hX;have Oh:=hw.1;have hv:=(s.buf (k:=0) U).1;obtain⟨id,c,cap,rest,rfl,s1,hc,hf⟩:=s.eX (by omega);have jF:∃Bx,slR (.sl id 0 l.length cap) a b=.sl id a (b-a) Bx:=by
  cases cap with
  |exact c =>
   refine⟨.exact (c-a),?_⟩;simp only[slR];by_cases Ye:c=a
   .obtain⟨m',r,h1,h2,h3⟩:=s.at (k:=0) U;rcases h3.2 with⟨e,_⟩|⟨w8,cs',c',e,hg,SD⟩|⟨w8,e,_⟩
    .cases e
    .grind
    .grind
   grind[fM]
  |rest e alt=>simp[slR]
 obtain⟨Bx,jF⟩:=jF;rw[jF];have uz:=hw;rcases uz.2 with⟨_,rfl⟩|⟨wH,I,HW,n2,qM,st2,rfl,FZ,q1,q2,q3,q4⟩
 .grind
 .have aeu:Nat.min m.length (b-a)=(m.take (b-a)).length:=by
   grind
  have jm:rdN h wH I (Nat.min m.length (b-a)*1)=some (ofBytes (m.take (b-a))):=by
   have I0:View h (.sl wH I (m.take (b-a)).length HW) (m.take (b-a)):=by
    refine⟨λx hx=>Oh x (iM hx),.inr ⟨wH,I,HW,n2,qM,st2,U,FZ,q1,?_,?_,?_⟩⟩
    .grind
    .rw[<-wG,<-q3,rK,cz]
    .grind
   rw[cH,aeu];exact I0.rdN.2
  simp only[copyV,aP,fO,jm];have hlen:(m.take (b-a)).length<=b-a:=by grind
  have F0:wrN h id a (ofBytes (m.take (b-a)))=some (h.put id (some (.cells c (ofBytes (az l a (m.take (b-a)))++rest) false))):=by
   simp only[wrN,s1.row (k:=0) U,dJ];rw[aS.2 (by omega),ag];have e0:(ofBytes l++rest).take a++(ofBytes (m.take (b-a))++(ofBytes l++rest).drop (a+(m.take (b-a)).length))=ofBytes (az l a (m.take (b-a)))++rest:=by
    grind[dJ,wG,BX,az,ue]
   cases SE:(Nat.beq a 0&&Nat.beq (m.take (b-a)).length c)<;>grind[beq_iff,List.drop_eq_nil_of_le,dJ]
  rw[F0];refine⟨_,U,hf _ _ bG (xz hv (λx hx=>Oh x (iM hx))) ?_⟩;exact s1.put (k:=0) U
end
section
variable {v w x:V}
theorem ldN (I:isAggT P t=some true)(hs:bq P t=some q)(hg:T.get h.tr id=some (.cells n cs st))(hl:cs.length=n)(hb:off+q<=n):
  loadV P h t (.ptr id off)=some (.agg ((cs.drop off).take q)):=by
 grind[loadV,rdN,aS,beq_iff]
theorem Sat.ZC (s:Sat h (.arr k v cs::S))(I:cs≠[]): ∃id n cap N rest,v=.sl id 0 n cap/\cs.length=n*k/\N=cs.length+rest.length/\Sat h (pt id (.cells N (cs++rest) false)::S) /\
  (∀(h':H) (cs':List V) (S':List aE),cs'.length=cs.length->cs'.all storable=true->Sat h' (pt id (.cells N (cs'++rest) false)::S')->Sat h' (.arr k v cs'::S')):=by
 obtain⟨m,r,h1,h2,h3,a,b,g1,g2,g3,⟨gl,g4⟩,g5⟩:=s.ok;rcases g4 with⟨_,e⟩|⟨id,n,cap,N,rest,rfl,hg,q1,q2,q3,q4⟩
 .grind
 .refine⟨id,n,cap,N,rest,U,q1,q2.symm,⟨s.wf,m,r,h1,h2,h3,a,b,g1,g2,g3,hg,g5⟩,λh' cs' S' e1 e2 s'=>s'.dM ?_⟩;intro m' r' hm;exact⟨e2,.inr ⟨id,n,cap,N,rest,U,hm,by omega,by omega,q3,q4⟩⟩
theorem Sat.JZ (s:Sat h S)(I:getA S j=some (.arr k v cs)): cs.all storable=true:=by
 obtain⟨m,r,h1,h2,h3⟩:=s.at I;exact h3.1
theorem Sat.uT (s:Sat h S)(I:getA S j=some (.arr k v cs)): v.cells=[v]/\storable v=true/\v.beq v=true:=by
 obtain⟨m,r,h1,h2,h3⟩:=s.at I;rcases h3.2 with⟨rfl,_⟩|⟨id,n,cap,N,rest,rfl,_⟩
 .exact⟨U,U,U⟩
 .exact⟨U,U,Ap _ _ _ _⟩
theorem Sat.fS (s:Sat h S)(hj:getA S j=some (.arr k v cs))(hn:cs.length=n*k)(hk:1<=k)(hu:P.underlying t=some (.slice e)): lenV P h t v=some (.int .i64 n):=by
 obtain⟨m,r,h1,h2,h3⟩:=s.at hj;rcases h3.2 with⟨rfl,rfl⟩|⟨id,n',cap,N,rest,rfl,_,q,_⟩
 .have:n=0:=by
   rcases oL n with I|I
   .exact I
   .have:=tG I hk;simp at hn;omega
  simp_all[lenV]
 .have:n'=n:=G5 hk (by omega);subst this;simp only[lenV,hu]
theorem yh (z:List V)(n:Nat): (repeatL z n).length=n*z.length:=by
 induction n<;>grind[repeatL]
theorem F1 {z:List V}(I:z.all storable=true)(n:Nat): (repeatL z n).all storable=true:=by
 induction n<;>grind[repeatL]
theorem BY (s:Sat h S){i:TypeInfo}(hu:P.underlying t=some (.slice e))(hi:P.info? e=some i)(hz:zeroT P e=some z)(hk:i.size=k)(hb:i.bytes<=4096)(hl:z.cells.length=k)(I:z.cells.all storable=true)
 (h1:1<=k)(hn:n<=c)(hc:c<1073741824):
  ∃v h',makeSliceV P h t (.int .i64 (n:Int)) (.int .i64 (c:Int))=some (v,h')/\Sat h' (.arr k v (repeatL z.cells n)::S):=by
 refine⟨.sl h.next 0 n (.exact c),h.new (.cells (c*k) (repeatL z.cells c) false),?_,(s.new _).dM λm r hm => ?_⟩
 .grind[makeSliceV,aS,Nat.beq_refl]
 .refine⟨F1 I n,.inr ⟨h.next,n,.exact c,c*k,repeatL z.cells (c-n),U,?_,by rw[yh,hl],?_,F1 I _,U,hn⟩⟩
  .have:repeatL z.cells n++repeatL z.cells (c-n)=repeatL z.cells c:=by
    have:∀a b,repeatL z.cells a++repeatL z.cells b=repeatL z.cells (a+b):=λa b=>by
     induction a<;>grind[repeatL]
    rw[this,show n+(c-n)=c by omega]
   rw[this];exact hm
  .rw[yh,yh,hl,<-rM,show n+(c-n)=c by omega]
theorem y9 (I:T.get h.tr id=some (.cells n cs false))(hl:cs.length=n)(hb:off+vs.length<=n):
  wrN h id off vs=some (h.put id (some (.cells n (cs.take off++(vs++cs.drop (off+vs.length))) false))):=by
 grind[wrN,aS,beq_iff,List.drop_eq_nil_of_le]
theorem pN (I:T.get h.tr id=some (.cells n cs st))(hl:cs.length=n)(hb:off+q<=n:=by omega): rdN h id off q=some ((cs.drop off).take q):=by
 grind[rdN,aS,beq_iff]
def Oi (X:aE)(k:Nat)(v:V)(cs:List V): Prop:=∀m r,X.p m r->qZ m k v cs\/qZ r k v cs
theorem jg (k:Nat)(v:V)(cs:List V): Oi (.arr k v cs) k v cs:=λ_ _ h=>.inl h
theorem Sat.BZ (s:Sat h S)(I:getA S j=some X)(hX:Oi X k v cs): qZ (T.get h.tr) k v cs:=by
 obtain⟨m,r,h1,h2,h3⟩:=s.at I;rcases hX _ _ h3 with q|q
 .exact q.up h1
 .exact q.up h2
theorem aev (a:qZ (T.get h.tr) k v cs)(hi:i*k+k<=cs.length)(hk:1<=k)(hu:P.underlying t=some (.slice e))(I:bq P e=some k):
  ∃id off,indexAddrV P t v (.int .i64 (i:Int))=some (.ptr id off)/\∀m c t',((cs.drop (i*k)).take k)[m]?=some c->isAggT P t'=some false->loadV P h t' (.ptr id (off+m))=some c:=by
 rcases a.2 with⟨_,rfl⟩|⟨id,n,cap,N,rest,rfl,hg,e1,e2,_⟩
 .grind
 .refine⟨id,i*k,?_,λm c t' hc ht=>BM ht hg ?_⟩
  .simp only[indexAddrV,hu,I,fI];have:i<n:=by
    have h4:i*k+k=(i+1)*k:=by grind
    rw[h4,e1] at hi;exact Ho (G6 hi hk)
   grind
  grind[gE]
theorem VH (hX:Oi X k w ds)(s:Sat h (.arr k v cs::X::S)){i:TypeInfo}(hu:P.underlying t=some (.slice e))(hi:P.info? e=some i)(hz:zeroT P e=some z)(hk:i.size=k)(hb:i.bytes<=4096)(hl:z.cells.length=k)
 (h1:1<=k)(gm:cs.length+ds.length<=1073741824):
  ∃v' h',appendV P h #[t,t] v w=some (v',h')/\Sat h' (.arr k v' (cs++ds)::X::S):=by
 have aew:=s.JZ (j:=0) U;have am:=s.BZ (j:=1) U hX;have sL:=am.1;have kL:(cs++ds).all storable=true:=by grind
 -- what is appended
 have ya:∃m,srcV h k w=some (ds,m)/\ds.length=m*k:=by
  rcases am.2 with⟨rfl,rfl⟩|⟨id,n,cap,N,rest,rfl,hg,e1,e2,e3,e4⟩
  .exact⟨0,U,by simp⟩
  .refine⟨n,?_,e1⟩;simp only[srcV];rw[pN hg (by grind)];grind
 obtain⟨m,ya,hm⟩:=ya;have I:∀n:Nat,n*k=cs.length->lu (n+m) i.bytes=true:=λn hn=>by
  have e2:n+m<=(n+m)*k:=Nat.le_mul_of_pos_right _ h1;have e3:(n+m)*i.bytes<=(n+m)*4096:=C3 _ hb;grind[ow]
 have nN:∀(σ:H) (n:Nat) (T:List aE),Sat σ T->n*k=cs.length->1<=m->Sat (j7 σ k cs ds (n+m)).2 (.arr k (j7 σ k cs ds (n+m)).1 (cs++ds)::T):=by
  intro σ n T sT hn mB;refine(sT.new (.cells ((n+m)*k) (cs++ds) false)).dM λa r Ea=>⟨kL,.inr ⟨σ.next,n+m,.rest k 0,(n+m)*k,[],U,by rw[fZ];exact Ea,by grind,by grind,U,U,U,U,by omega⟩⟩
 unfold appendV;simp only[hu,hi,hz,hk,hl,ya];rw[show(Nat.ble 1 k&&Nat.ble i.bytes 4096&&Nat.beq k k)=true by simp_all,ag];cases wo:Nat.beq m 0 with
 |true =>
  have:m=0:=beq_iff.1 wo;subst this;have xA:ds=[]:=iZ (by omega);subst xA;obtain⟨m,r,q1,q2,q3⟩:=s.at (k:=0) U;rcases q3.2 with⟨rfl,rfl⟩|⟨id,n,cap,N,rest,rfl,hg,e1,e2,e3,e4⟩
  .grind
  .grind
 |false =>
  have mB:1<=m:=by
   grind[qW]
  obtain⟨a,r,q1,q2,q3⟩:=s.at (k:=0) U;rcases q3.2 with⟨rfl,rfl⟩|⟨id,n,cap,N,rest,rfl,hg,e1,e2,e3,e4⟩
  .have hg:=I 0 (by simp);rw[eW] at hg;simp only[hg,ag];have:=nN h 0 (.arr k .aZ []::X::S) s (by simp) mB;rw[eW] at this;refine⟨_,_,U,?_⟩;exact(this.sG [1]).drop
  .cases cap with
   |exact c =>
    obtain⟨e4,e5⟩:=e4;simp only[eW];have kR:(cs++rest).take cs.length=cs:=fY U;cases hq:Nat.ble (n+m) c with
    |true =>
     have Bn:=aS.1 hq;have dx:n*k+ds.length<=N:=by rw[hm,<-rM,e4];exact nB _ Bn
     rw[y9 (q1 _ _ hg) (by grind) dx];obtain⟨m',r',p1,p2,p3,x1,x2,x3,x4,x5,⟨_,x6⟩,x7⟩:=s.ok;have pK:x1 id=some (.cells N (cs++rest) false):=by
      rcases x6 with⟨x6,_⟩|⟨w8,n',Bx,N',X4,x6,x8,x9,Yf,_⟩
      .cases x6
      .injection x6 with y1 y2 y3 y4;subst y1;rw[x8];have:=p1 _ _ (x4 _ _ x8);rw[q1 _ _ hg] at this;injection this with this;rw[this]
     have s0:Sat h (pt id (.cells N (cs++rest) false)::X::S):=⟨s.wf,m',r',p1,p2,p3,x1,x2,x3,x4,x5,pK,x7⟩;have s1:=s0.put (k:=0) (o':=.cells N ((cs++rest).take (n*k)++(ds++(cs++rest).drop (n*k+ds.length))) false) U;refine⟨_,_,U,Sat.dM s1 λa' r'' ha=>⟨kL,.inr ⟨id,n+m,.exact c,N,rest.drop ds.length,U,?_,by grind,by grind,?_,e4,Bn⟩⟩⟩
     .have ha':a' id=some (.cells N ((cs++rest).take (n*k)++(ds++(cs++rest).drop (n*k+ds.length))) false):=ha;simp_all[vJ]
     .grind
    |false =>
     rw[aT,I n e1.symm,ag,pN (q1 _ _ hg) (by grind)];rw[ga,<-e1,kR];have:=nN h n _ s e1.symm mB;exact⟨_,_,U,(this.sG [1]).drop⟩
   |rest e' alt =>
    obtain⟨ek,rfl,rfl,e7⟩:=e4;have ek:=ek.symm;subst ek;simp only[kg,ag,fZ,eW] at hg e2 ⊢;have wq:fF h id 0 k=n:=by
     simp only[fF,q1 _ _ hg];grind[Nat.mul_div_cancel]
    rw[wq];rw[show Nat.ble (n+m) n=false by
     grind[aS],aT,I n e1.symm,show Nat.ble 2 ((n+m)*k)=true from aS.2 (by
      have:2*1<=(n+m)*k:=tG (by omega) h1;omega),kf,ag,pN (q1 _ _ hg) (by omega),q1 _ _ hg]
    simp only;obtain⟨m',r',p1,p2,p3,x1,x2,x3,x4,x5,⟨_,x6⟩,x7⟩:=s.ok;have pK:x1 id=some (.cells N cs false):=by
     grind
    have s0:Sat h (pt id (.cells N cs false)::X::S):=⟨s.wf,m',r',p1,p2,p3,x1,x2,x3,x4,x5,pK,x7⟩;have:=nN (h.put id none) n _ s0.kill e1.symm mB;rw[ga,h_ (by omega)];exact⟨_,_,U,this⟩
theorem iw (s:Sat h (.arr k v cs::.arr k w ds::S)){i:TypeInfo}(hu:P.underlying t=some (.slice e))(hi:P.info? e=some i)(hz:zeroT P e=some z)(hk:i.size=k)(hb:i.bytes<=4096)(hl:z.cells.length=k)
 (h1:1<=k)(I:cs.length+ds.length<=1073741824):
  ∃v' h',appendV P h #[t,t] v w=some (v',h')/\Sat h' (.arr k v' (cs++ds)::.arr k w ds::S):=VH (jg _ _ _) s hu hi hz hk hb hl h1 I
def roH (k:Nat)(v:V)(cs:List V): aE:=.xs λo:Option (Nat×Nat×Cap×Nat×List V)=>match o with
 |none=>.pu (cs.all storable=true/\v=.aZ/\cs=[])
 |some (id,n,cap,N,rest)=>.an (.ro id (.cells N (cs++rest) false)) (.pu (cs.all storable=true/\v=.sl id 0 n cap/\cs.length=n*k/\cs.length+rest.length=N/\rest.all storable=true /\
  (match cap with|.exact c=>N=c*k/\n<=c|.rest e alt=>e=k/\alt=0/\rest=[]/\1<=n)))
theorem F2 (k:Nat)(v:V)(cs:List V): Oi (roH k v cs) k v cs:=λm r h=>by
 obtain⟨_|⟨id,n,cap,N,rest⟩,h⟩:=h
 .exact .inr ⟨h.1,.inl h.2⟩
 .exact .inr ⟨h.2.1,.inr ⟨id,n,cap,N,rest,h.2.2.1,h.1,h.2.2.2⟩⟩
theorem Sat.r8 (s:Sat h (.arr k v cs::S)): Sat h (roH k v cs::S):=by
 obtain⟨m,r,h1,h2,h3,a,b,g1,g2,g3,⟨I,g4⟩,g5⟩:=s.ok;rcases g4 with⟨e1,e2⟩|⟨id,n,cap,N,rest,e,hg,q⟩
 .exact jv.2 ⟨none,s.drop.gJ ⟨I,e1,e2⟩⟩
 .have s1:Sat h (pt id (.cells N (cs++rest) false)::S):=⟨s.wf,m,r,h1,h2,h3,a,b,g1,g2,g3,hg,g5⟩;exact jv.2 ⟨some (id,n,cap,N,rest),s1.freeze.dM λa b hq=>⟨hq,I,e,q⟩⟩
end
section
variable {v w x:V}
theorem Sat.gZ {l:List V}(s:Sat h S)(hk:getA S j=some (pt id (.cells n cs false)))(hs:bq P t=some n)(hl:l.length=n)(I:l.all storable=true):
  ∃h₁,j8 P h t (.ptr id 0) (.agg l)=some h₁/\Sat h₁ (setA S j (pt id (.cells n l false))):=by
 refine⟨h.put id (some (.cells n l false)),?_,s.put hk⟩;simp only[j8,hs,V.cells,I,hl,kg,kf,ag,wrN,s.row hk];grind[aS]
theorem kV (s:Sat h S)(hu:P.underlying t=some (.slice e))(hz:zeroT P e=some z)(hk:bq P e=some k)(hl:z.cells.length=k)(h1:1<=k)(h2:k<=65536)(hx:x.cells.length=k)(I:x.cells.all storable=true):
  ∃v h',buildSliceV P h t 1 [(0,x)]=some (v,h')/\Sat h' (.arr k v x.cells::S):=by
 refine⟨.sl h.next 0 1 (.exact 1),newRow h x.cells,?_,?_⟩
 .grind[buildSliceV,repeatL,fillV,Nat.beq_refl,aS]
 .refine(s.new _).dM λm r hm=>⟨I,.inr ⟨h.next,1,.exact 1,k,[],U,?_,by omega,by omega,U,by omega,aH _⟩⟩
  rw[hm,hx,fZ]
end
section
variable {v w x:V}
theorem ViewM.slice {m:PM}(hv:ViewM m v l)(mA:a<=b)(hb:b<=l.length): ViewM m (slR v a b) ((l.take b).drop a):=by
 have I:∀x∈(l.take b).drop a,x<256:=λx hx=>hv.1 x (iM (i_ hx));have hlen:((l.take b).drop a).length=b-a:=by grind
 obtain⟨hl,KL⟩:=hv;rcases KL with⟨rfl|⟨ea,rfl⟩,rfl⟩|⟨id,off,cap,n,cs,st,rfl,hg,h1,h2,h3,h4⟩
 .simp at hb
  subst_vars
  exact⟨by simp,.inl ⟨.inl U,by simp⟩⟩
 .simp at hb
  subst_vars
  exact⟨by simp,.inl ⟨.inr ⟨ea,U⟩,by simp⟩⟩
 .have JR:∀o,o=off+a\/b-a=0->(cs.drop o).take (b-a)=ofBytes ((l.take b).drop a):=by
   grind[ofBytes,List.map_take,List.map_drop,List.drop_take,List.drop_drop]
  cases cap with
  |exact c =>
   refine⟨I,.inr ⟨id,_,_,n,cs,st,by rw[hlen];rfl,hg,h1,?_,?_,?_⟩⟩<;>grind[fM]
  |rest e alt =>
   exact⟨I,.inr ⟨id,_,_,n,cs,st,by rw[hlen];rfl,hg,h1,by omega,by grind,U⟩⟩
theorem Ey (hX:cC X (cK v l))(I:a<=b)(hb:b<=l.length): cC X (cK (slR v a b) ((l.take b).drop a)):=λm r hm =>
 (hX m r hm).imp (λh=>ViewM.slice h I hb) (λh=>ViewM.slice h I hb)
theorem Oj (I:cC X (cK v l))(ha:a<=l.length): cC X (cK (slR v a l.length) (l.drop a)):=by
 grind[Ey,List.take_length]
theorem Sat.mq (s:Sat h S): Sat h (.arr k .aZ []::S):=(s.gJ aa).dM λ_ _ _=>⟨U,.inl ⟨U,U⟩⟩
theorem Sat.F3 (s:Sat h S): Sat h (bf .aZ []::S):=(s.gJ aa).dM λ_ _ _=>⟨by simp,.inl ⟨U,U⟩⟩
theorem Sat.ug (s:Sat h S): Sat h (og .aZ []::S):=(s.gJ aa).dM λ_ _ _=>⟨by simp,.inl ⟨.inl U,U⟩⟩
theorem I1 (s:Sat h S){i:TypeInfo}(hu:P.underlying t=some (.slice e))(hi:P.info? e=some i)(I:zeroT P e=some z)(hk:i.size=k)(hb:i.bytes<=4096)(hl:z.cells.length=k)
 (h1:1<=k)(hn:n<1073741824):
  ∃id h',makeSliceV P h t (.int .i64 (n:Int)) (.int .i64 (n:Int))=some (.sl id 0 n (.exact n),h')/\Sat h' (pt id (.cells (n*k) (repeatL z.cells n) false)::S):=by
 refine⟨h.next,h.new (.cells (n*k) (repeatL z.cells n) false),?_,s.new _⟩<;>grind[makeSliceV,aS,Nat.beq_refl]
theorem tO {o:Nat}{c:Cap}(hv:v=.sl i o n c)(hu:P.underlying t=some (.slice e)): lenV P h t v=some (.int .i64 n):=by subst hv;exact Sw hu
theorem aex {ts:Array TypeId}{k:IntKind}{a b:Int}: builtinV P h .min ts [.int k a,.int k b]=some (.int k (min a b),h):=by
 grind[builtinV,foldV,Bi,fe]
theorem KO {c:Go.Call}{b:Builtin}(I:c.callee=.builtin b)(ha:lookArgs E c.args.toList=some args)(hf:builtinV P h b c.argTypes args=some (r,h')): opE P E h (.call c)=some (r,h'):=by
 simp only[opE,I,ha,hf]
end
def slR3 (v:V)(a b m:Nat): V:=match v with
 |.sl id off _ _=>.sl id (cond (Nat.beq m a) off (off+a*1)) (b-a) (.exact (m-a))
 |v=>v
section
variable {v w x:V}
theorem ViewM.slice3 {m:PM}(hv:ViewM m v l)(mA:a<=b)(hb:b<=c)(hc:c<=l.length)(hl:1<=l.length): ViewM m (slR3 v a b c) ((l.take b).drop a):=by
 have I:∀x∈(l.take b).drop a,x<256:=λx hx=>hv.1 x (iM (i_ hx));have hlen:((l.take b).drop a).length=b-a:=by grind
 obtain⟨_,KL⟩:=hv;rcases KL with⟨_,rfl⟩|⟨id,off,cap,n,cs,st,rfl,hg,h1,h2,h3,h4⟩
 .grind
 .have JR:∀o,o=off+a\/b-a=0->(cs.drop o).take (b-a)=ofBytes ((l.take b).drop a):=by
   grind[ofBytes,List.map_take,List.map_drop,List.drop_take,List.drop_drop]
  refine⟨I,.inr ⟨id,_,_,n,cs,st,by rw[hlen];rfl,hg,h1,?_,?_,?_⟩⟩<;>grind[fM]
theorem B0 (hX:cC X (cK v l))(I:a<=b)(hb:b<=c)(hc:c<=l.length)(hl:1<=l.length): cC X (cK (slR3 v a b c) ((l.take b).drop a)):=λm r hm =>
 (hX m r hm).imp (λh=>ViewM.slice3 h I hb hc hl) (λh=>ViewM.slice3 h I hb hc hl)
theorem uh (hv:View h v l)(mA:a<=b)(hb:b<=c)(hc:c<=l.length)(hl:1<=l.length): sliceV Tryz.prog h 29 v (some a) (some b) (some c)=some (slR3 v a b c):=by
 obtain⟨_,I⟩:=hv;rcases I with⟨_,rfl⟩|⟨id,off,cap,n,cs,st,rfl,hg,h1,h2,h3,h4⟩
 .grind
 .cases cap with
  |exact q =>
   simp only[sliceV,slR3,aP,fO,dz];grind[aS]
  |rest e alt =>
   have he:e=1:=h4;subst he;simp only[sliceV,slR3,aP,fO,dz,kg];grind[Nat.blt,aS]
theorem iB (hv:View h v l)(hl:1<=l.length:=by omega): ∃id off cap,v=.sl id off l.length cap:=by
 rcases hv.2 with⟨_,rfl⟩|⟨id,off,cap,_,_,_,rfl,_⟩<;>grind
theorem bN {k:IntKind}{n:Int}(I:0<=n:=by omega): mF (some (V.int k n))=some (some n.toNat):=by
 grind[mF,bndV]
end
section
variable {v w x:V} {m:List Nat}
theorem abJ (s:Sat h S)(hj:getA S j=some (.arr q v cs))(hi:i*q+q<=cs.length)(hq:1<=q)(hu:P.underlying t=some (.slice e))(I:bq P e=some q):
  ∃id off,indexAddrV P t v (.int .i64 (i:Int))=some (.ptr id off)/\(isAggT P e=some true->loadV P h e (.ptr id off)=some (.agg ((cs.drop (i*q)).take q))):=by
 obtain⟨m,r,h1,h2,h3⟩:=s.at hj;rcases h3.2 with⟨_,rfl⟩|⟨id,n,cap,N,rest,rfl,hg,e1,e2,_⟩
 .grind
 .refine⟨id,i*q,?_,λht => ?_⟩
  .simp only[indexAddrV,hu,I,fI];have:i<n:=by
    have h4:i*q+q=(i+1)*q:=by grind
    rw[h4,e1] at hi;exact Ho (G6 hi hq)
   grind
  .rw[ldN ht I (h1 _ _ hg) (by grind) (by omega)];grind
theorem Sat.abK (s:Sat h (bf v l::X::S))(hX:cC X (cK w m)): ∀i∈rowIds w,i∉rowIds v:=by
 intro i hi fH;obtain⟨a,r,h1,h2,h3,b,c,g1,g2,g3,g4,d,e,k1,k2,k3,k4,k5⟩:=s.ok;have hb:=N7 g4 i fH;have hw:∀q:PM,ViewM q w m->q i≠none:=λq hq=>by
  rcases hq.2 with⟨rfl|⟨ea,rfl⟩,_⟩|⟨id,off,cap,n,cs,st,rfl,hg,_⟩<;>grind[rowIds]
 rcases hX _ _ k4 with hq|hq
 .cases hd:d i with
  |none=>grind
  |some o =>
   rcases g1 i with I|I
   .grind
   .rw[k2 _ _ hd] at I;cases I
 .cases hbb:b i with
  |none=>grind
  |some o =>
   rcases h3 i with I|I
   .rw[g2 _ _ hbb] at I;cases I
   .grind
end
abbrev jq := List (Int×V×Nat)
def B1 (κ:IntKind)(e:Int×V×Nat): V×V×Nat:=(.int κ e.1,e.2)
abbrev SF := B1 .i64
def lookE (n:Int): jq->Option V
 |[]=>none
 |e::l=>if e.1=n then some e.2.1 else lookE n l
def q_ (n:Int)(v:V)(c:Nat): jq->jq
 |[]=>[(n,v,c)]
 |e::l=>if e.1=n then(e.1,v,e.2.2)::l else e::q_ n v c l
def tP (n:Int): jq->jq
 |[]=>[]
 |e::l=>if e.1=n then l else e::tP n l
def clkE (n:Int)(c:Nat)(l:jq): Nat:=match lookE n l with
 |some _=>c
 |none=>c+1
abbrev pP (κ:IntKind)(id:Nat)(l:jq)(c:Nat): aE:=pt id (.map (l.map (B1 κ)) c)
abbrev KP := pP .i64
def idxE (n:Int): jq->Nat->Option (Nat×V)
 |[],_=>none
 |e::l,i=>if e.1=n then some (i,e.2.1) else idxE n l (i+1)
theorem sM (a b:Int): intBeq a b=decide (a=b):=by
 grind[xn,uf]
theorem y_ {k:IntKind}{n:Int}: ∀(l:jq) (i:Nat),findK (.int k) (.int κ n) (l.map (B1 κ)) i=some (idxE n l i):=by
 intro l;induction l<;>grind[findK,B1,keyBeq,fe,sM,idxE]
theorem uC {n:Int}: ∀(l:jq) (i:Nat),(idxE n l i).map (·.2)=lookE n l:=by
 intro l;induction l<;>grind[idxE,lookE]
theorem Ol {n:Int}: ∀(l:jq) (i j:Nat) (v:V),idxE n l i=some (j,v)->i<=j:=by
 intro l;induction l<;>grind[idxE]
theorem ads {n:Int}{v:V}: ∀(l:jq) (i j:Nat) (u:V),idxE n l i=some (j,u)->setNth (l.map (B1 κ)) (j-i) (λe=>(e.1,v,e.2.2))=(q_ n v c l).map (B1 κ):=by
 intro l;induction l with
 |nil=>intro i j u h;cases h
 |cons e l ih =>
  intro i j u h;simp only[idxE] at h;simp only[q_,gB,setNth];by_cases he:e.1=n
  .rw[ay he] at h;injection h with h;injection h with I h2;subst I;rw[ay he,gK];rfl
  .rw[ai he] at h;have h3:=Ol _ _ _ _ h;grind[fM]
theorem abL {n:Int}: ∀(l:jq) (i j:Nat) (u:V),idxE n l i=some (j,u)->nJ (l.map (B1 κ)) (j-i)=(tP n l).map (B1 κ):=by
 intro l;induction l with
 |nil=>intro i j u h;cases h
 |cons e l I =>
  intro i j u h;simp only[idxE] at h;simp only[tP,gB,nJ];by_cases he:e.1=n
  .simp_all
  .rw[ai he] at h;have h3:=Ol _ _ _ _ h;grind[fM]
theorem ZD {n:Int}{v:V}: ∀(l:jq),lookE n l=none->q_ n v c l=l++[(n,v,c)]:=by
 intro l;induction l<;>grind[lookE,q_]
theorem VI {n:Int}: ∀(l:jq),lookE n l=none->tP n l=l:=by
 intro l;induction l<;>grind[lookE,tP]
section
variable {v:V} {k:IntKind} {l:jq} {n:Int}
theorem Sat.adt (s:Sat h S)(I:getA S j=some (pP κ id l c))(hu:P.underlying t=some (.map kt et))(hk:P.underlying kt=some (.int k))(hz:zeroT P et=some z):
  gC P h t (.map id) (.int κ n) true=some (match lookE n l with|some v=>.aX [v,.bool true]|none=>.aX [z,.bool false]):=by
 have hg:=s.row I;simp only[gC,lookupV,hu,hk,hz,hg,keyBeq,fe,ag,y_];rw[<-uC l 0];cases idxE n l 0<;>grind
theorem Sat.adu (s:Sat h S)(I:getA S j=some (pP κ id l c))(hu:P.underlying t=some (.map kt et))(hk:P.underlying kt=some (.int k))(hz:zeroT P et=some z):
  gC P h t (.map id) (.int κ n) false=some (match lookE n l with|some v=>v|none=>z):=by
 have hg:=s.row I;simp only[gC,lookupV,hu,hk,hz,hg,keyBeq,fe,ag,y_];rw[<-uC l 0];cases idxE n l 0<;>grind
theorem Sat.update (s:Sat h S)(hj:getA S j=some (pP κ id l c))(hu:P.underlying t=some (.map kt et))(hk:P.underlying kt=some (.int k)):
  ∃h',mapUpdateV P h t (.map id) (.int κ n) v=some h'/\Sat h' (setA S j (pP κ id (q_ n v c l) (clkE n c l))):=by
 have hg:=s.row hj;refine⟨h.put id (some (.map ((q_ n v c l).map (B1 κ)) (clkE n c l))),?_,s.put hj⟩;simp only[mapUpdateV,hu,hk,hg,keyBeq,fe,ag,y_];have hl:=uC (n:=n) l 0;cases I:idxE n l 0 with
 |none =>
  rw[I] at hl;have hl:lookE n l=none:=hl.symm;simp only[clkE,hl,ZD l hl,rJ];rfl
 |some q =>
  obtain⟨i,u⟩:=q;rw[I] at hl;have hl:lookE n l=some u:=hl.symm;simp only[clkE,hl];rw[<-ads (v:=v) (c:=c) l 0 i u I,ie]
theorem Sat.delete (s:Sat h S)(I:getA S j=some (pP κ id l c))(hu:P.underlying t=some (.map kt et))(hk:P.underlying kt=some (.int k)):
  ∃h',rP P h t (.map id) (.int κ n)=some h'/\Sat h' (setA S j (pP κ id (tP n l) c)):=by
 have hg:=s.row I;simp only[rP,hu,hk,hg,keyBeq,fe,ag,y_];have hl:=uC (n:=n) l 0;cases hq:idxE n l 0 with
 |none =>
  rw[hq] at hl;have hl:lookE n l=none:=hl.symm;refine⟨h,U,?_⟩;rw[VI l hl];have:∀(S:List aE) (j:Nat) (A:aE),getA S j=some A->setA S j A=S:=by
   intro S;induction S with
   |nil=>intro j A h;cases h
   |cons B S ih =>
    intro j A h;cases j<;>grind[getA,setA]
  rw[this S j _ I];exact s
 |some q =>
  obtain⟨i,u⟩:=q;refine⟨_,U,?_⟩;have e:=abL (κ:=κ) l 0 i u hq;rw[ie] at e;rw[e];exact s.put I
theorem Sat.aey (s:Sat h S)(I:getA S j=some (pP κ id l c))(hu:P.underlying t=some (.map kt et)): lenV P h t (.map id)=some (.int .i64 (l.length:Int)):=by
 have hg:=s.row I;simp_all[lenV]
end
section
variable {o:Oper} {z:Operand} {a b v:V}
theorem OpR.upd (hE:∀env,mj env E->evOp C (ev C 0) env h o=(match mapUpdateV C.P h t a b v with|some h'=>some (cX,h')|none=>none))
 (ho:∃h₁,mapUpdateV C.P h t a b v=some h₁/\Sat h₁ S'): OpR C E h o λ_ h₁=>Sat h₁ S':=by
 obtain⟨h₁,e1,I⟩:=ho;exact⟨cX,h₁,I,λenv he=>⟨0,by grind⟩⟩
theorem OpR.mapUpdate (I:o.op=.mapUpdate t x y z)(hx:bE E x=some a)(hy:bE E y=some b)(hz:bE E z=some v)
 (ho:∃h₁,mapUpdateV C.P h t a b v=some h₁/\Sat h₁ S'): OpR C E h o λ_ h₁=>Sat h₁ S':=by
 refine OpR.upd (t:=t) (a:=a) (b:=b) (v:=v) (λenv he => ?_) ho;simp only[evOp,I,cE he hx,cE he hy,cE he hz,w9];cases mapUpdateV C.P h t a b v<;>rfl
theorem OpR.builtin {bi:Builtin}{R:V->H->Prop}(I:o.op=.call cl)(hc:cl.callee=.builtin bi)(ha:lookArgs E cl.args.toList=some args)(ho:∃v h₁,builtinV C.P h bi cl.argTypes args=some (v,h₁)/\R v h₁): OpR C E h o R:=by
 grind[OpR.of,opE]
theorem OpR.qB {m:List Nat}(hP:C.P=Tryz.prog)(s:Sat h (bf v l::X::S))(hX:cC X (cK u m))(I:o.op=.call cl)(hc:cl.callee=.builtin .append)(yV:cl.argTypes = #[29,29])(ha:lookArgs E cl.args.toList=some [v,u])
 (gm:l.length+m.length<=140737488355328): OpR C E h o λv' h₁=>Sat h₁ (bf v' (l++m)::X::S):=by
 grind[Qh,OpR.builtin,builtinV]
theorem OpR.uD (hP:C.P=Tryz.prog)(s:Sat h S)(I:o.op=.makeSlice t x y)(ht:t=29)(hx:bE E x=some (.int .i64 0))(hy:bE E y=some (.int .i64 (c:Int)))(hc:c<1073741824): OpR C E h o λv' h₁=>Sat h₁ (bf v' []::S):=by
 grind[Sz,OpR.of,Al]
theorem OpR.J0 (hP:C.P=Tryz.prog)(s:Sat h S)(I:o.op=.makeSlice t x y)(ht:t=29)(hx:bE E x=some (.int .i64 (c:Int)))(hy:bE E y=some (.int .i64 (c:Int)))(hc:c<1073741824): OpR C E h o λv' h₁=>Sat h₁ (bf v' (List.replicate c 0)::S):=by
 grind[SB,OpR.of,Al]
theorem OpR.adv {m:List Nat}{p:Nat}(hP:C.P=Tryz.prog)(s:Sat h (bf v l::X::S))(hX:cC X (cK u m))(I:o.op=.call cl)(hc:cl.callee=.builtin .copy)(yV:cl.argTypes = #[29,29])(ha:lookArgs E cl.args.toList=some [slR v p q,u])
 (hpq:p<q)(hq:q<=l.length)(hm:1<=m.length): OpR C E h o λ_ h₁=>Sat h₁ (bf v (az l p (m.take (q-p)))::X::S):=by
 grind[KN,OpR.builtin,builtinV]
theorem OpR.J1 (hP:C.P=Tryz.prog)(s:Sat h S)(I:o.op=.buildSlice t 1 ps)(ht:t=29)(hx:lookParts E ps.toList=some [(0,.int .u8 (n:Int))])(hn:n<256): OpR C E h o λv' h₁=>Sat h₁ (bf v' [n]::S):=by
 grind[SC,OpR.of,je]
end
section
def lookL (n:Int): List (Int×α)->Option α
 |[]=>none
 |e::l=>if e.1=n then some e.2 else lookL n l
def cD (n:Int)(a:α): List (Int×α)->List (Int×α)
 |[]=>[(n,a)]
 |e::l=>if e.1=n then(n,a)::l else e::cD n a l
def qC (n:Int): List (Int×α)->List (Int×α)
 |[]=>[]
 |e::l=>if e.1=n then l else e::qC n l
theorem mU {n k:Int}{a:α}: ∀l:List (Int×α),lookL k (cD n a l)=if n=k then some a else lookL k l:=by
 intro l;induction l<;>grind[cD,lookL]
theorem vu {n:Int}: ∀ {l:List (Int×α)},lookL n l=none↔n∉l.map (·.1):=by
 intro l;induction l<;>grind[lookL]
theorem I2 {n k:Int}: ∀ {l:List (Int×α)},(l.map (·.1)).Nodup->lookL k (qC n l)=if n=k then none else lookL k l:=by
 intro l;induction l<;>grind[qC,lookL,vu]
theorem wI {n:Int}{a:α}: ∀ {l:List (Int×α)} {k:Int},k∈(cD n a l).map (·.1)↔k=n\/k∈l.map (·.1):=by
 intro l;induction l<;>grind[cD]
theorem oA {n:Int}{a:α}: ∀ {l:List (Int×α)},(l.map (·.1)).Nodup->((cD n a l).map (·.1)).Nodup:=by
 intro l;induction l<;>grind[cD,wI]
theorem VJ {n:Int}: ∀ {l:List (Int×α)} {k:Int},k∈(qC n l).map (·.1)->k∈l.map (·.1):=by
 intro l;induction l<;>grind[qC]
theorem Au {n:Int}: ∀ {l:List (Int×α)},(l.map (·.1)).Nodup->((qC n l).map (·.1)).Nodup:=by
 intro l;induction l<;>grind[qC,VJ]
def jE (f:V->α->aE): jq->List (Int×α)->aE
 |[],[]=>.pu True
 |e::l,x::m=>.an (.an (.pu (e.1=x.1)) (f e.2.1 x.2)) (jE f l m)
 |_,_=>.pu False
variable {f:V->α->aE} {a b:PM}
theorem F4 : ∀ {l:jq} {m:List (Int×α)},(jE f l m).p a b->l.map (·.1)=m.map (·.1):=by
 intro l;induction l with
 |nil=>intro m h;cases m with
  |nil=>rfl
  |cons x m=>exact h.elim
 |cons e l I=>intro m h;cases m with
  |nil=>exact h.elim
  |cons x m=>simp only[gB];rw[h.1.1,I h.2]
theorem vy {n:Int}: ∀ {l:jq} {m:List (Int×α)},(jE f l m).p a b->(lookE n l=none/\lookL n m=none)\/∃u x,lookE n l=some u/\lookL n m=some x/\(f u x).p a b:=by
 intro l;induction l with
 |nil=>intro m h;cases m with
  |nil=>exact .inl ⟨U,U⟩
  |cons x m=>exact h.elim
 |cons e l ih=>intro m h;cases m with
  |nil=>exact h.elim
  |cons x m =>
   obtain⟨⟨I,h2⟩,h3⟩:=h;have I:e.1=x.1:=I;grind[lookE,lookL]
theorem SG {n:Int}{x:α}(hu:(f u x).p a b): ∀ {l:jq} {m:List (Int×α)},(jE f l m).p a b->(jE f (q_ n u c l) (cD n x m)).p a b:=by
 intro l;induction l with
 |nil=>intro m h;cases m with
  |nil=>exact⟨⟨U,hu⟩,aa⟩
  |cons x m=>exact h.elim
 |cons e l ih=>intro m h;cases m with
  |nil=>exact h.elim
  |cons y m =>
   obtain⟨⟨I,h2⟩,h3⟩:=h;have I:e.1=y.1:=I;simp only[q_,cD,<-I];by_cases he:e.1=n
   .rw[ay he,ay he];exact⟨⟨he,hu⟩,h3⟩
   .rw[ai he,ai he];exact⟨⟨I,h2⟩,ih h3⟩
theorem SH {n:Int}: ∀ {l:jq} {m:List (Int×α)},(jE f l m).p a b->(jE f (tP n l) (qC n m)).p a b:=by
 intro l;induction l with
 |nil=>intro m h;cases m with
  |nil=>trivial
  |cons x m=>exact h.elim
 |cons e l ih=>intro m h;cases m with
  |nil=>exact h.elim
  |cons y m =>
   obtain⟨⟨I,h2⟩,h3⟩:=h;have I:e.1=y.1:=I;simp only[tP,qC,<-I];by_cases he:e.1=n
   .grind
   .rw[ai he,ai he];exact⟨⟨I,h2⟩,ih h3⟩
theorem aI.VK (I:∀u x,aI (f u x)): ∀(l:jq) (m:List (Int×α)),aI (jE f l m):=by
 intro l;induction l with
 |nil=>intro m;cases m<;>exact aI.pu _
 |cons e l ih=>intro m;cases m with
  |nil=>exact aI.pu _
  |cons x m=>exact aI.an (aI.an (aI.pu _) (I _ _)) (ih m)
def sN (c:Nat): Nat->jq->Prop
 |_,[]=>True
 |b,e::l=>b<=e.2.2/\e.2.2<c/\sN c (e.2.2+1) l
theorem Qi : ∀ {l:jq} {b b':Nat},b'<=b->sN c b l->sN c b' l:=by
 intro l;cases l with
 |nil=>intro b b' _ _;trivial
 |cons e l=>intro b b' h I;exact⟨cN h I.1,I.2⟩
theorem SI {k:Int}(hn:n=c): ∀ {l:jq} {b:Nat},b<=c->sN c b l->sN (clkE k c l) b (q_ k u n l):=by
 subst hn;intro l;induction l with
 |nil=>intro b hb _;exact⟨hb,tC _,aa⟩
 |cons e l ih =>
  intro b hb h;have I:=ih (b:=e.2.2+1) (by have:=h.2.1;omega) h.2.2;by_cases he:e.1=k
  .simp only[q_,clkE,lookE,ay he];exact h
  .simp only[q_,clkE,lookE,ai he];refine⟨h.1,?_,I⟩;have:=h.2.1;split<;>omega
theorem SJ {k:Int}: ∀ {l:jq} {b:Nat},sN c b l->sN c b (tP k l):=by
 intro l;induction l with
 |nil=>intro b h;exact h
 |cons e l I =>
  intro b h;simp only[tP];by_cases he:e.1=k
  .rw[ay he];exact Qi (by have:=h.1;omega) h.2.2
  .rw[ai he];exact⟨h.1,h.2.1,I h.2.2⟩
def sO (κ:IntKind)(f:V->α->aE)(v:V)(m:List (Int×α)): aE :=
 xs λid:Nat=>xs λl:jq=>xs λc:Nat=>star [.pu (v=.map id/\sN c 0 l/\(m.map (·.1)).Nodup),pP κ id l c,jE f l m]
abbrev pQ {α:Type}(f:V->α->aE)(v:V)(m:List (Int×α)): aE:=sO .i64 f v m
section
variable {v:V} {k:IntKind} {m:List (Int×α)} {n:Int} {x:α}
theorem lR : Sat h (sO κ f v m::S)↔∃id l c,v=.map id/\sN c 0 l/\(m.map (·.1)).Nodup/\Sat h (pP κ id l c::jE f l m::S):=by
 simp[sO,jv,cY,uA,and_assoc]
theorem xB : Sat h (pQ f v m::S)↔∃id l c,v=.map id/\sN c 0 l/\(m.map (·.1)).Nodup/\Sat h (KP id l c::jE f l m::S):=lR
theorem oh (hf:∀u x,aI (f u x))(s:Sat h (sO κ f v m::S))(hu:P.underlying t=some (.map kt et))(I:P.underlying kt=some (.int k))(hz:zeroT P et=some z):
  (lookL n m=none/\gC P h t v (.int κ n) true=some (.aX [z,.bool false])/\gC P h t v (.int κ n) false=some z) \/
  ∃u x,lookL n m=some x/\gC P h t v (.int κ n) true=some (.aX [u,.bool true])/\gC P h t v (.int κ n) false=some u/\Sat h (f u x::sO κ f v m::S):=by
 obtain⟨id,l,c,rfl,hb,hn,s1⟩:=lR.1 s;have e2:=s1.adt (n:=n) (j:=0) U hu I hz;have e1:=s1.adu (n:=n) (j:=0) U hu I hz;obtain⟨a,b,q1,q2,q3⟩:=s1.at (k:=1) U;rcases vy (n:=n) q3 with⟨g1,g2⟩|⟨u,x,g1,g2,g3⟩
 .grind
 .rw[g1] at e1 e2;refine .inr ⟨u,x,g2,e2,e1,?_⟩;have s2:Sat h (jE f l m::pP κ id l c::S):=s1.sG [1];have s3:=s2.dup (aI.VK hf l m);have s4:Sat h (f u x::jE f l m::pP κ id l c::S):=s3.dM λa' b' h'=>by
   grind[vy]
  have s5:Sat h (pP κ id l c::jE f l m::f u x::S):=s4.sG [2,1];exact(lR.2 ⟨id,l,c,U,hb,hn,s5⟩:Sat h (sO κ f (.map id) m::f u x::S)).sG [1]
theorem oB (I:∀u x,aI (f u x))(s:Sat h (f u x::sO κ f v m::S))(hu:P.underlying t=some (.map kt et))(hk:P.underlying kt=some (.int k)):
  ∃h',mapUpdateV P h t v (.int κ n) u=some h'/\Sat h' (sO κ f v (cD n x m)::S):=by
 have s0:Sat h (sO κ f v m::f u x::S):=s.sG [1];obtain⟨id,l,c,rfl,hb,hn,s1⟩:=lR.1 s0;obtain⟨h',e1,e2⟩:=s1.update (n:=n) (v:=u) (j:=0) U hu hk;refine⟨h',e1,?_⟩;have e3:Sat h' (f u x::jE f l m::pP κ id (q_ n u c l) (clkE n c l)::S):=e2.sG [2,1];have e4:Sat h' (jE f (q_ n u c l) (cD n x m)::pP κ id (q_ n u c l) (clkE n c l)::S):=e3.map λa b h=>by
  obtain⟨p1,p2,d1,d2,d3,d4,p3,p4,d5,d6,d7,d8,d9⟩:=h;exact⟨λ_=>none,p4,λ_=>.inl U,λ_ _ h=>(by cases h),PM.le_trans d7 d3,SG (I _ _ _ _ d4) (aI.VK I _ _ _ _ d8),d9⟩
 exact lR.2 ⟨id,_,_,U,SI U (gh _) hb,oA hn,e4.sG [1]⟩
theorem VL (s:Sat h (sO κ f v m::S))(hu:P.underlying t=some (.map kt et))(I:P.underlying kt=some (.int k)):
  ∃h',rP P h t v (.int κ n)=some h'/\Sat h' (sO κ f v (qC n m)::S):=by
 obtain⟨id,l,c,rfl,hb,hn,s1⟩:=lR.1 s;obtain⟨h',e1,e2⟩:=s1.delete (n:=n) (j:=0) U hu I;refine⟨h',e1,?_⟩;have e3:Sat h' (jE f l m::pP κ id (tP n l) c::S):=e2.sG [1];have e4:Sat h' (jE f (tP n l) (qC n m)::pP κ id (tP n l) c::S):=e3.dM λa b h=>SH h;exact lR.2 ⟨id,_,_,U,SJ hb,Au hn,e4.sG [1]⟩
theorem VM (s:Sat h (sO κ f v m::S))(hu:P.underlying t=some (.map kt et)): lenV P h t v=some (.int .i64 (m.length:Int)):=by
 obtain⟨id,l,c,rfl,hb,hn,s1⟩:=lR.1 s;have e:=s1.aey (j:=0) U hu;obtain⟨a,b,q1,q2,I⟩:=s1.at (k:=1) U;have:=dg List.length (F4 I);grind
theorem VN (s:Sat h (pt id (.map [] 0)::S)): Sat h (sO κ f (.map id) []::S):=by
 have s1:Sat h (jE f [] []::pt id (.map [] 0)::S):=s.gJ aa;exact lR.2 ⟨id,[],0,U,aa,by simp,s1.sG [1]⟩
theorem ri (s:Sat h (pt id (.map [] 0)::S)): Sat h (pQ f (.map id) []::S):=VN s
theorem KQ (s:Sat h S)(I:getA S j=some (sO κ f v m)): ∃id,v=.map id:=by
 have s1:=s.take j I;grind[lR]
end
end
theorem OpR.delete {o:Oper}{u:TypeId}{m k:V}(I:o.op=.call cl)(hc:cl.callee=.builtin .delete)(yV:cl.argTypes = #[t,u])(ha:lookArgs E cl.args.toList=some [m,k])
 (ho:∃h₁,rP C.P h t m k=some h₁/\Sat h₁ S'): OpR C E h o λ_ h₁=>Sat h₁ S':=by
 obtain⟨h₁,e1,e2⟩:=ho;refine OpR.builtin I hc ha ⟨.aX [],h₁,?_,e2⟩<;>grind[builtinV]
end Go.Proofs.YtdonpgpfplgigaaGreat.Am
