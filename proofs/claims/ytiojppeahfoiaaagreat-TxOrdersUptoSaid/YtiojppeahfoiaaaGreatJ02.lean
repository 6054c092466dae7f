/- TxOrders: a part of its proof; conditions: its statement's. -/
import Derived.Test.YtiojppeahfoiaaaGreatJ01
import Derived.Scope
import Derived.Test.YtiojppeahfoiaaaGreatProg
import Derived.KernelRfl
import Derived.Shelf.SlIterI.Sorted
import Derived.Defers
import Derived.Recover
set_option linter.defProp false
namespace Go.Proofs.YtiojppeahfoiaaaGreat.Am
open Go
def aM:=@Tryz.underlying23
def A_:=@Tryz.func217
abbrev cE:=Nat→Option (List V→H→Option (V×H))
variable {ps:Array (Nat×Operand)} {ops:Array Oper} {st:Bool} {C:dR} {code:Code} {c₀:Ctx} {env:Env} {Q:Ex→List (Nat×V)→H→Prop} {fn:Func} {f:FuncId} {h h' σ h₁ cJ:H} {κ:IntKind} {E E':List (Nat×V)} {R:List (Nat×V)→H→Prop} {d₀:List Deferred} {hs:List H} {dy es l:List Nat} {L rest:List Oper} {args first cap vs cs ds:List V} {a b i c k id n d off j g lP k' q:Nat} {Hs:Nat→H} {early:Nat→Option (Nat×FV)} {Fl:Nat→Prop} {vv:Nat→V} {o:Oper} {x y:Operand} {P:Program} {φ:Prop} {self:Self} {s s':St} {α:Type} {td:TypeDesc} {t t' e kt et:TypeId} {r u z:V} {wP:V→H→Prop} {w₀:World}
theorem Pg {a b:IntKind}(h:ikBeq a b=true): a=b:=by cases a<;>cases b<;>first|rfl|(simp[ikBeq] at h)
theorem sP {a b:Int}(h:intBeq a b=true): a=b:=by
 cases a<;>cases b<;>simp[intBeq] at h<;>rw[h]
theorem Ba : ∀ {a b:List Nat},natsBeq a b=true→a=b
 |[],[],_=>rfl
 |[],_::_,h=>by simp[natsBeq] at h
 |_::_,[],h=>by simp[natsBeq] at h
 |x::a,y::b,h=>by
  simp only[natsBeq] at h
  cases I:Nat.beq x y with
  |false=>grind
  |true=>rw[I,ai] at h;rw[beq_iff.1 I,Ba h]
theorem Mm {a b:Cap}(h:a.beq b=true): a=b:=by
 cases a<;>cases b<;>simp[Cap.beq] at h
 ·rw[h]
 ·grind
mutual
theorem CO : ∀(a b:V),V.beq a b=true→a=b
 |.bool a,b,h=>by cases b<;>simp[V.beq] at h;rw[h]
 |.int j a,b,h=>by
  cases b<;>simp[V.beq] at h
  rw[Pg h.1,sP h.2]
 |.str a,b,h=>by cases b<;>simp[V.beq] at h;rw[Ba h]
 |.a_,b,h=>by cases b<;>simp[V.beq] at h;rfl
 |.ptr x y,b,h=>by cases b<;>simp[V.beq] at h;rw[h.1,h.2]
 |.aO,b,h=>by cases b<;>simp[V.beq] at h;rfl
 |.sl x y z u,b,h=>by
  cases b<;>simp[V.beq] at h
  rw[h.1.1.1,h.1.1.2,h.1.2,Mm h.2]
 |.jc,b,h=>by cases b<;>simp[V.beq] at h;rfl
 |.map x,b,h=>by cases b<;>simp[V.beq] at h;rw[h]
 |.fn f x y,b,h=>by
  cases f with
  |func k=>cases b with
   |fn g u v=>cases g with
    |func j =>
     simp[V.beq] at h
     rw[h.1.1,rM x u h.1.2,rM y v h.2]
    |_=>simp[V.beq] at h
   |_=>simp[V.beq] at h
  |_=>cases b<;>simp[V.beq] at h
 |.Dr,b,h=>by cases b<;>simp[V.beq] at h;rfl
 |.iface t v,b,h=>by
  cases b<;>simp[V.beq] at h
  rw[h.1,CO v _ h.2]
 |.ig,b,h=>by cases b<;>simp[V.beq] at h;rfl
 |.agg l,b,h=>by cases b<;>simp[V.beq] at h;rw[rM l _ h]
 |.aI l,b,h=>by cases b<;>simp[V.beq] at h;rw[rM l _ h]
 |.AP _,b,h=>by cases b<;>simp[V.beq] at h
 |.sle a,b,h=>by cases b<;>simp[V.beq] at h;rw[h]
 |.rz k x,b,h=>by
  cases b with
  |rz j y =>
   simp[V.beq] at h
   rw[h.2]
   cases k<;>cases j<;>first|rfl|(simp[fkBeq] at h)
  |_=>simp[V.beq] at h
theorem rM : ∀(a b:List V),V.beqL a b=true→a=b
 |[],b,h=>by cases b<;>simp[V.beqL] at h;rfl
 |x::a,b,h=>by
  cases b with
  |nil=>simp[V.beqL] at h
  |cons y b =>
   simp only[V.beqL] at h
   cases I:V.beq x y with
   |false=>rw[I] at h;cases h
   |true=>rw[I,ai] at h;rw[CO x y I,rM a b h]
end
theorem CP {m:Nat}: ∀(es:List Nat),(∀idx p,idx<jO m es→es[idx]?=some p→bit m p=true)∧jO m es≤es.length:=by
 intro es
 induction es<;>grind[jO]
theorem Ph {m:Nat}: ∀(es:List Nat),nW m es=true→∀(I J p q:Nat),I≤J→es[I]?=some p→es[J]?=some q→bit m q=true→bit m p=true:=by
 intro es
 induction es<;>grind[nW]
theorem IQ : ∀(es:List Nat),mF dy i es≤es.length∧∀p,es[mF dy i es]?=some p→bit ((nth dy p).getD 0) i=true:=by
 intro es
 induction es<;>grind[mF]
section
theorem Mn {x:Env×V}: ∀(l:List H),sameIn C self L o x l=true→wantedV L x.1 o=true→∀h∈l,∃h',evOp C self x.1 h o=some (x.2,h'):=by
 intro l
 induction l with
 |nil=>simp
 |cons y l I =>
  intro hs hw h hm
  simp only[sameIn,hw,ai] at hs
  cases he:evOp C self x.1 y o with
  |none=>grind
  |some r =>
   grind[CO]
theorem DC : ∀(l:List Oper) (tr:List (Env×V)) (k:Nat),stayOk C self L dy es hs l tr k=true →
  ∀j o x,l[j]?=some o→tr[j]?=some x→isEff C o.op=false →
   nW ((nth dy (k+j)).getD 0) es=true∧(jO ((nth dy (k+j)).getD 0) es=mF dy (k+j) es ∨
    sameIn C self L o x ((hs.drop (jO ((nth dy (k+j)).getD 0) es)).take (mF dy (k+j) es+1-jO ((nth dy (k+j)).getD 0) es))=true):=by
 intro l
 induction l with
 |nil=>simp
 |cons y l I =>
  intro tr k h j o x ho J he
  cases tr with
  |nil=>grind
  |cons z tr =>
   simp only[stayOk] at h
   cases j<;>grind[beq_iff]
theorem SO {ops:List Oper}: ∀(l:List Oper) (tr:List (Env×V)),allW ops l tr=true→∀(i:Nat) (o:Oper) (x:Env×V),l[i]?=some o→tr[i]?=some x→isAlloc true o=true→wantedV ops x.1 o=true:=by
 intro l
 induction l with
 |nil=>simp
 |cons y l I =>
  intro tr h i o x ho J ha
  cases tr<;>grind[allW]
theorem Et (h:isAlloc false o=true): isAlloc true o=true∧o.guard=none:=by
 grind[isAlloc]
theorem Pj {z:St}(hr:nX C self L s=some z):
    ∃Fl st vv Hs,fZ C self Fl L s st vv (dz C L 0) Hs∧st L.length=z∧L.all (fun o => !E0 o.op)=true:=by
  unfold nX at hr
  cases YF:trace C self L L s [s.h] with
  |none=>grind
  |some q =>
      obtain⟨tr,hs,z'⟩:=q
      simp only[YF] at hr
      cases J:stayOk C self L (ancs L []) (dz C L 0) hs L tr 0 with
      |false=>grind
      |true =>
        rw[J,ai] at hr
        obtain⟨fl,gB,hW,hr⟩:∃fl,m5 C fl L=true∧(∀(i:Nat) (o:Oper) (x:Env×V),L[i]?=some o→tr[i]?=some x→isAlloc fl o=true→isAlloc true o=true∧wantedV L x.1 o=true)∧z'=z:=by
          cases h0:m5 C false L with
          |true =>
            rw[h0,ai] at hr
            refine⟨false,h0,fun i o x _ _ ha => ?_,cx hr⟩<;>grind[Et,wantedV]
          |false =>
            grind[SO]
        subst hr
        simp only[m5,bC] at gB
        obtain⟨⟨⟨s1,s2⟩,s3⟩,s4⟩:=gB
        obtain⟨st,t1,t2,t3,t4,t5⟩:=Pe L 0 s [s.h] tr hs z' YF
        simp only[fF] at t2 t5
        have RE:∀i o,L[i]?=some o→∀e∈o.after,fy e=true→e.on<i:=fun i o ho e he hb=>by
          have:=Fp L 0 s1 i o ho e he hb;omega
        have abv:∀i o,L[i]?=some o→∀j,bit ((nth (ancs L []) i).getD 0) j=true→j<i:=fun i o ho j hj =>
          (Fo RE (fun _=>True) i o ho (fun _ _ _ _ _ _ _ _=>trivial) (fun _ _ _=>trivial) j hj).2
        have I:=(wN (C:=C) L 0).1
        have IJ:∀p,p∈dz C L 0↔∃o,L[p]?=some o∧isEff C o.op=true:=fun p=>by
          grind[Mg]
        have hHs:∀k p,(dz C L 0)[k]?=some p→hs[k+1]?=some (st (p+1)).h:=fun k p hp=>by
          grind
        have hH0:hs[0]?=some s.h:=by grind
        have abl:hs.length=(dz C L 0).length+1:=by grind
        have sG:∀i o,L[i]?=some o→∃h,(st i).put o.dst (((tr[i]?).map (·.2)).getD bR) h=some (st (i+1)) ∧
            (wantedV L (st i).env o=true→evOp C self (st i).env (st i).h o=some (((tr[i]?).map (·.2)).getD bR,h))∧(wantedV L (st i).env o=false→((tr[i]?).map (·.2)).getD bR=bR∧h=(st i).h):=fun i o ho=>by
          grind
        -- all but 'same'; it is wanted for 'heapAt'
        have abw:(∀i o,L[i]?=some o→isEff C o.op=false→∀k,k≤(dz C L 0).length→(∀idx p,idx<k→(dz C L 0)[idx]?=some p→bit ((nth (ancs L []) p).getD 0) i=false) →
              (∀idx p,k≤idx→(dz C L 0)[idx]?=some p→bit ((nth (ancs L []) i).getD 0) p=false) →
              wantedV L (st i).env o=true→∃h',evOp C self (st i).env ((hs[k]?).getD s.h) o=some (((tr[i]?).map (·.2)).getD bR,h')) →
            fZ C self (fun i=>∃o,L[i]?=some o∧isAlloc fl o=true) L s st (fun i=>((tr[i]?).map (·.2)).getD bR) (dz C L 0) (fun k=>(hs[k]?).getD s.h):=fun J4 =>
          { back:=RE
            Kf:=fun j o ho i x hi hx=>by
              have:=Kc L 0 s2 j o ho i x (by omega) hx
              grind
            yt:=fun i o ho ⟨o',Dy,ha⟩=>by
              grind
            Mi:=fun i o ho ⟨o',Dy,ha⟩ j u hu cA=>by
              rw[ho] at Dy
              obtain rfl:=cx Dy
              rcases HO L 0 s3 i o ho ha j u hu (by omega) with h|h<;>grind[Mh]
            pT:=IJ
            sorted:=I
            start:=t1
            step:=sG
            Kg:=by grind
            A7:=fun k p hp=>by grind
            YB:=fun i o ho he=>by
              obtain⟨v,h,e1,_⟩:=t5 i o ho
              have:=(DC L tr 0 J i o _ ho e1 he).1
              grind[Ph]
            same:=J4 }
        refine⟨_,st,_,_,abw ?_,t2,s4⟩
        intro i o ho he k hk h1 h2 hw
        obtain⟨v,h,e1,e2,e3,e4⟩:=t5 i o ho
        obtain⟨g1,g2⟩:=DC L tr 0 J i o _ ho e1 he
        simp only[fF] at g1 g2
        have ZO:jO ((nth (ancs L []) i).getD 0) (dz C L 0)≤k:=tW fun cA=>by
          obtain⟨p,hp⟩:∃p,(dz C L 0)[k]?=some p:=⟨_,bp (by have:=(CP (m:=(nth (ancs L []) i).getD 0) (dz C L 0)).2;omega)⟩<;>grind[CP]
        have abx:k≤mF (ancs L []) i (dz C L 0):=tW fun cA=>by
          grind[IQ]
        have O5:((tr[i]?).map (·.2)).getD bR=v:=by grind
        rw[O5]
        rcases g2 with g2|g2
        · -- its place is known
          have Rx:(st i).h=(hs[k]?).getD s.h:=by
            have vR:k=mF (ancs L []) i (dz C L 0):=by omega
            have cA:∀idx p,idx<k→(dz C L 0)[idx]?=some p→p<i:=fun idx p cA hp=>by
              grind[CP]
            have hge:∀idx p,k≤idx→(dz C L 0)[idx]?=some p→i≤p:=fun idx p hle hp=>by
              obtain⟨q,hq⟩:∃q,(dz C L 0)[k]?=some q:=⟨_,bp (by grind)⟩
              have hb:=(IQ (dy:=ancs L []) (i:=i) (dz C L 0)).2 q (by grind)
              obtain⟨x,hx,_⟩:=(IJ q).1 (bI hq)<;>grind[List.pairwise_iff_getElem]
            exact A8 (Hs:=fun k=>(hs[k]?).getD s.h) sG (fun p=>IJ p) I t1 (by grind) (fun k p hp=>by grind) i k (by grind) hk cA hge
          rw[←Rx]
          exact⟨h,e3 hw⟩
        · have hm:(hs[k]?).getD s.h∈(hs.drop (jO ((nth (ancs L []) i).getD 0) (dz C L 0))).take (mF (ancs L []) i (dz C L 0)+1-jO ((nth (ancs L []) i).getD 0) (dz C L 0)):=by
            have ZP:k<hs.length:=by omega
            refine bI (i:=k-jO ((nth (ancs L []) i).getD 0) (dz C L 0)) ?_
            rw[tU,aF (by omega),Cm,Nat.add_sub_cancel' ZO,bp ZP]
            simp
          exact Mn _ g2 hw _ hm
theorem SP {S:Nat→Prop}(hb:∀i o,L[i]?=some o→∀e∈o.after,fy e=true→e.on<i)(I:∀i o,¬ j0 L S i o): ∀i,i<L.length→S i:=by
 intro i
 induction i using Nat.strongRecOn with
 |_ i ih =>
  intro hi
  refine IC fun J => ?_
  refine I i L[i] ⟨bp hi,J,fun e he RF => ?_⟩<;>grind
theorem fO.done {st:Nat→St}{c:Ctx}{w:World}{S:Nat→Prop}{a:Act}
 (D:fZ C self Fl L s st vv es Hs)(I:fO C self Fl L s st vv es Hs c₀ w₀ d₀ S early k c a w)(jq:∀p,es[k]?=some p→¬ S p)(oU:∀i,i<L.length→S i):
  Rel c (st L.length).h w∧cO c (st L.length).env (st L.length).aj a:=by
 have cA:∀p∈es,p<L.length:=fun p J=>by
  obtain⟨o,ho,_⟩:=(D.pT p).1 J<;>grind
 have aa4:∀p,early p=none:=fun p=>by
  cases h:early p with
  |none=>rfl
  |some b =>
   obtain⟨_,idx,h1,h2⟩:=I.qX p b h<;>grind
 refine⟨?_,?_⟩
 ·rw[D.Fq L.length k (aS _) I.IL (fun idx p _ J=>cA p (bI J)) (fun idx p hle J=>by grind)]
  exact I.rel
 ·have hv:∀t,a.tmps.getD t undef=conc c ((st L.length).env.v t)∧wf c ((st L.length).env.v t):=fun t=>by
   rcases I.tmp t with⟨i,o,g1,g2,g3,g4,g5⟩|⟨g1,g2,g3⟩
   ·have:(st L.length).env.v t=vv i:=by
     rcases D.EF t L.length (aS _) with⟨j,oj,h1,h2,h3,h4,h5⟩|⟨h1,_⟩<;>grind
    rcases g5 with⟨b,e1,_⟩|⟨_,e2,e3⟩
    ·grind
    ·grind
   ·have:(st L.length).env.v t=s.env.v t:=by
     rcases D.EF t L.length (aS _) with⟨j,oj,h1,h2,h3,h4,h5⟩|⟨_,h⟩<;>grind
    rw[this];exact⟨g2,g3⟩
  exact⟨by rw[I.size,D.aj L.length (aS _)],fun t=>(hv t).1,fun t=>(hv t).2⟩
theorem fO.congr {st:Nat→St}{c:Ctx}{w:World}{S S':Nat→Prop}{a:Act}
 (I:fO C self Fl L s st vv es Hs c₀ w₀ d₀ S early k c a w)(h:∀j,S j↔S' j): fO C self Fl L s st vv es Hs c₀ w₀ d₀ S' early k c a w:=by
 have:S=S':=funext fun j=>propext (h j)
 rw[←this];exact I
theorem Pk (hS:gJ C.P self)(hT:dA C){r:Option Nat}(hL:ops.toList=L){Q:Exit→Act→World→Prop}{st:Nat→St}(D:fZ C self Fl L s st vv es Hs)
 (hQ:∀c a w,Rel c (st L.length).h w→cO c (st L.length).env (st L.length).aj a→bT c₀ w₀ c w→a.defers=d₀→Q .normal a w):
  ∀(fuel:Nat) (J:Array Bool) (early:Nat→Option (Nat×FV)) (k:Nat) (c:Ctx) (a:Act) (w:World),J.size=L.length→J.count false≤fuel →
   fO C self Fl L s st vv es Hs c₀ w₀ d₀ (fun j=>J.getD j false=true) early k c a w→wpAnyIn (Fr r) 0 C.P .any ops Q fuel J a w:=by
 intro fuel
 induction fuel with
 |zero =>
  intro J early k c a w ej ZQ I
  have oU:∀i,i<L.length→J.getD i false=true:=fun i hi=>by
   have h0:J.count false=0:=by omega
   have:false∉J:=Array.count_eq_zero.1 h0
   rw[tM,Ch (by omega)]
   grind
  obtain⟨lN,k',c',I',jq⟩:=fO.DB D (es.length-k) k early c rfl I
  obtain⟨r1,r2⟩:=I'.done D jq oU
  refine⟨?_,hQ c' a w r1 r2 I'.IM I'.defers⟩
  refine List.eq_nil_iff_forall_not_mem.2 fun j hj => ?_
  obtain⟨h1,o,h2,_⟩:=mem_ready.1 hj
  have cA:j<L.length:=by grind
  have h3:=oU j cA
  rw[tM,Ch (by omega)] at h1 h3
  simp at h1 h3
  rw[h1] at h3;cases h3
 |succ fuel ih =>
  intro J early k c a w ej ZQ I
  obtain⟨lN,k',c',I',jq⟩:=fO.DB D (es.length-k) k early c rfl I
  have UP:∀j,j∈Region.ready .any ops J↔∃o,j0 L (fun j=>J.getD j false=true) j o:=fun j=>by
   rw[mem_ready]
   constructor
   ·rintro⟨h1,o,h2,h3⟩
    refine⟨o,by grind,fun h4 => ?_,fun e he hb=>h3 e he ?_⟩
    ·grind
    ·rw[←hb];cases e;rename_i on g;cases g<;>rfl
   ·rintro⟨o,R⟩
    have h2:=R.at_
    rw[←hL,j4] at h2
    refine⟨?_,o,h2,fun e he hb=>R.Kj e he ?_⟩
    ·have cA:j<J.size:=by grind
     have h4:=R.not
     grind
    ·rw[←hb];cases e;rename_i on g;cases g<;>rfl
  refine⟨fun wI => ?_,fun i hi => ?_⟩
  ·have oU:=SP (S:=fun j=>J.getD j false=true) D.back (fun i o R=>by
    grind)
   obtain⟨r1,r2⟩:=I'.done D jq oU
   exact hQ c' a w r1 r2 I'.IM I'.defers
  ·obtain⟨o,R⟩:=(UP i).1 hi
   have cA:i<J.size:=by rw[ej];exact(List.getElem?_eq_some_iff.1 R.at_).1
   have aa5:J[i]=false:=by
    have:=R.not
    rw[tM,Ch cA] at this
    simpa using this
   refine I'.UN hS hT hL D jq R ?_
   intro SQ k'' qu wL wM I''
   refine ih (J.setIfInBounds i true) SQ k'' qu wL wM (by grind) ?_ (I''.congr fun j => ?_)
   ·grind
   ·by_cases zP:j=i
    ·subst zP
     simp[tM,cA]
    simp_all[jx]
theorem Mp (hS:gJ C.P self)(hT:dA C)(hm:C.P.follows .mixedOrders=true){r:Option Nat}(hr:nX C self ops.toList s=some s'){Q:Exit→Act→World→Prop}{c:Ctx}{a:Act}{w:World}(h:Rel c s.h w)(he:cO c s.env s.aj a)
 (hQ:∀c' J w',Rel c' s'.h w'→cO c' s'.env s'.aj J→bT c w c' w'→J.defers=a.defers→Q .normal J w'):
  (Code.region id ops true).wpIn (Fr r) 0 C.P Q a w:=by
 obtain⟨Fl,st,vv,Hs,D,hz,_⟩:=Pj hr
 refine wpIn_region_any hm ?_
 have ZR:bT c w c { w with drawn:=w.drawn+1 }:=bT.drew c w
 have n4:Rel c s.h { w with drawn:=w.drawn+1 }:=h.drew
 refine Pk hS hT rfl D (c₀:=c) (w₀:=w) (d₀:=a.defers) (fun c' J w' r1 r2 r3 r4=>hQ c' J w' (by grind) (by grind) r3 r4)
  ops.size (Array.replicate ops.size false) (fun _=>none) 0 c a _ (by simp) (by simp) ?_
 have I:∀j,¬ (Array.replicate ops.size false).getD j false=true:=fun j=>by
  rw[tM,Array.getElem?_replicate];split<;>simp
 refine⟨fun i o hi=>absurd hi (I i),fun idx p h=>by omega,eX _,fun idx p _ _ hp=>absurd hp (I p),(fun p b h=>by cases h),(by rw[D.Kg];exact n4),he.size,
  fun t=>.inr ⟨fun j o hj=>absurd hj (I j),he.val t,he.pR t⟩,(fun p b h=>by cases h),(fun p q b b' h=>by cases h),ZR,rfl⟩
end
end Go.Proofs.YtiojppeahfoiaaaGreat.Am
namespace Go.Proofs.YtiojppeahfoiaaaGreat.Am
open Go
variable {ps:Array (Nat×Operand)} {ops:Array Oper} {st:Bool} {C:dR} {code:Code} {c₀:Ctx} {env:Env} {Q:Ex→List (Nat×V)→H→Prop} {fn:Func} {f:FuncId} {h h' σ h₁ cJ:H} {κ:IntKind} {E E':List (Nat×V)} {R:List (Nat×V)→H→Prop} {d₀:List Deferred} {hs:List H} {dy es l:List Nat} {L rest:List Oper} {args first cap vs cs ds:List V} {a b i c k id n d off j g lP k' q:Nat} {Hs:Nat→H} {early:Nat→Option (Nat×FV)} {Fl:Nat→Prop} {vv:Nat→V} {o:Oper} {x y:Operand} {P:Program} {φ:Prop} {self:Self} {s s':St} {α:Type} {td:TypeDesc} {t t' e kt et:TypeId} {r u z:V} {wP:V→H→Prop} {w₀:World}
section
variable {b:Frame} {a:Act} {k:List Item} {cs:List Frame} {w:World}
theorem mH {c:Code}: step P (lone (b.atR a (.code (.scope c)::k)) cs w)=.next (lone (b.atR a (.code c::.inScope c::k)) cs w) :=
 by rfl
theorem Eu {c:Code}: step P (lone (b.atR a (.inScope c::k)) cs w)=.next (lone (b.atR a k) cs w) :=
 by rfl
end
theorem Kk {r:Option Nat}{c:Code}{Q:Exit→Act→World→Prop}{a:Act}{w:World}(h:c.wpIn (Fr r) 0 P (Exit.noGoto Q) a w): (Code.scope c).wpIn (Fr r) 0 P Q a w:=by
 intro b k cs UQ hb hr
 obtain⟨e,J,pS,hq,I⟩:=h b (.inScope c::k) cs UQ hb hr
 cases e with
 |normal=>exact⟨.normal,J,pS,hq,.of_steps (.one (fenced_calm hb hr rfl) mH) (StepsIn.trans I (.one (fenced_calm hb hr rfl) Eu))⟩
 |exit id=>exact⟨.exit id,J,pS,hq,.of_steps (.one (fenced_calm hb hr rfl) mH) ⟨fun k' hk=>I.1 k' (by simpa[exitTo] using hk),fun hr hk=>I.2 hr (by simpa[exitTo] using hk)⟩⟩
 |goto l=>exact hq.elim
 |ret=>exact⟨_,J,pS,hq,.of_steps (.one (fenced_calm hb hr rfl) mH) I⟩
 |panic ch=>exact⟨_,J,pS,hq,.of_steps (.one (fenced_calm hb hr rfl) mH) I⟩
 |outgrown=>exact⟨_,J,pS,hq,.of_steps (.one (fenced_calm hb hr rfl) mH) I⟩
def Bb (P:Program)(self:Self)(m:Nat): Prop:=∀(b:Code) (s:St) (ex:Ex) (s':St),self (.loop b) s=some (ex,s') →
 ∀(r:Option Nat) (c:Ctx) (a:Act) (w:World) (Q:Exit→Act→World→Prop),Rel c s.h w→cO c s.env s.aj a →
  (∀e I w',(e=exOf ex∧I.defers=a.defers∧∃c',Rel c' s'.h w'∧cO c' s'.env s'.aj I∧bT c w c' w')→Q e I w')→Code.roundsIn (Fr r) 0 P b Q m a w
section
theorem zQ {m:Nat}(hS:gJ C.P self)(hL:Bb C.P self m): Bb C.P (evStep C self) (m+1):=by
 intro b s ex s' hr r c a w Q h he hQ
 unfold evStep at hr
 simp only at hr
 cases hb:self b s with
 |none=>grind
 |some q =>
  obtain⟨I,J⟩:=q
  rw[hb] at hr
  refine wpIn_mono (hS b s I J hb r c a w h he) ?_
  rintro e y7 pS ⟨rfl,q2,c₁,q3,q4,q5⟩
  cases I with
  |normal =>
   refine hL b J ex s' hr r c₁ y7 pS Q q3 q4 ?_
   rintro A3 Es UB ⟨p1,p2,c₂,p3,p4,p5⟩
   exact hQ _ _ _ ⟨p1,by grind,c₂,p3,p4,q5.trans p5⟩
  |exit i =>
   obtain⟨rfl,rfl⟩:=hr
   exact hQ _ _ _ ⟨rfl,q2,c₁,q3,q4,q5⟩
  |ret =>
   obtain⟨rfl,rfl⟩:=hr
   exact hQ _ _ _ ⟨rfl,q2,c₁,q3,q4,q5⟩
theorem Mq {m:Nat}(hm:C.P.follows .mixedOrders=true)(hT:dA C)(hS:gJ C.P self)(hL:Bb C.P self m): gJ C.P (evStep C self):=by
 intro code s ex s' I r c a w h he
 have same:∀ {ex:Ex} {s':St},(Ex.normal,s)=(ex,s')→exOf ex=.normal∧s'=s:=fun e=>by cases e;exact⟨rfl,rfl⟩
 cases code with
 |skip =>
  simp only[evStep,au,br] at I
  obtain⟨rfl,rfl⟩:=I
  exact wpIn_skip ⟨rfl,rfl,c,h,he,bT.refl c w⟩
 |label l =>
  simp only[evStep,au,br] at I
  obtain⟨rfl,rfl⟩:=I
  exact wpIn_label ⟨rfl,rfl,c,h,he,bT.refl c w⟩
 |region id ops draw =>
  unfold evStep at I
  simp only at I
  cases draw with
  |true =>
   rw[ai] at I
   cases hd:nX C self ops.toList s with
   |none=>simp[hd] at I
   |some J =>
    simp only[hd,au,br] at I
    obtain⟨rfl,rfl⟩:=I
    exact Mp hS hT hm hd h he fun c' a' w' r1 r2 r3 r4=>⟨rfl,r4,c',r1,r2,r3⟩
  |false =>
   rw[aK] at I
   cases hd:evOps C self ops.toList ops.toList s with
   |none=>simp[hd] at I
   |some J =>
    simp only[hd,au,br] at I
    obtain⟨rfl,rfl⟩:=I
    refine wpIn_region ?_
    rw[Ci,←xY]
    exact Pb hS hT ops.toList 0 s J c a w (fun j=>by rw[fF,j4]) hd h he fun c' a' w' r1 r2 r3 r4=>⟨rfl,r4,c',r1,r2,r3⟩
 |seq x y =>
  unfold evStep at I
  simp only at I
  cases hx:self x s with
  |none=>rw[hx] at I;simp at I
  |some r =>
   obtain⟨DD,J⟩:=r
   rw[hx] at I
   refine wpIn_seq (wpIn_mono (hS x s DD J hx r c a w h he) ?_)
   rintro e y7 pS ⟨rfl,q2,c₁,q3,q4,q5⟩
   cases DD with
   |normal =>
    simp only at I
    refine wpIn_mono (hS y J ex s' I r c₁ y7 pS q3 q4) ?_
    rintro e Es UB ⟨rfl,p2,c₂,p3,p4,p5⟩
    exact⟨rfl,by rw[p2,q2],c₂,p3,p4,q5.trans p5⟩
   |exit i =>
    simp only[au,br] at I
    obtain⟨rfl,rfl⟩:=I
    exact⟨rfl,q2,c₁,q3,q4,q5⟩
   |ret =>
    simp only[au,br] at I
    obtain⟨rfl,rfl⟩:=I
    exact⟨rfl,q2,c₁,q3,q4,q5⟩
 |cond x y z =>
  unfold evStep at I
  simp only at I
  split at I
  ·rename_i t hx
   obtain⟨e1,_⟩:=uj he hx
   refine wpIn_cond (t:=t) (by rw[e1];rfl) ?_
   have:=hS (cond t y z) s ex s' I r c a w h he
   cases t<;>simpa using this
  ·cases I
 |block id b =>
  unfold evStep at I
  simp only at I
  cases hb:self b s with
  |none=>rw[hb] at I;simp at I
  |some r =>
   obtain⟨DD,J⟩:=r
   rw[hb] at I
   refine wpIn_block (wpIn_mono (hS b s DD J hb r c a w h he) ?_)
   rintro e y7 pS ⟨rfl,q2,c₁,q3,q4,q5⟩
   cases DD with
   |normal =>
    simp only[au,br] at I
    obtain⟨rfl,rfl⟩:=I
    simp only[exOf,Exit.inBlock]
    exact⟨aa,q2,c₁,q3,q4,q5⟩
   |exit i =>
    simp only at I
    by_cases hi:i=id
    ·rw[qi hi,ai] at I
     simp only[au,br] at I
     obtain⟨rfl,rfl⟩:=I
     simp only[exOf,Exit.inBlock,hi,b7]
     exact⟨aa,q2,c₁,q3,q4,q5⟩
    ·rw[eO hi,aK] at I
     simp only[au,br] at I
     obtain⟨rfl,rfl⟩:=I
     simp only[exOf,Exit.inBlock,hi,eM]
     exact⟨aa,q2,c₁,q3,q4,q5⟩
   |ret =>
    simp only[au,br] at I
    obtain⟨rfl,rfl⟩:=I
    simp only[exOf,Exit.inBlock]
    exact⟨aa,q2,c₁,q3,q4,q5⟩
 |loop b =>
  exact wpIn_loop_rounds (m+1) (zQ hS hL b s ex s' I r c a w _ h he (fun _ _ _ hq=>hq))
 |exit id =>
  simp only[evStep,au,br] at I
  obtain⟨rfl,rfl⟩:=I
  exact wpIn_exit ⟨rfl,rfl,c,h,he,bT.refl c w⟩
 |scope b =>
  unfold evStep at I
  simp only at I
  refine Kk (wpIn_mono (hS b s ex s' I r c a w h he) ?_)
  rintro e y7 pS ⟨rfl,q2,c₁,q3,q4,q5⟩
  cases ex<;>exact⟨rfl,q2,c₁,q3,q4,q5⟩
 |ret =>
  simp only[evStep,au,br] at I
  obtain⟨rfl,rfl⟩:=I
  exact wpIn_ret ⟨rfl,rfl,c,h,he,bT.refl c w⟩
 |_=>simp[evStep] at I
theorem wQ (hm:C.P.follows .mixedOrders=true)(J:dA C): ∀n,gJ C.P (ev C n)∧Bb C.P (ev C n) n:=by
 intro n
 induction n with
 |zero=>exact⟨fun _ _ _ _ h=>by simp[ev] at h,fun _ _ _ _ h=>by simp[ev] at h⟩
 |succ n I=>exact⟨Mq hm J I.1 I.2,zQ I.1 I.2⟩
theorem vj (hm:C.P.follows .mixedOrders=true)(I:dA C)(n:Nat): Ff C.P (ev C n)∧True:=⟨(wQ hm I n).1.wide,aa⟩
theorem Fu (hm:C.P.follows .mixedOrders=true)(J:dA C){v:V}(hr:run C n f args h=some (v,h')){c:Ctx}{w:World}
 (I:Rel c h w)(hw:∀x∈args,wf c x): eE C.P f args c w v h' :=
 (callF_ok (vj hm J n).1 J hr I hw).1
theorem Rel.empty (w:World): Rel ⟨fun _=>(0,0),fun _=>0,0,fun _=>false⟩ ⟨0,.lf⟩ w :=
 ⟨rfl,fun id o h=>by simp[T.rC] at h,fun id h=>absurd h (Cv _),fun id h=>absurd h (Cv _),fun i j o o' h=>by simp[T.rC] at h,fun id o h=>by simp[T.rC] at h,fun id cs st h=>by simp,fun id o h=>by simp⟩
end
def leftC : Code→Code
 |.seq a _=>a
 |c=>c
def b6 : Code→Code
 |.seq _ b=>b
 |c=>c
def kR (f g:Self): Prop:=∀c s r,f c s=some r→g c s=some r
section
variable {f g:Self}
theorem n_ (h : kR f g) {r : V × H} (I : callF C f k args σ = some r) : callF C g k args σ = some r := by
 unfold callF at I ⊢
 cases J : C.told k with
 | some t => grind
 | none =>
  simp only [J] at I ⊢
  cases hf : C.P.funcs[k]? with
  | none => grind
  | some fn =>
   simp only [hf] at I ⊢
   cases hb : fn.body with
   | none => grind
   | some c =>
    simp only [hb] at I ⊢
    cases hq : (fn.name == "runtime.NumGoroutine" || Nat.blt fn.ntmps args.length) with
    | true => grind
    | false =>
     simp only [hq, aK] at I ⊢
     cases hs : f c ⟨bindArgs args 0 .lf, fn.ntmps, σ⟩ with
     | none => grind
     | some q => rw [h _ _ _ hs]; rw [hs] at I; exact I
theorem HP (h:kR f g){r:V×H}(J:roundV f id args σ=some r): roundV g id args σ=some r:=by
 unfold roundV at J ⊢
 cases ho:σ.tr.get id with
 |none=>grind
 |some o =>
  simp only[ho] at J ⊢
  cases o with
  |loop busy aj env ps dy bd =>
   cases busy with
   |true=>cases J
   |false =>
    cases he:bindPs aj ps args env with
    |none=>grind
    |some e =>
     simp only[he] at J ⊢
     cases h1:f dy ⟨e,aj,σ⟩ with
     |none=>grind
     |some q =>
      rw[h dy _ _ h1]
      simp only[h1] at J
      split at J
      ·rename_i O6 hq
       split at J
       ·split at J
        ·rename_i J9 I
         rw[h bd _ _ I]
         exact J
        ·rename_i J9 I
         rw[h bd _ _ I]
         exact J
        ·grind
       ·cases J
      ·cases J
  |_=>cases J
theorem kC (h:kR f g){r:V×H}(I:evOp C f env σ o=some r): evOp C g env σ o=some r:=by
 unfold evOp at I ⊢
 cases J:o.op<;>simp only[J] at I ⊢<;>try exact I
 rename_i cl
 unfold evCall at I ⊢
 cases ha:evArgs env cl.args.toList with
 |none=>grind
 |some args =>
  cases hc:cl.callee with
  |builtin b=>grind
  |value x =>
   cases hx:evO env x with
   |none=>grind
   |some fv =>
    unfold callV at I ⊢
    grind[n_,HP]
  |invoke x m =>
   grind[n_]
theorem oa (h:kR f g): ∀(l:List Oper) (s s':St),evOps C f L l s=some s'→evOps C g L l s=some s':=by
 intro l
 induction l with
 |nil=>intro s s' I;exact I
 |cons o l J =>
  intro s s' I
  simp only[evOps] at I ⊢
  cases hw:wantedV L s.env o with
  |true =>
   cases ho:evOp C f s.env s.h o with
   |none=>grind
   |some q =>
    grind[kC]
  |false =>
   grind
theorem vk (h:kR f g): ∀(l:List Oper) (s:St) (hs:List H) (r:List (Env×V)×List H×St),trace C f L l s hs=some r→trace C g L l s hs=some r:=by
 intro l
 induction l with
 |nil=>intro s hs r I;exact I
 |cons o l J =>
  intro s hs r I
  simp only[trace] at I ⊢
  have key:∀q,cond (wantedV L s.env o) (evOp C f s.env s.h o) (some (bR,s.h))=some q→cond (wantedV L s.env o) (evOp C g s.env s.h o) (some (bR,s.h))=some q:=by
   grind[kC]
  cases hc:cond (wantedV L s.env o) (evOp C f s.env s.h o) (some (bR,s.h)) with
  |none=>grind
  |some q =>
   grind
theorem HQ (h:kR f g){x:Env×V}: ∀(l:List H),sameIn C f L o x l=true→sameIn C g L o x l=true:=by
 intro l
 induction l with
 |nil=>intro I;exact I
 |cons y l J =>
  intro I
  simp only[sameIn] at I ⊢
  cases hw:wantedV L x.1 o with
  |false=>simp
  |true =>
   cases ho:evOp C f x.1 y o with
   |none=>grind
   |some q =>
    grind[kC]
theorem HR (h:kR f g): ∀(l:List Oper) (tr:List (Env×V)) (i:Nat),stayOk C f L dy es hs l tr i=true→stayOk C g L dy es hs l tr i=true:=by
 intro l
 induction l with
 |nil=>intro tr i I;cases tr<;>exact I
 |cons o l J =>
  intro tr i I
  cases tr<;>grind[stayOk,HQ]
theorem HS (h:kR f g)(I:nX C f L s=some s'): nX C g L s=some s':=by
 grind[nX,vk,HR]
theorem HT (h:kR f g): kR (evStep C f) (evStep C g):=by
 intro c s r I
 cases c with
 |region id ops draw =>
  grind[evStep,HS,oa]
 |seq a b =>
  simp only[evStep] at I ⊢
  cases J:f a s with
  |none=>grind
  |some q =>
   obtain⟨ex,s1⟩:=q
   rw[h _ _ _ J]
   rw[J] at I
   cases ex with
   |normal=>exact h _ _ _ I
   |exit i=>exact I
   |ret=>exact I
 |cond x a b =>
  simp only[evStep] at I ⊢
  split at I
  ·exact h _ _ _ I
  ·cases I
 |block id b =>
  simp only[evStep] at I ⊢
  cases J:f b s with
  |none=>grind
  |some q=>rw[h _ _ _ J];rw[J] at I;exact I
 |loop b =>
  simp only[evStep] at I ⊢
  cases J:f b s with
  |none=>grind
  |some q =>
   obtain⟨ex,s1⟩:=q
   rw[h _ _ _ J]
   rw[J] at I
   cases ex with
   |normal=>exact h _ _ _ I
   |exit i=>exact I
   |ret=>exact I
 |scope b=>exact h _ _ _ I
 |_=>exact I
theorem Kl : ∀n,kR (ev C n) (ev C (n+1)):=by
 intro n
 induction n with
 |zero=>intro c s r I;cases I
 |succ n J=>exact HT J
theorem dm {m:Nat}(hle:n≤m): kR (ev C n) (ev C m):=by
 induction hle with
 |refl=>intro c s r I;exact I
 |step _ J=>intro c s r I;exact Kl _ c s r (J c s r I)
end
def look : List (Nat×V)→Nat→Option V
 |[],_=>none
 |x::E,k=>cond (Nat.beq x.1 k) (some x.2) (look E k)
def gS (env:Env)(E:List (Nat×V)): Prop:=∀t v,look E t=some v→T.get env t=some v
theorem gS.set (h:gS env E)(d:Nat)(v:V): gS (env.set d (some v)) ((d,v)::E):=by
 intro t u I
 simp only[look] at I
 rw[aL]
 by_cases hd:d=t
 ·simp_all
 ·rw[eO hd,aK] at I
  rw[ay (fun e=>hd e.symm)]
  exact h t u I
theorem gS.sub (h:gS env E)(hs:∀t v,look E' t=some v→look E t=some v): gS env E':=fun t v I=>h t v (hs t v I)
def aT (E:List (Nat×V)): Operand→Option V
 |.tmp t=>look E t
 |.const c=>ofValue c
 |.global _=>none
 |.func f=>some (.fn (.func f) [] [])
theorem bE (h:gS env E){v:V}(I:aT E x=some v): evO env x=some v:=by
 cases x with
 |tmp t=>simp only[evO,Env.v,h t v I]
 |const c=>exact I
 |global g=>cases I
 |func f=>exact I
def lookArgs (E:List (Nat×V)): List Operand→Option (List V)
 |[]=>some []
 |x::l=>match aT E x with
  |none=>none
  |some v=>match lookArgs E l with
   |none=>none
   |some m=>some (v::m)
theorem kZ (h:gS env E): ∀ {l:List Operand} {m:List V},lookArgs E l=some m→evArgs env l=some m:=by
 intro l
 induction l<;>grind[lookArgs,evArgs,bE]
def lookParts (E:List (Nat×V)): List (Nat×Operand)→Option (List (Nat×V))
 |[]=>some []
 |x::l=>match aT E x.2 with
  |none=>none
  |some v=>match lookParts E l with
   |none=>none
   |some m=>some ((x.1,v)::m)
theorem wR (h:gS env E): ∀ {l:List (Nat×Operand)} {m:List (Nat×V)},lookParts E l=some m→evParts env l=some m:=by
 intro l
 induction l<;>grind[lookParts,evParts,bE]
def lookOpt (E:List (Nat×V)): Option Operand→Option (Option V)
 |none=>some none
 |some x=>match aT E x with
  |some v=>some (some v)
  |none=>none
theorem vl (h:gS env E){x:Option Operand}{v:Option V}(I:lookOpt E x=some v): optV env x=some v:=by
 cases x<;>grind[lookOpt,optV,bE]
section
variable (P:Program)
def iB (E:List (Nat×V))(x:Operand)(g:V→Option (V×H)): Option (V×H):=match aT E x with
 |some v=>g v
 |none=>none
def sQ (E:List (Nat×V))(x y:Operand)(g:V→V→Option (V×H)): Option (V×H):=match aT E x with
 |some v=>match aT E y with
  |some u=>g v u
  |none=>none
 |none=>none
noncomputable def opE (E:List (Nat×V))(h:H)(o:Op): Option (V×H):=match o with
 |.move x|.assign x=>iB E x fun v=>some (v,h)
 |.pick c a b=>iB E c fun v=>match v with
  |.bool t=>iB E (cond t a b) fun v=>some (v,h)
  |_=>none
 |.alloc t=>match zeroT P t with
  |some z=>some (.ptr h.next 0,newRow h z.cells)
  |none=>none
 |.box _ x=>iB E x fun v=>cond (v.cells.all storable) (some (.ptr h.next 0,newRow h v.cells)) none
 |.build t ps=>match lookParts E ps.toList with
  |some l=>bk (buildV P t l) h
  |none=>none
 |.buildSlice t n ps=>match lookParts E ps.toList with
  |some l=>buildSliceV P h t n l
  |none=>none
 |.load t a=>iB E a fun v=>bk (loadV P h t v) h
 |.store t a x=>sQ E a x fun p v=>sF (fu P h t p v)
 |.nilCheck x=>iB E x fun v=>match v with
  |.ptr a b=>some (.ptr a b,h)
  |_=>none
 |.binOp op t x y _=>sQ E x y fun a b=>bk (binV P h op t x y a b) h
 |.unOp op _ x=>iB E x fun a=>bk (unV op a) h
 |.convert s d x=>iB E x fun a=>match convV P h s d a with
   |some r=>some r
   |none=>convB P h s d a
 |.sliceToArrayPointer d x=>iB E x fun a=>bk (arrPtrV P d a) h
 |.makeInterface t x=>iB E x fun a=>bk (makeIfaceV P t a) h
 |.makeFunc f a b=>match lookArgs E a.toList with
  |some x=>match lookArgs E b.toList with
   |some y=>some (.fn f x y,h)
   |none=>none
  |none=>none
 |.makeMap _ r=>match r with
  |none=>some (.map h.next,h.new (.map [] 0))
  |some _=>none
 |.makeSlice t l c=>sQ E l c fun a b=>makeSliceV P h t a b
 |.slice t x lo hi mx=>iB E x fun v=>match lookOpt E lo with
  |some a=>match lookOpt E hi with
   |some b=>match lookOpt E mx with
    |some c=>match jo a with
     |some a=>match jo b with
      |some b=>match jo c with
       |some c=>bk (sliceV P h t v a b c) h
       |none=>none
      |none=>none
     |none=>none
    |none=>none
   |none=>none
  |none=>none
 |.fieldAddr t x i=>iB E x fun v=>bk (fieldAddrV P t v i) h
 |.field t x i=>iB E x fun v=>bk (pO P t v i) h
 |.indexAddr t x i=>sQ E x i fun v j=>bk (indexAddrV P t v j) h
 |.index t x i=>sQ E x i fun v j=>bk (indexV P t v j) h
 |.lookup t x k ok=>sQ E x k fun m j=>bk (dK P h t m j ok) h
 |.extract t i=>iB E t fun v=>match v with
  |.aI l=>bk (nth l i) h
  |_=>none
 |.typeAssert x _ a ok=>iB E x fun v=>bk (assertV P v a ok) h
 |.call c=>match c.callee with
  |.builtin b=>match lookArgs E c.args.toList with
   |some args=>builtinV P h b c.argTypes args
   |none=>none
  |_=>none
 |_=>none
end
theorem gK {g:V→Option (V×H)}{r:V×H}(h:iB E x g=some r): ∃v,aT E x=some v∧g v=some r:=by
 grind[iB]
theorem qY {g:V→V→Option (V×H)}{r:V×H}(h:sQ E x y g=some r): ∃v u,aT E x=some v∧aT E y=some u∧g v u=some r:=by
 grind[sQ]
set_option maxHeartbeats 1000000 in
theorem Bc {r:V×H}(hE:gS env E)(hr:opE C.P E h o.op=some r): evOp C self env h o=some r:=by
 unfold opE at hr
 unfold evOp
 split at hr
 ·rename_i x I;obtain⟨v,h1,J⟩:=gK hr;simp only[I,bE hE h1,bk];exact J
 ·rename_i x I;obtain⟨v,h1,J⟩:=gK hr;simp only[I,bE hE h1,bk];exact J
 ·rename_i c a b I
  obtain⟨v,h1,J⟩:=gK hr
  split at J
  ·rename_i t
   obtain⟨u,h3,h4⟩:=gK J
   simp only[I,bE hE h1,bE hE h3,bk];exact h4
  ·cases J
 ·rename_i t I;simp only[I];exact hr
 ·rename_i t x I;obtain⟨v,h1,J⟩:=gK hr;simp only[I,bE hE h1];exact J
 ·rename_i t ps I
  cases hp:lookParts E ps.toList with
  |none=>simp[hp] at hr
  |some l=>simp only[hp] at hr;simp only[I,wR hE hp];exact hr
 ·rename_i t n ps I
  cases hp:lookParts E ps.toList with
  |none=>simp[hp] at hr
  |some l=>simp only[hp] at hr;simp only[I,wR hE hp];exact hr
 ·rename_i t a I;obtain⟨v,h1,J⟩:=gK hr;simp only[I,bE hE h1];exact J
 ·rename_i t a x I;obtain⟨v,u,h1,J,h3⟩:=qY hr;simp only[I,bE hE h1,bE hE J];exact h3
 ·rename_i x I
  obtain⟨v,h1,J⟩:=gK hr
  split at J
  ·simp only[I,bE hE h1];exact J
  ·cases J
 ·rename_i op t x y u I;obtain⟨v,u,h1,J,h3⟩:=qY hr;simp only[I,bE hE h1,bE hE J];exact h3
 ·rename_i op t x I;obtain⟨v,h1,J⟩:=gK hr;simp only[I,bE hE h1];exact J
 ·rename_i s d x I;obtain⟨v,h1,J⟩:=gK hr;simp only[I,bE hE h1];exact J
 ·rename_i d x I;obtain⟨v,h1,J⟩:=gK hr;simp only[I,bE hE h1];exact J
 ·rename_i t x I;obtain⟨v,h1,J⟩:=gK hr;simp only[I,bE hE h1];exact J
 ·rename_i f a b I
  cases ha:lookArgs E a.toList with
  |none=>simp[ha] at hr
  |some x =>
   cases hb:lookArgs E b.toList with
   |none=>simp[ha,hb] at hr
   |some y=>simp only[ha,hb] at hr;simp only[I,kZ hE ha,kZ hE hb];exact hr
 ·rename_i t r I
  simp only[I]
  exact hr
 ·rename_i t l c I;obtain⟨v,u,h1,J,h3⟩:=qY hr;simp only[I,bE hE h1,bE hE J];exact h3
 ·rename_i t x lo hi mx I
  obtain⟨v,h1,J⟩:=gK hr
  cases ha:lookOpt E lo with
  |none=>simp[ha] at J
  |some a =>
   cases hb:lookOpt E hi with
   |none=>simp[ha,hb] at J
   |some b =>
    cases hc:lookOpt E mx with
    |none=>simp[ha,hb,hc] at J
    |some c =>
     simp only[ha,hb,hc] at J
     simp only[I,bE hE h1,vl hE ha,vl hE hb,vl hE hc]
     cases pa:jo a with
     |none=>simp[pa] at J
     |some a =>
      cases pb:jo b with
      |none=>simp[pa,pb] at J
      |some b =>
       cases pc:jo c with
       |none=>simp[pa,pb,pc] at J
       |some c=>simp only[pa,pb,pc] at J ⊢;exact J
 ·rename_i t x i I;obtain⟨v,h1,J⟩:=gK hr;simp only[I,bE hE h1];exact J
 ·rename_i t x i I;obtain⟨v,h1,J⟩:=gK hr;simp only[I,bE hE h1];exact J
 ·rename_i t x i I;obtain⟨v,u,h1,J,h3⟩:=qY hr;simp only[I,bE hE h1,bE hE J];exact h3
 ·rename_i t x i I;obtain⟨v,u,h1,J,h3⟩:=qY hr;simp only[I,bE hE h1,bE hE J];exact h3
 ·rename_i t x k ok I;obtain⟨v,u,h1,J,h3⟩:=qY hr;simp only[I,bE hE h1,bE hE J];exact h3
 ·rename_i t i I
  obtain⟨v,h1,J⟩:=gK hr
  split at J
  ·simp only[I,bE hE h1];exact J
  ·cases J
 ·rename_i x t a ok I;obtain⟨v,h1,J⟩:=gK hr;simp only[I,bE hE h1];exact J
 ·rename_i cl I
  split at hr
  ·rename_i b hc
   cases ha:lookArgs E cl.args.toList with
   |none=>simp[ha] at hr
   |some args=>simp only[ha] at hr;simp only[I,evCall,hc,kZ hE ha];exact hr
  ·cases hr
 ·cases hr
def gD (C:dR)(f:FuncId)(args:List V)(h:H)(v:V)(h':H): Prop:=∃N,callF C (ev C N) f args h=some (v,h')
def Call (C:dR)(f:FuncId)(args:List V)(h:H)(R:V→H→Prop): Prop:=∃v h',gD C f args h v h'∧R v h'
variable {cl:Go.Call}
theorem Call.mono {R I:V→H→Prop}(J:Call C f args h R)(hr:∀v h',R v h'→I v h'): Call C f args h I:=by
 obtain⟨v,h',h1,h2⟩:=J
 exact⟨v,h',h1,hr v h' h2⟩
theorem gD.told {g:List V→H→Option (V×H)}{v:V}(I:C.told f=some g)(J:C.P.funcs[f]?=some fn)(hb:fn.body.isSome=true)(hr:g args h=some (v,h')): gD C f args h v h':=by
 refine⟨0,?_⟩<;>grind[callF,hasBody]
theorem gD.body {v:V}(hd:gD C f args h v h'): hasBody C.P f=true:=by
 obtain⟨N,I⟩:=hd<;>grind[callF,hasBody]
theorem gZ (C:dR)(n:Nat)(c:Code)(s:St): ev C (n+1) c s=evStep C (ev C n) c s:=rfl
def WP (C:dR)(aj:Nat)(code:Code)(E:List (Nat×V))(h:H)(Q:Ex→List (Nat×V)→H→Prop): Prop :=
 ∀env,gS env E→∃N ex I h' E',ev C N code ⟨env,aj,h⟩=some (ex,⟨I,aj,h'⟩)∧gS I E'∧Q ex E' h'
def aq (C:dR)(aj:Nat)(L l:List Oper)(E:List (Nat×V))(h:H)(Q:List (Nat×V)→H→Prop): Prop :=
 ∀env,gS env E→∃N I h' E',evOps C (ev C N) L l ⟨env,aj,h⟩=some ⟨I,aj,h'⟩∧gS I E'∧Q E' h'
section
variable {aj:Nat} {l:List Oper}
theorem WP.sub {I:List (Nat×V)}(hs:∀t v,look I t=some v→look E t=some v)(hw:WP C aj code I h Q): WP C aj code E h Q:=fun env J=>hw env (J.sub hs)
theorem WP.skip (I:Q .normal E h): WP C aj .skip E h Q:=fun env J=>⟨1,.normal,env,h,E,rfl,J,I⟩
theorem WP.ret (I:Q .ret E h): WP C aj .ret E h Q:=fun env J=>⟨1,.ret,env,h,E,rfl,J,I⟩
theorem WP.exit (I:Q (.exit i) E h): WP C aj (.exit i) E h Q:=fun env J=>⟨1,.exit i,env,h,E,rfl,J,I⟩
theorem WP.region (hl:ops.toList=l)(hw:aq C aj l l E h fun E' h'=>Q .normal E' h'): WP C aj (.region id ops false) E h Q:=by
 intro env J
 obtain⟨N,I,h',E',h1,h2,h3⟩:=hw env J
 refine⟨N+1,.normal,I,h',E',?_,h2,h3⟩<;>grind[gZ,evStep]
theorem WP.seq {a b:Code}(hw:WP C aj a E h fun ex E' h'=>match ex with
  |.normal=>WP C aj b E' h' Q
  |ex=>Q ex E' h'): WP C aj (.seq a b) E h Q:=by
 intro env hE
 obtain⟨N,ex,I,h',E',h1,h2,h3⟩:=hw env hE
 cases ex with
 |normal =>
  obtain⟨M,qv,J,Fv,E2,g1,g2,g3⟩:=h3 I h2
  refine⟨Nat.max N M+1,qv,J,Fv,E2,?_,g2,g3⟩
  rw[gZ]
  simp only[evStep,dm (oS N M) _ _ _ h1]
  exact dm (oR N M) _ _ _ g1
 |exit i =>
  refine⟨N+1,.exit i,I,h',E',?_,h2,h3⟩<;>grind[gZ,evStep]
 |ret =>
  refine⟨N+1,.ret,I,h',E',?_,h2,h3⟩<;>grind[gZ,evStep]
theorem WP.cond {a b:Code}{t:Bool}(hx:aT E x=some (.bool t))(hw:WP C aj (_root_.cond t a b) E h Q): WP C aj (.cond x a b) E h Q:=by
 intro env J
 obtain⟨N,ex,I,h',E',h1,h2,h3⟩:=hw env J
 refine⟨N+1,ex,I,h',E',?_,h2,h3⟩<;>grind[gZ,evStep,bE]
theorem WP.block {b:Code}(hw:WP C aj b E h fun ex E' h'=>match ex with
  |.exit j=>_root_.cond (Nat.beq j i) (Q .normal E' h') (Q (.exit j) E' h')
  |ex=>Q ex E' h'): WP C aj (.block i b) E h Q:=by
 intro env hE
 obtain⟨N,ex,I,h',E',h1,h2,J⟩:=hw env hE
 cases ex with
 |exit j =>
  cases hj:Nat.beq j i with
  |true =>
   simp only[hj,ai] at J
   refine⟨N+1,.normal,I,h',E',?_,h2,J⟩<;>grind[gZ,evStep]
  |false =>
   simp only[hj,aK] at J
   refine⟨N+1,.exit j,I,h',E',?_,h2,J⟩<;>grind[gZ,evStep]
 |normal =>
  refine⟨N+1,.normal,I,h',E',?_,h2,J⟩<;>grind[gZ,evStep]
 |ret =>
  refine⟨N+1,.ret,I,h',E',?_,h2,J⟩<;>grind[gZ,evStep]
theorem WP.scope {b:Code}(hw:WP C aj b E h Q): WP C aj (.scope b) E h Q:=by
 intro env J
 obtain⟨N,ex,I,h',E',h1,h2,h3⟩:=hw env J
 exact⟨N+1,ex,I,h',E',h1,h2,h3⟩
theorem WP.loop {b:Code}(hw:WP C aj b E h fun ex E' h'=>match ex with
  |.normal=>WP C aj (.loop b) E' h' Q
  |ex=>Q ex E' h'): WP C aj (.loop b) E h Q:=by
 intro env hE
 obtain⟨N,ex,I,h',E',h1,h2,h3⟩:=hw env hE
 cases ex with
 |normal =>
  obtain⟨M,qv,J,Fv,E2,g1,g2,g3⟩:=h3 I h2
  refine⟨Nat.max N M+1,qv,J,Fv,E2,?_,g2,g3⟩
  rw[gZ]
  simp only[evStep,dm (oS N M) _ _ _ h1]
  exact dm (oR N M) _ _ _ g1
 |exit i =>
  refine⟨N+1,.exit i,I,h',E',?_,h2,h3⟩<;>grind[gZ,evStep]
 |ret =>
  refine⟨N+1,.ret,I,h',E',?_,h2,h3⟩<;>grind[gZ,evStep]
theorem aq.nil (I:R E h): aq C aj L [] E h R:=fun env J=>⟨0,env,h,E,rfl,J,I⟩
def wantE (L:List Oper)(E:List (Nat×V))(g:Option (Nat×Bool)): Option Bool:=match g with
 |none=>some true
 |some (j,want)=>match (nth L j).bind (·.dst) with
  |some d=>match look E d with
   |some (.bool b)=>some (b == want)
   |some _=>some false
   |none=>none
  |none=>none
theorem jf {b:Bool}(J:gS env E)(hw:wantE L E o.guard=some b): wantedV L env o=b:=by
 unfold wantE at hw
 unfold wantedV
 split at hw
 ·grind
 ·rename_i j want hg
  simp only[hg]
  split at hw
  ·rename_i d hd
   simp only[hd]
   split at hw
   ·rename_i b' I
    simp only[Env.v,J d _ I]
    simpa using hw
   ·rename_i v nY I
    simp only[Env.v,J d _ I]
    grind
   ·cases hw
  ·cases hw
theorem aq.op {v:V}(hg:wantE L E o.guard=some true)(hd:o.dst=some d)(hn:Nat.blt d aj=true)(ho:opE C.P E h o.op=some (v,h₁))
 (hw:aq C aj L rest ((d,v)::E) h₁ R): aq C aj L (o::rest) E h R:=by
 intro env J
 obtain⟨N,I,h',E',h1,h2,h3⟩:=hw (env.set d (some v)) (J.set d v)<;>grind[evOps,jf,Bc,St.put]
theorem aq.YG {v:V}(hg:wantE L E o.guard=some true)(hd:o.dst=none)(ho:opE C.P E h o.op=some (v,h₁))
 (hw:aq C aj L rest E h₁ R): aq C aj L (o::rest) E h R:=by
 intro env J
 obtain⟨N,I,h',E',h1,h2,h3⟩:=hw env J<;>grind[evOps,jf,Bc,St.put]
theorem aq.no (hg:wantE L E o.guard=some false)(hd:o.dst=some d)(hn:Nat.blt d aj=true)
 (hw:aq C aj L rest ((d,bR)::E) h R): aq C aj L (o::rest) E h R:=by
 intro env J
 obtain⟨N,I,h',E',h1,h2,h3⟩:=hw (env.set d (some bR)) (J.set d bR)<;>grind[evOps,jf,St.put]
theorem DE {k:FuncId}{v:V}(hE:gS env E)(J:o.op=.call cl)(hc:cl.callee=.value x)
 (hx:aT E x=some (.fn (.func k) first cap))(ha:lookArgs E cl.args.toList=some args)(I:gD C k (first++(args++cap)) h v h₁):
  ∃N,evOp C (ev C N) env h o=some (v,h₁):=by
 have hb:=I.body
 obtain⟨N,hN⟩:=I
 refine⟨N,?_⟩
 simp only[evOp,J,evCall,kZ hE ha,hc,bE hE hx,callV,hb,ai]
 exact hN
theorem aq.call {k:FuncId}(hg:wantE L E o.guard=some true)(hd:o.dst=some d)(hn:Nat.blt d aj=true)
 (UR:o.op=.call cl)(hc:cl.callee=.value x)(hx:aT E x=some (.fn (.func k) first cap))(ha:lookArgs E cl.args.toList=some args)
 (I:Call C k (first++(args++cap)) h wP)(hw:∀v h₁,wP v h₁→aq C aj L rest ((d,v)::E) h₁ R): aq C aj L (o::rest) E h R:=by
 intro env hE
 obtain⟨v,h₁,Mr,hr⟩:=I
 obtain⟨N,hN⟩:=DE hE UR hc hx ha Mr
 obtain⟨M,J,h',E',h1,h2,h3⟩:=hw v h₁ hr (env.set d (some v)) (hE.set d v)
 refine⟨Nat.max N M,J,h',E',?_,h2,h3⟩
 simp only[evOps,jf hE hg,ai,kC (dm (oS N M)) hN,St.put,hd,hn]
 exact oa (dm (oR N M)) _ _ _ h1
end
def Has (E:List (Nat×V)): List (Nat×V)→Prop
 |[]=>True
 |p::F=>look E p.1=some p.2∧Has E F
theorem Has.sub : ∀ {F:List (Nat×V)},Has E F→∀t v,look F t=some v→look E t=some v:=by
 intro F
 induction F with
 |nil=>intro _ t v h;cases h
 |cons p F ih =>
  intro I t v h
  simp only[look] at h
  by_cases J:p.1=t
  ·subst J
   rw[qi rfl,ai] at h
   rw[I.1];exact h
  ·rw[eO J,aK] at h
   exact ih I.2 t v h
theorem WP.has {aj:Nat}{F:List (Nat×V)}(I:Has E F)(hw:WP C aj code F h Q): WP C aj code E h Q:=WP.sub I.sub hw
theorem W9 (I:gS s.env E){t:Nat}{v:V}(h:look E t=some v): resV P s (.tmp t)=some v:=by
 simp only[resV,Env.v,I t v h]
noncomputable def resE (P:Program)(E:List (Nat×V))(h:H): ResultVar→Option V
 |.tmp t=>look E t
 |.cell a t=>match look E a with
  |some p=>loadV P h t p
  |none=>none
theorem SR (J:gS s.env E){x:ResultVar}{v:V}(I:resE P E s.h x=some v): resV P s x=some v:=by
 cases x with
 |tmp t=>exact W9 J I
 |cell a t =>
  simp only[resE] at I
  cases ha:look E a with
  |none=>grind
  |some p=>simp only[ha] at I;simp only[resV,Env.v,J a p ha];exact I
noncomputable def resLE (P:Program)(E:List (Nat×V))(h:H)(rs:List ResultVar): Option V:=match mapO (resE P E h) rs with
 |some [v]=>some v
 |some vs=>some (.aI vs)
 |none=>none
theorem ux (I:gS s.env E): ∀ {rs:List ResultVar} {vs:List V},mapO (resE P E s.h) rs=some vs→mapO (resV P s) rs=some vs:=by
 intro rs
 induction rs<;>grind[mapO,SR]
def argE : List V→Nat→List (Nat×V)
 |[],_=>[]
 |v::l,k=>(k,v)::argE l (k+1)
theorem Ms : ∀(l:List V) (k t:Nat),look (argE l k) t=if k≤t∧t<k+l.length then l[t-k]? else none:=by
 intro l
 induction l with
 |nil=>simp[argE,look]
 |cons v l I =>
  intro k t
  simp only[argE,look]
  by_cases h:k=t
  ·simp_all
  grind[eO]
theorem qZ (l:List V): gS (bindArgs l 0 .lf) (argE l 0):=by
 intro t v h
 grind[Ms,rI]
theorem Call.of_wp {R : V → H → Prop} (ht : C.told f = none) (hf : C.P.funcs[f]? = some fn) (hb : fn.body = some code)
  (hq : (fn.name == "runtime.NumGoroutine" || Nat.blt fn.ntmps args.length) = false)
  (hw : WP C fn.ntmps code (argE args 0) h fun ex E' h' => (match ex with | .exit _ => False | _ => True) ∧ ∃ v, resLE C.P E' h' fn.results.toList = some v ∧ R v h') : Call C f args h R := by
 obtain ⟨N, ex, I, h', E', h1, J, h3, v, h4, h5⟩ := hw _ (qZ args)
 refine ⟨v, h', ⟨N, ?_⟩, h5⟩
 unfold callF
 unfold resLE at h4
 cases hm : mapO (resE C.P E' h') fn.results.toList with
 | none => grind
 | some vs =>
  have DF := ux (P := C.P) (s := ⟨I, fn.ntmps, h'⟩) J hm
  cases ex with
  | exit i => grind
  | normal =>
   grind
  | ret =>
   grind
noncomputable section
end
def crcStep : Nat→Nat→Nat
 |r,0=>r
 |r,k+1=>crcStep (cond (Nat.beq (r%2) 1) (Nat.xor (r/2) 3988292384) (r/2)) k
def crcL : Nat→List Nat→Nat
 |r,[]=>r
 |r,b::l=>crcL (crcStep (Nat.xor r b) 8) l
def bytesIn : List V→Option (List Nat)
 |[]=>some []
 |.int .u8 n::l=>cond (decide (0≤n)&&decide (n<256)) (match bytesIn l with
  |some m=>some (n.toNat::m)
  |none=>none) none
 |_=>none
def uy (s:Int)(l:List Nat): V:=.int .u32 ((Nat.xor (crcL (Nat.xor s.toNat 4294967295) l) 4294967295:Nat):Int)
noncomputable def toldMore : List V→H→Option (V×H)
 |[.int .u32 s,.sl id off len _],h=>cond (decide (0≤s)&&decide (s<4294967296)&&Nat.ble len 4611686018427387904) (match rdN h id off len with
  |some cs=>match bytesIn cs with
   |some l=>some (uy s l,h)
   |none=>none
  |none=>none) none
 |[.int .u32 s,.aO],h=>cond (decide (0≤s)&&decide (s<4294967296)) (some (uy s [],h)) none
 |[.int .u32 s,.sle _],h=>cond (decide (0≤s)&&decide (s<4294967296)) (some (uy s [],h)) none
 |_,_=>none
theorem wrap_u32 (h:n<4294967296): IntKind.wrap .u32 (n:Int)=(n:Int):=by
 grind[IntKind.wrap,IntKind.bits,IntKind.signed]
theorem DG (h:n<4294967296): ((n:Int)%(2^(IntKind.u32).bits:Int)).toNat=n:=by
 grind[IntKind.bits]
theorem mI (I:a<4294967296)(J:b<4294967296): Nat.xor a b<4294967296:=Nat.xor_lt_two_pow (n:=32) I J
theorem vm (I:a<4294967296)(J:b<4294967296): intV .xor .u32 (a:Int) (b:Int)=some (.int .u32 ((Nat.xor a b:Nat):Int)):=by
 grind[intV,bitsV,DG,wrap_u32,mI]
theorem Mt (I:a<4294967296): intV .and .u32 (a:Int) 1=some (.int .u32 ((a%2:Nat):Int)):=by
 have J:((1:Int)%(2^(IntKind.u32).bits:Int)).toNat=1:=by rfl
 simp only[intV,bitsV]
 rw[DG I,J]
 have:Nat.land a 1=a%2:=Nat.and_one_is_mod a
 rw[this,wrap_u32 (by omega)]
theorem Bd : shiftV .shr .u32 (a:Int) 1=some (.int .u32 ((a/2:Nat):Int)):=by
 grind[shiftV,IntKind.bits]
theorem SS {c:Ctx}{w:World}(h:Rel c σ w)(I:rdN σ id off k=some vs): vs.length=k∧∀j,j<k→wq σ id (off+j)=vs[j]?:=by
 unfold rdN at I
 split at I
 ·rename_i n cs st J
  have hn:n=cs.length:=(h.obj id _ J).1
  grind[aG,beq_iff,wq,gu]
 ·cases I
def unblk : Code→Code
 |.block _ c=>c
 |c=>c
def unloop : Code→Code
 |.loop c=>c
 |c=>c
noncomputable def iQ : Code:=(Tryz.f217.body).getD .skip
noncomputable def iL : Code:=unloop (unblk (b6 (leftC (b6 (b6 iQ)))))
noncomputable def mg : Code:=unblk (leftC (b6 (b6 iL)))
noncomputable def mJ : Code:=unloop (unblk (b6 (b6 (b6 mg))))
theorem fU (C:dR)(n:Nat)(c:Code)(s:St): ev C (n+1) c s=evStep C (ev C n) c s:=rfl
theorem wrap_i64 (h:n<9223372036854775808): IntKind.wrap .i64 (n:Int)=(n:Int):=by
 grind[IntKind.bits,IntKind.wrap]
theorem wS (h:n<9223372036854775807): intV .add .i64 (n:Int) 1=some (.int .i64 ((n+1:Nat):Int)):=by
 have:((n:Int)+1)=((n+1:Nat):Int):=by omega
 simp only[intV,this,wrap_i64 (show n+1<9223372036854775808 by omega)]
section
theorem bK (J:o.guard=none)(hd:o.dst=some d)(I:Nat.blt d n=true):
  evOps C self L (o::rest) ⟨env,n,h⟩=(evOp C self env h o).bind fun r=>evOps C self L rest ⟨env.set d (some r.1),n,r.2⟩:=by
 grind[evOps,wantedV,St.put]
end
noncomputable def US : Code:=leftC mJ
noncomputable def sR : Code:=b6 (b6 mJ)
noncomputable def UT : Code:=leftC (unblk (leftC sR))
noncomputable def UU : Code:=b6 (unblk (leftC sR))
noncomputable def Pm : Code:=b6 sR
section
variable (n:Nat) (env:Env) (h:H)
theorem Mu (I:T.get env 20=some (.int .i64 j)): ev C (n+1) US ⟨env,34,h⟩=some (.normal,⟨env.set 21 (some (.bool (decide ((j:Int)<8)))),34,h⟩):=by
 simp only[US,mJ,mg,iL,iQ,Tryz.f217,gq,leftC,b6,unblk,unloop,fU,evStep,aK]
 rw[bK rfl rfl rfl]
 simp only[evOp,evO,Env.v,I,ofValue,ofScalar,binV,ikBeq,ai,intV,bk,cC,evOps]
theorem UW {x:Nat}(J:x<4294967296)(h5:T.get env 5=some (.int .u32 x)):
  ∃I,ev C (n+1) UT ⟨env,34,h⟩=some (.normal,⟨I,34,h⟩)∧T.get I 24=some (.bool (Nat.beq (x%2) 1))∧∀t,t≠22→t≠23→t≠24→T.get I t=T.get env t:=by
 refine⟨((env.set 22 (some (.int .u32 x))).set 23 (some (.int .u32 ((x%2:Nat):Int)))).set 24 (some (.bool (Nat.beq (x%2) 1))),?_,by simp[aL],fun t h1 h2 h3=>by simp[aL,h1,h2,h3]⟩
 simp only[UT,sR,mJ,mg,iL,iQ,Tryz.f217,gq,leftC,b6,unblk,unloop,fU,evStep,aK]
 rw[bK rfl rfl rfl]
 simp only[evOp,evO,Env.v,h5,bk,cC]
 rw[bK rfl rfl rfl]
 simp only[evOp,evO,Env.v,aL,b7,ofValue,ofScalar,binV,ikBeq,ai,Mt J,bk,cC]
 rw[bK rfl rfl rfl]
 simp only[evOp,evO,Env.v,aL,b7,ofValue,ofScalar,binV,ikBeq,ai,intV,bk,cC,evOps]
 rfl
theorem Mv {x:Nat}(I:x<4294967296): Nat.xor (x/2) 3988292384<4294967296:=mI (by omega) (by omega)
theorem UX {x:Nat}{b:Bool}(hx:x<4294967296)(h5:T.get env 5=some (.int .u32 x))(I:T.get env 24=some (.bool b)):
  ∃J,ev C (n+2) UU ⟨env,34,h⟩=some (.normal,⟨J,34,h⟩)∧T.get J 5=some (.int .u32 ((cond b (Nat.xor (x/2) 3988292384) (x/2):Nat):Int))∧∀t,t<25→t≠5→T.get J t=T.get env t:=by
 simp only[UU,sR,mJ,mg,iL,iQ,Tryz.f217,gq,leftC,b6,unblk,unloop,fU,evStep,evO,Env.v,I]
 cases b with
 |true =>
  refine⟨(((env.set 25 (some (.int .u32 x))).set 26 (some (.int .u32 ((x/2:Nat):Int)))).set 27 (some (.int .u32 ((Nat.xor (x/2) 3988292384:Nat):Int)))).set 5 (some (.int .u32 ((Nat.xor (x/2) 3988292384:Nat):Int))),?_,by simp[aL],fun t h1 h2 => ?_⟩
  ·simp only[ai,aK]
   rw[bK rfl rfl rfl]
   simp only[evOp,evO,Env.v,h5,bk,cC]
   rw[bK rfl rfl rfl]
   simp only[evOp,evO,Env.v,aL,b7,ofValue,ofScalar,binV,Bd,bk,cC]
   rw[bK rfl rfl rfl]
   have:=vm (a:=x/2) (b:=3988292384) (by omega) (by omega)
   rw[show((3988292384:Nat):Int)=3988292384 from rfl] at this
   simp only[evOp,evO,Env.v,aL,b7,ofValue,ofScalar,binV,ikBeq,ai,this,bk,cC]
   rw[bK rfl rfl rfl]
   simp only[evOp,evO,Env.v,aL,b7,bk,cC,evOps]
  grind[aL]
 |false =>
  refine⟨((env.set 28 (some (.int .u32 x))).set 29 (some (.int .u32 ((x/2:Nat):Int)))).set 5 (some (.int .u32 ((x/2:Nat):Int))),?_,by simp[aL],fun t h1 h2 => ?_⟩
  ·simp only[aK]
   rw[bK rfl rfl rfl]
   simp only[evOp,evO,Env.v,h5,bk,cC]
   rw[bK rfl rfl rfl]
   simp only[evOp,evO,Env.v,aL,b7,ofValue,ofScalar,binV,Bd,bk,cC]
   rw[bK rfl rfl rfl]
   simp only[evOp,evO,Env.v,aL,b7,bk,cC,evOps]
  grind[aL]
theorem SU (hj:j<8)(I:T.get env 20=some (.int .i64 j)):
  ∃J,ev C (n+1) Pm ⟨env,34,h⟩=some (.normal,⟨J,34,h⟩)∧T.get J 20=some (.int .i64 ((j+1:Nat):Int))∧∀t,t≠20→t≠30→T.get J t=T.get env t:=by
 refine⟨(env.set 30 (some (.int .i64 ((j+1:Nat):Int)))).set 20 (some (.int .i64 ((j+1:Nat):Int))),?_,by simp[aL],fun t h1 h2=>by simp[aL,h1,h2]⟩
 simp only[Pm,sR,mJ,mg,iL,iQ,Tryz.f217,gq,leftC,b6,unblk,unloop,fU,evStep,aK]
 rw[bK rfl rfl rfl]
 simp only[evOp,evO,Env.v,I,ofValue,ofScalar,binV,ikBeq,ai,wS (show j<9223372036854775807 by omega),bk,cC]
 rw[bK rfl rfl rfl]
 simp only[evOp,evO,Env.v,aL,b7,bk,cC,evOps]
section
variable {n:Nat}
theorem jg {a b:Code}(I:ev C n a s=some (.normal,s')): ev C (n+1) (.seq a b) s=ev C n b s':=by grind[fU,evStep]
theorem tC {a b:Code}(I:ev C n a s=some (.exit i,s')): ev C (n+1) (.seq a b) s=some (.exit i,s'):=by grind[fU,evStep]
theorem uz {a b:Code}{t:Bool}(I:evO s.env x=some (.bool t)): ev C (n+1) (.cond x a b) s=ev C n (cond t a b) s:=by grind[fU,evStep]
theorem Fw {c:Code}(h:ev C n c s=some (.normal,s')): ev C (n+1) (.block i c) s=some (.normal,s'):=by grind[fU,evStep]
theorem vY {c:Code}(h:ev C n c s=some (.exit i,s')): ev C (n+1) (.block i c) s=some (.normal,s'):=by simp_all[fU,evStep]
theorem IS {b:Code}(h:ev C n b s=some (.normal,s')): ev C (n+1) (.loop b) s=ev C n (.loop b) s':=by grind[fU,evStep]
theorem rN {b:Code}(h:ev C n b s=some (.exit i,s')): ev C (n+1) (.loop b) s=some (.exit i,s'):=by grind[fU,evStep]
end
theorem DH : mJ=.seq US (.seq (.cond (.tmp 21) .skip (.exit 2)) sR):=rfl
theorem Pn : sR=.seq (.block 3 (.seq UT UU)) Pm:=rfl
theorem Km {x:Nat}(hx:x<4294967296)(hj:j<8)(h5:T.get env 5=some (.int .u32 x))(h20:T.get env 20=some (.int .i64 j)):
  ∃J,ev C (n+9) mJ ⟨env,34,h⟩=some (.normal,⟨J,34,h⟩)∧T.get J 5=some (.int .u32 ((crcStep x 1:Nat):Int))∧T.get J 20=some (.int .i64 ((j+1:Nat):Int)) ∧
   ∀t,t<20→t≠5→T.get J t=T.get env t:=by
 have cA:decide ((j:Int)<8)=true:=by grind
 have q7:=Mu (C:=C) (n+7) env h h20
 rw[cA] at q7
 have g5:T.get (env.set 21 (some (.bool true))) 5=some (.int .u32 x):=by simp[aL,h5]
 obtain⟨e8,q8,q8a,q8b⟩:=UW (C:=C) (n+3) (env.set 21 (some (.bool true))) h hx g5
 have g5':T.get e8 5=some (.int .u32 x):=by grind
 obtain⟨e9,q9,q9a,q9b⟩:=UX (C:=C) (n+2) e8 h hx g5' q8a
 have g20:T.get e9 20=some (.int .i64 j):=by
  grind[aL]
 obtain⟨UY,q11,I,aby⟩:=SU (C:=C) (n+5) e9 h hj g20
 refine⟨UY,?_,?_,I,fun t h1 h2 => ?_⟩
 ·rw[DH,jg q7,jg (s':=⟨env.set 21 (some (.bool true)),34,h⟩) (by rw[uz (t:=true) (by simp[evO,Env.v,aL])];rfl),Pn,
   jg (Fw (by rw[jg q8];exact q9)),q11]
 ·grind[crcStep]
 ·grind[aL]
theorem Kn : ∀(k n:Nat) (env:Env) (x:Nat),k≤8→x<4294967296→T.get env 5=some (.int .u32 x)→T.get env 20=some (.int .i64 ((8-k:Nat):Int)) →
  ∃J,ev C (n+10+k) (.loop mJ) ⟨env,34,h⟩=some (.exit 2,⟨J,34,h⟩)∧T.get J 5=some (.int .u32 ((crcStep x k:Nat):Int))∧∀t,t<20→t≠5→T.get J t=T.get env t:=by
 intro k
 induction k with
 |zero =>
  intro n env x _ hx h5 I
  have q7:=Mu (C:=C) (n+7) env h I
  refine⟨env.set 21 (some (.bool false)),?_,by simp[aL,h5,crcStep],fun t h1 h2 => ?_⟩
  ·refine rN ?_
   rw[DH,jg q7]
   exact tC (by rw[uz (t:=false) (by simp[evO,Env.v,aL])];rfl)
  grind[aL]
 |succ k ih =>
  intro n env x hk hx h5 I
  obtain⟨e1,q1,q2,q3,q4⟩:=Km (C:=C) (n+1+k) env h hx (show 8-(k+1)<8 by omega) h5 I
  have h8:8-(k+1)+1=8-k:=by omega
  rw[h8] at q3
  have DI:crcStep x 1<4294967296:=by
   grind[crcStep,Mv]
  obtain⟨e2,p1,p2,p3⟩:=ih n e1 (crcStep x 1) (by omega) DI q2 q3
  refine⟨e2,?_,?_,fun t h1 h2=>by grind⟩
  ·grind[IS]
  ·rw[p2];simp only[crcStep]
end
noncomputable def UZ : Code:=leftC iL
noncomputable def EG : Code:=b6 (b6 iL)
noncomputable def Po : Code:=b6 EG
noncomputable def U0 : Code:=leftC mg
noncomputable def U1 : Code:=leftC (b6 mg)
noncomputable def YH : Code:=leftC (b6 (b6 mg))
theorem Pp : mg=.seq U0 (.seq U1 (.seq YH (.block 2 (.loop mJ)))):=rfl
theorem wT : iL=.seq UZ (.seq (.cond (.tmp 13) .skip (.exit 0)) EG):=rfl
theorem Pq : EG=.seq (.block 1 mg) Po:=rfl
theorem dY : bj Tryz.prog 5=some 1:=by kernel_rfl
theorem IT : isAggT Tryz.prog 5=some false:=by kernel_rfl
section
variable {told:cE} (n:Nat) (env:Env) (h:H)
theorem Fx {len:Nat}(I:T.get env 12=some (.int .i64 i))(J:T.get env 11=some (.int .i64 len)):
  ev ⟨Tryz.prog,told⟩ (n+1) UZ ⟨env,34,h⟩=some (.normal,⟨env.set 13 (some (.bool (decide ((i:Int)<(len:Int))))),34,h⟩):=by
 simp only[UZ,iL,iQ,Tryz.f217,gq,leftC,b6,unblk,unloop,fU,evStep,aK]
 rw[bK rfl rfl rfl]
 simp_all[evOp,evO,Env.v,binV,ikBeq,intV,bk,evOps]
theorem U2 {len:Nat}{cap:Cap}(hi:i<len)(I:T.get env 12=some (.int .i64 i))(J:T.get env 10=some (.sl id off len cap))(hb:wq h id (off+i)=some (.int .u8 b)):
  ∃e',ev ⟨Tryz.prog,told⟩ (n+1) U0 ⟨env,34,h⟩=some (.normal,⟨e',34,h⟩)∧T.get e' 7=some (.int .u8 b)∧∀t,t≠7→t≠14→t≠15→T.get e' t=T.get env t:=by
 refine⟨((env.set 14 (some (.ptr id (off+i)))).set 15 (some (.int .u8 b))).set 7 (some (.int .u8 b)),?_,by simp[aL],fun t h1 h2 h3=>by simp[aL,h1,h2,h3]⟩
 simp only[U0,mg,iL,iQ,Tryz.f217,gq,leftC,b6,unblk,unloop,fU,evStep,aK]
 rw[bK rfl rfl rfl]
 have d1:decide ((0:Int)≤(i:Int))=true:=by simp
 have d2:decide ((i:Int)<(len:Int))=true:=by grind
 simp only[evOp,evO,Env.v,J,I,indexAddrV,aM,dY,d1,d2,iy,ai,b8,iz,bk,cC]
 rw[bK rfl rfl rfl]
 simp only[evOp,evO,Env.v,aL,b7,loadV,IT,hb,bk,cC]
 rw[bK rfl rfl rfl]
 simp only[evOp,evO,Env.v,aL,b7,bk,cC,evOps]
theorem U3 {x:Nat}(hx:x<4294967296)(hb:b<256)(h5:T.get env 5=some (.int .u32 x))(h7:T.get env 7=some (.int .u8 b)):
  ∃I,ev ⟨Tryz.prog,told⟩ (n+1) U1 ⟨env,34,h⟩=some (.normal,⟨I,34,h⟩)∧T.get I 5=some (.int .u32 ((Nat.xor x b:Nat):Int))∧∀t,t<16→t≠5→T.get I t=T.get env t:=by
 refine⟨((((env.set 16 (some (.int .u32 x))).set 17 (some (.int .u8 b))).set 18 (some (.int .u32 b))).set 19 (some (.int .u32 ((Nat.xor x b:Nat):Int)))).set 5 (some (.int .u32 ((Nat.xor x b:Nat):Int))),?_,by simp[aL],fun t h1 h2 => ?_⟩
 ·simp only[U1,mg,iL,iQ,Tryz.f217,gq,leftC,b6,unblk,unloop,fU,evStep,aK]
  rw[bK rfl rfl rfl]
  simp only[evOp,evO,Env.v,h5,bk,cC]
  rw[bK rfl rfl rfl]
  have g7:T.get (env.set 16 (some (.int .u32 x))) 7=some (.int .u8 b):=by simp[aL,h7]
  simp only[evOp,evO,Env.v,g7,bk,cC]
  rw[bK rfl rfl rfl]
  simp only[evOp,evO,Env.v,aL,b7,convV,Tryz.underlying5,Tryz.underlying285,wrap_u32 (show b<4294967296 by omega),cC]
  rw[bK rfl rfl rfl]
  have J:T.get (((env.set 16 (some (.int .u32 x))).set 17 (some (.int .u8 b))).set 18 (some (.int .u32 b))) 16=some (.int .u32 x):=by simp[aL]
  have g18:T.get (((env.set 16 (some (.int .u32 x))).set 17 (some (.int .u8 b))).set 18 (some (.int .u32 b))) 18=some (.int .u32 b):=by simp[aL]
  simp only[evOp,evO,Env.v,J,g18,binV,ikBeq,ai,vm hx (show b<4294967296 by omega),bk,cC]
  rw[bK rfl rfl rfl]
  simp only[evOp,evO,Env.v,aL,b7,bk,cC,evOps]
 grind[aL]
theorem U4 : ev ⟨Tryz.prog,told⟩ (n+1) YH ⟨env,34,h⟩=some (.normal,⟨env.set 20 (some (.int .i64 0)),34,h⟩):=by
 rfl
theorem SV (hi:i<9223372036854775807)(I:T.get env 12=some (.int .i64 i)):
  ∃J,ev ⟨Tryz.prog,told⟩ (n+1) Po ⟨env,34,h⟩=some (.normal,⟨J,34,h⟩)∧T.get J 12=some (.int .i64 ((i+1:Nat):Int))∧∀t,t≠12→t≠31→T.get J t=T.get env t:=by
 refine⟨(env.set 31 (some (.int .i64 ((i+1:Nat):Int)))).set 12 (some (.int .i64 ((i+1:Nat):Int))),?_,by simp[aL],fun t h1 h2=>by simp[aL,h1,h2]⟩
 simp only[Po,EG,iL,iQ,Tryz.f217,gq,leftC,b6,unblk,unloop,fU,evStep,aK]
 rw[bK rfl rfl rfl]
 simp only[evOp,evO,Env.v,I,ofValue,ofScalar,binV,ikBeq,ai,wS hi,bk,cC]
 rw[bK rfl rfl rfl]
 simp only[evOp,evO,Env.v,aL,b7,bk,cC,evOps]
theorem Be : ∀(k x:Nat),x<4294967296→crcStep x k<4294967296:=by
 intro k
 induction k<;>grind[crcStep,Mv]
theorem Pr {x len:Nat}{cap:Cap}(hx:x<4294967296)(hb:b<256)(hi:i<len)(h5:T.get env 5=some (.int .u32 x))(I:T.get env 12=some (.int .i64 i))(J:T.get env 10=some (.sl id off len cap))
 (hr:wq h id (off+i)=some (.int .u8 b)):
  ∃e',ev ⟨Tryz.prog,told⟩ (n+22) mg ⟨env,34,h⟩=some (.normal,⟨e',34,h⟩)∧T.get e' 5=some (.int .u32 ((crcStep (Nat.xor x b) 8:Nat):Int))∧∀t,t=10∨t=11∨t=12→T.get e' t=T.get env t:=by
 obtain⟨e4,q4,U5,q4b⟩:=U2 (told:=told) (n+20) env h hi I J hr
 obtain⟨e5,q5,q5a,q5b⟩:=U3 (told:=told) (n+19) e4 h hx hb (by grind) U5
 have q6:=U4 (told:=told) (n+18) e5 h
 obtain⟨e2,q2,RG,RH⟩:=Kn (C:=⟨Tryz.prog,told⟩) h 8 n (e5.set 20 (some (.int .i64 0))) (Nat.xor x b) (by omega) (mI hx (by omega)) (by simp[aL,q5a]) (by simp[aL])<;>simp_all[aL,Pp,jg,vY]
theorem Ko {len:Nat}{cap:Cap}(hlen:len<9223372036854775807): ∀(l:List Nat) (i n:Nat) (env:Env) (x:Nat),i+l.length=len→x<4294967296→(∀b∈l,b<256) →
  (∀j b:Nat,l[j]?=some b→wq h id (off+(i+j))=some (.int .u8 (b:Int)))→T.get env 5=some (.int .u32 x)→T.get env 12=some (.int .i64 i)→T.get env 10=some (.sl id off len cap)→T.get env 11=some (.int .i64 len) →
  ∃e',ev ⟨Tryz.prog,told⟩ (n+30+l.length) (.loop iL) ⟨env,34,h⟩=some (.exit 0,⟨e',34,h⟩)∧T.get e' 5=some (.int .u32 ((crcL x l:Nat):Int)):=by
 intro l
 induction l with
 |nil =>
  intro i n env x hi hx _ _ h5 I YI U6
  have q3:=Fx (told:=told) (n+27) env h I U6
  have hd:decide ((i:Int)<(len:Int))=false:=by grind
  rw[hd] at q3
  refine⟨env.set 13 (some (.bool false)),?_,by simp[aL,h5,crcL]⟩
  refine rN ?_
  rw[wT,jg q3]
  exact tC (by rw[uz (t:=false) (by simp[evO,Env.v,aL])];rfl)
 |cons b l ih =>
  intro i n env x hi hx DJ iY h5 I YI U6
  simp only[bq] at hi
  have q3:=Fx (told:=told) (n+l.length+28) env h I U6
  have hd:decide ((i:Int)<(len:Int))=true:=by grind
  rw[hd] at q3
  have hb:b<256:=DJ b (by simp)
  have hr:=iY 0 b (by simp)
  rw[nq] at hr
  obtain⟨e1,q1,YJ,q1b⟩:=Pr (told:=told) (cap:=cap) (n+l.length+4) (env.set 13 (some (.bool true))) h hx hb (show i<len by omega) (by simp[aL,h5]) (by simp[aL,I]) (by simp[aL,YI]) hr
  obtain⟨e2,q2,RG,RH⟩:=SV (told:=told) (n+l.length+26) e1 h (show i<9223372036854775807 by omega) (by grind[aL])
  have mA:crcStep (Nat.xor x b) 8<4294967296:=Be 8 _ (mI hx (by omega))
  obtain⟨e3,q3',U7⟩:=ih (i+1) n e2 (crcStep (Nat.xor x b) 8) (by omega) mA (fun c hc=>DJ c (by grind)) (fun j c hj=>by
   have:=iY (j+1) c (by grind)
   rwa [show i+(j+1)=i+1+j from by omega] at this) (by grind) RG (by grind[aL]) (by grind[aL])
  refine⟨e3,?_,by rw[U7];simp only[crcL]⟩
  have J:ev ⟨Tryz.prog,told⟩ (n+l.length+30) iL ⟨env,34,h⟩=some (.normal,⟨e2,34,h⟩):=by
   rw[wT,jg q3,jg (s':=⟨env.set 13 (some (.bool true)),34,h⟩) (by rw[uz (t:=true) (by simp[evO,Env.v,aL])];rfl),Pq,
    jg (Fw q1),q2]
  rw[bq,show n+30+(l.length+1)=(n+l.length+30)+1 from by omega,IS J,show n+l.length+30=n+30+l.length from by omega]
  exact q3'
noncomputable def YK : Code:=leftC iQ
noncomputable def U8 : Code:=leftC (b6 iQ)
noncomputable def U9 : Code:=leftC (leftC (b6 (b6 iQ)))
noncomputable def Ps : Code:=b6 (b6 (b6 iQ))
theorem Pt : iQ=.seq YK (.seq U8 (.seq (.seq U9 (.block 0 (.loop iL))) Ps)):=rfl
theorem U_ : ev ⟨Tryz.prog,told⟩ (n+1) YK ⟨env,34,h⟩=some (.normal,⟨env.set 4 (some (.int .u32 0)),34,h⟩):=by
 rfl
theorem Va {x:Nat}(J:x<4294967296)(h0:T.get env 0=some (.int .u32 x)):
  ∃I,ev ⟨Tryz.prog,told⟩ (n+1) U8 ⟨env,34,h⟩=some (.normal,⟨I,34,h⟩)∧T.get I 5=some (.int .u32 ((Nat.xor x 4294967295:Nat):Int))∧∀t,t≠5→t≠8→t≠9→T.get I t=T.get env t:=by
 refine⟨((env.set 8 (some (.int .u32 x))).set 9 (some (.int .u32 ((Nat.xor x 4294967295:Nat):Int)))).set 5 (some (.int .u32 ((Nat.xor x 4294967295:Nat):Int))),?_,by simp[aL],fun t h1 h2 h3=>by simp[aL,h1,h2,h3]⟩
 simp only[U8,iQ,Tryz.f217,gq,leftC,b6,fU,evStep,aK]
 rw[bK rfl rfl rfl]
 simp only[evOp,evO,Env.v,h0,bk,cC]
 rw[bK rfl rfl rfl]
 have:=vm (a:=x) (b:=4294967295) J (by omega)
 rw[show((4294967295:Nat):Int)=4294967295 from rfl] at this
 simp only[evOp,evO,Env.v,aL,b7,ofValue,ofScalar,binV,ikBeq,ai,this,bk,cC]
 rw[bK rfl rfl rfl]
 simp only[evOp,evO,Env.v,aL,b7,bk,cC,evOps]
theorem Vb {x:V}{len:Nat}(J:T.get env 1=some x)(hl:lenV Tryz.prog h 23 x=some (.int .i64 len)):
  ∃I,ev ⟨Tryz.prog,told⟩ (n+1) U9 ⟨env,34,h⟩=some (.normal,⟨I,34,h⟩)∧T.get I 10=some x∧T.get I 11=some (.int .i64 len)∧T.get I 12=some (.int .i64 ((0:Nat):Int))∧T.get I 5=T.get env 5:=by
 refine⟨((env.set 10 (some x)).set 11 (some (.int .i64 len))).set 12 (some (.int .i64 0)),?_,by simp[aL],by simp[aL],by simp[aL],by simp[aL]⟩
 simp only[U9,iQ,Tryz.f217,gq,leftC,b6,fU,evStep,aK]
 rw[bK rfl rfl rfl]
 simp only[evOp,evO,Env.v,J,bk,cC]
 rw[bK rfl rfl rfl]
 simp only[evOp,evCall,evArgs,evO,Env.v,aL,b7,builtinV,hl,l8,cC]
 rw[bK rfl rfl rfl]
 simp only[evOp,evO,ofValue,ofScalar,bk,cC,evOps]
theorem SW {x:Nat}(J:x<4294967296)(h5:T.get env 5=some (.int .u32 x)):
  ∃I,ev ⟨Tryz.prog,told⟩ (n+2) Ps ⟨env,34,h⟩=some (.ret,⟨I,34,h⟩)∧T.get I 4=some (.int .u32 ((Nat.xor x 4294967295:Nat):Int)):=by
 refine⟨((env.set 32 (some (.int .u32 x))).set 33 (some (.int .u32 ((Nat.xor x 4294967295:Nat):Int)))).set 4 (some (.int .u32 ((Nat.xor x 4294967295:Nat):Int))),?_,by simp[aL]⟩
 simp only[Ps,iQ,Tryz.f217,gq,b6,fU,evStep,aK]
 rw[bK rfl rfl rfl]
 simp only[evOp,evO,Env.v,h5,bk,cC]
 rw[bK rfl rfl rfl]
 have:=vm (a:=x) (b:=4294967295) J (by omega)
 rw[show((4294967295:Nat):Int)=4294967295 from rfl] at this
 simp only[evOp,evO,Env.v,aL,b7,ofValue,ofScalar,binV,ikBeq,ai,this,bk,cC]
 rw[bK rfl rfl rfl]
 simp only[evOp,evO,Env.v,aL,b7,bk,cC,evOps]
end
theorem Kp : ∀(cs:List V) (l:List Nat),bytesIn cs=some l→cs=l.map (fun(b:Nat)=>V.int .u8 (b:Int))∧∀b∈l,b<256:=by
 intro cs
 induction cs with
 |nil=>grind[bytesIn]
 |cons v cs I =>
  intro l h
  unfold bytesIn at h
  grind
theorem CQ : ∀(l:List Nat) (x:Nat),x<4294967296→(∀b∈l,b<256)→crcL x l<4294967296:=by
 intro l
 induction l with
 |nil=>intro x I _;exact I
 |cons b l ih =>
  intro x I J
  have h1:=J b (by simp)
  exact ih _ (Be 8 _ (mI I (by omega))) (fun c hc=>J c (by grind))
theorem Aj {s : Int} {x : V} {len : Nat} (hs0 : 0 ≤ s) (fX : s < 4294967296) (hl : lenV Tryz.prog σ 23 x = some (.int .i64 len)) (hlen : len = l.length) (jq : len < 9223372036854775807)
  (hb : ∀ b ∈ l, b < 256) (hx : l = [] ∨ ∃ id off cap, x = .sl id off len cap ∧ ∀ j b : Nat, l[j]? = some b → wq σ id (off + (0 + j)) = some (.int .u8 (b : Int))) :
  run ⟨Tryz.prog, fun _ => none⟩ (l.length + 40) 217 [.int .u32 s, x] σ = some (uy s l, σ) := by
 obtain ⟨u, rfl⟩ : ∃ u : Nat, s = (u : Int) := ⟨s.toNat, by omega⟩
 have hu : u < 4294967296 := by omega
 have q0 := U_ (told := fun _ => none) (l.length + 38) (bindArgs [.int .u32 u, x] 0 .lf) σ
 obtain ⟨e1, q1, YJ, q1b⟩ := Va (told := fun _ => none) (l.length + 37) ((bindArgs [.int .u32 u, x] 0 .lf).set 4 (some (.int .u32 0))) σ hu (by rfl)
 obtain ⟨e2, q2, RG, RH, YL, q2d⟩ := Vb (told := fun _ => none) (l.length + 35) e1 σ (x := x) (by grind [aL, bindArgs]) hl
 have I : Nat.xor u 4294967295 < 4294967296 := mI hu (by omega)
 have J : ∃ e', ev ⟨Tryz.prog, fun _ => none⟩ (5 + 30 + l.length) (.loop iL) ⟨e2, 34, σ⟩ = some (.exit 0, ⟨e', 34, σ⟩) ∧ T.get e' 5 = some (.int .u32 ((crcL (Nat.xor u 4294967295) l : Nat) : Int)) := by
  rcases hx with rfl | ⟨id, off, cap, rfl, iY⟩
  ·have q3 := Fx (told := fun _ => none) 32 e2 σ YL RH
   have hd : decide ((((0 : Nat) : Int)) < (len : Int)) = false := by grind
   rw [hd] at q3
   refine ⟨e2.set 13 (some (.bool false)), ?_, by simp [aL, q2d, YJ, crcL]⟩
   refine rN ?_
   rw [wT, jg q3]
   exact tC (by rw [uz (t := false) (by simp [evO, Env.v, aL])]; rfl)
  ·exact Ko σ jq l 0 5 e2 _ (by omega) I hb iY (by grind) YL RG RH
 obtain ⟨e3, q3, U7⟩ := J
 obtain ⟨e4, q4, U5⟩ := SW (told := fun _ => none) (l.length + 35) e3 σ (CQ l _ I hb) U7
 have W_ : ev ⟨Tryz.prog, fun _ => none⟩ (l.length + 40) iQ ⟨bindArgs [.int .u32 u, x] 0 .lf, 34, σ⟩ = some (.ret, ⟨e4, 34, σ⟩) := by
  rw [Pt, jg q0, jg q1, jg (s' := ⟨e3, 34, σ⟩) (by
   rw [jg q2]
   grind [vY]), q4]
 unfold run callF
 simp only [A_]
 rw [show Tryz.f217.body = some iQ from rfl]
 rw [show (Tryz.f217.name == "runtime.NumGoroutine" || Nat.blt Tryz.f217.ntmps [V.int .u32 (u : Int), x].length) = false from rfl]
 simp only [aK]
 rw [show Tryz.f217.ntmps = 34 from rfl, W_]
 simp only
 rw [show Tryz.f217.results = #[.tmp 4] from rfl]
 simp only [mapO, resV, Env.v, U5, uy, b8]
section
variable {c:Ctx} {w:World}
theorem HU (hP:C.P=Tryz.prog)(hm:C.P.follows .mixedOrders=true){v:V}(I:toldMore args σ=some (v,cJ))(h:Rel c σ w)(hw:∀x∈args,wf c x):
  eE C.P 217 args c w v cJ:=by
 rw[hP] at hm ⊢
 have hT:dA ⟨Tryz.prog,fun _=>none⟩:=fun f g hg=>by cases hg
 unfold toldMore at I
 split at I
 ·rename_i s id off len cap
  cases J:(decide (0≤s)&&decide (s<4294967296)&&Nat.ble len 4611686018427387904) with
  |false=>grind
  |true =>
   rw[J,ai] at I
   simp only[bC,gn,aG] at J
   obtain⟨hd,jq⟩:=J
   cases iY:rdN σ id off len with
   |none=>grind
   |some cs =>
    simp only[iY] at I
    cases hb:bytesIn cs with
    |none=>grind
    |some l =>
     simp only[hb,au,br] at I
     obtain⟨rfl,rfl⟩:=I
     obtain⟨b1,b2⟩:=Kp cs l hb
     obtain⟨d1,d2⟩:=SS h iY
     have hl:len=l.length:=by grind
     refine Fu (C:=⟨Tryz.prog,fun _=>none⟩) hm hT (Aj hd.1 hd.2 (len:=len) (by simp[lenV,aM]) hl (by omega) b2 (.inr ⟨id,off,cap,rfl,fun j b hj => ?_⟩)) h hw
     ·grind
 ·rename_i s
  cases hd:(decide (0≤s)&&decide (s<4294967296)) with
  |false=>grind
  |true =>
   rw[hd,ai] at I
   simp only[bC,gn] at hd
   obtain⟨rfl,rfl⟩:=I
   exact Fu (C:=⟨Tryz.prog,fun _=>none⟩) hm hT (Aj hd.1 hd.2 (len:=0) (l:=[]) (by simp[lenV,aM]) rfl (by omega) (by simp) (.inl rfl)) h hw
 ·rename_i s _
  cases hd:(decide (0≤s)&&decide (s<4294967296)) with
  |false=>grind
  |true =>
   rw[hd,ai] at I
   simp only[bC,gn] at hd
   obtain⟨rfl,rfl⟩:=I
   exact Fu (C:=⟨Tryz.prog,fun _=>none⟩) hm hT (Aj hd.1 hd.2 (len:=0) (l:=[]) (by simp[lenV,aM]) rfl (by omega) (by simp) (.inl rfl)) h hw
 ·cases I
end
end Go.Proofs.YtiojppeahfoiaaaGreat.Am
namespace Go.Proofs.YtiojppeahfoiaaaGreat.Am
open Go Go.Maps Go.RowKit
variable {ps:Array (Nat×Operand)} {ops:Array Oper} {st:Bool} {C:dR} {code:Code} {c₀:Ctx} {env:Env} {Q:Ex→List (Nat×V)→H→Prop} {fn:Func} {f:FuncId} {cl:Go.Call} {h h' σ h₁ cJ:H} {κ:IntKind} {E E':List (Nat×V)} {R:List (Nat×V)→H→Prop} {d₀:List Deferred} {hs:List H} {dy es l:List Nat} {L rest:List Oper} {args first cap vs cs ds:List V} {a b i c k id n d off j g lP k' q:Nat} {Hs:Nat→H} {early:Nat→Option (Nat×FV)} {Fl:Nat→Prop} {vv:Nat→V} {o:Oper} {x y:Operand} {P:Program} {φ:Prop} {self:Self} {s s':St} {α:Type} {td:TypeDesc} {t t' e kt et:TypeId} {r u z:V} {wP:V→H→Prop} {w₀:World}
def keyInts : List (V×V×Nat)→Option (List Int)
 |[]=>some []
 |(.int .i64 n,_,_)::l=>cond (Lit.int .i64 n).wf (match keyInts l with
  |some m=>some (n::m)
  |none=>none) none
 |_=>none
def bornUp (clock:Nat): Nat→List (V×V×Nat)→Bool
 |_,[]=>true
 |b,(_,_,x)::l=>cond (Nat.ble b x&&Nat.blt x clock) (bornUp clock (x+1) l) false
def insI (x:Int): List Int→List Int
 |[]=>[x]
 |y::l=>cond (decide (x≤y)) (x::y::l) (y::insI x l)
def lz : List Int→List Int
 |[]=>[]
 |x::l=>insI x (lz l)
def pU : List Int→Bool
 |[]=>true
 |x::l=>l.all (fun y=>decide (x<y))&&pU l
def dO (l:List Int): List V:=l.map (V.int .i64)
noncomputable def toldSorted (gs:List Nat): List V→H→Option (V×H)
 |[.fn (.func g) [] [.ptr b 0]],h=>match h.tr.get b with
  |some (.cells n [.map id] false)=>match h.tr.get id with
   |some (.map es clock)=>cond (Nat.beq n 1&&uZ gs g&&bornUp clock 0 es&&Nat.ble es.length 1048576) (match keyInts es with
    |some ks=>cond (pU (lz ks)) (match ks with
     |[]=>some (.aO,h)
     |_=>some (.sl h.next 0 ks.length (.rest 1 0),newRow h (dO (lz ks)))) none
    |none=>none) none
   |_=>none
  |_=>none
 |_,_=>none
theorem wU (x:Int): ∀l:List Int,(insI x l).Perm (x::l)
 |[]=>.refl _
 |y::l=>by
  simp only[insI]
  cases decide (x≤y) with
  |true=>rfl
  |false=>exact((wU x l).cons y).trans (.swap x y l)
theorem e_ : ∀l:List Int,(lz l).Perm l
 |[]=>.refl _
 |x::l=>(wU x _).trans ((e_ l).cons x)
theorem DL : ∀l:List Int,pU l=true→l.Pairwise (· < ·)
 |[],_=>.nil
 |x::l,h=>by
  simp only[pU,bC,tX,gn] at h
  exact List.pairwise_cons.2 ⟨h.1,DL l h.2⟩
theorem uA : ∀ {l m:List Int},l.Perm m→l.Pairwise (· ≤ ·)→m.Pairwise (· ≤ ·)→l=m
 |[],m,I,_,_=>I.nil_eq
 |a::r,[],I,_,_=>absurd I.symm.nil_eq (by simp)
 |a::r,b::s,I,h1,h2=>by
  obtain⟨a1,a2⟩:=List.pairwise_cons.1 h1
  obtain⟨b1,b2⟩:=List.pairwise_cons.1 h2
  have J:a=b:=by
   have ha:a∈b::s:=I.mem_iff.1 (by simp)
   have hb:b∈a::r:=I.mem_iff.2 (by simp)
   grind
  subst J
  rw[uA (List.Perm.cons_inv I) a2 b2]
theorem DM {clock:Nat}: ∀(l:List (V×V×Nat)) (b:Nat),bornUp clock b l=true→(∀x∈l,b≤x.2.2∧x.2.2<clock)∧(l.map (·.2.2)).Nodup
 |[],_,_=>⟨by simp,by simp⟩
 |(k,v,x)::l,b,h=>by
  simp only[bornUp] at h
  cases I:(Nat.ble b x&&Nat.blt x clock) with
  |false=>grind
  |true =>
   rw[I,ai] at h
   simp only[bC,aG,fT] at I
   obtain⟨i1,i2⟩:=DM l (x+1) h<;>grind
theorem Bf {c:Ctx}: ∀(l:List (V×V×Nat)) (ks:List Int),keyInts l=some ks→l.map (fun x=>conc c x.1)=ks.map (Value.int .i64)∧∀n∈ks,(Lit.int .i64 n).wf=true
 |[],ks,h=>by grind[keyInts]
 |(k,v,b)::l,ks,h=>by
  unfold keyInts at h
  split at h
  ·grind
  ·rename_i n v' I J he
   obtain⟨⟨rfl,rfl,rfl⟩,rfl⟩:=he
   cases hw:(Lit.int .i64 n).wf with
   |false=>grind
   |true =>
    cases hm:keyInts l with
    |none=>grind
    |some m =>
     simp[hw,hm] at h
     obtain⟨i1,i2⟩:=Bf (c:=c) l m hm<;>grind[conc]
  ·cases h
section
variable {c:Ctx} {w w':World}
theorem Rel.below (h:Rel c σ w)(I:Below w.heap.size w w'): Rel c σ w'∧bT c w c w':=by
 have rows:∀b,b<w.heap.size→rowSize w' b=rowSize w b:=fun b J=>by unfold rowSize;rw[I.block b J]
 refine⟨⟨h.next,h.live,fun id hi=>gj (h.jX id hi) I.size,fun id hi=>by rw[rows _ (h.jX id hi)];exact h.zz id hi,h.inj,
  fun id o ho=>(h.obj id o ho).later (Ext.refl c) (h.live id o ho) (I.block _ (h.jX id (h.live id o ho))),h.one,h.fx⟩,
  ⟨Ext.refl c,I.size,rows,fun b J _=>I.block b J,fun id h1 h2=>by omega,I.os,I.output⟩⟩
theorem Rel.take {C:Array Value}{T:TypeId}(h:Rel c σ w)(hb:b<w.heap.size)(hr:∀id,id<c.N→(c.ρ id).1≠b)(J:∀v∈cs,wf c v∧storable v=true)
 (hg:w.heap[b]?=some (.cells C T (0,0)))(hC:C.toList.take cs.length=cs.map (conc c)): Rel (c.grow b 0 C.size) (Am.newRow σ cs) w:=by
 have e:=pG hr 0 C.size
 have hN:(c.grow b 0 C.size).N=c.N+1:=rfl
 have hle:cs.length≤C.size:=by
  have:=iA List.length hC
  simp at this
  omega
 have key:∀i o,(Am.newRow σ cs).tr.get i=some o→(i=c.N∧o=.cells cs.length cs false)∨(i<c.N∧σ.tr.get i=some o):=by
  intro i o hi
  rw[Am.newRow,fG,h.next] at hi
  by_cases h1:i=c.N
  ·grind
  ·simp[h1] at hi;exact .inr ⟨h.live i o hi,hi⟩
 refine⟨by simp[Am.newRow,H.new,Ctx.grow,h.next],fun i o hi => ?_,fun i hi => ?_,fun i hi => ?_,fun i j o o' hi hj he => ?_,fun i o hi => ?_,fun i vQ lJ hi hx => ?_,fun i o hi hx => ?_⟩
 ·grind
 ·by_cases h1:i=c.N
  ·grind[bn]
  ·rw[cP c _ _ _ (by omega)];exact h.jX i (by omega)
 ·by_cases h1:i=c.N
  ·grind[Ctx.grow,rowSize]
  ·rw[cP c _ _ _ (by omega),←h.zz i (by omega)];simp[Ctx.grow,hr i (by omega)]
 ·rcases key i o hi with⟨I,_⟩|⟨I,a2⟩<;>rcases key j o' hj with⟨b1,_⟩|⟨b1,b2⟩
  ·omega
  ·grind[bn,cP]
  ·grind[bn,cP]
  ·rw[cP c _ _ _ I,cP c _ _ _ b1] at he;rw[ff c _ _ _ I,ff c _ _ _ b1];exact h.inj i j _ _ a2 b2 he
 ·rcases key i o hi with⟨rfl,rfl⟩|⟨I,a2⟩
  ·refine⟨rfl,fun v hv=>⟨(bL e v (J v hv).1).2,(J v hv).2⟩,C,T,(0,0),by rw[bn];exact hg,by grind[bn],fun j v hj => ?_,rfl⟩
   rw[bn,(bL e v (J v (bI hj)).1).1]
   have h1:(C.toList.take cs.length)[j]?=some (conc c v):=by grind
   grind
  ·exact(h.obj i o a2).later e I rfl
 ·rcases key i _ hi with⟨rfl,_⟩|⟨I,a2⟩
  ·rw[bn]
  ·rw[ff c _ _ _ I] at hx
   rw[cP c _ _ _ I];exact h.one i vQ lJ a2 hx
 ·rcases key i o hi with⟨rfl,_⟩|⟨I,a2⟩
  ·grind[u9]
  ·rw[ff c _ _ _ I] at hx;exact h.fx i o a2 hx
def mK (_:Value): Option (DataW Unit×List MemPlace):=some (.nil,[])
def DN (P:Program)(f K:Nat)(gs:List Nat): Prop:=∀g∈gs,∀(Bm b nn:Nat) (I:DataW Unit) (w:World),Bm<w.heap.size→w.cell? ⟨Bm,0,none⟩=some (.map (some b)) →
 w.ownsMap P K mK b nn I→Maps.size I≤maxLen→Maps.size I*8≤140737488355328 →
 Calls P f #[.func (.func g) #[] #[.pointer (some ⟨Bm,0,none⟩)]] w fun e w'=>∃(v:Value) (J:List Int),e=.returned v∧J.Perm (intKeys I) ∧
  w'.ownsRow w.heap.size K 1 v J.length ((J.mergeSort (fun x y=>decide (x≤y))).map encZ)∧(v=.slice none 0 0↔J=[])∧Below w.heap.size w w'
theorem Ev {f K:Nat}{gs:List Nat}(hK:P.underlying K=some (.int .i64))(hS:DN P f K gs){v:V}(I:toldSorted gs args σ=some (v,cJ))
 (h:Rel c σ w): eE P f args c w v cJ:=by
 unfold toldSorted at I
 split at I
 ·rename_i g b
  split at I
  ·rename_i n id RI
   split at I
   ·rename_i es clock hgm
    cases hq:(Nat.beq n 1&&uZ gs g&&bornUp clock 0 es&&Nat.ble es.length 1048576) with
    |false=>grind
    |true =>
     rw[hq,ai] at I
     simp only[bC,beq_iff,aG,Ai] at hq
     obtain⟨⟨⟨q1,q2⟩,q3⟩,q4⟩:=hq
     subst q1
     cases hk:keyInts es with
     |none=>grind
     |some ks =>
      simp only[hk] at I
      cases J:pU (lz ks) with
      |false=>grind
      |true =>
       simp only[J,ai] at I
       obtain⟨k1,k2⟩:=Bf (c:=c) es ks hk
       obtain⟨b1,b2⟩:=DM es 0 q3
       have cA:=DL _ J
       have nZ:ks.Nodup:=(e_ ks).nodup_iff.1 (cA.imp fun {a b} rF=>by omega)
       have RJ:=h.one b _ _ RI (h.CC RI (by simp))
       have u7:=cell_of h RI (j:=0) (v:=.map id) rfl
       have ZS:fP c b 0=⟨(c.ρ b).1,0,none⟩:=by simp[fP,RJ]
       rw[ZS] at u7
       have Vc:w.cell? ⟨(c.ρ b).1,0,none⟩=some (.map (some (c.ρ id).1)):=by simpa[conc] using u7
       obtain⟨m1,m2⟩:=h.obj id _ hgm
       have EH:∀x∈es,∃n,n∈ks∧(bZ c x).key=.int .i64 n:=fun x hx=>by
        have:conc c x.1∈ks.map (Value.int .i64):=by grind
        obtain⟨n,hn,he⟩:=List.mem_map.1 this
        exact⟨n,hn,he.symm⟩
       have iY:∀x∈es,∀n,(bZ c x).key=.int .i64 n→n∈ks→WideElems.rd P K mK (bZ c x)=some (.int .i64 n,.nil):=fun x hx n hn hm=>by
        grind[WideElems.rd,Maps.keyOf_int_mk,mK]
       have ZT:w.ownsMap P K mK (c.ρ id).1 es.length (.map (((es.map (bZ c)).toArray.toList.map (WideElems.rg P K mK)).foldr DataW.insert [])):=by
        refine⟨(es.map (bZ c)).toArray,clock,m2,⟨by simp[maxLen];omega,⟨fun x hx => ?_,?_,?_⟩,fun x hx => ?_⟩,by simp,rfl⟩
        ·simp only[List.mem_map] at hx
         obtain⟨y,hy,rfl⟩:=hx
         exact(b1 y hy).2
        ·grind[bZ]
        ·have:(es.map (bZ c)).toArray.toList.map (·.key)=ks.map (Value.int .i64):=by simp_all[bZ,Function.comp_def]
         grind
        grind
       have ej:Maps.size (H:=Unit) (.map (((es.map (bZ c)).toArray.toList.map (WideElems.rg P K mK)).foldr DataW.insert []))=es.length:=by
        rw[Maps.size_eq,(WideShapes.sorted_perm _).length_eq];simp
       have qF:(intKeys (H:=Unit) (.map (((es.map (bZ c)).toArray.toList.map (WideElems.rg P K mK)).foldr DataW.insert []))).Perm ks:=by
        refine((WideShapes.sorted_perm _).map _).trans ?_
        have:(((es.map (bZ c)).toArray.toList.map (WideElems.rg P K mK)).map fun p=>intOf p.1)=ks:=by
         have hpt:∀x∈es,Value.int .i64 (intOf (WideElems.rg P K mK (bZ c x)).1)=conc c x.1:=fun x hx=>by
          obtain⟨n,hn,he⟩:=EH x hx
          rw[WideElems.rg_of (iY x hx n he hn)]
          exact he.symm
         have h1:((((es.map (bZ c)).toArray.toList.map (WideElems.rg P K mK)).map fun p=>intOf p.1).map (Value.int .i64))=ks.map (Value.int .i64):=by
          grind[List.map_congr_left]
         grind[List.map_inj_right]
        rw[this]
       have Kq:=hS g q2 (c.ρ b).1 (c.ρ id).1 es.length _ w (h.jX b (h.live b _ RI)) Vc ZT (by rw[ej];simp[maxLen];omega) (by omega)
       have yw:([V.fn (.func g) [] [.ptr b 0]].map (conc c)).toArray = #[.func (.func g) #[] #[.pointer (some ⟨(c.ρ b).1,0,none⟩)]]:=by simp[conc,concL,RJ]
       unfold eE
       rw[yw]
       refine Kq.mono ?_
       rintro e w' ⟨rv,ss,rfl,s1,s2,s3,s4⟩
       obtain⟨g1,g2⟩:=h.below s4
       have YM:ss.Perm ks:=s1.trans qF
       have hms:ss.mergeSort (fun x y=>decide (x≤y))=lz ks:=by
        refine uA (((List.mergeSort_perm ss _).trans YM).trans (e_ ks).symm) ?_ (cA.imp fun {a b} rF=>by omega)<;>grind[List.pairwise_mergeSort]
       rw[hms] at s2
       split at I
       ·-- no key
        have wI:ss=[]:=by simp_all
        grind[conc,wf]
       ·obtain⟨rfl,rfl⟩:=I
        have abz:ss≠[]:=fun e=>by
         simp_all
        have jY:ss.length=ks.length:=YM.length_eq
        rcases s2.2 with⟨e1,_⟩|⟨gb,cap,cur,rfl,l1,l2,l3,l4,l5,l6⟩
        ·grind
        have ZU:gb<w'.heap.size:=(Array.getElem?_eq_some_iff.1 l2).1
        have Dw:∀i,i<c.N→(c.ρ i).1≠gb:=fun i hi e=>by have:=h.jX i hi;omega
        have mz:∀x∈dO (lz ks),wf c x∧storable x=true:=fun x hx=>by
         obtain⟨n,_,rfl⟩:=List.mem_map.1 hx<;>grind[wf,storable]
        have Mw:(dO (lz ks)).length=ks.length:=by simp[dO,(e_ ks).length_eq]
        have Xa:cur.toList.take (dO (lz ks)).length=(dO (lz ks)).map (conc c):=by
         simp_all[dO,conc]
        have R:=g1.take ZU Dw mz l2 Xa
        have sI:(c.grow gb 0 cur.size).room σ.next 0 1=cap:=by
         simp only[Ctx.room,h.next,Ctx.grow,b7]
         simp[l5]
        refine⟨c.grow gb 0 cur.size,?_,?_,R,g2.EE Dw l1⟩
        ·simp only[conc,sI]
         simp[h.next,Ctx.grow,jY]
        ·exact⟨by rw[h.next];simp[Ctx.grow],aS _,by omega⟩
   ·cases I
  ·cases I
 ·cases I
end
end Go.Proofs.YtiojppeahfoiaaaGreat.Am
namespace Go.Proofs.YtiojppeahfoiaaaGreat.Am
open Go
variable {ps:Array (Nat×Operand)} {ops:Array Oper} {st:Bool} {C:dR} {code:Code} {c₀:Ctx} {env:Env} {Q:Ex→List (Nat×V)→H→Prop} {fn:Func} {f:FuncId} {cl:Go.Call} {h h' σ h₁ cJ:H} {κ:IntKind} {E E':List (Nat×V)} {R:List (Nat×V)→H→Prop} {d₀:List Deferred} {hs:List H} {dy es l:List Nat} {L rest:List Oper} {args first cap vs cs ds:List V} {a b i c k id n d off j g lP k' q:Nat} {Hs:Nat→H} {early:Nat→Option (Nat×FV)} {Fl:Nat→Prop} {vv:Nat→V} {o:Oper} {x y:Operand} {P:Program} {φ:Prop} {self:Self} {s s':St} {α:Type} {td:TypeDesc} {t t' e kt et:TypeId} {r u z:V} {wP:V→H→Prop} {w₀:World}
abbrev pV := List (Nat×List V×List V)
noncomputable def resOf (P:Program)(s:St)(rs:List ResultVar): Option V:=match mapO (resV P s) rs with
 |some [v]=>some v
 |some vs=>some (.aI vs)
 |none=>none
noncomputable def evOpsD (C:dR)(self:Self)(L:List Oper): List Oper→St→pV→Option (St×pV)
 |[],s,d=>some (s,d)
 |o::rest,s,d=>match o.op with
  |.defer cl=>match o.guard,o.dst,cl.callee,evArgs s.env cl.args.toList with
   |none,none,.value x,some args=>match evO s.env x with
    |some (.fn (.func g) first cap)=>evOpsD C self L rest s ((g,first++args,cap)::d)
    |_=>none
   |_,_,_,_=>none
  |_=>cond (wantedV L s.env o)
   (match evOp C self s.env s.h o with
    |some (v,h)=>match s.put o.dst v h with
     |some s'=>evOpsD C self L rest s' d
     |none=>none
    |none=>none)
   (match s.put o.dst bR s.h with
    |some s'=>evOpsD C self L rest s' d
    |none=>none)
noncomputable def evTop (C:dR)(n:Nat): Nat→Code→St→pV→Option (Ex×St×pV)
 |0,_,_,_=>none
 |m+1,c,s,d=>match c with
  |.seq a b=>match evTop C n m a s d with
   |some (.normal,s',I)=>evTop C n m b s' I
   |r=>r
  |.region _ ops false=>match evOpsD C (ev C n) ops.toList ops.toList s d with
   |some (s',I)=>some (.normal,s',I)
   |none=>none
  |c=>match ev C n c s with
   |some (ex,s')=>some (ex,s',d)
   |none=>none
def quietParts : Code→Option (Nat×Nat×Code)
 |.seq (.region _ ops false) rest=>match ops.toList with
  |[I,J]=>match I.op,I.guard,I.dst,J.op,J.guard,J.dst with
   |.call cl,none,some lP,.assign (.tmp t),none,some CR=>match cl.callee,cl.args.toList with
    |.builtin .recover,[]=>cond (Nat.beq t lP) (some (lP,CR,rest)) none
    |_,_=>none
   |_,_,_,_,_,_=>none
  |_=>none
 |_=>none
noncomputable def defCall (C : dR) (n : Nat) (g : Nat) (args : List V) (h : H) : Option H := match C.P.funcs[g]? with
 | none => none
 | some fn => match fn.body with
  | none => none
  | some code => match quietParts code with
   | some (lP, I, rest) => cond (Nat.blt lP fn.ntmps && Nat.blt I fn.ntmps && Nat.ble args.length fn.ntmps && !(fn.name == "runtime.NumGoroutine"))
    (match ev C n rest ⟨((bindArgs args 0 .lf).set lP (some .ig)).set I (some .ig), fn.ntmps, h⟩ with
     | some (.normal, s) | some (.ret, s) => match resOf C.P s fn.results.toList with
      | some _ => some s.h
      | none => none
     | _ => none) none
   | none => match callF C (ev C n) g args h with
    | some (_, h') => some h'
    | none => none
noncomputable def runDefs (C:dR)(n:Nat): pV→H→Option H
 |[],h=>some h
 |(g,args,cap)::d,h=>match C.told g with
  |some _=>none
  |none=>match defCall C n g (args++cap) h with
   |some h'=>runDefs C n d h'
   |none=>none
noncomputable def toldDefer (C:dR)(n f:Nat)(args:List V)(h:H): Option (V×H):=match C.P.funcs[f]? with
 |none=>none
 |some fn=>match fn.body with
  |none=>none
  |some c=>cond (Nat.blt fn.ntmps args.length) none (match evTop C n 1000 c ⟨bindArgs args 0 .lf,fn.ntmps,h⟩ [] with
   |some (.exit _,_,_)=>none
   |some (_,s,d)=>match runDefs C n d s.h with
    |some h'=>match resOf C.P ⟨s.env,s.aj,h'⟩ fn.results.toList with
     |some v=>some (v,h')
     |none=>none
    |none=>none
   |none=>none)
section
variable {c:Ctx} {w:World}
theorem Ak {a:Act}{v:V}(h:Rel c s.h w)(he:cO c s.env s.aj a)(J:resOf P s fn.results.toList=some v):
  (results fn a.tmps).run P w=.ok (conc c v) w∧wf c v:=by
 unfold resOf at J
 cases I:mapO (resV P s) fn.results.toList with
 |none=>grind
 |some vs =>
  obtain⟨q1,q2⟩:=me h he I
  rw[q1]
  rcases vs with _|⟨v0,_|⟨v1,vs⟩⟩<;>grind[conc,wf,eP,gv]
structure pH (c:Ctx)(d:pV)(ds:List Deferred): Prop where
 eq:ds=d.map fun x=>{ target:=.fn (.func x.1) (x.2.2.map (conc c)).toArray,args:=(x.2.1.map (conc c)).toArray }
 DO:∀x∈d,(∀v∈x.2.1,wf c v)∧∀v∈x.2.2,wf c v
theorem pH.ext {c':Ctx}{d:pV}{ds:List Deferred}(h:pH c d ds)(e:Ext c c'): pH c' d ds where
 eq:=by
  rw[h.eq]
  refine xX fun x I => ?_
  rw[(j_ e (h.DO x I).1).1,(j_ e (h.DO x I).2).1]
 DO:=fun x I=>⟨(j_ e (h.DO x I).1).2,(j_ e (h.DO x I).2).2⟩
theorem Mx {a:Act}(he:cO c env n a): ∀(l:List Operand) (vs:List V),evArgs env l=some vs→l.map a.eval=vs.map (conc c)∧∀v∈vs,wf c v:=by
 intro l
 induction l<;>grind[evArgs,uj]
theorem My (hS:gJ C.P self)(hT:dA C){Q:Exit→Act→World→Prop}: ∀(l:List Oper) (k:Nat) (s s':St) (d d':pV) (c:Ctx) (a:Act) (w:World),
  (∀j,l[j]?=ops[k+j]?)→evOpsD C self ops.toList l s d=some (s',d')→Rel c s.h w→cO c s.env s.aj a→pH c d a.defers →
  (∀c' a' w',Rel c' s'.h w'→cO c' s'.env s'.aj a'→bT c w c' w'→pH c' d' a'.defers→Q .normal a' w') →
  wpOpsIn (Fr none) 0 C.P ops Q (List.range' k l.length) a w:=by
 intro l
 induction l with
 |nil =>
  grind[evOpsD,wpOpsIn,bT.refl]
 |cons o l ih =>
  intro k s s' d d' c a w hl I h he hd hQ
  have h0:ops[k]?=some o:=by simpa using(hl 0).symm
  have wJ:∀j,l[j]?=ops[k+1+j]?:=fun j=>by have:=hl (j+1);grind
  simp only[bq,x_,wpOpsIn,h0]
  rw[vi he]
  have common:(cond (wantedV ops.toList s.env o)
    (match evOp C self s.env s.h o with
     |some (v,h)=>match s.put o.dst v h with
      |some s'=>evOpsD C self ops.toList l s' d
      |none=>none
     |none=>none)
    (match s.put o.dst bR s.h with
     |some s'=>evOpsD C self ops.toList l s' d
     |none=>none))=some (s',d') →
    (if wantedV ops.toList s.env o=true then o.wpIn (Fr none) 0 C.P a w (wpOpsIn (Fr none) 0 C.P ops Q (List.range' (k+1) l.length)) Q else(∀f,o.about C.P w a.eval=some f→(Fr none).fn f)∧wpOpsIn (Fr none) 0 C.P ops Q (List.range' (k+1) l.length) (a.put o.dst undef) w):=by
   intro I
   cases hw:wantedV ops.toList s.env o with
   |true =>
    rw[hw,ai] at I
    cases ho:evOp C self s.env s.h o with
    |none=>grind
    |some r =>
     obtain⟨v,cJ⟩:=r
     simp only[ho] at I
     cases hp:s.put o.dst v cJ with
     |none=>grind
     |some J =>
      simp only[hp] at I
      refine(ur hS hT h (he.Fh o) ho).wpIn (ki ho) ?_
      intro c' w' r1 r2 r3
      obtain⟨p1,p2,p3⟩:=St.uh (he.ext r2.ext) r3 hp
      refine ih (k+1) J s' d d' c' _ w' wJ I (by grind) p1 (by rw[put_defers];exact hd.ext r2.ext) ?_
      intro qu wL wM q1 q2 q3 q4
      exact hQ qu wL wM q1 q2 (r2.trans q3) q4
   |false =>
    refine⟨fun _ _=>trivial,?_⟩
    cases hp:s.put o.dst bR s.h with
    |none=>grind
    |some J =>
     obtain⟨p1,p2,p3⟩:=St.uh he (show wf c bR by simp[bR,wf,fe]) hp<;>grind[qz,put_defers]
  unfold evOpsD at I
  split at I
  ·rename_i cl iZ
   split at I
   ·rename_i x args hg O2 aaY yw
    split at I
    ·rename_i g first cap YN
     have Xb:wantedV ops.toList s.env o=true:=by simp[wantedV,hg]
     simp only[Xb,b7]
     obtain⟨e1,e2⟩:=Mx he _ _ yw
     obtain⟨f1,f2⟩:=uj he YN
     have fw:(∀x∈first,wf c x)∧(∀x∈cap,wf c x):=by
      grind[wf,gv]
     have rG:(execOp a.eval o).run C.P w=.ok (.defer { target:=.fn (.func g) (cap.map (conc c)).toArray,args:=((first++args).map (conc c)).toArray }) w:=by
      simp_all[conc,eP,execOp,resolve,Deferred.ofValue]
     refine⟨fun _ _=>trivial,?_⟩
     rw[show(Fr none).round=none from rfl,Oper.semAt_none,rG]
     simp only[Oper.uponIn,O2,Act.put]
     refine ih (k+1) s s' ((g,first++args,cap)::d) d' c _ w wJ I h ⟨he.size,he.val,he.pR⟩ ⟨by simp[hd.eq],fun x hx => ?_⟩ ?_
     ·rcases List.mem_cons.1 hx with rfl|hx
      ·grind
      ·exact hd.DO x hx
     ·omega
    ·cases I
   ·cases I
  ·grind
theorem Pu (hm:C.P.follows .mixedOrders=true)(hT:dA C): ∀(m:Nat) (code:Code) (s:St) (d:pV) (ex:Ex) (s':St) (d':pV),evTop C n m code s d=some (ex,s',d') →
  ∀(c:Ctx) (a:Act) (w:World),Rel c s.h w→cO c s.env s.aj a→pH c d a.defers →
   code.wp C.P (fun e a' w'=>e=exOf ex∧∃c',Rel c' s'.h w'∧cO c' s'.env s'.aj a'∧bT c w c' w'∧pH c' d' a'.defers) a w:=by
 have hS:=(vj (C:=C) hm hT n).1
 intro m
 induction m with
 |zero=>grind[evTop]
 |succ m ih =>
  intro code s d ex s' d' J c a w h he hd
  have rest:(match ev C n code s with
    |some (ex,s')=>some (ex,s',d)
    |none=>none)=some (ex,s',d')→code.wp C.P (fun e a' w'=>e=exOf ex∧∃c',Rel c' s'.h w'∧cO c' s'.env s'.aj a'∧bT c w c' w'∧pH c' d' a'.defers) a w:=by
   intro J
   cases mG:ev C n code s with
   |none=>grind
   |some r =>
    rw[mG] at J
    obtain⟨rfl,rfl,rfl⟩:=J
    refine Code.wp_mono ?_ (hS _ _ _ _ mG c a w h he)
    rintro e a' w' ⟨rfl,q2,c',q3,q4,q5⟩
    exact⟨rfl,c',q3,q4,q5,by rw[q2];exact hd.ext q5.ext⟩
  unfold evTop at J
  split at J
  ·rename_i x y
   cases hx:evTop C n m x s d with
   |none=>grind
   |some r =>
    obtain⟨DD,I,lP⟩:=r
    rw[hx] at J
    refine wp_seq (Code.wp_mono ?_ (ih x s d DD I lP hx c a w h he hd))
    rintro e y7 pS ⟨rfl,c₁,q3,q4,q5,q6⟩
    cases DD with
    |normal =>
     refine Code.wp_mono ?_ (ih y I lP ex s' d' J c₁ y7 pS q3 q4 q6)
     rintro e Es UB ⟨rfl,c₂,p3,p4,p5,p6⟩
     exact⟨rfl,c₂,p3,p4,q5.trans p5,p6⟩
    |exit i =>
     obtain⟨rfl,rfl,rfl⟩:=J
     exact⟨rfl,c₁,q3,q4,q5,q6⟩
    |ret =>
     obtain⟨rfl,rfl,rfl⟩:=J
     exact⟨rfl,c₁,q3,q4,q5,q6⟩
  ·rename_i id ops
   cases hx:evOpsD C (ev C n) ops.toList ops.toList s d with
   |none=>grind
   |some r =>
    obtain⟨I,lP⟩:=r
    rw[hx] at J
    simp only[au,br] at J
    obtain⟨rfl,rfl,rfl⟩:=J
    refine wpIn_wide.1 (show(Code.region id ops false).wpIn (Fr none) 0 C.P _ a w from wpIn_region ?_)
    rw[Ci,←xY]
    exact My (wQ (C:=C) hm hT n).1 hT ops.toList 0 s I d lP c a w (fun j=>by simp) hx h he hd fun c' a' w' r1 r2 r3 r4=>⟨rfl,c',r1,r2,r3,r4⟩
  ·grind
theorem Pv (hm : C.P.follows .mixedOrders = true) (hT : dA C) {v : V} (hg : C.told g = none) (I : callF C (ev C n) g args σ = some (v, cJ)) (h : Rel c σ w) (hw : ∀ x ∈ args, wf c x) :
  CallsD C.P g (args.map (conc c)).toArray .returning w (fun e u' w' => u' = .returning ∧ (∃ x, e = .returned x) ∧ ∃ c', Rel c' cJ w' ∧ bT c w c' w') ∧ ∀ (x : Array Value) (w : World), (callFunc g x).run C.P w = .ok (.enter g x) w := by
 have hS := (vj (C := C) hm hT n).1
 have hen := (callF_ok hS hT I h hw).2
 unfold callF at I
 rw [hg] at I
 simp only at I
 cases hf : C.P.funcs[g]? with
 | none => grind
 | some fn =>
  simp only [hf] at I
  cases hb : fn.body with
  | none => grind
  | some code =>
   simp only [hb] at I
   cases hq : (fn.name == "runtime.NumGoroutine" || Nat.blt fn.ntmps args.length) with
   | true => grind
   | false =>
    simp only [Bool.or_eq_false_iff] at hq
    have hle : args.length ≤ fn.ntmps := by
     grind [fT]
    have J := ij (c := c) hle hw
    have done : ∀ ex s, ev C n code ⟨bindArgs args 0 .lf, fn.ntmps, σ⟩ = some (ex, s) → (ex = .normal ∨ ex = .ret) →
      (match mapO (resV C.P s) fn.results.toList with
       | some [v] => some (v, s.h)
       | some vs => some (.aI vs, s.h)
       | none => none) = some (v, cJ) →
      CallsD C.P g (args.map (conc c)).toArray .returning w (fun e u' w' => u' = .returning ∧ (∃ x, e = .returned x) ∧ ∃ c', Rel c' cJ w' ∧ bT c w c' w') := by
     intro ex s hs hex hmr
     have L2 := hS code _ ex s hs c _ w h J
     have Al : resOf C.P s fn.results.toList = some v ∧ s.h = cJ := by
      grind [resOf]
     have uB := callsD_of_wp (u := .returning) (R := fun e w' => (∃ x, e = .returned x) ∧ ∃ c', Rel c' cJ w' ∧ bT c w c' w') hf hb (Code.wp_mono (Q' := bodyPost C.P fn fun e w' => (∃ x, e = .returned x) ∧ ∃ c', Rel c' cJ w' ∧ bT c w c' w') ?_ L2)
     ·omega
     ·rintro e a' w' ⟨rfl, hd, c', r1, r2, r3⟩
      have ED : a'.defers = [] ∧ ∃ x, (results fn a'.tmps).run C.P w' = .ok x w' ∧ (∃ y, Ending.returned x = .returned y) ∧ ∃ c', Rel c' cJ w' ∧ bT c w c' w' :=
       ⟨hd, _, (Ak r1 r2 Al.1).1, ⟨_, rfl⟩, c', by grind, r3⟩
      grind [bodyPost, exOf]
    split at I
    ·grind
    ·grind
    ·grind
theorem Ew {ρ:Operand→Value}(ho:o.op=.call cl)(I:cl.callee=.builtin .recover)(J:cl.args.toList=[])(w:World): (execOp ρ o).run P w=.ok .recover w:=by
 simp_all[execOp,resolve,invoke,builtin]
theorem DP (hm:C.P.follows .mixedOrders=true)(hT:dA C){CR:Nat}{rest:Code}{ex:Ex}{I:St}{v:V}(hf:C.P.funcs[g]?=some fn)(hb:fn.body=some code)
 (J:quietParts code=some (lP,CR,rest))(h1:lP<fn.ntmps)(h2:CR<fn.ntmps)(hle:args.length≤fn.ntmps)
 (Bg:ev C n rest ⟨((bindArgs args 0 .lf).set lP (some .ig)).set CR (some .ig),fn.ntmps,σ⟩=some (ex,I))(hex:ex=.normal∨ex=.ret)(Al:resOf C.P I fn.results.toList=some v)
 (h:Rel c σ w)(hw:∀x∈args,wf c x):
  CallsD C.P g (args.map (conc c)).toArray .returning w (fun e u' w'=>u'=.returning∧(∃x,e=.returned x)∧∃c',Rel c' I.h w'∧bT c w c' w'):=by
 have hS:=(vj (C:=C) hm hT n).1
 unfold quietParts at J
 split at J
 ·rename_i id ops Xc
  split at J
  ·rename_i LN JX abA
   split at J
   ·rename_i cl aa6 t aa7 q6 q2 q4 q9 q3 q5
    split at J
    ·rename_i q7 q8
     cases ht:Nat.beq t aa6 with
     |false=>grind
     |true =>
      rw[ht,ai] at J
      simp only[au,br] at J
      obtain⟨rfl,rfl,rfl⟩:=J
      have:=beq_iff.1 ht
      subst this
      have Xd:ops = #[LN,JX]:=by grind
      subst Xd
      refine callsD_of_wpS hf hb fun c₀ cs hu=>(wpS_seq ?_)
      have Uh:=ij (c:=c) hle hw
      generalize hA:({ tmps:=(args.map (conc c)).toArray++Array.replicate (fn.ntmps-(args.map (conc c)).toArray.size) undef,defers:=[] }:Act)=A at Uh ⊢
      have Vd:A.defers=[]:=by grind
      have rK:=(Uh.put (d:=t) (v:=.ig) h1 (by simp[wf])).put (d:=aa7) (v:=.ig) h2 (by simp[wf])
      have rG:=hS _ _ _ _ Bg c _ w h rK
      rw[show conc c .ig=.nilIface from by rfl] at rG
      have Pw:recoverD (c₀::cs)=none:=by simp[recoverD,hu]
      have h5:(A.put (some t) .nilIface).eval (.tmp t)=.nilIface:=by
       have:=(Uh.put (d:=t) (v:=.ig) h1 (by simp[wf])).val t
       grind[conc,Act.eval,Env.v,aL]
      refine wpS_region ?_
      rw[show List.range (#[LN,JX]:Array Oper).size=[0,1] from rfl]
      simp only[wpOpsS,kW,kU,lZ,Region.wanted,q2,q3,b7]
      rw[Ew q6 q7 q8]
      simp only[Pw,q4]
      have ZV:(execOp (A.put (some t) .nilIface).eval JX).run C.P w=.ok (.value .nilIface) w:=by simp[execOp,q9,h5]
      rw[ZV]
      simp only[Oper.upon,q5,Exit.thenS]
      refine wpS_of_wp (Code.wp_mono ?_ rG)
      rintro e a' w' ⟨rfl,dd,c',r1,e2,p1⟩
      have ED:a'.defers=[]∧∃u',c₀::cs={ c₀ with mode:=u' }::cs∧∃v,(results fn a'.tmps).run C.P w'=.ok v w'∧(u'=.returning∧(∃x,Ending.returned v=.returned x)∧∃c',Rel c' I.h w'∧bT c w c' w') :=
       ⟨dd.trans Vd,.returning,by rw[←hu],_,(Ak r1 e2 Al).1,rfl,⟨_,rfl⟩,c',r1,p1⟩
      rcases hex with rfl|rfl
      ·exact ED
      ·exact ED
    ·cases J
   ·cases J
  ·cases J
 ·cases J
theorem Kr (hm : C.P.follows .mixedOrders = true) (hT : dA C) (hg : C.told g = none) (I : defCall C n g args σ = some cJ) (h : Rel c σ w) (hw : ∀ x ∈ args, wf c x) :
  CallsD C.P g (args.map (conc c)).toArray .returning w (fun e u' w' => u' = .returning ∧ (∃ x, e = .returned x) ∧ ∃ c', Rel c' cJ w' ∧ bT c w c' w') ∧ ∀ (x : Array Value) (w : World), (callFunc g x).run C.P w = .ok (.enter g x) w := by
 unfold defCall at I
 cases hf : C.P.funcs[g]? with
 | none => grind
 | some fn =>
  simp only [hf] at I
  cases hb : fn.body with
  | none => grind
  | some code =>
   simp only [hb] at I
   split at I
   ·rename_i lP J rest hq
    cases hc : (Nat.blt lP fn.ntmps && Nat.blt J fn.ntmps && Nat.ble args.length fn.ntmps && !(fn.name == "runtime.NumGoroutine")) with
    | false => grind
    | true =>
     rw [hc, ai] at I
     simp only [bC, fT, aG, Bool.not_eq_true'] at hc
     refine ⟨?_, fun x w => by simp_all [callFunc]⟩
     split at I
     ·grind [DP]
     ·grind [DP]
     ·cases I
   grind [Pv]
theorem Mz (hm:C.P.follows .mixedOrders=true)(hT:dA C){v:V}(Al:resOf C.P ⟨s.env,s.aj,h'⟩ fn.results.toList=some v):
  ∀(d:pV) (h:H) (c:Ctx) (a:Act) (ds:List Deferred) (w:World),runDefs C n d h=some h'→Rel c h w→cO c s.env s.aj a→pH c d ds→bT c₀ w₀ c w →
   Leaves C.P fn a.tmps (fun e w'=>∃c',e=.returned (conc c' v)∧wf c' v∧Rel c' h' w'∧bT c₀ w₀ c' w') ds .returning w:=by
 intro d
 induction d with
 |nil =>
  intro h c a ds w J I he hd hs
  simp only[runDefs,au] at J
  subst J
  have:ds=[]:=by rw[hd.eq];rfl
  subst this
  obtain⟨q1,q2⟩:=Ak (s:=⟨s.env,s.aj,h⟩) I he Al
  exact⟨_,q1,c,rfl,q2,I,hs⟩
 |cons x d ih =>
  intro h c a ds w J I he hd hs
  obtain⟨g,args,cap⟩:=x
  simp only[runDefs] at J
  cases ht:C.told g with
  |some t=>grind
  |none =>
   rw[ht] at J
   cases hc:defCall C n g (args++cap) h with
   |none=>grind
   |some h₁ =>
    rw[hc] at J
    have kB:=hd.DO (g,args,cap) (by simp)
    obtain⟨k1,k2⟩:=Kr hm hT ht hc I (fun x hx=>by
     grind)
    have hds:ds={ target:=.fn (.func g) (cap.map (conc c)).toArray,args:=(args.map (conc c)).toArray }::d.map fun x=>{ target:=.fn (.func x.1) (x.2.2.map (conc c)).toArray,args:=(x.2.1.map (conc c)).toArray }:=by rw[hd.eq];rfl
    rw[hds]
    refine leaves_cons (f:=g) (args:=((args++cap).map (conc c)).toArray) (by simp) ?_ ?_
    ·grind[invoke]
    ·refine k1.mono ?_
     rintro e u' pS ⟨rfl,⟨y,rfl⟩,c₁,r1,r2⟩
     have hd':pH c d (d.map fun x=>{ target:=.fn (.func x.1) (x.2.2.map (conc c)).toArray,args:=(x.2.1.map (conc c)).toArray }):=⟨rfl,fun z hz=>hd.DO z (by grind)⟩
     exact ih h₁ c₁ a _ pS J r1 (he.ext r2.ext) (hd'.ext r2.ext) (hs.trans r2)
theorem wV (hm:C.P.follows .mixedOrders=true)(hT:dA C){f:Nat}{v:V}(J:toldDefer C n f args σ=some (v,cJ))(h:Rel c σ w)(hw:∀x∈args,wf c x):
  eE C.P f args c w v cJ:=by
 unfold toldDefer at J
 cases hf:C.P.funcs[f]? with
 |none=>grind
 |some fn =>
  simp only[hf] at J
  cases hb:fn.body with
  |none=>grind
  |some code =>
   simp only[hb] at J
   cases hq:Nat.blt fn.ntmps args.length with
   |true=>grind
   |false =>
    rw[hq,aK] at J
    have hle:args.length≤fn.ntmps:=by
     grind[fT]
    have rJ:=ij (c:=c) hle hw
    refine calls_of_wp_defers hf hb ?_
    have done:∀ex s d,evTop C n 1000 code ⟨bindArgs args 0 .lf,fn.ntmps,σ⟩ []=some (ex,s,d)→(ex=.normal∨ex=.ret) →
      (match runDefs C n d s.h with
       |some h'=>match resOf C.P ⟨s.env,s.aj,h'⟩ fn.results.toList with
        |some v=>some (v,h')
        |none=>none
       |none=>none)=some (v,cJ) →
      code.wp C.P (bodyPostD C.P fn fun e w'=>∃c',e=.returned (conc c' v)∧wf c' v∧Rel c' cJ w'∧bT c w c' w')
       { tmps:=(args.map (conc c)).toArray++Array.replicate (fn.ntmps-(args.map (conc c)).toArray.size) undef,defers:=[] } w:=by
     intro ex s d hs hex I
     refine Code.wp_mono ?_ (Pu hm hT 1000 code _ [] ex s d hs c _ w h rJ ⟨rfl,fun x hx=>by cases hx⟩)
     rintro e a' w' ⟨rfl,c',r1,r2,r3,r4⟩
     cases iY:runDefs C n d s.h with
     |none=>grind
     |some h' =>
      rw[iY] at I
      simp only at I
      cases UQ:resOf C.P ⟨s.env,s.aj,h'⟩ fn.results.toList with
      |none=>grind
      |some v' =>
       rw[UQ] at I
       obtain⟨rfl,rfl⟩:=I<;>grind[Mz,bodyPostD,exOf]
    split at J
    ·cases J
    ·rename_i ex s d nY hs
     cases ex<;>grind
    ·cases J
end

/- Heaps compared. -/
def noIter : Option Obj→Option Obj
 |some (.iter _ _ _ _)=>none
 |v=>v
def flatM {α β:Type}(f:α→Option (List β)): List α→Option (List β)
 |[]=>some []
 |x::l=>match f x with
  |none=>none
  |some a=>match flatM f l with
   |none=>none
   |some b=>some (a++b)
theorem MA {β:Type}{f:α→Option (List β)}: ∀(l:List α) (R:List β),flatM f l=some R→∀x∈l,∃r,f x=some r∧∀y∈r,y∈R:=by
 intro l
 induction l<;>grind[flatM]
section
variable (C:dR) (self:Self)
noncomputable def opAll (env:Env)(h:H)(o:Oper): Option (List (V×H)):=match o.op with
 |.next it false=>match evO env it with
  |some (.ptr r off)=>cond (Nat.beq off 0) (nextAll h r) none
  |_=>none
 |_=>match evOp C self env h o with
  |some q=>some [q]
  |none=>none
noncomputable def opsAll (ops:List Oper): List Oper→St→Option (List St)
 |[],s=>some [s]
 |o::l,s=>cond (wantedV ops s.env o)
  (match opAll C self s.env s.h o with
   |some I=>flatM (fun q=>match s.put o.dst q.1 q.2 with
    |some s'=>opsAll ops l s'
    |none=>none) I
   |none=>none)
  (match s.put o.dst bR s.h with
   |some s'=>opsAll ops l s'
   |none=>none)
end
section
theorem Px (hS:gJ C.P self)(hT:dA C){c:Ctx}{w:World}{a:Act}{qs:List (V×H)}(h:Rel c σ w)(he:yp c env a o)(I:opAll C self env σ o=some qs):
  (∃q∈qs,vh C.P o a c w q.1 q.2)∧∀d,o.op≠.defer d:=by
 unfold opAll at I
 split at I
 ·rename_i it ho
  refine⟨?_,fun d hd=>by grind⟩
  split at I
  ·rename_i r off hx
   cases hq:Nat.beq off 0 with
   |false=>grind
   |true =>
    have:=beq_iff.1 hq
    subst this
    obtain⟨f1,f2⟩:=he it (by simp[ho,Op.operands]) _ hx
    obtain⟨q,J,hg⟩:=zH (P:=C.P) h I o.type
    exact⟨q,J,eo (s:=Instr.next (conc c (.ptr r 0)) false o.type) (by simp only[execOp,ho,f1]) hg⟩
  ·cases I
 ·cases mG:evOp C self env σ o with
  |none=>grind
  |some q =>
   grind[ur,ki]
theorem MB (hS:gJ C.P self)(hT:dA C){Q:Exit→Act→World→Prop}: ∀(l:List Oper) (k:Nat) (s:St) (L:List St) (c:Ctx) (a:Act) (w:World),
  (∀j,l[j]?=ops[k+j]?)→opsAll C self ops.toList l s=some L→Rel c s.h w→cO c s.env s.aj a →
  (∀s'∈L,∀c' a' w',Rel c' s'.h w'→cO c' s'.env s'.aj a'→bT c w c' w'→a'.defers=a.defers→Q .normal a' w') →
  wpOpsIn (Fr none) 0 C.P ops Q (List.range' k l.length) a w:=by
 intro l
 induction l with
 |nil =>
  grind[opsAll,wpOpsIn,bT.refl]
 |cons o l ih =>
  intro k s L c a w hl J h he hQ
  have h0:ops[k]?=some o:=by simpa using(hl 0).symm
  have wJ:∀j,l[j]?=ops[k+1+j]?:=fun j=>by have:=hl (j+1);grind
  simp only[bq,x_,wpOpsIn,h0]
  rw[vi he]
  simp only[opsAll] at J
  cases hw:wantedV ops.toList s.env o with
  |true =>
   rw[hw,ai] at J
   cases ho:opAll C self s.env s.h o with
   |none=>grind
   |some qs =>
    simp only[ho] at J
    obtain⟨⟨q,hq,UR⟩,nZ⟩:=Px hS hT h (he.Fh o) ho
    obtain⟨r,Bh,MC⟩:=MA qs L J q hq
    refine UR.wpIn nZ ?_
    intro c' w' r1 r2 r3
    cases hp:s.put o.dst q.1 q.2 with
    |none=>grind
    |some I =>
     simp only[hp] at Bh
     obtain⟨p1,p2,p3⟩:=St.uh (he.ext r2.ext) r3 hp
     refine ih (k+1) I r c' _ w' wJ Bh (by grind) p1 ?_
     intro s' nC qu wL wM q1 q2 q3 q4
     exact hQ s' (MC s' nC) qu wL wM q1 q2 (r2.trans q3) (by rw[q4];cases o.dst<;>rfl)
  |false =>
   rw[hw,aK] at J
   refine⟨fun _ _=>trivial,?_⟩
   cases hp:s.put o.dst bR s.h with
   |none=>grind
   |some I =>
    simp only[hp] at J
    obtain⟨p1,p2,p3⟩:=St.uh he (show wf c bR by simp[bR,wf,fe]) hp
    refine ih (k+1) I L c _ w wJ J (by grind) p1 ?_
    intro s' nC qu wL wM q1 q2 q3 q4
    exact hQ s' nC qu wL wM q1 q2 q3 (by rw[q4];cases o.dst<;>rfl)
end
theorem Rel.Xe {c:Ctx}{w:World}(h:Rel c σ w)(I:cJ.next=σ.next)(hs:∀id o,T.get cJ.tr id=some o→T.get σ.tr id=some o): Rel c cJ w :=
 ⟨I.trans h.next,fun id o ho=>h.live id o (hs id o ho),h.jX,h.zz,fun i j o o' hi J he=>h.inj i j o o' (hs i o hi) (hs j o' J) he,
  fun id o ho=>h.obj id o (hs id o ho),fun id cs st ho=>h.one id cs st (hs id _ ho),fun id o ho=>h.fx id o (hs id o ho)⟩
def jG (h:H): Prop:=∀id o,T.get h.tr id=some o→id<h.next
theorem jG.new (hw:jG h)(o:Obj): jG (h.new o):=by
 intro id q I
 rw[fG] at I
 show id<h.next+1
 split at I
 ·omega
 ·exact Nat.lt_succ_of_lt (hw id q I)
theorem jG.put (hw:jG h)(J:id<h.next)(o:Option Obj): jG (h.put id o):=by
 intro j q I
 rw[dS] at I
 show j<h.next
 split at I
 ·omega
 ·exact hw j q I
structure c7 (k:Nat)(S:List Nat)(h h':H): Prop where
 wf:jG h'
 le:h.next≤h'.next
 bd:h'.next≤h.next+k
 get:∀id,id<h.next→id∉S→T.get h'.tr id=T.get h.tr id
theorem c7.refl (hw:jG h)(S:List Nat): c7 0 S h h:=⟨hw,aS _,aS _,fun _ _ _=>rfl⟩
theorem c7.trans {S S':List Nat}{I:H}(a:c7 k S h h')(b:c7 k' S' h' I)(hs:∀i∈S',i∈S∨h.next≤i): c7 (k+k') S h I:=by
 refine⟨b.wf,b9 a.le b.le,by have:=a.bd;have:=b.bd;omega,fun id J hn => ?_⟩
 rw[b.get id (gj J a.le) (fun hm => ?_),a.get id J hn]
 rcases hs id hm with h1|h1
 ·exact hn h1
 ·omega
theorem c7.mono {S S':List Nat}(a:c7 k S h h')(J:k≤k')(hs:∀i∈S,i∈S'): c7 k' S' h h' :=
 ⟨a.wf,a.le,b9 a.bd (tS J _),fun id I hn=>a.get id I (fun hm=>hn (hs id hm))⟩
theorem c7.row {S:List Nat}(a:c7 k S h h')(hw:jG h){o:Obj}(I:T.get h.tr id=some o)(J:id∉S): T.get h'.tr id=some o:=by
 rw[a.get id (hw id o I) J];exact I
theorem c7.yx (hw:jG h)(o:Obj): c7 1 [] h (h.new o) :=
 ⟨hw.new o,qT _,aS _,fun id I _=>by rw[fG,ay (by omega)]⟩
theorem c7.EJ (hw:jG h)(I:id<h.next)(o:Option Obj): c7 0 [id] h (h.put id o) :=
 ⟨hw.put I o,aS _,aS _,fun j _ J=>by rw[dS,ay (fun e=>J (by simp[e]))]⟩
theorem c_ (l:List Nat): (ofBytes l).length=l.length:=by simp[ofBytes]
theorem tD (l m:List Nat): ofBytes (l++m)=ofBytes l++ofBytes m:=by simp[ofBytes]
def View (h:H)(v:V)(l:List Nat): Prop:=(∀b∈l,b<256)∧(((v=.aO∨∃a,v=.sle a)∧l=[]) ∨
 ∃id off cap n cs st,v=.sl id off l.length cap∧T.get h.tr id=some (.cells n cs st)∧cs.length=n∧off+l.length≤n∧(cs.drop off).take l.length=ofBytes l ∧
  (match cap with|.exact c=>l.length≤c|.rest e _=>e=1))
def iM (h:H)(v:V)(l:List Nat): Prop:=(∀b∈l,b<256)∧((v=.aO∧l=[]) ∨
 (∃id cs c,v=.sl id 0 l.length (.exact c)∧T.get h.tr id=some (.cells c (ofBytes l++cs) false)∧l.length+cs.length=c) ∨
 (∃id,v=.sl id 0 l.length (.rest 1 0)∧T.get h.tr id=some (.cells l.length (ofBytes l) false)∧1≤l.length))
def rowIds : V→List Nat
 |.sl id _ _ _=>[id]
 |_=>[]
theorem iM.view {v:V}(I:iM h v l): View h v l:=by
 obtain⟨hl,I⟩:=I
 refine⟨hl,?_⟩
 rcases I with I|⟨id,cs,c,rfl,J,hc⟩|⟨id,rfl,J,h1⟩
 ·exact .inl ⟨.inl I.1,I.2⟩
 ·refine .inr ⟨id,0,.exact c,c,_,false,rfl,J,by simp[c_,hc],by omega,?_,by show l.length≤c;omega⟩
  rw[gX,nk (c_ l)]
 ·refine .inr ⟨id,0,.rest 1 0,_,_,false,rfl,J,c_ l,by omega,?_,rfl⟩
  rw[gX]
  exact fS (by rw[c_];exact aS _)
theorem View.iO {S:List Nat}{v:V}(I:View h v l)(hw:jG h)(J:c7 k S h h')(hn:∀i∈rowIds v,i∉S): View h' v l:=by
 obtain⟨hl,I⟩:=I
 refine⟨hl,?_⟩
 rcases I with I|⟨id,off,cap,n,cs,st,rfl,hg,h1,h2,h3,h4⟩
 ·exact .inl I
 ·exact .inr ⟨id,off,cap,n,cs,st,rfl,J.row hw hg (hn id (by simp[rowIds])),h1,h2,h3,h4⟩
theorem iM.iO {S:List Nat}{v:V}(I:iM h v l)(hw:jG h)(hk:c7 k S h h')(hn:∀i∈rowIds v,i∉S): iM h' v l:=by
 obtain⟨hl,I⟩:=I
 refine⟨hl,?_⟩
 rcases I with I|⟨id,cs,c,rfl,J,hc⟩|⟨id,rfl,J,h1⟩
 ·exact .inl I
 ·exact .inr (.inl ⟨id,cs,c,rfl,hk.row hw J (hn id (by simp[rowIds])),hc⟩)
 ·exact .inr (.inr ⟨id,rfl,hk.row hw J (hn id (by simp[rowIds])),h1⟩)
theorem View.len {v:V}(I:View h v l): lenV Tryz.prog h 23 v=some (.int .i64 l.length):=by
 obtain⟨_,I⟩:=I
 rcases I with⟨rfl|⟨J,rfl⟩,rfl⟩|⟨id,off,cap,n,cs,st,rfl,_⟩<;>simp[lenV,aM]
theorem View.rdN {len:Nat}{cap:Cap}(J:View h (.sl id off len cap) l): len=l.length∧rdN h id off len=some (ofBytes l):=by
 obtain⟨_,J⟩:=J
 rcases J with⟨I,_⟩|⟨A0,off',J5,n,cs,st,I,hg,h1,h2,h3,h4⟩
 ·rcases I with I|⟨_,I⟩<;>cases I
 ·injection I with e1 e2 e3 e4
  subst e1;subst e2;subst e3
  refine⟨rfl,?_⟩
  unfold Am.rdN
  simp only[hg]
  rw[aG.2 h2,ai]
  cases hc:(Nat.beq off 0&&Nat.beq l.length n) with
  |true =>
   simp only[bC,beq_iff] at hc
   obtain⟨rfl,hn⟩:=hc
   rw[ai,←h3,gX,fS (by omega)]
  |false=>rw[aK,h3]
theorem CS : ∃i,Tryz.prog.info? 5=some i∧i.size=1∧i.bytes=1:=by
 refine⟨_,(show Tryz.prog.info? 5=some ((Tryz.prog.info? 5).getD default) by kernel_rfl),by kernel_rfl,by kernel_rfl⟩
theorem rO : zeroT Tryz.prog 5=some (.int .u8 0):=by kernel_rfl
theorem Ks {x:V}{m:List Nat}(J:View h x m): srcV h 1 x=some (ofBytes m,m.length):=by
 obtain⟨hl,I⟩:=J
 rcases I with⟨rfl|⟨ea,rfl⟩,rfl⟩|⟨id,off,cap,n,cs,st,rfl,hg,h1,h2,h3,h4⟩
 ·rfl
 ·rfl
 ·simp only[srcV,iz]
  rw[(View.rdN (l:=m) ⟨hl,.inr ⟨id,off,cap,n,cs,st,rfl,hg,h1,h2,h3,h4⟩⟩).2]
  rfl
theorem wW {s x:V}{m:List Nat}(hw:jG h)(hs:iM h s l)(hx:View h x m)(ej:l.length+m.length≤140737488355328):
  ∃v' h',appendV Tryz.prog h #[23,23] s x=some (v',h')∧iM h' v' (l++m)∧c7 1 (rowIds s) h h'∧(∀i∈rowIds v',i∈rowIds s∨h.next≤i):=by
 obtain⟨i,hi,i1,i2⟩:=CS
 have J:∀b∈l++m,b<256:=fun b hb=>by
  rcases List.mem_append.1 hb with hb|hb
  ·exact hs.1 b hb
  ·exact hx.1 b hb
 have Ve:kQ (l.length+m.length) 1=true:=vf.2 ⟨ej,by omega⟩
 unfold appendV
 simp only[aM,hi,rO,i1,i2,V.cells,bq,cD,Ks hx]
 rw[show(Nat.ble 1 1&&Nat.ble 1 4096&&Nat.beq (0+1) 1)=true from rfl,ai]
 cases hm:Nat.beq m.length 0 with
 |true =>
  have Dt:m=[]:=oM (beq_iff.1 hm)
  subst Dt
  rw[ai,iw]
  have I:=hs
  obtain⟨_,I⟩:=I
  rcases I with⟨rfl,rfl⟩|⟨id,cs,c,rfl,hg,hc⟩|⟨id,rfl,hg,h1⟩
  ·exact⟨_,_,rfl,hs,(c7.refl hw _).mono (eX _) (fun _ h=>h),fun i hi=>.inl hi⟩
  ·exact⟨_,_,rfl,hs,(c7.refl hw _).mono (eX _) (fun _ h=>h),fun i hi=>.inl hi⟩
  ·exact⟨_,_,rfl,hs,(c7.refl hw _).mono (eX _) (fun _ h=>h),fun i hi=>.inl hi⟩
 |false =>
  have Dt:1≤m.length:=by
   rcases tT m.length with h0|h0
   ·rw[qi h0] at hm;cases hm
   ·exact h0
  rw[aK]
  have vg:∀(σ:H) (old:List Nat),jG σ→1≤(old++m).length→(∀b∈old++m,b<256)→iM (l_ σ 1 (ofBytes old) (ofBytes m) (old.length+m.length)).2 (l_ σ 1 (ofBytes old) (ofBytes m) (old.length+m.length)).1 (old++m):=by
   intro σ old _ h1 h2
   refine⟨h2,.inr (.inr ⟨σ.next,?_,?_,h1⟩)⟩
   ·simp only[l_,bP]
   ·simp only[l_]
    rw[fG,aF rfl,iz,bP,tD]
  have I:=hs
  obtain⟨_,I⟩:=I
  rcases I with⟨rfl,rfl⟩|⟨id,cs,c,rfl,hg,hc⟩|⟨id,rfl,hg,h1⟩
  ·simp only
   have ZW:kQ m.length 1=true:=by simpa using Ve
   rw[ZW,ai]
   have:=vg h [] hw (by simpa using Dt) (by simpa using hx.1)
   simp only[cD,fF,d_] at this
   exact⟨_,_,rfl,by rw[d_];exact this,(c7.yx hw _).mono (aS _) (fun i hi=>by simp at hi),fun i hi=>.inr (by simp[rowIds] at hi;omega)⟩
  ·simp only[iz,fF]
   have hv:=iM.view hs
   cases hq:Nat.ble (l.length+m.length) c with
   |true =>
    have y_:=aG.1 hq
    rw[ai]
    unfold wrN
    simp only[hg,c_]
    rw[hq,ai]
    simp only
    have An:(cond (Nat.beq l.length 0&&Nat.beq m.length c) (ofBytes m) ((ofBytes l++cs).take l.length++(ofBytes m++(ofBytes l++cs).drop (l.length+m.length))))=ofBytes (l++m)++cs.drop m.length:=by
     have e1:(ofBytes l++cs).take l.length=ofBytes l:=nk (c_ l)
     have e2:(ofBytes l++cs).drop (l.length+m.length)=cs.drop m.length:=by
      rw[yb,c_,show l.length+m.length-l.length=m.length from by omega,kV (by rw[c_];omega),d_]
     cases hz:(Nat.beq l.length 0&&Nat.beq m.length c) with
     |true =>
      simp only[bC,beq_iff] at hz
      have vX:l=[]:=oM hz.1
      subst vX
      have mz:cs.drop m.length=[]:=kV (by simp at hc;omega)
      simp[mz]
     |false=>rw[aK,e1,e2,tD,cX]
    rw[An]
    refine⟨_,_,rfl,⟨J,.inr (.inl ⟨id,cs.drop m.length,c,by simp,?_,by simp;omega⟩)⟩,(c7.EJ hw (hw id _ hg) _).mono (eX _) (fun i hi=>by simpa[rowIds] using hi),fun i hi=>.inl (by simpa[rowIds] using hi)⟩
    rw[dS,aF rfl]
   |false =>
    rw[aK,Ve,ai,hv.rdN.2]
    simp only
    exact⟨_,_,rfl,vg h l hw (by simp;omega) J,(c7.yx hw _).mono (aS _) (fun i hi=>by simp at hi),fun i hi=>.inr (by simp[rowIds] at hi;omega)⟩
  ·simp only[eW,ai,iz,fF]
   have hv:=iM.view hs
   have E9:kP h id 0 1=l.length:=by simp[kP,hg]
   have hf:Nat.ble (l.length+m.length) l.length=false:=by
    cases hq:Nat.ble (l.length+m.length) l.length with
    |true=>have:=aG.1 hq;omega
    |false=>rfl
   rw[E9,hf,aK,Ve,show Nat.ble 2 (l.length+m.length)=true from aG.2 (by omega),iy,ai,hv.rdN.2,hg]
   simp only
   have rP:jG (h.put id none):=hw.put (hw id _ hg) _
   refine⟨_,_,rfl,vg (h.put id none) l rP (by simp;omega) J,?_,fun i hi=>.inr (by simp[rowIds,H.put] at hi;omega)⟩
   refine((c7.EJ hw (hw id _ hg) none).trans (S':=[]) (c7.yx rP _) (fun i hi=>by simp at hi)).mono (aS _) (fun i hi=>by simpa[rowIds] using hi)
section
variable {a b:Operand} {v:V}
theorem bf (I:aT E x=some v): opE P E h (.move x)=some (v,h):=by simp only[opE,iB,I]
theorem dZ (I:aT E x=some v): opE P E h (.assign x)=some (v,h):=by simp only[opE,iB,I]
theorem oV (I:aT E x=some (.bool true))(J:aT E a=some v): opE P E h (.pick x a b)=some (v,h):=by simp only[opE,iB,I,ai,J]
theorem q_ (I:aT E x=some (.bool false))(J:aT E b=some v): opE P E h (.pick x a b)=some (v,h):=by simp only[opE,iB,I,aK,J]
theorem lF {o:Nat}(I:aT E x=some (.ptr i o)): opE P E h (.nilCheck x)=some (.ptr i o,h):=by simp only[opE,iB,I]
theorem jr {t:Nat}(I:aT E x=some v)(J:fieldAddrV P t v i=some r): opE P E h (.fieldAddr t x i)=some (r,h):=by simp only[opE,iB,I,J,bk]
theorem aP (I:aT E x=some v)(J:loadV P h t v=some r): opE P E h (.load t x)=some (r,h):=by simp only[opE,iB,I,J,bk]
theorem CU (I:aT E x=some v)(J:aT E y=some u)(hf:fu P h t v u=some h₁): opE P E h (.store t x y)=some (bR,h₁):=by simp only[opE,sQ,I,J,hf,sF]
theorem ak {op:BinOp}(I:aT E x=some v)(J:aT E y=some u)(hf:binV P h op t x y v u=some r): opE P E h (.binOp op t x y t')=some (r,h):=by simp only[opE,sQ,I,J,hf,bk]
theorem dB {op:UnOp}(I:aT E x=some v)(J:unV op v=some r): opE P E h (.unOp op t x)=some (r,h):=by simp only[opE,iB,I,J,bk]
theorem bJ {s d:TypeId}(I:aT E x=some v)(J:convV P h s d v=some (r,h₁)): opE P E h (.convert s d x)=some (r,h₁):=by simp only[opE,iB,I,J]
theorem cu (I:aT E x=some v)(J:aT E y=some u)(hf:indexAddrV P t v u=some r): opE P E h (.indexAddr t x y)=some (r,h):=by simp only[opE,sQ,I,J,hf,bk]
theorem wX (I:aT E x=some v)(J:aT E y=some u)(hf:indexV P t v u=some r): opE P E h (.index t x y)=some (r,h):=by simp only[opE,sQ,I,J,hf,bk]
theorem dV {l:List V}(I:aT E x=some (.aI l))(J:nth l i=some r): opE P E h (.extract x i)=some (r,h):=by simp only[opE,iB,I,J,bk]
theorem b_ {l:List (Nat×V)}(I:lookParts E ps.toList=some l)(J:buildV P t l=some r): opE P E h (.build t ps)=some (r,h):=by simp only[opE,I,J,bk]
theorem dc (I:aT E x=some v)(hs:v.cells.all storable=true): opE P E h (.box t x)=some (.ptr h.next 0,newRow h v.cells):=by simp only[opE,iB,I,hs,ai]
theorem bM (I:zeroT P t=some v): opE P E h (.alloc t)=some (.ptr h.next 0,newRow h v.cells):=by simp only[opE,I]
theorem pI (I:aT E x=some v)(J:makeIfaceV P t v=some r): opE P E h (.makeInterface t x)=some (r,h):=by simp only[opE,iB,I,J,bk]
theorem vn {f:Fn}{p q:Array Operand}{l m:List V}(I:lookArgs E p.toList=some l)(J:lookArgs E q.toList=some m): opE P E h (.makeFunc f p q)=some (.fn f l m,h):=by simp only[opE,I,J]
theorem aQ {c:Go.Call}(I:c.callee=.builtin .len)(J:lookArgs E c.args.toList=some [v])(ht:c.argTypes.toList=[t])(hf:lenV P h t v=some r): opE P E h (.call c)=some (r,h):=by
 simp only[opE,I,J,builtinV,ht,hf,l8]
theorem pJ {c:Go.Call}(I:c.callee=.builtin .append)(J:lookArgs E c.args.toList=some [v,u])(hf:appendV P h c.argTypes v u=some (r,h₁)): opE P E h (.call c)=some (r,h₁):=by
 simp only[opE,I,J,builtinV,hf]
theorem yy (I:aT E x=some v)(J:aT E y=some u)(hf:makeSliceV P h t v u=some (r,h₁)): opE P E h (.makeSlice t x y)=some (r,h₁):=by simp only[opE,sQ,I,J,hf]
theorem ob {t:Nat}{l:List (Nat×V)}(I:lookParts E ps.toList=some l)(J:buildSliceV P h t n l=some (r,h₁)): opE P E h (.buildSlice t n ps)=some (r,h₁):=by simp only[opE,I,J]
theorem cf {lo hi mx:Option Operand}{p q m:Option V}{p' q' m':Option Nat}(I:aT E x=some v)(J:lookOpt E lo=some p)(h2:lookOpt E hi=some q)(h3:lookOpt E mx=some m)
 (g1:jo p=some p')(g2:jo q=some q')(g3:jo m=some m')(hf:sliceV P h t v p' q' m'=some r): opE P E h (.slice t x lo hi mx)=some (r,h):=by simp only[opE,iB,I,J,h2,h3,g1,g2,g3,hf,bk]
theorem Py {s:TypeId}{ok:Bool}(I:aT E x=some v)(J:assertV P v s ok=some r): opE P E h (.typeAssert x t s ok)=some (r,h):=by simp only[opE,iB,I,J,bk]
theorem RK (I:isAggT P t=some false)(J:T.get h.tr id=some (.cells n cs st))(hn:nth cs off=some v): loadV P h t (.ptr id off)=some v:=by
 simp only[loadV,I,wq,J,hn]
theorem cy (I:isAggT P t=some true)(hs:bj P t=some n)(J:T.get h.tr id=some (.cells n cs st)): loadV P h t (.ptr id 0)=some (.agg cs):=by
 simp only[loadV,I,hs,rdN,J,fF]
 rw[aG.2 (aS n),ai,eW,eW]
 rfl
theorem dL (hw:jG h)(hs:bj P t=some 1)(J:T.get h.tr id=some (.cells n cs false))(hl:cs.length=n)(ho:off<n)(hv:v.cells=[v])(I:storable v=true):
  ∃h₁,fu P h t (.ptr id off) v=some h₁∧c7 0 [id] h h₁∧T.get h₁.tr id=some (.cells n (cs.set off v) false):=by
 refine⟨h.put id (some (.cells n (cs.set off v) false)),?_,c7.EJ hw (hw _ _ J) _,by rw[dS,aF rfl]⟩
 simp only[fu,hs,hv,bq,cD,jv,j7,I,Bool.and_true]
 rw[show Nat.beq (0+1) 1=true from rfl,ai]
 simp only[wrN,J,bq,cD]
 rw[aG.2 (show off+(0+1)≤n by omega),ai]
 congr 3
 rw[Iy,aF (by omega)]
 cases hc:(Nat.beq off 0&&Nat.beq (0+1) n) with
 |true =>
  simp only[bC,beq_iff] at hc
  obtain⟨rfl,rfl⟩:=hc
  rw[ai]
  have:cs.drop (0+1)=[]:=kV (by omega)
  simp[this]
 |false=>rw[aK];rfl
theorem fh {l:List V}(hw:jG h)(hs:bj P t=some n)(J:T.get h.tr id=some (.cells n cs false))(hl:l.length=n)(I:l.all storable=true):
  ∃h₁,fu P h t (.ptr id 0) (.agg l)=some h₁∧c7 0 [id] h h₁∧T.get h₁.tr id=some (.cells n l false):=by
 refine⟨h.put id (some (.cells n l false)),?_,c7.EJ hw (hw _ _ J) _,by rw[dS,aF rfl]⟩
 simp only[fu,hs,V.cells,hl,I]
 rw[eW,iy,ai]
 simp only[wrN,J,hl,fF]
 rw[aG.2 (aS n),ai,eW,eW]
 rfl
end
section
variable {aj:Nat}
theorem DQ (hw:jG h)(I:b<256):
  ∃v h₁,buildSliceV Tryz.prog h 23 1 [(0,.int .u8 b)]=some (v,h₁)∧iM h₁ v [b]∧c7 1 [] h h₁∧∀i∈rowIds v,h.next≤i:=by
 refine⟨.sl h.next 0 1 (.exact 1),newRow h [.int .u8 b],?_,⟨by simpa using I,.inr (.inl ⟨h.next,[],1,rfl,?_,rfl⟩)⟩,c7.yx hw _,fun i hi=>by simp[rowIds] at hi;omega⟩
 ·simp only[buildSliceV,aM,dY,rO,V.cells]
  rfl
 ·rw[newRow,fG,aF rfl];rfl
theorem aq.Kt (J:C.P=Tryz.prog)(hw:jG h)(hg:wantE L E o.guard=some true)(hd:o.dst=some d)(hn:Nat.blt d aj=true)(I:o.op=.buildSlice t 1 ps)(ht:t=23)
 (hx:lookParts E ps.toList=some [(0,.int .u8 (b:Int))])(hb:b<256)
 (hr:∀v h₁,iM h₁ v [b]→c7 1 [] h h₁→(∀i∈rowIds v,h.next≤i)→aq C aj L rest ((d,v)::E) h₁ R): aq C aj L (o::rest) E h R:=by
 obtain⟨v,h₁,e1,e2,e3,e4⟩:=DQ hw hb
 refine aq.op hg hd hn (v:=v) (h₁:=h₁) ?_ (hr v h₁ e2 e3 e4)
 rw[I,ht,J]
 exact ob hx e1
theorem aq.app {c:Go.Call}{s x:V}{m:List Nat}(hP:C.P=Tryz.prog)(hw:jG h)(hg:wantE L E o.guard=some true)(hd:o.dst=some d)(hn:Nat.blt d aj=true)(I:o.op=.call c)(hc:c.callee=.builtin .append)
 (J:c.argTypes = #[23,23])(ha:lookArgs E c.args.toList=some [s,x])(hs:iM h s l)(hx:View h x m)(ej:l.length+m.length≤140737488355328)
 (hr:∀v h₁,iM h₁ v (l++m)→c7 1 (rowIds s) h h₁→(∀i∈rowIds v,i∈rowIds s∨h.next≤i)→aq C aj L rest ((d,v)::E) h₁ R): aq C aj L (o::rest) E h R:=by
 obtain⟨v,h₁,e1,e2,e3,e4⟩:=wW hw hs hx ej
 refine aq.op hg hd hn (v:=v) (h₁:=h₁) ?_ (hr v h₁ e2 e3 e4)
 rw[I,hP]
 exact pJ hc ha (by rw[J];exact e1)
theorem Bi (hw:jG h)(J:c<1073741824):
  ∃v h₁,makeSliceV Tryz.prog h 23 (.int .i64 0) (.int .i64 (c:Int))=some (v,h₁)∧iM h₁ v []∧c7 1 [] h h₁∧∀i∈rowIds v,h.next≤i:=by
 obtain⟨i,hi,i1,i2⟩:=CS
 refine⟨.sl h.next 0 0 (.exact c),h.new (.cells c (repeatL [.int .u8 0] c) false),?_,⟨by simp,.inr (.inl ⟨h.next,repeatL [.int .u8 0] c,c,rfl,?_,?_⟩)⟩,c7.yx hw _,fun i hi=>by simp[rowIds] at hi;omega⟩
 ·simp only[makeSliceV,aM,hi,rO,i1,i2,V.cells,bq,cD,b8,iz]
  rw[show(decide ((0:Int)≤0)&&decide ((0:Int)≤(c:Int))&&decide ((c:Int)<1073741824)&&Nat.ble 1 4096&&Nat.beq (0+1) 1&&Nat.ble 1 1)=true by simp;omega,ai]
  rfl
 ·rw[fG,aF rfl];rfl
 ·have:∀n,(repeatL [V.int .u8 0] n).length=n:=fun n=>by
   induction n with
   |zero=>rfl
   |succ n I=>simp[repeatL,I]
  simp[this]
end
section
variable {aj:Nat} {v:V} {a b:Operand}
theorem zm (e:(o.op,wantE L E o.guard,o.dst,Nat.blt d aj,aT E x)=(Op.move x,some true,some d,true,some v))(hw:aq C aj L rest ((d,v)::E) h R): aq C aj L (o::rest) E h R:=by
  simp only[br] at e;exact aq.op e.2.1 e.2.2.1 e.2.2.2.1 (by rw[e.1];exact bf e.2.2.2.2) hw
theorem za (e:(o.op,wantE L E o.guard,o.dst,Nat.blt d aj,aT E x)=(Op.assign x,some true,some d,true,some v))(hw:aq C aj L rest ((d,v)::E) h R): aq C aj L (o::rest) E h R:=by
  simp only[br] at e;exact aq.op e.2.1 e.2.2.1 e.2.2.2.1 (by rw[e.1];exact dZ e.2.2.2.2) hw
theorem zn (e:(o.op,wantE L E o.guard,o.dst,Nat.blt d aj,aT E x)=(Op.nilCheck x,some true,some d,true,some (V.ptr j k)))(hw:aq C aj L rest ((d,.ptr j k)::E) h R): aq C aj L (o::rest) E h R:=by
  simp only[br] at e;exact aq.op e.2.1 e.2.2.1 e.2.2.2.1 (by rw[e.1];exact lF e.2.2.2.2) hw
theorem zf (e:(o.op,wantE L E o.guard,o.dst,Nat.blt d aj,aT E x)=(Op.fieldAddr t x i,some true,some d,true,some v))(I:fieldAddrV C.P t v i=some r)(hw:aq C aj L rest ((d,r)::E) h R): aq C aj L (o::rest) E h R:=by
  simp only[br] at e;exact aq.op e.2.1 e.2.2.1 e.2.2.2.1 (by rw[e.1];exact jr e.2.2.2.2 I) hw
theorem zl (e:(o.op,wantE L E o.guard,o.dst,Nat.blt d aj,aT E x)=(Op.load t x,some true,some d,true,some v))(I:loadV C.P h t v=some r)(hw:aq C aj L rest ((d,r)::E) h R): aq C aj L (o::rest) E h R:=by
  simp only[br] at e;exact aq.op e.2.1 e.2.2.1 e.2.2.2.1 (by rw[e.1];exact aP e.2.2.2.2 I) hw
theorem ze {l:List V}(e:(o.op,wantE L E o.guard,o.dst,Nat.blt d aj,aT E x,nth l i)=(Op.extract x i,some true,some d,true,some (V.aI l),some r))(hw:aq C aj L rest ((d,r)::E) h R): aq C aj L (o::rest) E h R:=by
  simp only[br] at e;exact aq.op e.2.1 e.2.2.1 e.2.2.2.1 (by rw[e.1];exact dV e.2.2.2.2.1 e.2.2.2.2.2) hw
theorem zp (e:(o.op,wantE L E o.guard,o.dst,Nat.blt d aj,aT E x,aT E b)=(Op.pick x a b,some true,some d,true,some (V.bool false),some v))(hw:aq C aj L rest ((d,v)::E) h R): aq C aj L (o::rest) E h R:=by
  simp only[br] at e;exact aq.op e.2.1 e.2.2.1 e.2.2.2.1 (by rw[e.1];exact q_ e.2.2.2.2.1 e.2.2.2.2.2) hw
theorem zq (e:(o.op,wantE L E o.guard,o.dst,Nat.blt d aj,aT E x,aT E a)=(Op.pick x a b,some true,some d,true,some (V.bool true),some v))(hw:aq C aj L rest ((d,v)::E) h R): aq C aj L (o::rest) E h R:=by
  simp only[br] at e;exact aq.op e.2.1 e.2.2.1 e.2.2.2.1 (by rw[e.1];exact oV e.2.2.2.2.1 e.2.2.2.2.2) hw
theorem zb {op:BinOp}(e:(o.op,wantE L E o.guard,o.dst,Nat.blt d aj,aT E x,aT E y)=(Op.binOp op t x y t',some true,some d,true,some v,some u))(I:binV C.P h op t x y v u=some r)(hw:aq C aj L rest ((d,r)::E) h R): aq C aj L (o::rest) E h R:=by
  simp only[br] at e;exact aq.op e.2.1 e.2.2.1 e.2.2.2.1 (by rw[e.1];exact ak e.2.2.2.2.1 e.2.2.2.2.2 I) hw
theorem zx (e:(wantE L E o.guard,o.dst,Nat.blt d aj)=(some false,some d,true))(hw:aq C aj L rest ((d,bR)::E) h R): aq C aj L (o::rest) E h R:=by
  simp only[br] at e;exact aq.no e.1 e.2.1 e.2.2 hw
theorem zo (e:(wantE L E o.guard,o.dst,Nat.blt d aj)=(some true,some d,true))(ho:opE C.P E h o.op=some (v,h₁))(hw:aq C aj L rest ((d,v)::E) h₁ R): aq C aj L (o::rest) E h R:=by
  simp only[br] at e;exact aq.op e.1 e.2.1 e.2.2 ho hw
theorem zv (I:R E h): aq C aj L [] E h R:=aq.nil I
variable {c f:Code}
theorem zw (hw:WP C aj c E h fun ex E' h'=>match ex with
    |.normal=>WP C aj f E' h' Q
    |ex=>Q ex E' h'): WP C aj (.seq c f) E h Q:=WP.seq hw
theorem zr (I:ops.toList=L)(hw:aq C aj L L E h fun E' h'=>Q .normal E' h'): WP C aj (.region k ops false) E h Q:=WP.region I hw
theorem zg (I:ops.toList=L)(hw:aq C aj L L E h fun E' h'=>WP C aj f E' h' Q): WP C aj (.seq (.region k ops false) f) E h Q:=WP.seq (WP.region I hw)
theorem zi (I:aT E x=some (.bool true))(hw:WP C aj c E h Q): WP C aj (.cond x c f) E h Q:=WP.cond I hw
theorem zj (I:aT E x=some (.bool false))(hw:WP C aj f E h Q): WP C aj (.cond x c f) E h Q:=WP.cond I hw
end
inductive Md where
  |c (c:Code)
  |o (L l:List Oper)
def Bj (C:dR)(aj:Nat)(Q:Ex→List (Nat×V)→H→Prop): List Code→Ex→List (Nat×V)→H→Prop
  |[]=>Q
  |b::K=>fun ex E' h'=>match ex with
    |.normal=>WP C aj b E' h' (Bj C aj Q K)
    |ex=>Bj C aj Q K ex E' h'
def RL : List (Nat×V)→Nat→Option V
  |[],_=>none
  |(d,v)::E,k=>cond (Nat.beq d k) (some v) (RL E k)
theorem MD : ∀(E:List (Nat×V)) (k:Nat),RL E k=look E k
  |[],_=>rfl
  |(d,v)::E,k=>by simp only[RL,look,MD E k]
def Bk (E:List (Nat×V)): Operand→Option V
  |.tmp t=>RL E t
  |.const c=>ofValue c
  |.global _=>none
  |.func f=>some (.fn (.func f) [] [])
theorem ME (E:List (Nat×V))(x:Operand): Bk E x=aT E x:=by cases x<;>first|rfl|exact MD _ _
def Vf (E:List (Nat×V)): Op→Option V
  |.move x=>Bk E x
  |.assign x=>Bk E x
  |.nilCheck x=>match Bk E x with
    |some (.ptr j k)=>some (.ptr j k)
    |_=>none
  |.extract x i=>match Bk E x with
    |some (.aI l)=>nth l i
    |_=>none
  |.pick x a b=>match Bk E x with
    |some (.bool true)=>Bk E a
    |some (.bool false)=>Bk E b
    |_=>none
  |_=>none
def runM (aj:Nat): Nat→Md→List (Nat×V)→List Code→Option (Md×List (Nat×V)×List Code)
  |0,m,E,K=>some (m,E,K)
  |n+1,.o _ [],E,b::K=>runM aj n (.c b) E K
  |n+1,.o L (o::l),E,K=>match wantE L E o.guard,o.dst with
    |some false,some d=>cond (Nat.blt d aj) (runM aj n (.o L l) ((d,bR)::E) K) none
    |some true,some d=>match Vf E o.op with
      |some v=>cond (Nat.blt d aj) (runM aj n (.o L l) ((d,v)::E) K) none
      |none=>none
    |_,_=>none
  |n+1,.c (.seq a b),E,K=>runM aj n (.c a) E (b::K)
  |n+1,.c (.region _ ops false),E,K=>runM aj n (.o ops.toList ops.toList) E K
  |n+1,.c (.cond x a b),E,K=>match Bk E x with
    |some (.bool true)=>runM aj n (.c a) E K
    |some (.bool false)=>runM aj n (.c b) E K
    |_=>none
  |n+1,.c .skip,E,b::K=>runM aj n (.c b) E K
  |_+1,_,_,_=>none
abbrev Gl (C:dR)(aj:Nat)(h:H)(Q:Ex→List (Nat×V)→H→Prop)(m:Md)(E:List (Nat×V))(K:List Code): Prop:=match m with
  |.c c=>WP C aj c E h (Bj C aj Q K)
  |.o L l=>aq C aj L l E h fun E' h'=>Bj C aj Q K .normal E' h'
class Fy (C:dR)(aj:Nat)(R:List (Nat×V)→H→Prop)(Q:outParam (Ex→List (Nat×V)→H→Prop))where
  K:List Code
  eq:R=fun E' h'=>Bj C aj Q K .normal E' h'
class RM (C:dR)(aj:Nat)(R:Ex→List (Nat×V)→H→Prop)(Q:outParam (Ex→List (Nat×V)→H→Prop))where
  K:List Code
  eq:R=Bj C aj Q K
instance (priority:=50) (C:dR) (aj:Nat) (R:List (Nat×V)→H→Prop):Fy C aj R (fun _=>R):=⟨[],rfl⟩
instance (priority:=60) (C:dR) (aj:Nat) (Q:Ex→List (Nat×V)→H→Prop):Fy C aj (fun E' h'=>Q .normal E' h') Q:=⟨[],rfl⟩
instance (priority:=70) (C:dR) (aj:Nat) (f:Code) (Q:Ex→List (Nat×V)→H→Prop) (K:List Code):Fy C aj (fun E' h'=>WP C aj f E' h' (Bj C aj Q K)) Q:=⟨f::K,rfl⟩
instance (priority:=65) (C:dR) (aj:Nat) (f:Code) (Q:Ex→List (Nat×V)→H→Prop):Fy C aj (fun E' h'=>WP C aj f E' h' Q) Q:=⟨[f],rfl⟩
instance (priority:=80) (C:dR) (aj:Nat) (K:List Code) (Q:Ex→List (Nat×V)→H→Prop):Fy C aj (fun E' h'=>Bj C aj Q K .normal E' h') Q:=⟨K,rfl⟩
instance (priority:=50) (C:dR) (aj:Nat) (Q:Ex→List (Nat×V)→H→Prop):RM C aj Q Q:=⟨[],rfl⟩
instance (priority:=80) (C:dR) (aj:Nat) (K:List Code) (Q:Ex→List (Nat×V)→H→Prop):RM C aj (Bj C aj Q K) Q:=⟨K,rfl⟩
section
variable {aj:Nat} {l:List Oper} {m m':Md} {K K':List Code} {f:Code}
theorem Vg {o:Op}{v:V}(e:Vf E o=some v): opE C.P E h o=some (v,h):=by
  unfold Vf at e
  simp only[ME] at e
  split at e
  · exact bf e
  · exact dZ e
  · split at e
    · rename_i I
      cases e;exact lF I
    · cases e
  · split at e
    · rename_i I
      exact dV I e
    · cases e
  · split at e
    · rename_i I;exact oV I e
    · rename_i I;exact q_ I e
    · cases e
  · cases e
theorem IU : ∀(n:Nat) (m:Md) (E:List (Nat×V)) (K:List Code),runM aj n m E K=some (m',E',K')→Gl C aj h Q m' E' K'→Gl C aj h Q m E K:=by
  intro n
  induction n with
  |zero=>intro m E K e hw;simp only[runM,au,br] at e;obtain⟨rfl,rfl,rfl⟩:=e;exact hw
  |succ n I =>
    intro m E K e hw
    unfold runM at e
    split at e
    · rename_i he;cases he
    · rename_i he;cases he
      exact aq.nil (I _ _ _ e hw)
    · rename_i he;cases he
      split at e
      · rename_i d hg hd
        cases J:Nat.blt d aj with
        |false=>rw[J] at e;cases e
        |true=>rw[J] at e;exact aq.no hg hd J (I _ _ _ e hw)
      · rename_i d hg hd
        split at e
        · rename_i v hv
          cases J:Nat.blt d aj with
          |false=>rw[J] at e;cases e
          |true=>rw[J] at e;exact aq.op hg hd J (Vg hv) (I _ _ _ e hw)
        · cases e
      · cases e
    · rename_i he;cases he
      exact WP.seq (I _ _ _ e hw)
    · rename_i he;cases he
      exact WP.region rfl (I _ _ _ e hw)
    · rename_i he;cases he
      rw[ME] at e
      split at e
      · rename_i hx;exact WP.cond hx (I _ _ _ e hw)
      · rename_i hx;exact WP.cond hx (I _ _ _ e hw)
      · cases e
    · rename_i he;cases he
      exact WP.skip (I _ _ _ e hw)
    · cases e
theorem zk (n:Nat)[a:Fy C aj R Q](e:runM aj n (.o L l) E (Fy.K C aj R)=some (m',E',K'))(hw:Gl C aj h Q m' E' K'): aq C aj L l E h R:=by
  rw[a.eq];exact IU n (.o L l) E _ e hw
theorem zK {I:Ex→List (Nat×V)→H→Prop}(n:Nat)[a:RM C aj I Q](e:runM aj n (.c f) E (RM.K C aj I)=some (m',E',K'))(hw:Gl C aj h Q m' E' K'): WP C aj f E h I:=by
  rw[a.eq];exact IU n (.c f) E _ e hw
end
section
variable {aj:Nat} {l:List Oper}
def OpR (C:dR)(E:List (Nat×V))(h:H)(o:Oper)(R:V→H→Prop): Prop:=∃v h₁,R v h₁∧∀env,gS env E→∃N,evOp C (ev C N) env h o=some (v,h₁)
theorem OpR.call {k:FuncId}{R:V→H→Prop}(J:o.op=.call cl)(hc:cl.callee=.value x)(hx:aT E x=some (.fn (.func k) first cap))
 (ha:lookArgs E cl.args.toList=some args)(I:Am.Call C k (first++(args++cap)) h R): OpR C E h o R:=by
 obtain⟨v,h₁,Mr,hr⟩:=I
 exact⟨v,h₁,hr,fun env hE=>DE hE J hc hx ha Mr⟩
theorem OpR.of {v:V}{R:V→H→Prop}(ho:opE C.P E h o.op=some (v,h₁))(I:R v h₁): OpR C E h o R:=⟨v,h₁,I,fun _ J=>⟨0,Bc J ho⟩⟩
theorem aq.any (hg:wantE L E o.guard=some true)(hd:o.dst=some d)(hn:Nat.blt d aj=true)(ho:OpR C E h o wP)
 (hw:∀v h₁,wP v h₁→aq C aj L rest ((d,v)::E) h₁ R): aq C aj L (o::rest) E h R:=by
 intro env J
 obtain⟨v,h₁,hr,mG⟩:=ho
 obtain⟨N,hN⟩:=mG env J
 obtain⟨M,I,h',E',h1,h2,h3⟩:=hw v h₁ hr (env.set d (some v)) (J.set d v)
 refine⟨Nat.max N M,I,h',E',?_,h2,h3⟩
 simp only[evOps,jf J hg,ai,kC (dm (oS N M)) hN,St.put,hd,hn]
 exact oa (dm (oR N M)) _ _ _ h1
def Ku : List (Env×V)→List (List (Nat×V)×V)→Prop
 |[],[]=>True
 |x::l,y::m=>gS x.1 y.1∧x.2=y.2∧Ku l m
 |_,_=>False
def az (C:dR)(aj:Nat)(L l:List Oper)(E:List (Nat×V))(h:H)(hs:List H)(Q:List (Nat×V)→H→List (List (Nat×V)×V)→List H→Prop): Prop :=
 ∀env,gS env E→∃N I h' E' tr ts J,trace C (ev C N) L l ⟨env,aj,h⟩ hs=some (tr,J,⟨I,aj,h'⟩)∧gS I E'∧Ku tr ts∧Q E' h' ts J
variable {Q:List (Nat×V)→H→List (List (Nat×V)×V)→List H→Prop}
theorem az.nil (I:Q E h [] hs): az C aj L [] E h hs Q:=fun env J=>⟨0,env,h,E,[],[],hs,rfl,J,aa,I⟩
theorem az.any {e:Bool}(hg:wantE L E o.guard=some true)(hd:o.dst=some d)(hn:Nat.blt d aj=true)(he:isEff C o.op=e)(ho:OpR C E h o wP)
 (hw:∀v h₁,wP v h₁→az C aj L rest ((d,v)::E) h₁ (cond e (hs++[h₁]) hs) fun E' h' ts I=>Q E' h' ((E,v)::ts) I): az C aj L (o::rest) E h hs Q:=by
 intro env hE
 obtain⟨v,h₁,hr,mG⟩:=ho
 obtain⟨N,hN⟩:=mG env hE
 obtain⟨M,J,h',E',tr,ts,I,h1,h2,h3,h4⟩:=hw v h₁ hr (env.set d (some v)) (hE.set d v)
 refine⟨Nat.max N M,J,h',E',(env,v)::tr,(E,v)::ts,I,?_,h2,⟨hE,rfl,h3⟩,h4⟩
 simp only[trace,jf hE hg,ai,kC (dm (oS N M)) hN,St.put,hd,hn,he]
 rw[vk (dm (oR N M)) _ _ _ _ h1]
theorem az.iR {e:Bool}(hg:wantE L E o.guard=some true)(hd:o.dst=none)(he:isEff C o.op=e)(ho:OpR C E h o wP)
 (hw:∀v h₁,wP v h₁→az C aj L rest E h₁ (cond e (hs++[h₁]) hs) fun E' h' ts I=>Q E' h' ((E,v)::ts) I): az C aj L (o::rest) E h hs Q:=by
 intro env hE
 obtain⟨v,h₁,hr,mG⟩:=ho
 obtain⟨N,hN⟩:=mG env hE
 obtain⟨M,J,h',E',tr,ts,I,h1,h2,h3,h4⟩:=hw v h₁ hr env hE
 refine⟨Nat.max N M,J,h',E',(env,v)::tr,(E,v)::ts,I,?_,h2,⟨hE,rfl,h3⟩,h4⟩
 simp only[trace,jf hE hg,ai,kC (dm (oS N M)) hN,St.put,hd,he]
 rw[vk (dm (oR N M)) _ _ _ _ h1]
theorem az.op {v:V}(J:wantE L E o.guard=some true)(hd:o.dst=some d)(hn:Nat.blt d aj=true)(he:isEff C o.op=false)(ho:opE C.P E h o.op=some (v,h))
 (hw:az C aj L rest ((d,v)::E) h hs fun E' h' ts I=>Q E' h' ((E,v)::ts) I): az C aj L (o::rest) E h hs Q :=
 az.any J hd hn he (OpR.of (R:=fun v' h'=>v'=v∧h'=h) ho ⟨rfl,rfl⟩) (fun v' h' hr=>by obtain⟨rfl,rfl⟩:=hr;exact hw)
theorem az.no {e:Bool}(hg:wantE L E o.guard=some false)(hd:o.dst=some d)(hn:Nat.blt d aj=true)(he:isEff C o.op=e)
 (hw:az C aj L rest ((d,bR)::E) h (cond e (hs++[h]) hs) fun E' h' ts I=>Q E' h' ((E,bR)::ts) I): az C aj L (o::rest) E h hs Q:=by
 intro env hE
 obtain⟨M,J,h',E',tr,ts,I,h1,h2,h3,h4⟩:=hw (env.set d (some bR)) (hE.set d bR)
 refine⟨M,J,h',E',(env,bR)::tr,(E,bR)::ts,I,?_,h2,⟨hE,rfl,h3⟩,h4⟩
 simp only[trace,jf hE hg,aK,St.put,hd,hn,ai,he]
 rw[h1]
def Fz (C:dR)(L:List Oper)(o:Oper)(x:List (Nat×V)×V)(h:H): Prop :=
 wantE L x.1 o.guard=some false∨(wantE L x.1 o.guard=some true∧(∃h',opE C.P x.1 h o.op=some (x.2,h'))∧x.2.beq x.2=true)
def EK (C:dR)(L:List Oper)(an es:List Nat)(hs:List H): List Oper→List (List (Nat×V)×V)→Nat→Prop
 |o::l,x::tr,i=>(isEff C o.op=true∨(nW ((nth an i).getD 0) es&&Nat.beq (jO ((nth an i).getD 0) es) (mF an i es))=true ∨
   (nW ((nth an i).getD 0) es=true∧∀h∈(hs.drop (jO ((nth an i).getD 0) es)).take (mF an i es+1-jO ((nth an i).getD 0) es),Fz C L o x h))∧EK C L an es hs l tr (i+1)
 |[],[],_=>True
 |_,_,_=>False
theorem MF {x:Env×V}{y:List (Nat×V)×V}(J:gS x.1 y.1)(hv:x.2=y.2): ∀(hs:List H),(∀h∈hs,Fz C L o y h)→sameIn C self L o x hs=true:=by
 intro hs
 induction hs with
 |nil=>intro _;rfl
 |cons h hs ih =>
  intro I
  simp only[sameIn]
  rcases I h dJ with hg|⟨hg,⟨h',ho⟩,hb⟩
  ·rw[jf J hg,aK]
  ·rw[jf J hg,ai,Bc J ho]
   simp only
   rw[hv,hb,ai]
   exact ih (fun h hh=>I h (dh _ hh))
theorem MG {an:List Nat}: ∀(l:List Oper) (tr:List (Env×V)) (ts:List (List (Nat×V)×V)) (i:Nat),Ku tr ts→EK C L an es hs l ts i→stayOk C self L an es hs l tr i=true:=by
 intro l
 induction l with
 |nil=>intro tr ts i hn J;cases tr<;>cases ts<;>first|rfl|(exact J.elim)|(exact hn.elim)
 |cons o l ih =>
  intro tr ts i hn J
  cases tr with
  |nil=>cases ts with
   |nil=>exact J.elim
   |cons y ts=>exact hn.elim
  |cons x tr =>
   cases ts with
   |nil=>exact hn.elim
   |cons y ts =>
    obtain⟨n1,n2,n3⟩:=hn
    obtain⟨s1,s2⟩:=J
    simp only[stayOk]
    have I:=ih tr ts (i+1) n3 s2
    cases he:isEff C o.op with
    |true=>rw[ai];exact I
    |false =>
     rw[aK]
     rcases s1 with s1|s1|⟨s1,s3⟩
     ·rw[he] at s1;cases s1
     ·rw[s1,ai];exact I
     ·cases hq:(nW ((nth an i).getD 0) es&&Nat.beq (jO ((nth an i).getD 0) es) (mF an i es)) with
      |true=>rw[ai];exact I
      |false=>rw[aK,s1,MF n1 n2 _ s3,iy,ai];exact I
theorem WP.draw {Q:Ex→List (Nat×V)→H→Prop}(hl:ops.toList=L)(J:m5 C false L=true)
 (hw:az C aj L L E h [h] fun E' h' ts hs=>EK C L (ancs L []) (dz C L 0) hs L ts 0∧Q .normal E' h'): WP C aj (.region id ops true) E h Q:=by
 intro env hE
 obtain⟨N,I,h',E',tr,ts,nC,h1,h2,h3,h4,h5⟩:=hw env hE
 refine⟨N+1,.normal,I,h',E',?_,h2,h5⟩
 subst hl
 rw[gZ]
 simp only[evStep,ai,nX,J,h1,MG _ _ _ _ h3 h4]
end
def planOk (C:dR)(an es:List Nat): List Oper→List (Option (Nat×Nat))→Nat→Bool
 |[],[],_=>true
 |o::l,p::ps,i=>(match p with
   |none=>isEff C o.op||(nW ((nth an i).getD 0) es&&Nat.beq (jO ((nth an i).getD 0) es) (mF an i es))
   |some (lo,n)=>nW ((nth an i).getD 0) es&&Nat.beq lo (jO ((nth an i).getD 0) es)&&Nat.beq n (mF an i es+1-jO ((nth an i).getD 0) es))&&planOk C an es l ps (i+1)
 |_,_,_=>false
def Bl (C:dR)(L:List Oper)(hs:List H): List Oper→List (List (Nat×V)×V)→List (Option (Nat×Nat))→Prop
 |o::l,x::tr,p::ps=>(match p with
   |none=>True
   |some (lo,n)=>∀h∈(hs.drop lo).take n,Fz C L o x h)∧Bl C L hs l tr ps
 |[],[],_=>True
 |_,_,_=>False
theorem Bl.stay {an:List Nat}: ∀(l:List Oper) (ts:List (List (Nat×V)×V)) (ps:List (Option (Nat×Nat))) (i:Nat),planOk C an es l ps i=true→Bl C L hs l ts ps→EK C L an es hs l ts i:=by
 intro l
 induction l with
 |nil=>intro ts ps i h1 J;cases ts with
  |nil=>trivial
  |cons x ts=>exact J.elim
 |cons o l ih =>
  intro ts ps i h1 J
  cases ts with
  |nil=>cases ps<;>exact J.elim
  |cons x ts =>
   cases ps with
   |nil=>exact J.elim
   |cons p ps =>
    simp only[planOk,bC] at h1
    obtain⟨I,a2⟩:=h1
    obtain⟨b1,b2⟩:=J
    refine⟨?_,ih ts ps (i+1) a2 b2⟩
    cases p with
    |none =>
     simp only[Ct] at I
     rcases I with I|I
     ·exact .inl I
     ·exact .inr (.inl I)
    |some q =>
     obtain⟨lo,n⟩:=q
     simp only[bC,beq_iff] at I
     obtain⟨⟨c1,c2⟩,c3⟩:=I
     refine .inr (.inr ⟨c1,?_⟩)
     subst c2
     subst c3
     exact b1
theorem WP.drawn {aj:Nat}(ps:List (Option (Nat×Nat)))(hl:ops.toList=L)(J:m5 C false L=true)
 (hp:planOk C (ancs L []) (dz C L 0) L ps 0=true)
 (hw:az C aj L L E h [h] fun E' h' ts hs=>Bl C L hs L ts ps∧Q .normal E' h'): WP C aj (.region id ops true) E h Q:=by
 refine WP.draw hl J ?_
 intro env hE
 obtain⟨N,I,h',E',tr,ts,nC,h1,h2,h3,h4,h5⟩:=hw env hE
 exact⟨N,I,h',E',tr,ts,nC,h1,h2,h3,Bl.stay _ _ _ _ hp h4,h5⟩
theorem dW {a b:H}{l:List H}{p:H→Prop}(J:p a)(hb:p b): ∀x∈((a::b::l).drop 0).take 2,p x:=by
 intro x I
 simp only[gX,List.take_succ_cons,qP,gY,iu,j8] at I
 rcases I with rfl|rfl
 ·exact J
 ·exact hb
theorem rQ {a b c:H}{l:List H}{p:H→Prop}(J:p a)(hb:p b)(hc:p c): ∀x∈((a::b::c::l).drop 0).take 3,p x:=by
 intro x I
 simp only[gX,List.take_succ_cons,qP,gY,iu,j8] at I
 rcases I with rfl|rfl|rfl
 ·exact J
 ·exact hb
 ·exact hc
theorem dI (k:IntKind): ikBeq k k=true:=by cases k<;>rfl
theorem pK (n:Int): intBeq n n=true:=by cases n<;>simp[intBeq]
theorem zR (c:Cap): c.beq c=true:=by cases c<;>simp[Cap.beq]
theorem EM (a b c:Nat)(d:Cap): (V.sl a b c d).beq (.sl a b c d)=true:=by simp[V.beq,zR]
theorem eN {v:V}(I:View h v l): v.beq v=true:=by
 obtain⟨_,I⟩:=I
 rcases I with⟨rfl|⟨J,rfl⟩,_⟩|⟨id,off,cap,n,cs,st,rfl,_⟩
 ·simp[V.beq]
 ·simp[V.beq]
 ·exact EM _ _ _ _
section
variable {aj:Nat} {Q:List (Nat×V)→H→List (List (Nat×V)×V)→List H→Prop} {v:V} {a b:Operand}
theorem zM (e:(o.op,wantE L E o.guard,o.dst,Nat.blt d aj,isEff C o.op,aT E x)=(Op.move x,some true,some d,true,false,some v))(hw:az C aj L rest ((d,v)::E) h hs fun E' h' ts I=>Q E' h' ((E,v)::ts) I): az C aj L (o::rest) E h hs Q:=by
  simp only[br] at e;exact az.op e.2.1 e.2.2.1 e.2.2.2.1 e.2.2.2.2.1 (by rw[e.1];exact bf e.2.2.2.2.2) hw
theorem zA (e:(o.op,wantE L E o.guard,o.dst,Nat.blt d aj,isEff C o.op,aT E x)=(Op.assign x,some true,some d,true,false,some v))(hw:az C aj L rest ((d,v)::E) h hs fun E' h' ts I=>Q E' h' ((E,v)::ts) I): az C aj L (o::rest) E h hs Q:=by
  simp only[br] at e;exact az.op e.2.1 e.2.2.1 e.2.2.2.1 e.2.2.2.2.1 (by rw[e.1];exact dZ e.2.2.2.2.2) hw
theorem zN (e:(o.op,wantE L E o.guard,o.dst,Nat.blt d aj,isEff C o.op,aT E x)=(Op.nilCheck x,some true,some d,true,false,some (V.ptr j k)))(hw:az C aj L rest ((d,.ptr j k)::E) h hs fun E' h' ts I=>Q E' h' ((E,.ptr j k)::ts) I): az C aj L (o::rest) E h hs Q:=by
  simp only[br] at e;exact az.op e.2.1 e.2.2.1 e.2.2.2.1 e.2.2.2.2.1 (by rw[e.1];exact lF e.2.2.2.2.2) hw
theorem zF (e:(o.op,wantE L E o.guard,o.dst,Nat.blt d aj,isEff C o.op,aT E x)=(Op.fieldAddr t x i,some true,some d,true,false,some v))(J:fieldAddrV C.P t v i=some r)(hw:az C aj L rest ((d,r)::E) h hs fun E' h' ts I=>Q E' h' ((E,r)::ts) I): az C aj L (o::rest) E h hs Q:=by
  simp only[br] at e;exact az.op e.2.1 e.2.2.1 e.2.2.2.1 e.2.2.2.2.1 (by rw[e.1];exact jr e.2.2.2.2.2 J) hw
theorem zL (e:(o.op,wantE L E o.guard,o.dst,Nat.blt d aj,isEff C o.op,aT E x)=(Op.load t x,some true,some d,true,false,some v))(J:loadV C.P h t v=some r)(hw:az C aj L rest ((d,r)::E) h hs fun E' h' ts I=>Q E' h' ((E,r)::ts) I): az C aj L (o::rest) E h hs Q:=by
  simp only[br] at e;exact az.op e.2.1 e.2.2.1 e.2.2.2.1 e.2.2.2.2.1 (by rw[e.1];exact aP e.2.2.2.2.2 J) hw
theorem zO (e:(wantE L E o.guard,o.dst,Nat.blt d aj,isEff C o.op)=(some true,some d,true,false))(ho:opE C.P E h o.op=some (v,h))(hw:az C aj L rest ((d,v)::E) h hs fun E' h' ts I=>Q E' h' ((E,v)::ts) I): az C aj L (o::rest) E h hs Q:=by
  simp only[br] at e;exact az.op e.1 e.2.1 e.2.2.1 e.2.2.2 ho hw
end
abbrev PM := Nat→Option Obj
variable {m':PM}
def PM.le (a b:PM): Prop:=∀i o,a i=some o→b i=some o
def PM.dj (a b:PM): Prop:=∀i,a i=none∨b i=none
def PM.upd (m:PM)(id:Nat)(o:Option Obj): PM:=fun i=>if i=id then o else m i
def PM.un (a b:PM): PM:=fun i=>(a i).orElse fun _=>b i
theorem PM.le_refl (a:PM): a.le a:=fun _ _ h=>h
theorem PM.le_trans {a b c:PM}(x:a.le b)(y:b.le c): a.le c:=fun i o h=>y i o (x i o h)
theorem PM.lQ {a b I J:PM}(hd:a.dj b)(ha:I.le a)(hb:J.le b): I.dj J:=by
 intro i
 rcases hd i with h|h
 ·left
  cases h1:I i with
  |none=>rfl
  |some o=>rw[ha i o h1] at h;cases h
 ·right
  cases h1:J i with
  |none=>rfl
  |some o=>rw[hb i o h1] at h;cases h
theorem PM.nD {a b:PM}(h:a.dj b): b.dj a:=fun i=>(h i).symm
theorem PM.FA (a b:PM): a.le (a.un b):=fun i o h=>by simp[PM.un,h]
theorem PM.FB {a b:PM}(hd:a.dj b): b.le (a.un b):=fun i o h=>by
 rcases hd i with I|I<;>grind[PM.un]
theorem PM.Bn {a b c:PM}(J:a.le c)(hb:b.le c): (a.un b).le c:=fun i o h=>by
 simp only[PM.un] at h
 cases I:a i with
 |none=>rw[I] at h;exact hb i o h
 |some x=>rw[I] at h;injection h with h;subst h;exact J i _ I
theorem PM.Bo {a b c:PM}(I:a.dj c)(J:b.dj c): (a.un b).dj c:=fun i=>by
 rcases I i with h|h
 ·rcases J i with h2|h2<;>grind[PM.un]
 ·grind
def ViewM (m:PM)(v:V)(l:List Nat): Prop:=(∀b∈l,b<256)∧(((v=.aO∨∃a,v=.sle a)∧l=[]) ∨
 ∃id off cap n cs st,v=.sl id off l.length cap∧m id=some (.cells n cs st)∧cs.length=n∧off+l.length≤n∧(cs.drop off).take l.length=ofBytes l ∧
  (match cap with|.exact c=>l.length≤c|.rest e _=>e=1))
def qj (m:PM)(v:V)(l:List Nat): Prop:=(∀b∈l,b<256)∧((v=.aO∧l=[]) ∨
 (∃id cs c,v=.sl id 0 l.length (.exact c)∧m id=some (.cells c (ofBytes l++cs) false)∧l.length+cs.length=c) ∨
 (∃id,v=.sl id 0 l.length (.rest 1 0)∧m id=some (.cells l.length (ofBytes l) false)∧1≤l.length))
theorem ViewM.up {m:PM}{v:V}(h:ViewM m v l)(hm:PM.le m m'): ViewM m' v l:=by
 obtain⟨J,I⟩:=h
 refine⟨J,?_⟩
 rcases I with I|⟨id,off,cap,n,cs,st,e,hg,h3⟩
 ·grind
 ·exact .inr ⟨id,off,cap,n,cs,st,e,hm _ _ hg,h3⟩
theorem qj.up {m:PM}{v:V}(h:qj m v l)(hm:PM.le m m'): qj m' v l:=by
 obtain⟨h1,h2⟩:=h
 refine⟨h1,?_⟩
 rcases h2 with h2|⟨id,cs,c,e,I,J⟩|⟨id,e,I,J⟩
 ·grind
 ·exact .inr (.inl ⟨id,cs,c,e,hm _ _ I,J⟩)
 ·exact .inr (.inr ⟨id,e,hm _ _ I,J⟩)
theorem qj.view {m:PM}{v:V}(I:qj m v l): ViewM m v l:=by
 obtain⟨J,I⟩:=I
 refine⟨J,?_⟩<;>grind[c_]
def rR (m:PM)(k:Nat)(v:V)(cs:List V): Prop:=cs.all storable=true∧((v=.aO∧cs=[]) ∨
 ∃id n cap N rest,v=.sl id 0 n cap∧m id=some (.cells N (cs++rest) false)∧cs.length=n*k∧cs.length+rest.length=N∧rest.all storable=true ∧
  (match cap with|.exact c=>N=c*k∧n≤c|.rest e alt=>e=k∧alt=0∧rest=[]∧1≤n))
theorem rR.up {m:PM}{v:V}(h:rR m k v cs)(hm:PM.le m m'): rR m' k v cs:=by
 obtain⟨J,I⟩:=h
 refine⟨J,?_⟩
 rcases I with I|⟨id,n,cap,N,rest,e,hg,h3⟩
 ·grind
 ·exact .inr ⟨id,n,cap,N,rest,e,hm _ _ hg,h3⟩
inductive aE : Type 1 where
 |pt (id:Nat) (o:Obj)
 |ro (id:Nat) (o:Obj)
 |pu (φ:Prop)
 |buf (v:V) (l:List Nat)
 |cL (v:V) (l:List Nat)
 |Vh (v:V) (l:List Nat)
 |arr (k:Nat) (v:V) (cs:List V)
 |an (A B:aE)
 |xs {α:Type} (f:α→aE)
 |all {α:Type} (f:α→aE)
 |se (A B:aE)
variable {A B X:aE} {S S':List aE}
abbrev pt := aE.pt
abbrev ro := aE.ro
abbrev pu := aE.pu
abbrev xs {α:Type}(f:α→aE): aE:=aE.xs f
abbrev aW := aE.buf
abbrev Bp := aE.cL
abbrev cz := aE.Vh
def aE.p : aE→PM→PM→Prop
 |.pt id o,m,_=>m id=some o
 |.ro id o,_,r=>r id=some o
 |.pu φ,_,_=>φ
 |.buf v l,m,_=>qj m v l
 |.cL v l,_,r=>ViewM r v l
 |.Vh v l,m,r=>ViewM m v l∨ViewM r v l
 |.arr k v cs,m,_=>rR m k v cs
 |.an A B,m,r=>A.p m r∧B.p m r
 |.xs f,m,r=>∃x,(f x).p m r
 |.all f,m,r=>∀x,(f x).p m r
 |.se A B,m,r=>∃a b,PM.dj a b∧PM.le a m∧PM.le b m∧A.p a r∧B.p b r
theorem aE.mono : ∀(A:aE) (m m' r J:PM),PM.le m m'→PM.le r J→A.p m r→A.p m' J:=by
 intro A
 induction A with
 |pt id o=>intro m m' r J hm I h;exact hm _ _ h
 |ro id o=>intro m m' r J hm I h;exact I _ _ h
 |pu φ=>intro m m' r J hm I h;exact h
 |buf v l=>intro m m' r J hm I h;exact qj.up h hm
 |cL v l=>intro m m' r J hm I h;exact ViewM.up h I
 |Vh v l =>
  intro m m' r J hm I h
  rcases h with h|h
  ·exact .inl (ViewM.up h hm)
  ·exact .inr (ViewM.up h I)
 |arr k v cs=>intro m m' r J hm I h;exact rR.up h hm
 |an A B ia ib=>intro m m' r J hm I h;exact⟨ia _ _ _ _ hm I h.1,ib _ _ _ _ hm I h.2⟩
 |xs f ih=>intro m m' r J hm I h;obtain⟨x,hx⟩:=h;exact⟨x,ih x _ _ _ _ hm I hx⟩
 |all f ih=>intro m m' r J hm I h x;exact ih x _ _ _ _ hm I (h x)
 |se A B ia ib =>
  intro m m' r J hm I h
  obtain⟨a,b,h1,h2,h3,h4,h5⟩:=h
  exact⟨a,b,h1,PM.le_trans h2 hm,PM.le_trans h3 hm,ia _ _ _ _ (PM.le_refl _) I h4,ib _ _ _ _ (PM.le_refl _) I h5⟩
def star : List aE→aE
 |[]=>.pu True
 |A::L=>.se A (star L)
theorem aE.up {m r I:PM}(h:A.p m r)(hm:m.le m')(J:r.le I): A.p m' I:=A.mono m m' r I hm J h
def cq (A B:aE): Prop:=∀m r,A.p m r→B.p m r
def aX (A:aE): Prop:=∀m r,A.p m r→A.p (fun _=>none) r
theorem aX.ro (id:Nat)(o:Obj): aX (.ro id o):=fun _ _ h=>h
theorem aX.pu (φ:Prop): aX (.pu φ):=fun _ _ h=>h
theorem aX.an (I:aX A)(J:aX B): aX (.an A B):=fun m r h=>⟨I m r h.1,J m r h.2⟩
def getA : List aE→Nat→Option aE
 |[],_=>none
 |A::_,0=>some A
 |_::L,k+1=>getA L k
theorem k8 (I:getA S k=some X): getA (A::S) (k+1)=some X:=I
def setA : List aE→Nat→aE→List aE
 |[],_,_=>[]
 |_::L,0,B=>B::L
 |A::L,k+1,B=>A::setA L k B
def aC : List aE→Nat→List aE
 |[],_=>[]
 |_::L,0=>L
 |A::L,k+1=>A::aC L k
def bringA (S:List aE): List Nat→List aE
 |[]=>S
 |k::ks=>match getA S k with
  |some A=>A::bringA (aC S k) ks
  |none=>[]
def Kv (k:Nat): List Nat→Nat
 |[]=>0
 |x::l=>cond (Nat.blt x k) (Kv k l+1) (Kv k l)
def Vi : List Nat→List Nat→List Nat
 |_,[]=>[]
 |seen,k::ks=>(k-Kv k seen)::Vi (k::seen) ks
theorem MH {L:List aE}{m r:PM}(h:(star (A::B::L)).p m r): (star (B::A::L)).p m r:=by
 obtain⟨a,b,h1,h2,h3,h4,c,d,g1,g2,g3,g4,g5⟩:=h
 have J:a.dj c:=PM.lQ h1 (PM.le_refl _) g2
 have I:a.dj d:=PM.lQ h1 (PM.le_refl _) g3
 exact⟨c,a.un d,PM.nD (PM.Bo J (PM.nD g1)),PM.le_trans g2 h3,PM.Bn h2 (PM.le_trans g3 h3),g4,a,d,I,PM.FA _ _,PM.FB I,h4,g5⟩
theorem wY {L I:List aE}(h:∀m r,(star L).p m r→(star I).p m r){m r:PM}(hs:(star (A::L)).p m r): (star (A::I)).p m r:=by
 obtain⟨a,b,J,h2,h3,h4,h5⟩:=hs
 exact⟨a,b,J,h2,h3,h4,h _ _ h5⟩
theorem wZ : ∀ {S:List aE} {k:Nat} {A:aE},getA S k=some A→∀m r,(star S).p m r→(star (A::aC S k)).p m r:=by
 intro S
 induction S with
 |nil=>intro k A h;cases h
 |cons B S I =>
  intro k A h m r hs
  cases k with
  |zero=>injection h with h;subst h;exact hs
  |succ k =>
   exact MH (wY (I h) hs)
theorem w5 {L:List aE}{m r:PM}(h:(star (A::L)).p m r): (star L).p m r:=by
 obtain⟨a,b,I,J,h3,h4,h5⟩:=h<;>grind[aE.up,PM.le_refl]
theorem MI {L:List aE}{m r:PM}(h:(star (A::L)).p m r): A.p m r:=by
 obtain⟨a,b,I,J,h3,h4,h5⟩:=h<;>grind[aE.up,PM.le_refl]
theorem Bq : ∀(ks:List Nat) (S:List aE) (m r:PM),(star S).p m r→(bringA S ks=[]∨True)→(star (bringA S ks)).p m r:=by
 intro ks
 induction ks with
 |nil=>intro S m r h _;exact h
 |cons k ks I =>
  intro S m r h _
  simp only[bringA]
  cases J:getA S k with
  |none=>trivial
  |some A=>exact wY (fun m r h=>I _ m r h (.inr aa)) (wZ J m r h)
theorem FC {L:List aE}: ∀m r,(star (star L::S)).p m r↔(star (L++S)).p m r:=by
 induction L with
 |nil =>
  intro m r
  constructor
  ·intro h;exact w5 h
  ·intro h;exact⟨fun _=>none,m,fun _=>.inl rfl,fun _ _ h=>(by cases h),PM.le_refl _,aa,h⟩
 |cons A L ih =>
  intro m r
  constructor
  ·rintro⟨a,b,J,h2,h3,⟨c,d,g1,g2,g3,g4,g5⟩,h5⟩
   have I:c.dj b:=PM.lQ J g2 (PM.le_refl _)
   have rS:d.dj b:=PM.lQ J g3 (PM.le_refl _)
   exact⟨c,d.un b,PM.nD (PM.Bo (PM.nD g1) (PM.nD I)),PM.le_trans g2 h2,PM.Bn (PM.le_trans g3 h2) h3,g4,(ih _ _).1 ⟨d,b,rS,PM.FA _ _,PM.FB rS,g5,h5⟩⟩
  ·rintro⟨c,e,J,h2,h3,h4,h5⟩
   obtain⟨d,b,g1,g2,g3,g4,g5⟩:=(ih _ _).2 h5
   have uB:c.dj d:=PM.lQ J (PM.le_refl _) g2
   have I:c.dj b:=PM.lQ J (PM.le_refl _) g3
   exact⟨c.un d,b,PM.Bo I g1,PM.Bn h2 (PM.le_trans g2 h3),PM.le_trans g3 h3,⟨c,d,uB,PM.FA _ _,PM.FB uB,h4,g4⟩,g5⟩
structure Sat (h:H)(S:List aE): Prop where
 wf:jG h
 ok:∃m r,PM.le m (T.get h.tr)∧PM.le r (T.get h.tr)∧PM.dj m r∧(star S).p m r
section
theorem Sat.map (s:Sat h S)(I:∀m r,(star S).p m r→(star S').p m r): Sat h S':=by
 obtain⟨m,r,J,h2,h3,h4⟩:=s.ok
 exact⟨s.wf,m,r,J,h2,h3,I _ _ h4⟩
theorem Sat.at (s:Sat h S)(I:getA S k=some A): ∃m r,PM.le m (T.get h.tr)∧PM.le r (T.get h.tr)∧A.p m r:=by
 obtain⟨m,r,J,h2,h3,h4⟩:=s.ok
 exact⟨m,r,J,h2,MI (wZ I m r h4)⟩
theorem Sat.take (k:Nat)(s:Sat h S)(I:getA S k=some A): Sat h (A::aC S k):=s.map (wZ I)
theorem Sat.oc (ks:List Nat)(s:Sat h S): Sat h (bringA S (Vi [] ks)):=s.map fun m r h=>Bq _ S m r h (.inr aa)
theorem Sat.ae (ks:List Nat)(s:Sat h S): Sat h (bringA S ks):=s.map fun m r h=>Bq _ S m r h (.inr aa)
theorem Sat.drop (s:Sat h (A::S)): Sat h S:=s.map fun _ _ h=>w5 h
theorem Pz : ∀(S:List aE) (k:Nat) (m r:PM),(star S).p m r→(star (aC S k)).p m r:=by
 intro S
 induction S with
 |nil=>intro k m r h;exact h
 |cons B S I =>
  intro k m r h
  cases k with
  |zero=>exact w5 h
  |succ k=>exact wY (I k) h
theorem Sat.del (k:Nat)(s:Sat h S): Sat h (aC S k):=s.map (Pz S k)
theorem Sat.gO (s:Sat h (A::S))(he:cq A B): Sat h (B::S):=s.map fun m r ⟨a,b,I,J,h3,h4,h5⟩=>⟨a,b,I,J,h3,he _ _ h4,h5⟩
theorem Sat.dup (s:Sat h (A::S))(J:aX A): Sat h (A::A::S):=s.map fun m r hs=>by
 obtain⟨a,b,h1,h2,h3,I,h5⟩:=hs
 exact⟨fun _=>none,m,fun _=>.inl rfl,fun _ _ h=>(by cases h),PM.le_refl _,J _ _ I,a,b,h1,h2,h3,I,h5⟩
theorem Sat.fH (s:Sat h S)(I:φ): Sat h (pu φ::S):=s.map fun m _ hs=>⟨fun _=>none,m,fun _=>.inl rfl,fun _ _ h=>(by cases h),PM.le_refl _,I,hs⟩
theorem Sat.two {C:aE}(s:Sat h (A::B::S))(I:aX A)(J:aX B)(hC:∀m r,A.p m r→B.p m r→C.p m r): Sat h (C::S):=s.map fun m r hs=>by
 obtain⟨a,b,h1,h2,h3,h4,c,d,g1,g2,g3,g4,g5⟩:=hs
 exact⟨fun _=>none,d,fun _=>.inl rfl,fun _ _ h=>(by cases h),PM.le_trans g3 h3,hC _ _ (I _ _ h4) (J _ _ g4),g5⟩
theorem gT {f:α→aE}: Sat h (xs f::S)↔∃x,Sat h (f x::S):=by
 constructor
 ·intro s
  obtain⟨m,r,I,J,h3,a,b,g1,g2,g3,⟨x,g4⟩,g5⟩:=s.ok
  exact⟨x,s.wf,m,r,I,J,h3,a,b,g1,g2,g3,g4,g5⟩
 ·rintro⟨x,s⟩
  exact s.gO fun m r h=>⟨x,h⟩
theorem mL : Sat h (pu φ::S)↔φ∧Sat h S:=by
 constructor
 ·intro s
  obtain⟨m,r,I,h2,h3,a,b,g1,g2,g3,J,g5⟩:=s.ok
  exact⟨J,s.drop⟩
 ·rintro⟨I,s⟩;exact s.fH I
theorem aZ {L:List aE}: Sat h (star L::S)↔Sat h (L++S) :=
 ⟨fun s=>s.map fun m r hs=>(FC m r).1 hs,fun s=>s.map fun m r hs=>(FC m r).2 hs⟩
theorem Sat.row {o:Obj}(s:Sat h S)(I:getA S k=some (pt id o)): T.get h.tr id=some o:=by
 obtain⟨m,r,J,h2,h3⟩:=s.at I
 exact J _ _ h3
theorem Vj {m:PM}{t:T Obj}{o:Option Obj}(hm:m.le (T.get t)): (m.upd id o).le (T.get (t.set id o)):=by
 intro i x I
 rw[aL]
 simp only[PM.upd] at I
 split
 ·grind
 ·rename_i e;rw[ay e] at I;exact hm i x I
theorem FD {m:PM}{o:Option Obj}(hm:m.le (T.get h.tr))(J:m id=none): m.le (T.get (h.put id o).tr):=by
 intro i x I
 rw[dS]
 split
 ·grind
 ·exact hm i x I
theorem PA : ∀ {S:List aE} {k id:Nat} {o o':Obj},getA S k=some (pt id o)→∀m r,(star S).p m r→m id=some o∧(star (setA S k (pt id o'))).p (m.upd id (some o')) r:=by
 intro S
 induction S with
 |nil=>intro k id o o' h;cases h
 |cons B S ih =>
  intro k id o o' J m r hs
  obtain⟨a,b,h1,h2,h3,h4,h5⟩:=hs
  cases k with
  |zero =>
   injection J with J
   subst J
   have ha:a id=some o:=h4
   have hb:b id=none:=by
    rcases h1 id with e|e
    ·grind
    ·exact e
   refine⟨h2 _ _ ha,a.upd id (some o'),b,fun i => ?_,fun i x I => ?_,fun i x I => ?_,?_,h5⟩
   ·by_cases e:i=id
    ·grind
    ·simp only[PM.upd,ay e];exact h1 i
   ·simp only[PM.upd] at I ⊢
    split
    ·grind
    ·rename_i e;rw[ay e] at I;exact h2 i x I
   ·simp only[PM.upd]
    split
    ·grind
    ·exact h3 i x I
   ·show(a.upd id (some o')) id=some o'
    simp[PM.upd]
  |succ k =>
   obtain⟨g1,g2⟩:=ih (o':=o') J b r h5
   have ha:a id=none:=by
    rcases h1 id with e|e
    ·exact e
    ·grind
   refine⟨h3 _ _ g1,a,b.upd id (some o'),fun i => ?_,fun i x I => ?_,fun i x I => ?_,h4,g2⟩
   ·by_cases e:i=id
    ·grind
    ·simp only[PM.upd,ay e];exact h1 i
   ·simp only[PM.upd]
    split
    ·grind
    ·exact h2 i x I
   ·simp only[PM.upd] at I ⊢
    split
    ·grind
    ·rename_i e;rw[ay e] at I;exact h3 i x I
theorem Sat.put {o o':Obj}(s:Sat h S)(hk:getA S k=some (pt id o)): Sat (h.put id (some o')) (setA S k (pt id o')):=by
 obtain⟨m,r,I,h2,J,h4⟩:=s.ok
 obtain⟨g1,g2⟩:=PA (o':=o') hk m r h4
 have hr:r id=none:=by
  rcases J id with e|e
  ·grind
  ·exact e
 refine⟨s.wf.put (s.wf _ _ (I _ _ g1)) _,m.upd id (some o'),r,Vj I,FD h2 hr,fun i => ?_,g2⟩
 by_cases e:i=id
 ·grind
 ·simp only[PM.upd,ay e];exact J i
theorem Sat.new (s:Sat h S)(o:Obj): Sat (h.new o) (pt h.next o::S):=by
 obtain⟨m,r,h1,h2,h3,h4⟩:=s.ok
 have hm:m h.next=none:=by
  cases e:m h.next with
  |none=>rfl
  |some x=>exact absurd (s.wf _ _ (h1 _ _ e)) (Nat.lt_irrefl _)
 have hr:r h.next=none:=by
  cases e:r h.next with
  |none=>rfl
  |some x=>exact absurd (s.wf _ _ (h2 _ _ e)) (Nat.lt_irrefl _)
 have J:∀(q:PM),q.le (T.get h.tr)→q h.next=none→q.le (T.get (h.new o).tr):=fun q hq hn i x I=>by
  rw[fG]
  split
  ·grind
  ·exact hq i x I
 refine⟨s.wf.new o,m.upd h.next (some o),r,fun i x I => ?_,J r h2 hr,fun i => ?_,fun i=>if i=h.next then some o else none,m,fun i => ?_,fun i x I => ?_,fun i x I => ?_,?_,h4⟩
 ·rw[fG]
  simp only[PM.upd] at I
  split
  ·grind
  ·rename_i e;rw[ay e] at I;exact h1 i x I
 ·by_cases e:i=h.next
  ·grind
  ·simp only[PM.upd,ay e];exact h3 i
 ·grind
 ·grind[PM.upd]
 ·grind[PM.upd]
 ·show(if h.next=h.next then some o else none)=some o
  simp
theorem Sat.kill {o:Obj}(s:Sat h (pt id o::S)): Sat (h.put id none) S:=by
 obtain⟨m,r,I,h2,J,a,b,g1,g2,g3,g4,g5⟩:=s.ok
 have ha:a id=some o:=g4
 have hb:b id=none:=by
  rcases g1 id with e|e
  ·grind
  ·exact e
 have hr:r id=none:=by
  rcases J id with e|e
  ·rw[g2 _ _ ha] at e;cases e
  ·exact e
 exact⟨s.wf.put (s.wf _ _ (I _ _ (g2 _ _ ha))) _,b,r,FD (PM.le_trans g3 I) hb,FD h2 hr,PM.lQ J g3 (PM.le_refl _),g5⟩
theorem Sat.freeze {o:Obj}(s:Sat h (pt id o::S)): Sat h (ro id o::S):=by
 obtain⟨m,r,J,h2,h3,a,b,g1,g2,g3,g4,g5⟩:=s.ok
 have ha:a id=some o:=g4
 have hb:b id=none:=by
  rcases g1 id with e|e
  ·grind
  ·exact e
 have hr:r id=none:=by
  rcases h3 id with e|e
  ·rw[g2 _ _ ha] at e;cases e
  ·exact e
 have hle:r.le (r.upd id (some o)):=fun i x I=>by
  grind[PM.upd]
 refine⟨s.wf,b,r.upd id (some o),PM.le_trans g3 J,fun i x I => ?_,fun i => ?_,fun _=>none,b,fun _=>.inl rfl,fun _ _ h=>(by cases h),PM.le_refl _,?_,aE.up g5 (PM.le_refl _) hle⟩
 ·simp only[PM.upd] at I
  split at I
  ·rename_i e;subst e;injection I with I;subst I;exact J _ _ (g2 _ _ ha)
  ·exact h2 i x I
 ·by_cases e:i=id
  ·grind
  ·simp only[PM.upd,ay e];exact PM.lQ h3 g3 (PM.le_refl _) i
 ·show(r.upd id (some o)) id=some o
  simp[PM.upd]
theorem Sat.iO (s:Sat h S)(J:c7 k [] h h'): Sat h' S:=by
 obtain⟨m,r,h1,h2,h3,h4⟩:=s.ok
 have I:∀(q:PM),q.le (T.get h.tr)→q.le (T.get h'.tr):=fun q hq i x hx=>by
  rw[J.get i (s.wf _ _ (hq _ _ hx)) iu]
  exact hq _ _ hx
 exact⟨J.wf,m,r,I m h1,I r h2,h3,h4⟩
theorem Sat.Vk {X:List Nat}{m₀:PM}(s:Sat h (A::S))(hk:c7 k X h h')(hX:∀m r,PM.le m (T.get h.tr)→PM.le r (T.get h.tr)→A.p m r→∀i∈X,m i≠none)
 (hm:PM.le m₀ (T.get h'.tr))(hB:∀r,B.p m₀ r)(hn:∀i,m₀ i≠none→i∈X∨h.next≤i): Sat h' (B::S):=by
 obtain⟨m,r,h1,h2,h3,a,b,g1,g2,g3,g4,g5⟩:=s.ok
 have hXa:∀i∈X,a i≠none:=hX a r (PM.le_trans g2 h1) h2 g4
 have YO:∀i∈X,b i=none:=fun i hi=>by
  rcases g1 i with e|e<;>grind
 have YP:∀i∈X,r i=none:=fun i hi=>by
  cases e:a i with
  |none=>grind
  |some o =>
   rcases h3 i with J|J
   ·rw[g2 _ _ e] at J;cases J
   ·exact J
 have YQ:∀(q:PM),q.le (T.get h.tr)→(∀i∈X,q i=none)→q.le (T.get h'.tr):=fun q hq hz i x hx=>by
  rw[hk.get i (s.wf _ _ (hq _ _ hx)) (fun hi=>by grind)]
  exact hq _ _ hx
 have I:∀(q:PM),q.le (T.get h.tr)→(∀i∈X,q i=none)→m₀.dj q:=fun q hq hz i=>by
  cases e:m₀ i with
  |none=>simp
  |some x =>
   right
   rcases hn i (by grind) with hi|hi
   ·grind
   ·cases J:q i with
    |none=>rfl
    |some y=>exact absurd (s.wf _ _ (hq _ _ J)) (Nat.not_lt.2 hi)
 have oI:=YQ b (PM.le_trans g3 h1) YO
 have hd:=I b (PM.le_trans g3 h1) YO
 exact⟨hk.wf,m₀.un b,r,PM.Bn hm oI,YQ r h2 YP,PM.Bo (I r h2 YP) (PM.lQ h3 g3 (PM.le_refl _)),m₀,b,hd,PM.FA _ _,PM.FB hd,hB r,g5⟩
end
theorem aU (v:V)(l:List Nat): cq (aW v l) (cz v l):=fun _ _ h=>.inl (qj.view h)
theorem eC (v:V)(l:List Nat): cq (Bp v l) (cz v l):=fun _ _ h=>.inr h
theorem aX.cL (v:V)(l:List Nat): aX (.cL v l):=fun _ _ h=>h
section
variable {v:V}
theorem Sat.aD (s:Sat h S)(J:getA S k=some X)(hX:cq X (cz v l)): View h v l:=by
 obtain⟨m,r,h1,h2,h3⟩:=s.at J
 rcases hX _ _ h3 with I|I
 ·exact ViewM.up I h1
 ·exact ViewM.up I h2
theorem Sat.buf (s:Sat h S)(I:getA S k=some (aW v l)): iM h v l:=by
 obtain⟨m,r,J,h2,h3⟩:=s.at I
 exact qj.up (l:=l) h3 J
theorem IV {m:PM}(I:qj m v l): ∀i∈rowIds v,m i≠none:=by
 obtain⟨_,J⟩:=I<;>grind[rowIds]
theorem IW (I:iM h v l): qj (fun i=>if i∈rowIds v then T.get h.tr i else none) v l:=by
 obtain⟨J,h2⟩:=I
 refine⟨J,?_⟩<;>grind[rowIds]
theorem MJ (L:List Nat): PM.le (fun i=>if i∈L then T.get h.tr i else none) (T.get h.tr):=fun i x I=>by
 grind
theorem Sat.FE (s:Sat h S)(I:c7 k [] h h')(J:iM h' v l)(hn:∀i∈rowIds v,h.next≤i): Sat h' (aW v l::S):=by
 have s':Sat h (pu True::S):=s.fH aa
 refine s'.Vk (B:=aW v l) (m₀:=fun i=>if i∈rowIds v then T.get h'.tr i else none) I (fun _ _ _ _ _ i hi=>by cases hi) (MJ _) (fun _=>IW J) (fun i hi=>.inr ?_)<;>grind
theorem Sat.yz {v':V}{I:List Nat}(s:Sat h (aW v l::S))(J:c7 k (rowIds v) h h')(hb:iM h' v' I)(hn:∀i∈rowIds v',i∈rowIds v∨h.next≤i): Sat h' (aW v' I::S):=by
 refine s.Vk (B:=aW v' I) (m₀:=fun i=>if i∈rowIds v' then T.get h'.tr i else none) J (fun _ _ _ _ h=>IV h) (MJ _) (fun _=>IW hb) (fun i hi => ?_)<;>grind
theorem Sat.gP (s:Sat h (aW v l::S)): Sat h (Bp v l::S):=by
 obtain⟨m,r,J,h2,h3,a,b,g1,g2,g3,g4,g5⟩:=s.ok
 have I:r.dj a:=PM.nD (PM.lQ h3 g2 (PM.le_refl _))
 refine⟨s.wf,b,r.un a,PM.le_trans g3 J,PM.Bn h2 (PM.le_trans g2 J),PM.nD (PM.Bo (PM.nD (PM.lQ h3 g3 (PM.le_refl _))) g1),fun _=>none,b,fun _=>.inl rfl,fun _ _ h=>(by cases h),PM.le_refl _,?_,aE.up g5 (PM.le_refl _) (PM.FA _ _)⟩
 exact(qj.view g4).up (PM.FB I)
end
theorem Vl {a b c d:H}{l:List H}{p:H→Prop}(I:p a)(J:p b)(hc:p c)(hd:p d): ∀x∈((a::b::c::d::l).drop 0).take 4,p x:=by
 grind
section
variable {v:V}
theorem Sat.ld (s:Sat h S)(I:getA S k=some (pt id (.cells n cs st)))(J:isAggT P t=some false)(hn:nth cs off=some v): loadV P h t (.ptr id off)=some v:=RK J (s.row I) hn
theorem Sat.cy (s:Sat h S)(I:getA S k=some (pt id (.cells n cs st)))(J:isAggT P t=some true)(hs:bj P t=some n): loadV P h t (.ptr id 0)=some (.agg cs):=Am.cy J hs (s.row I)
theorem Sat.dL (s:Sat h S)(J:getA S k=some (pt id (.cells n cs false)))(hs:bj P t=some 1)(hl:cs.length=n)(ho:off<n)(hv:v.cells=[v])(I:storable v=true):
  ∃h₁,fu P h t (.ptr id off) v=some h₁∧Sat h₁ (setA S k (pt id (.cells n (cs.set off v) false))):=by
 refine⟨h.put id (some (.cells n (cs.set off v) false)),?_,s.put J⟩
 simp only[fu,hs,hv,bq,cD,jv,j7,I,Bool.and_true]
 rw[show Nat.beq (0+1) 1=true from rfl,ai]
 simp only[wrN,s.row J,bq,cD]
 rw[aG.2 (show off+(0+1)≤n by omega),ai]
 congr 3
 rw[Iy,aF (by omega)]
 cases hc:(Nat.beq off 0&&Nat.beq (0+1) n) with
 |true =>
  simp only[bC,beq_iff] at hc
  obtain⟨rfl,rfl⟩:=hc
  rw[ai]
  have:cs.drop (0+1)=[]:=kV (by omega)
  simp[this]
 |false=>rw[aK];rfl
theorem Sat.stN {l:List V}(s:Sat h S)(J:getA S k=some (pt id (.cells n cs false)))(hs:bj P t=some l.length)(hl:cs.length=n)(ho:off+l.length≤n)(I:l.all storable=true):
  ∃h₁,fu P h t (.ptr id off) (.agg l)=some h₁∧Sat h₁ (setA S k (pt id (.cells n (cs.take off++(l++cs.drop (off+l.length))) false))):=by
 refine⟨h.put id (some (.cells n (cs.take off++(l++cs.drop (off+l.length))) false)),?_,s.put J⟩
 simp only[fu,hs,V.cells,I,eW,iy,ai,wrN,s.row J]
 grind[aG,beq_iff,List.drop_eq_nil_of_le]
end
section
variable {aj:Nat}
theorem aq.bG (s:Sat h S)(I:wantE L E o.guard=some true)(hd:o.dst=some d)(J:Nat.blt d aj=true)(ho:opE C.P E h o.op=some (.ptr h.next 0,newRow h cs))
 (hr:∀id h₁,Sat h₁ (pt id (.cells cs.length cs false)::S)→aq C aj L rest ((d,.ptr id 0)::E) h₁ R): aq C aj L (o::rest) E h R :=
 aq.op I hd J ho (hr _ _ (s.new _))
theorem aq.uC {v:V}(J:wantE L E o.guard=some true)(hd:o.dst=none)(I:o.op=.store t x y)(hx:aT E x=some v)(hy:aT E y=some u)
 (ho:∃h₁,fu C.P h t v u=some h₁∧Sat h₁ S')(hr:∀h₁,Sat h₁ S'→aq C aj L rest E h₁ R): aq C aj L (o::rest) E h R:=by
 obtain⟨h₁,e1,e2⟩:=ho
 exact aq.YG J hd (by rw[I];exact CU hx hy e1) (hr h₁ e2)
theorem WP.label {l:Nat}(I:Q .normal E h): WP C aj (.label l) E h Q:=fun env J=>⟨1,.normal,env,h,E,rfl,J,I⟩
theorem WP.split {a b:Code}{t:Bool}(I:aT E x=some (.bool t))(J:t=true→WP C aj a E h Q)(h2:t=false→WP C aj b E h Q): WP C aj (.cond x a b) E h Q:=by
 grind[WP.cond]
theorem WP.Kw {a b:Code}{t:Bool}(I:aT E x=some (.bool t))(J:t=true)(h1:WP C aj a E h Q): WP C aj (.cond x a b) E h Q:=by
 subst J;exact WP.cond I h1
theorem WP.RN {a b:Code}{t:Bool}(I:aT E x=some (.bool t))(J:t=false)(h1:WP C aj b E h Q): WP C aj (.cond x a b) E h Q:=by
 subst J;exact WP.cond I h1
end
section
variable {a b:Operand} {v:V}
theorem Xf {t:Nat}(I:aT E x=some v)(J:pO P t v i=some r): opE P E h (.field t x i)=some (r,h):=by grind[opE,iB,bk]
theorem Xg : opE P E h (.makeMap t none)=some (.map h.next,h.new (.map [] 0)):=rfl
theorem gx {ok:Bool}(I:aT E x=some v)(J:aT E y=some u)(hf:dK P h t v u ok=some r): opE P E h (.lookup t x y ok)=some (r,h):=by grind[opE,sQ,bk]
theorem Xh {t:Nat}(I:pO P t (.agg cs) i=nth cs off)(J:nth cs off=some r): pO P t (.agg cs) i=some r:=by grind
theorem gC {s d:TypeId}{k k':IntKind}{n:Int}(hs:P.underlying s=some td)(hd:P.underlying d=some (.int k'))(I:k'.wrap n=n): convV P h s d (.int k n)=some (.int k' n,h):=by simp only[convV,hs,hd,I]
theorem cvW {s d:TypeId}{k k':IntKind}{n:Int}(hs:P.underlying s=some td)(hd:P.underlying d=some (.int k')): convV P h s d (.int k n)=some (.int k' (k'.wrap n),h):=by simp only[convV,hs,hd]
theorem MK {o:Nat}{c:Cap}(hu:P.underlying t=some (.slice e)): lenV P h t (.sl i o n c)=some (.int .i64 n):=by simp only[lenV,hu]
theorem IX (hu:P.underlying t=some (.slice e)): lenV P h t .aO=some (.int .i64 0):=by simp only[lenV,hu]
theorem bh (hu:P.underlying t=some (.slice e))(I:View h v l): lenV P h t v=some (.int .i64 l.length):=by
 obtain⟨_,I⟩:=I
 rcases I with⟨rfl|⟨J,rfl⟩,rfl⟩|⟨id,off,cap,n,cs,st,rfl,_⟩<;>simp[lenV,hu]
theorem mki_of (hu:P.underlying t=some td)(I:(match td with|.interface _=>false|_=>true)=true): makeIfaceV P t v=some (.iface t v):=by
 grind[makeIfaceV]
end
section
theorem ax {n:Int}(I : -9223372036854775808≤n)(J:n<9223372036854775808): IntKind.wrap .i64 n=n:=by
 grind[IntKind.bits,IntKind.wrap,IntKind.signed]
theorem eV {n:Int}(I:0≤n)(J:n<18446744073709551616): IntKind.wrap .u64 n=n:=by
 grind[IntKind.wrap,IntKind.bits,IntKind.signed]
theorem SX {n:Int}(I:0≤n)(J:n<4294967296): IntKind.wrap .u32 n=n:=by
 grind[IntKind.wrap,IntKind.bits,IntKind.signed]
theorem uD {n:Int}(I:0≤n)(J:n<256): IntKind.wrap .u8 n=n:=by
 grind[IntKind.wrap,IntKind.bits,IntKind.signed]
variable {a b:Int}
theorem aR {k:IntKind}(hw:k.wrap (a+b)=a+b): binV P h .add t x y (.int k a) (.int k b)=some (.int k (a+b)):=by
 simp_all[binV,dI,intV]
theorem jP {k:IntKind}(hw:k.wrap (a-b)=a-b): binV P h .sub t x y (.int k a) (.int k b)=some (.int k (a-b)):=by
 simp_all[binV,dI,intV]
theorem ik {k:IntKind}(hw:k.wrap (a*b)=a*b): binV P h .mul t x y (.int k a) (.int k b)=some (.int k (a*b)):=by
 simp_all[binV,dI,intV]
theorem c4 {k:IntKind}: binV P h .eql t x y (.int k a) (.int k b)=some (.bool (decide (a=b))):=by
 simp only[binV,dI,ai,intV]
 cases I:intBeq a b with
 |true=>simp[sP I]
 |false =>
  by_cases he:a=b
  ·grind[pK]
  ·grind
theorem aA {k:IntKind}: binV P h .neq t x y (.int k a) (.int k b)=some (.bool (!decide (a=b))):=by
 simp only[binV,dI,ai,intV]
 cases I:intBeq a b with
 |true=>simp[sP I]
 |false =>
  by_cases he:a=b
  ·grind[pK]
  ·grind
theorem aJ {k:IntKind}: binV P h .lss t x y (.int k a) (.int k b)=some (.bool (decide (a<b))):=by simp[binV,dI,intV]
theorem CV {k:IntKind}: binV P h .leq t x y (.int k a) (.int k b)=some (.bool (decide (a≤b))):=by simp[binV,dI,intV]
theorem fI {k:IntKind}: binV P h .gtr t x y (.int k a) (.int k b)=some (.bool (decide (a>b))):=by simp[binV,dI,intV]
theorem jQ {k:IntKind}: binV P h .geq t x y (.int k a) (.int k b)=some (.bool (decide (a≥b))):=by simp[binV,dI,intV]
theorem zT : ∀ {l m:List Nat},natsBeq l m=decide (l=m):=by
 intro l
 induction l with
 |nil=>grind[natsBeq]
 |cons a l I =>
  intro m
  cases m<;>grind[natsBeq,Nat.beq_refl,eO]
theorem RO {m:List Nat}: binV P h .eql t x y (.str l) (.str m)=some (.bool (decide (l=m))):=by simp[binV,strV,zT]
end
section
variable {aj:Nat} {p:Bool}
theorem aq.w6 (I:wantE L E o.guard=some true)(hd:o.dst=some d)(J:Nat.blt d aj=true)(ho:opE C.P E h o.op=some (.bool p,h))(hp:p=true)(hw:aq C aj L rest ((d,.bool true)::E) h R): aq C aj L (o::rest) E h R:=by
 grind[aq.op]
theorem aq.lG (I:wantE L E o.guard=some true)(hd:o.dst=some d)(J:Nat.blt d aj=true)(ho:opE C.P E h o.op=some (.bool p,h))(hp:p=false)(hw:aq C aj L rest ((d,.bool false)::E) h R): aq C aj L (o::rest) E h R:=by
 grind[aq.op]
theorem aq.Vm (I:wantE L E o.guard=some true)(hd:o.dst=some d)(J:Nat.blt d aj=true)(ho:opE C.P E h o.op=some (.bool p,h))(ht:p=true→aq C aj L rest ((d,.bool true)::E) h R)(hf:p=false→aq C aj L rest ((d,.bool false)::E) h R): aq C aj L (o::rest) E h R:=by
 cases p<;>grind[aq.op]
theorem aq.w8 (s:Sat h S)(J:wantE L E o.guard=some true)(hd:o.dst=some d)(hn:Nat.blt d aj=true)(I:o.op=.makeMap t none)
 (hr:∀id h₁,Sat h₁ (pt id (.map [] 0)::S)→aq C aj L rest ((d,.map id)::E) h₁ R): aq C aj L (o::rest) E h R :=
 aq.op J hd hn (by rw[I];exact Xg) (hr _ _ (s.new _))
theorem aq.iR (hg:wantE L E o.guard=some true)(hd:o.dst=none)(ho:OpR C E h o wP)
 (hw:∀v h₁,wP v h₁→aq C aj L rest E h₁ R): aq C aj L (o::rest) E h R:=by
 intro env J
 obtain⟨v,h₁,hr,mG⟩:=ho
 obtain⟨N,hN⟩:=mG env J
 obtain⟨M,I,h',E',h1,h2,h3⟩:=hw v h₁ hr env J
 refine⟨Nat.max N M,I,h',E',?_,h2,h3⟩
 simp only[evOps,jf J hg,ai,kC (dm (oS N M)) hN,St.put,hd]
 exact oa (dm (oR N M)) _ _ _ h1
variable {Q:List (Nat×V)→H→List (List (Nat×V)×V)→List H→Prop}
theorem az.w6 (J:wantE L E o.guard=some true)(hd:o.dst=some d)(hn:Nat.blt d aj=true)(he:isEff C o.op=false)(ho:opE C.P E h o.op=some (.bool p,h))(hp:p=true)
 (hw:az C aj L rest ((d,.bool true)::E) h hs fun E' h' ts I=>Q E' h' ((E,.bool true)::ts) I): az C aj L (o::rest) E h hs Q:=by
 grind[az.op]
theorem az.lG (J:wantE L E o.guard=some true)(hd:o.dst=some d)(hn:Nat.blt d aj=true)(he:isEff C o.op=false)(ho:opE C.P E h o.op=some (.bool p,h))(hp:p=false)
 (hw:az C aj L rest ((d,.bool false)::E) h hs fun E' h' ts I=>Q E' h' ((E,.bool false)::ts) I): az C aj L (o::rest) E h hs Q:=by
 grind[az.op]
theorem az.Vm (J:wantE L E o.guard=some true)(hd:o.dst=some d)(hn:Nat.blt d aj=true)(he:isEff C o.op=false)(ho:opE C.P E h o.op=some (.bool p,h))
 (ht:p=true→az C aj L rest ((d,.bool true)::E) h hs fun E' h' ts I=>Q E' h' ((E,.bool true)::ts) I)
 (hf:p=false→az C aj L rest ((d,.bool false)::E) h hs fun E' h' ts I=>Q E' h' ((E,.bool false)::ts) I): az C aj L (o::rest) E h hs Q:=by
 cases p<;>grind[az.op]
theorem OpR.uC {v:V}(I:o.op=.store t x y)(hx:aT E x=some v)(hy:aT E y=some u)
 (ho:∃h₁,fu C.P h t v u=some h₁∧Sat h₁ S'): OpR C E h o fun w h₁=>w=bR∧Sat h₁ S':=by
 obtain⟨h₁,e1,J⟩:=ho
 exact OpR.of (by grind[CU]) ⟨rfl,J⟩
theorem OpR.bG (s:Sat h S)(ho:opE C.P E h o.op=some (.ptr h.next 0,newRow h cs)):
  OpR C E h o fun v h₁=>∃id,v=.ptr id 0∧Sat h₁ (pt id (.cells cs.length cs false)::S) :=
 OpR.of ho ⟨_,rfl,s.new _⟩
end
theorem EN {t:Nat}{p v w:V}(I:look E a=some p)(hd:loadV P h t p=some v)(J:look E b=some w): resLE P E h [.cell a t,.tmp b]=some (.aI [v,w]):=by grind[resLE,mapO,resE]
theorem ql {t:Nat}{v:V}(I:look E t=some v): resLE P E h [.tmp t]=some v:=by grind[resLE,mapO,resE]
def ZX : Code→Nat→Code
 |.seq a _,0=>a
 |.seq _ b,_=>b
 |.cond _ a _,0=>a
 |.cond _ _ b,_=>b
 |.block _ a,_=>a
 |.loop a,_=>a
 |.scope a,_=>a
 |c,_=>c
def c6 : List Nat→Code→Code
 |[],c=>c
 |k::ks,c=>c6 ks (ZX c k)
section
variable {aj:Nat} {v:V} {p:Bool}
theorem zc {k:FuncId}(e:(wantE L E o.guard,o.dst,Nat.blt d aj,o.op,cl.callee,aT E x,lookArgs E cl.args.toList)=(some true,some d,true,Op.call cl,Callee.value x,some (.fn (.func k) first cap),some args))
 (I:Call C k (first++(args++cap)) h wP)(hw:∀v h₁,wP v h₁→aq C aj L rest ((d,v)::E) h₁ R): aq C aj L (o::rest) E h R:=by
  simp only[br] at e;exact aq.call e.1 e.2.1 e.2.2.1 e.2.2.2.1 e.2.2.2.2.1 e.2.2.2.2.2.1 e.2.2.2.2.2.2 I hw
theorem zt (e:(wantE L E o.guard,o.dst,Nat.blt d aj)=(some true,some d,true))(ho:opE C.P E h o.op=some (.bool p,h))(I:p=true)(hw:aq C aj L rest ((d,.bool true)::E) h R): aq C aj L (o::rest) E h R:=by
  simp only[br] at e;exact aq.w6 e.1 e.2.1 e.2.2 ho I hw
theorem zh (e:(wantE L E o.guard,o.dst,Nat.blt d aj)=(some true,some d,true))(ho:opE C.P E h o.op=some (.bool p,h))(I:p=false)(hw:aq C aj L rest ((d,.bool false)::E) h R): aq C aj L (o::rest) E h R:=by
  simp only[br] at e;exact aq.lG e.1 e.2.1 e.2.2 ho I hw
theorem zd (e:(wantE L E o.guard,o.dst,Nat.blt d aj)=(some true,some d,true))(ho:opE C.P E h o.op=some (.bool p,h))(I:p=true→aq C aj L rest ((d,.bool true)::E) h R)(J:p=false→aq C aj L rest ((d,.bool false)::E) h R): aq C aj L (o::rest) E h R:=by
  simp only[br] at e;exact aq.Vm e.1 e.2.1 e.2.2 ho I J
theorem zB {op:BinOp}(e:(o.op,wantE L E o.guard,o.dst,Nat.blt d aj,aT E x,aT E y)=(Op.binOp op t x y t',some true,some d,true,some v,some u))(I:binV C.P h op t x y v u=some (.bool p))(J:p=true)(hw:aq C aj L rest ((d,.bool true)::E) h R): aq C aj L (o::rest) E h R:=by
  simp only[br] at e;exact aq.w6 e.2.1 e.2.2.1 e.2.2.2.1 (by rw[e.1];exact ak e.2.2.2.2.1 e.2.2.2.2.2 I) J hw
theorem zC {op:BinOp}(e:(o.op,wantE L E o.guard,o.dst,Nat.blt d aj,aT E x,aT E y)=(Op.binOp op t x y t',some true,some d,true,some v,some u))(I:binV C.P h op t x y v u=some (.bool p))(J:p=false)(hw:aq C aj L rest ((d,.bool false)::E) h R): aq C aj L (o::rest) E h R:=by
  simp only[br] at e;exact aq.lG e.2.1 e.2.2.1 e.2.2.2.1 (by rw[e.1];exact ak e.2.2.2.2.1 e.2.2.2.2.2 I) J hw
theorem zy (s:Sat h S)(k:Nat)(I:isAggT C.P t=some false)(e:(o.op,wantE L E o.guard,o.dst,Nat.blt d aj,aT E x,getA S k,nth cs off)=(Op.load t x,some true,some d,true,some (V.ptr id off),some (pt id (.cells n cs st)),some v))(hw:aq C aj L rest ((d,v)::E) h R): aq C aj L (o::rest) E h R:=by
  simp only[br] at e;exact aq.op e.2.1 e.2.2.1 e.2.2.2.1 (by rw[e.1];exact aP e.2.2.2.2.1 (s.ld e.2.2.2.2.2.1 I e.2.2.2.2.2.2)) hw
theorem zY {I:Oper}{J:Operand}{aa8:TypeId}(s:Sat h S)(k:Nat)(hf:∀a b:Nat,fieldAddrV C.P aa8 (.ptr a b) i=some (.ptr a (b+j)))(ha:isAggT C.P t=some false)
 (e:(I.op,wantE L E I.guard,I.dst,Nat.blt lP aj,aT E J,o.op,wantE L ((lP,.ptr a (b+j))::E) o.guard,o.dst,Nat.blt d aj,aT ((lP,.ptr a (b+j))::E) x,getA S k,nth cs (b+j))=(Op.fieldAddr aa8 J i,some true,some lP,true,some (V.ptr a b),Op.load t x,some true,some d,true,some (V.ptr a (b+j)),some (pt a (.cells n cs st)),some v))
 (hw:aq C aj L rest ((d,v)::(lP,.ptr a (b+j))::E) h R): aq C aj L (I::o::rest) E h R:=by
  simp only[br] at e
  obtain⟨e1,e2,e3,e4,e5,e6,e7,e8,e9,Vn,UY,e12⟩:=e
  exact aq.op e2 e3 e4 (by rw[e1];exact jr e5 (hf a b)) (aq.op e7 e8 e9 (by rw[e6];exact aP Vn (s.ld UY ha e12)) hw)
theorem zS (e:(wantE L E o.guard,o.dst,o.op,aT E x,aT E y)=(some true,none,Op.store t x y,some v,some u))(ho:∃h₁,fu C.P h t v u=some h₁∧Sat h₁ S')(I:∀h₁,Sat h₁ S'→aq C aj L rest E h₁ R): aq C aj L (o::rest) E h R:=by
  simp only[br] at e;exact aq.uC e.1 e.2.1 e.2.2.1 e.2.2.2.1 e.2.2.2.2 ho I
end
theorem IY : bj Tryz.prog 2=some 1:=by kernel_rfl
theorem ML : isAggT Tryz.prog 2=some false:=by kernel_rfl
theorem nE : bj Tryz.prog 3=some 1:=by kernel_rfl
theorem ep : isAggT Tryz.prog 3=some false:=by kernel_rfl
theorem Vo : zeroT Tryz.prog 3=some (.int .i64 0):=by kernel_rfl
theorem vZ : bj Tryz.prog 4=some 1:=by kernel_rfl
theorem nF : isAggT Tryz.prog 4=some false:=by kernel_rfl
theorem zt4 : zeroT Tryz.prog 4=some (.bool false):=by kernel_rfl
theorem YR : bj Tryz.prog 5=some 1:=by kernel_rfl
theorem jR : bj Tryz.prog 23=some 1:=by kernel_rfl
theorem bX : isAggT Tryz.prog 23=some false:=by kernel_rfl
theorem qm : zeroT Tryz.prog 23=some .aO:=by kernel_rfl
theorem rT : isAggT Tryz.prog 25=some false:=by kernel_rfl
theorem m6 : isAggT Tryz.prog 26=some false:=by kernel_rfl
theorem od : bj Tryz.prog 32=some 1:=by kernel_rfl
theorem dD : isAggT Tryz.prog 32=some false:=by kernel_rfl
theorem ZY : zeroT Tryz.prog 32=some (.int .u64 0):=by kernel_rfl
theorem ZZ : isAggT Tryz.prog 33=some false:=by kernel_rfl
theorem Z0 : zeroT Tryz.prog 34=some (.int .i64 0):=by kernel_rfl
theorem qn : isAggT Tryz.prog 40=some false:=by kernel_rfl
theorem Z1 : zeroT Tryz.prog 49=some (.agg [(.int .i64 0),(.int .i64 0),(.int .i64 0)]):=by kernel_rfl
theorem vo (a b:Nat)(k:IntKind)(n:Int): indexAddrV Tryz.prog 49 (.ptr a b) (.int k n)=cond (decide (0≤n)&&decide (n<(3:Nat))) (some (.ptr a (b+n.toNat*1))) none:=by kernel_rfl
theorem PB : isAggT Tryz.prog 50=some false:=by kernel_rfl
theorem Z2 : bj Tryz.prog 54=some 1:=by kernel_rfl
theorem lR : isAggT Tryz.prog 54=some false:=by kernel_rfl
theorem Vp : bj Tryz.prog 59=some 4:=by kernel_rfl
theorem Vq : isAggT Tryz.prog 59=some true:=by kernel_rfl
theorem MM (a b:Nat): fieldAddrV Tryz.prog 59 (.ptr a b) 2=some (.ptr a (b+2)):=by kernel_rfl
theorem MN (a b:Nat): fieldAddrV Tryz.prog 59 (.ptr a b) 3=some (.ptr a (b+3)):=by kernel_rfl
theorem Vr : bj Tryz.prog 78=some 1:=by kernel_rfl
theorem Kx : isAggT Tryz.prog 78=some false:=by kernel_rfl
theorem yA : bj Tryz.prog 102=some 1:=by kernel_rfl
theorem og : isAggT Tryz.prog 102=some false:=by kernel_rfl
theorem eD : bj Tryz.prog 104=some 6:=by kernel_rfl
theorem iS : isAggT Tryz.prog 104=some true:=by kernel_rfl
theorem oh : zeroT Tryz.prog 104=some (.agg [(.int .i64 0),(.int .u64 0),(.int .u64 0),(.int .u64 0),.aO,.aO]):=by kernel_rfl
theorem nG (a b:Nat): fieldAddrV Tryz.prog 104 (.ptr a b) 0=some (.ptr a (b+0)):=by kernel_rfl
theorem CW (a b:Nat): fieldAddrV Tryz.prog 104 (.ptr a b) 1=some (.ptr a (b+1)):=by kernel_rfl
theorem CX (a b:Nat): fieldAddrV Tryz.prog 104 (.ptr a b) 2=some (.ptr a (b+2)):=by kernel_rfl
theorem IZ (a b:Nat): fieldAddrV Tryz.prog 104 (.ptr a b) 3=some (.ptr a (b+3)):=by kernel_rfl
theorem yB (a b:Nat): fieldAddrV Tryz.prog 104 (.ptr a b) 4=some (.ptr a (b+4)):=by kernel_rfl
theorem iC (a b:Nat): fieldAddrV Tryz.prog 104 (.ptr a b) 5=some (.ptr a (b+5)):=by kernel_rfl
theorem sS (ps:List (Nat×V)): buildV Tryz.prog 104 ps=(fillV (nth [(0,1),(1,1),(2,1),(3,1),(4,1),(5,1)]) ((.agg [(.int .i64 0),(.int .u64 0),(.int .u64 0),(.int .u64 0),.aO,.aO]):V).cells ps).map .agg:=by kernel_rfl
theorem Ky : isAggT Tryz.prog 106=some false:=by kernel_rfl
theorem Xi (a b l:Nat)(c:Cap)(k:IntKind)(n:Int): indexAddrV Tryz.prog 106 (.sl a b l c) (.int k n)=cond (decide (0≤n)&&decide (n<(l:Int))) (some (.ptr a (b+n.toNat*1))) none:=by kernel_rfl
theorem Xj : bj Tryz.prog 107=some 1:=by kernel_rfl
theorem Kz : isAggT Tryz.prog 107=some false:=by kernel_rfl
theorem mW : isAggT Tryz.prog 108=some false:=by kernel_rfl
theorem Xk : bj Tryz.prog 109=some 1:=by kernel_rfl
theorem I0 (a b:Nat): fieldAddrV Tryz.prog 111 (.ptr a b) 0=some (.ptr a (b+0)):=by kernel_rfl
theorem CY (a b:Nat): fieldAddrV Tryz.prog 111 (.ptr a b) 1=some (.ptr a (b+1)):=by kernel_rfl
theorem CZ (a b:Nat): fieldAddrV Tryz.prog 111 (.ptr a b) 2=some (.ptr a (b+2)):=by kernel_rfl
theorem I1 (a b:Nat): fieldAddrV Tryz.prog 111 (.ptr a b) 3=some (.ptr a (b+3)):=by kernel_rfl
theorem uE (a b:Nat): fieldAddrV Tryz.prog 111 (.ptr a b) 4=some (.ptr a (b+4)):=by kernel_rfl
theorem I2 (a b:Nat): fieldAddrV Tryz.prog 111 (.ptr a b) 5=some (.ptr a (b+5)):=by kernel_rfl
theorem SY (a b:Nat): fieldAddrV Tryz.prog 111 (.ptr a b) 6=some (.ptr a (b+6)):=by kernel_rfl
theorem yC (a b:Nat): fieldAddrV Tryz.prog 111 (.ptr a b) 7=some (.ptr a (b+7)):=by kernel_rfl
theorem yD (a b:Nat): fieldAddrV Tryz.prog 111 (.ptr a b) 8=some (.ptr a (b+8)):=by kernel_rfl
theorem nH (a b:Nat): fieldAddrV Tryz.prog 111 (.ptr a b) 9=some (.ptr a (b+9)):=by kernel_rfl
theorem PC (a b:Nat): fieldAddrV Tryz.prog 111 (.ptr a b) 10=some (.ptr a (b+10)):=by kernel_rfl
theorem PD (a b:Nat): fieldAddrV Tryz.prog 111 (.ptr a b) 11=some (.ptr a (b+11)):=by kernel_rfl
theorem Xl (ps:List (Nat×V)): buildV Tryz.prog 111 ps=(fillV (nth [(0,1),(1,1),(2,1),(3,1),(4,1),(5,1),(6,1),(7,1),(8,1),(9,1),(10,1),(11,1)]) ((.agg [(.int .i64 0),.aO,.aO,.jc,.aO,(.int .i64 0),.aO,(.int .i64 0),(.int .i64 0),(.bool false),.a_,.aO]):V).cells ps).map .agg:=by kernel_rfl
theorem yE : isAggT Tryz.prog 115=some false:=by kernel_rfl
theorem uF (a b:Nat): fieldAddrV Tryz.prog 121 (.ptr a b) 0=some (.ptr a (b+0)):=by kernel_rfl
theorem nI (a b:Nat): fieldAddrV Tryz.prog 121 (.ptr a b) 1=some (.ptr a (b+1)):=by kernel_rfl
theorem ri (a b:Nat): fieldAddrV Tryz.prog 121 (.ptr a b) 2=some (.ptr a (b+2)):=by kernel_rfl
theorem rj (a b:Nat): fieldAddrV Tryz.prog 121 (.ptr a b) 3=some (.ptr a (b+3)):=by kernel_rfl
theorem SZ (a b:Nat): fieldAddrV Tryz.prog 121 (.ptr a b) 4=some (.ptr a (b+4)):=by kernel_rfl
theorem I3 (a b:Nat): fieldAddrV Tryz.prog 121 (.ptr a b) 5=some (.ptr a (b+5)):=by kernel_rfl
theorem Xm (ps:List (Nat×V)): buildV Tryz.prog 121 ps=(fillV (nth [(0,1),(1,1),(2,1),(3,1),(4,1),(5,1)]) ((.agg [.a_,.a_,.a_,.a_,.aO,(.int .u64 0)]):V).cells ps).map .agg:=by kernel_rfl
theorem Xn : bj Tryz.prog 122=some 1:=by kernel_rfl
theorem vp : isAggT Tryz.prog 122=some false:=by kernel_rfl
theorem I4 (a b:Nat): fieldAddrV Tryz.prog 124 (.ptr a b) 0=some (.ptr a (b+0)):=by kernel_rfl
theorem nJ (a b:Nat): fieldAddrV Tryz.prog 124 (.ptr a b) 1=some (.ptr a (b+1)):=by kernel_rfl
theorem jy (a b:Nat): fieldAddrV Tryz.prog 124 (.ptr a b) 2=some (.ptr a (b+2)):=by kernel_rfl
theorem oW (a b:Nat): fieldAddrV Tryz.prog 124 (.ptr a b) 3=some (.ptr a (b+3)):=by kernel_rfl
theorem C0 (a b:Nat): fieldAddrV Tryz.prog 124 (.ptr a b) 4=some (.ptr a (b+4)):=by kernel_rfl
theorem S0 (a b:Nat): fieldAddrV Tryz.prog 124 (.ptr a b) 5=some (.ptr a (b+5)):=by kernel_rfl
theorem Xo (ps:List (Nat×V)): buildV Tryz.prog 124 ps=(fillV (nth [(0,1),(1,1),(2,1),(3,1),(4,1),(5,1)]) ((.agg [.a_,(.int .u64 0),.aO,.aO,(.int .i64 0),(.int .u64 0)]):V).cells ps).map .agg:=by kernel_rfl
theorem KA : bj Tryz.prog 128=some 2:=by kernel_rfl
theorem Xp : isAggT Tryz.prog 128=some true:=by kernel_rfl
theorem KB : zeroT Tryz.prog 128=some (.agg [(.int .i64 0),.aO]):=by kernel_rfl
theorem S1 (a b:Nat): fieldAddrV Tryz.prog 128 (.ptr a b) 1=some (.ptr a (b+1)):=by kernel_rfl
theorem Xq (ps:List (Nat×V)): buildV Tryz.prog 128 ps=(fillV (nth [(0,1),(1,1)]) ((.agg [(.int .i64 0),.aO]):V).cells ps).map .agg:=by kernel_rfl
theorem oX (a b:Nat): fieldAddrV Tryz.prog 139 (.ptr a b) 0=some (.ptr a (b+0)):=by kernel_rfl
theorem uG (a b:Nat): fieldAddrV Tryz.prog 139 (.ptr a b) 1=some (.ptr a (b+1)):=by kernel_rfl
theorem Xr (ps:List (Nat×V)): buildV Tryz.prog 139 ps=(fillV (nth [(0,1),(1,1)]) ((.agg [.a_,(.int .i64 0)]):V).cells ps).map .agg:=by kernel_rfl
theorem Xs : isAggT Tryz.prog 141=some false:=by kernel_rfl
theorem pL : isAggT Tryz.prog 142=some false:=by kernel_rfl
theorem oY (a b:Nat): fieldAddrV Tryz.prog 144 (.ptr a b) 0=some (.ptr a (b+0)):=by kernel_rfl
theorem S2 (a b:Nat): fieldAddrV Tryz.prog 144 (.ptr a b) 1=some (.ptr a (b+1)):=by kernel_rfl
theorem mh (a b:Nat): fieldAddrV Tryz.prog 144 (.ptr a b) 2=some (.ptr a (b+2)):=by kernel_rfl
theorem C1 (a b:Nat): fieldAddrV Tryz.prog 144 (.ptr a b) 3=some (.ptr a (b+3)):=by kernel_rfl
theorem Xt (ps:List (Nat×V)): buildV Tryz.prog 144 ps=(fillV (nth [(0,1),(1,1),(2,1),(3,1)]) ((.agg [.a_,.ig,.jc,(.int .u64 0)]):V).cells ps).map .agg:=by kernel_rfl
theorem mj : isAggT Tryz.prog 145=some false:=by kernel_rfl
theorem RP : zeroT Tryz.prog 145=some .a_:=by kernel_rfl
theorem KC : isAggT Tryz.prog 146=some false:=by kernel_rfl
theorem RQ : bj Tryz.prog 147=some 1:=by kernel_rfl
theorem Br : isAggT Tryz.prog 147=some false:=by kernel_rfl
theorem yF (a b:Nat): fieldAddrV Tryz.prog 149 (.ptr a b) 0=some (.ptr a (b+0)):=by kernel_rfl
theorem I5 (a b:Nat): fieldAddrV Tryz.prog 149 (.ptr a b) 1=some (.ptr a (b+1)):=by kernel_rfl
theorem rq (a b:Nat): fieldAddrV Tryz.prog 149 (.ptr a b) 2=some (.ptr a (b+2)):=by kernel_rfl
theorem oZ (a b:Nat): fieldAddrV Tryz.prog 149 (.ptr a b) 3=some (.ptr a (b+3)):=by kernel_rfl
theorem o5 (a b:Nat): fieldAddrV Tryz.prog 149 (.ptr a b) 5=some (.ptr a (b+5)):=by kernel_rfl
theorem C2 (a b:Nat): fieldAddrV Tryz.prog 149 (.ptr a b) 6=some (.ptr a (b+6)):=by kernel_rfl
theorem Xu (ps:List (Nat×V)): buildV Tryz.prog 149 ps=(fillV (nth [(0,1),(1,1),(2,1),(3,1),(4,1),(5,1),(6,1)]) ((.agg [(.int .u64 0),(.int .u64 0),(.int .u64 0),(.int .u64 0),.aO,.aO,.jc]):V).cells ps).map .agg:=by kernel_rfl
theorem I6 (a b:Nat): fieldAddrV Tryz.prog 161 (.ptr a b) 0=some (.ptr a (b+0)):=by kernel_rfl
theorem Xv (ps:List (Nat×V)): buildV Tryz.prog 161 ps=(fillV (nth [(0,1)]) ((.agg [.a_]):V).cells ps).map .agg:=by kernel_rfl
theorem Xw : isAggT Tryz.prog 164=some false:=by kernel_rfl
theorem Xx : zeroT Tryz.prog 164=some .aO:=by kernel_rfl
theorem Xy : bj Tryz.prog 174=some 3:=by kernel_rfl
theorem nK (a b:Nat): fieldAddrV Tryz.prog 174 (.ptr a b) 0=some (.ptr a (b+0)):=by kernel_rfl
theorem o6 (a b:Nat): fieldAddrV Tryz.prog 174 (.ptr a b) 1=some (.ptr a (b+1)):=by kernel_rfl
theorem yG (a b:Nat): fieldAddrV Tryz.prog 174 (.ptr a b) 2=some (.ptr a (b+2)):=by kernel_rfl
theorem Xz (ps:List (Nat×V)): buildV Tryz.prog 174 ps=(fillV (nth [(0,1),(1,1),(2,1)]) ((.agg [.a_,.jc,(.bool false)]):V).cells ps).map .agg:=by kernel_rfl
theorem bB : bj Tryz.prog 176=some 1:=by kernel_rfl
theorem bV : isAggT Tryz.prog 176=some true:=by kernel_rfl
theorem iT : zeroT Tryz.prog 176=some (.agg [.aO]):=by kernel_rfl
theorem fV (a b:Nat): fieldAddrV Tryz.prog 176 (.ptr a b) 0=some (.ptr a (b+0)):=by kernel_rfl
theorem yH (ps:List (Nat×V)): buildV Tryz.prog 176 ps=(fillV (nth [(0,1)]) ((.agg [.aO]):V).cells ps).map .agg:=by kernel_rfl
theorem XA : bj Tryz.prog 182=some 0:=by kernel_rfl
theorem RR : zeroT Tryz.prog 182=some (.agg []):=by kernel_rfl
theorem XB (ps:List (Nat×V)): buildV Tryz.prog 182 ps=(fillV (nth []) ((.agg []):V).cells ps).map .agg:=by kernel_rfl
theorem qG : bj Tryz.prog 185=some 2:=by kernel_rfl
theorem EO : isAggT Tryz.prog 185=some true:=by kernel_rfl
theorem Bt : zeroT Tryz.prog 185=some (.agg [(.int .u64 0),(.int .i64 0)]):=by kernel_rfl
theorem S3 (a b:Nat): fieldAddrV Tryz.prog 185 (.ptr a b) 0=some (.ptr a (b+0)):=by kernel_rfl
theorem S4 (a b:Nat): fieldAddrV Tryz.prog 185 (.ptr a b) 1=some (.ptr a (b+1)):=by kernel_rfl
theorem XC (ps:List (Nat×V)): buildV Tryz.prog 185 ps=(fillV (nth [(0,1),(1,1)]) ((.agg [(.int .u64 0),(.int .i64 0)]):V).cells ps).map .agg:=by kernel_rfl
theorem Bu : isAggT Tryz.prog 213=some false:=by kernel_rfl
theorem om : isAggT Tryz.prog 214=some false:=by kernel_rfl
theorem XD (a b l:Nat)(c:Cap)(k:IntKind)(n:Int): indexAddrV Tryz.prog 214 (.sl a b l c) (.int k n)=cond (decide (0≤n)&&decide (n<(l:Int))) (some (.ptr a (b+n.toNat*5))) none:=by kernel_rfl
theorem yI : isAggT Tryz.prog 215=some false:=by kernel_rfl
theorem yJ (a b:Nat): fieldAddrV Tryz.prog 217 (.ptr a b) 0=some (.ptr a (b+0)):=by kernel_rfl
theorem S5 (a b:Nat): fieldAddrV Tryz.prog 217 (.ptr a b) 1=some (.ptr a (b+1)):=by kernel_rfl
theorem kj (a b:Nat): fieldAddrV Tryz.prog 217 (.ptr a b) 2=some (.ptr a (b+2)):=by kernel_rfl
theorem uH (a b:Nat): fieldAddrV Tryz.prog 217 (.ptr a b) 3=some (.ptr a (b+3)):=by kernel_rfl
theorem ru (a b:Nat): fieldAddrV Tryz.prog 217 (.ptr a b) 4=some (.ptr a (b+4)):=by kernel_rfl
theorem C3 (a b:Nat): fieldAddrV Tryz.prog 217 (.ptr a b) 5=some (.ptr a (b+5)):=by kernel_rfl
theorem XE (ps:List (Nat×V)): buildV Tryz.prog 217 ps=(fillV (nth [(0,1),(1,1),(2,1),(3,1),(4,1),(5,1)]) ((.agg [.a_,.a_,.aO,.jc,.jc,(.int .i64 0)]):V).cells ps).map .agg:=by kernel_rfl
theorem yK : bj Tryz.prog 220=some 2:=by kernel_rfl
theorem RS : isAggT Tryz.prog 220=some true:=by kernel_rfl
theorem yL : zeroT Tryz.prog 220=some (.agg [(.int .u64 0),(.bool false)]):=by kernel_rfl
theorem C4 (a b:Nat): fieldAddrV Tryz.prog 220 (.ptr a b) 0=some (.ptr a (b+0)):=by kernel_rfl
theorem S6 (cs:List V): pO Tryz.prog 220 (.agg cs) 0=nth cs 0:=by kernel_rfl
theorem I7 (a b:Nat): fieldAddrV Tryz.prog 220 (.ptr a b) 1=some (.ptr a (b+1)):=by kernel_rfl
theorem XF (ps:List (Nat×V)): buildV Tryz.prog 220 ps=(fillV (nth [(0,1),(1,1)]) ((.agg [(.int .u64 0),(.bool false)]):V).cells ps).map .agg:=by kernel_rfl
theorem Bv : bj Tryz.prog 230=some 5:=by kernel_rfl
theorem XG : isAggT Tryz.prog 230=some true:=by kernel_rfl
theorem XH : zeroT Tryz.prog 230=some (.agg [(.int .i64 0),.aO,(.int .i64 0),(.bool false),(.bool false)]):=by kernel_rfl
theorem nL (a b:Nat): fieldAddrV Tryz.prog 230 (.ptr a b) 0=some (.ptr a (b+0)):=by kernel_rfl
theorem yM (a b:Nat): fieldAddrV Tryz.prog 230 (.ptr a b) 1=some (.ptr a (b+1)):=by kernel_rfl
theorem o7 (a b:Nat): fieldAddrV Tryz.prog 230 (.ptr a b) 2=some (.ptr a (b+2)):=by kernel_rfl
theorem C5 (a b:Nat): fieldAddrV Tryz.prog 230 (.ptr a b) 3=some (.ptr a (b+3)):=by kernel_rfl
theorem C6 (a b:Nat): fieldAddrV Tryz.prog 230 (.ptr a b) 4=some (.ptr a (b+4)):=by kernel_rfl
theorem EP (ps:List (Nat×V)): buildV Tryz.prog 230 ps=(fillV (nth [(0,1),(1,1),(2,1),(3,1),(4,1)]) ((.agg [(.int .i64 0),.aO,(.int .i64 0),(.bool false),(.bool false)]):V).cells ps).map .agg:=by kernel_rfl
theorem I8 (a b:Nat): fieldAddrV Tryz.prog 234 (.ptr a b) 0=some (.ptr a (b+0)):=by kernel_rfl
theorem XI (ps:List (Nat×V)): buildV Tryz.prog 234 ps=(fillV (nth [(0,1),(1,1)]) ((.agg [.jc,.jc]):V).cells ps).map .agg:=by kernel_rfl
theorem oo : bj Tryz.prog 237=some 4:=by kernel_rfl
theorem KD : isAggT Tryz.prog 237=some true:=by kernel_rfl
theorem mo : zeroT Tryz.prog 237=some (.agg [(.int .i64 0),(.int .i64 0),(.bool false),.aO]):=by kernel_rfl
theorem yN (a b:Nat): fieldAddrV Tryz.prog 237 (.ptr a b) 0=some (.ptr a (b+0)):=by kernel_rfl
theorem o8 (a b:Nat): fieldAddrV Tryz.prog 237 (.ptr a b) 1=some (.ptr a (b+1)):=by kernel_rfl
theorem yO (a b:Nat): fieldAddrV Tryz.prog 237 (.ptr a b) 2=some (.ptr a (b+2)):=by kernel_rfl
theorem nM (a b:Nat): fieldAddrV Tryz.prog 237 (.ptr a b) 3=some (.ptr a (b+3)):=by kernel_rfl
theorem KE (ps:List (Nat×V)): buildV Tryz.prog 237 ps=(fillV (nth [(0,1),(1,1),(2,1),(3,1)]) ((.agg [(.int .i64 0),(.int .i64 0),(.bool false),.aO]):V).cells ps).map .agg:=by kernel_rfl
theorem RT (a b:Nat)(k:IntKind)(n:Int): indexAddrV Tryz.prog 264 (.ptr a b) (.int k n)=cond (decide (0≤n)&&decide (n<(512:Nat))) (some (.ptr a (b+n.toNat*1))) none:=by kernel_rfl
theorem XJ : bj Tryz.prog 281=some 512:=by kernel_rfl
theorem XK : isAggT Tryz.prog 281=some true:=by kernel_rfl
theorem kn (a b:Nat): fieldAddrV Tryz.prog 320 (.ptr a b) 0=some (.ptr a (b+0)):=by kernel_rfl
theorem XL (ps:List (Nat×V)): buildV Tryz.prog 320 ps=(fillV (nth [(0,1)]) ((.agg [.aO]):V).cells ps).map .agg:=by kernel_rfl
theorem XM (ps:List (Nat×V)): buildV Tryz.prog 334 ps=(fillV (fun i=>some (i*1,1)) ((.agg [(.int .u64 0),(.int .u64 0),(.int .u64 0)]):V).cells ps).map .agg:=by kernel_rfl
theorem KF : bj Tryz.prog 344=some 1:=by kernel_rfl
theorem KG : isAggT Tryz.prog 344=some false:=by kernel_rfl
theorem XN (ps:List (Nat×V)): buildV Tryz.prog 345 ps=(fillV (fun i=>some (i*1,1)) ((.agg [.a_,.a_,.a_]):V).cells ps).map .agg:=by kernel_rfl
def slR (v:V)(a b:Nat): V:=match v with
 |.sl id off _ (.exact c)=>.sl id (cond (Nat.beq c a) off (off+a*1)) (b-a) (.exact (c-a))
 |.sl id off _ (.rest _ alt)=>.sl id (off+a*1) (b-a) (.rest 1 (cond (Nat.beq a 0) alt (cond (Nat.blt a b) (off+a*1) off)))
 |v=>v
theorem cH {v:V}(hv:View h v l)(rF:a≤b)(hb:b≤l.length):
  sliceV Tryz.prog h 23 v (some a) (some b) none=some (slR v a b)∧View h (slR v a b) ((l.take b).drop a)∧∀i∈rowIds (slR v a b),i∈rowIds v:=by
 have I:∀x∈(l.take b).drop a,x<256:=fun x hx=>hv.1 x (kX (l7 hx))
 have hlen:((l.take b).drop a).length=b-a:=by grind
 obtain⟨hl,J⟩:=hv
 rcases J with⟨rfl|⟨ea,rfl⟩,rfl⟩|⟨id,off,cap,n,cs,st,rfl,hg,h1,h2,h3,h4⟩
 ·simp only[cD] at hb
  have:b=0:=by omega
  have:a=0:=by omega
  subst_vars
  refine⟨?_,⟨by simp,.inl ⟨.inl rfl,by simp⟩⟩,fun i hi=>hi⟩
  simp only[sliceV,aM,dY]
  rfl
 ·simp only[cD] at hb
  have:b=0:=by omega
  have:a=0:=by omega
  subst_vars
  refine⟨?_,⟨by simp,.inl ⟨.inr ⟨ea,rfl⟩,by simp⟩⟩,fun i hi=>hi⟩
  simp only[sliceV,aM,dY]
  rfl
 ·have EH:∀o,o=off+a∨b-a=0→(cs.drop o).take (b-a)=ofBytes ((l.take b).drop a):=by
   grind[ofBytes,List.map_drop,List.map_take,List.drop_take,List.drop_drop]
  cases cap with
  |exact c =>
   refine⟨?_,⟨I,.inr ⟨id,_,_,n,cs,st,by rw[hlen];rfl,hg,h1,?_,?_,?_⟩⟩,fun i hi=>by simpa[rowIds,slR] using hi⟩
   ·simp only[sliceV,slR,aM,dY,gq]
    grind[aG]
   ·grind
   ·grind[eO]
   ·omega
  |rest e alt =>
   have he:e=1:=h4
   subst he
   refine⟨?_,⟨I,.inr ⟨id,_,_,n,cs,st,by rw[hlen];rfl,hg,h1,by omega,by grind,rfl⟩⟩,fun i hi=>by simpa[rowIds,slR] using hi⟩
   simp only[sliceV,slR,aM,dY,gq,eW]
   grind[aG]
theorem gE {v:V}(J:View h v l)(ha:a≤l.length):
  sliceV Tryz.prog h 23 v (some a) none none=some (slR v a l.length)∧View h (slR v a l.length) (l.drop a)∧∀i∈rowIds (slR v a l.length),i∈rowIds v:=by
 obtain⟨h1,h2,h3⟩:=cH J ha (aS _)
 refine⟨?_,by grind,h3⟩
 obtain⟨_,I⟩:=J
 rcases I with⟨rfl|⟨ea,rfl⟩,rfl⟩|⟨id,off,cap,n,cs,st,rfl,hg,g1,g2,g3,g4⟩
 ·simpa[sliceV,aM,dY] using h1
 ·simpa[sliceV,aM,dY] using h1
 ·simp_all[sliceV]
theorem rU {v:V}(J:View h v l)(hb:b≤l.length):
  sliceV Tryz.prog h 23 v none (some b) none=some (slR v 0 b)∧View h (slR v 0 b) (l.take b)∧∀i∈rowIds (slR v 0 b),i∈rowIds v:=by
 obtain⟨h1,h2,h3⟩:=cH J (eX b) hb
 refine⟨?_,by grind,h3⟩
 obtain⟨_,I⟩:=J
 rcases I with⟨rfl|⟨ea,rfl⟩,rfl⟩|⟨id,off,cap,n,cs,st,rfl,hg,g1,g2,g3,g4⟩
 ·simpa[sliceV,aM,dY] using h1
 ·simpa[sliceV,aM,dY] using h1
 ·simp_all[sliceV]
theorem er {v:V}(J:View h v l)(hi:l[i]?=some b):
  ∃id off,indexAddrV Tryz.prog 23 v (.int .i64 (i:Int))=some (.ptr id off)∧loadV Tryz.prog h 5 (.ptr id off)=some (.int .u8 (b:Int)):=by
 obtain⟨hl,I⟩:=J
 rcases I with⟨_,rfl⟩|⟨id,off,cap,n,cs,st,rfl,hg,h1,h2,h3,h4⟩
 ·grind
 ·refine⟨id,off+i*1,?_,?_⟩
  ·simp only[indexAddrV,aM,dY,b8]
   grind
  ·simp only[loadV,IT,wq,hg,gu,iz]
   have e:=iA (fun q=>q[i]?) h3
   grind[ofBytes]
theorem View.cells {v:V}(I:View h v l): v.cells=[v]∧Am.storable v=true:=by
 obtain⟨_,I⟩:=I
 rcases I with⟨rfl|⟨J,rfl⟩,_⟩|⟨id,off,cap,n,cs,st,rfl,_⟩<;>exact⟨rfl,rfl⟩
def plain1 : V→Bool
 |.bool _|.int _ _|.str _|.a_|.ptr _ _|.aO|.sl _ _ _ _|.jc|.map _|.Dr|.ig|.rz _ _=>true
 |.fn (.func _) [] []=>true
 |_=>false
def Vs : V→Bool
 |.agg l=>l.all plain1
 |.aI l=>l.all plain1
 |.iface _ v=>plain1 v
 |v=>plain1 v
theorem KH (k:FloatKind): fkBeq k k=true:=by cases k<;>rfl
theorem FF : ∀l:List Nat,natsBeq l l=true:=by grind[zT]
theorem PE (v:V)(h:plain1 v=true): v.beq v=true:=by
 cases v<;>simp[plain1,V.beq,dI,pK,zR,FF,KH] at h ⊢
 rename_i f a b
 cases f<;>cases a<;>cases b<;>simp[plain1,V.beq,V.beqL] at h ⊢
theorem RU : ∀(l:List V),l.all plain1=true→V.beqL l l=true:=by
 intro l
 induction l<;>grind[V.beqL,PE]
theorem aN (v:V)(h:Vs v=true): v.beq v=true:=by
 cases v with
 |agg l=>exact RU l h
 |aI l=>exact RU l h
 |iface t v=>simp only[V.beq,eW,Bool.true_and];exact PE v h
 |_=>exact PE _ h
section
variable {v w:V} {m:List Nat}
theorem KI (s:Sat h (aW v l::X::S))(J:cq X (cz w m))(I:l.length+m.length≤140737488355328):
  ∃v' h',appendV Tryz.prog h #[23,23] v w=some (v',h')∧Sat h' (aW v' (l++m)::X::S):=by
 obtain⟨v',h',e1,e2,e3,e4⟩:=wW s.wf (s.buf (k:=0) rfl) (s.aD (k:=1) rfl J) I
 exact⟨v',h',e1,s.yz e3 e2 e4⟩
theorem MO (s:Sat h S)(I:c<1073741824):
  ∃v h',makeSliceV Tryz.prog h 23 (.int .i64 0) (.int .i64 (c:Int))=some (v,h')∧Sat h' (aW v []::S):=by
 obtain⟨v,h',J,e2,e3,e4⟩:=Bi s.wf I
 exact⟨v,h',J,s.FE e3 e2 e4⟩
theorem S7 : ∀n:Nat,repeatL [V.int .u8 0] n=ofBytes (List.replicate n 0):=by
 intro n
 induction n<;>grind[repeatL,ofBytes]
theorem MP (s:Sat h S)(J:c<1073741824):
  ∃v h',makeSliceV Tryz.prog h 23 (.int .i64 (c:Int)) (.int .i64 (c:Int))=some (v,h')∧Sat h' (aW v (List.replicate c 0)::S):=by
 obtain⟨i,hi,i1,i2⟩:=CS
 have I:iM (h.new (.cells c (repeatL [.int .u8 0] c) false)) (.sl h.next 0 c (.exact c)) (List.replicate c 0):=by
  refine⟨fun b I=>by grind,.inr (.inl ⟨h.next,[],c,by simp,?_,by simp⟩)⟩<;>grind[fG,S7]
 refine⟨.sl h.next 0 c (.exact c),h.new (.cells c (repeatL [.int .u8 0] c) false),?_,s.FE (c7.yx s.wf _) I fun i hi=>by simp[rowIds] at hi;omega⟩
 grind[makeSliceV,Tryz.underlying23,rO,V.cells,Nat.ble,Nat.beq]
theorem MQ (s:Sat h S)(I:b<256): ∃v h',buildSliceV Tryz.prog h 23 1 [(0,.int .u8 b)]=some (v,h')∧Sat h' (aW v [b]::S):=by
 obtain⟨v,h',J,e2,e3,e4⟩:=DQ s.wf I
 exact⟨v,h',J,s.FE e3 e2 e4⟩
theorem Sat.eZ (s:Sat h (aW v l::S))(hl:1≤l.length): ∃id c cap rest,v=.sl id 0 l.length cap∧Sat h (pt id (.cells c (ofBytes l++rest) false)::S)∧l.length+rest.length=c ∧
  (∀(h':H) (I:List Nat),I.length=l.length→(∀b∈I,b<256)→Sat h' (pt id (.cells c (ofBytes I++rest) false)::S)→Sat h' (aW v I::S)):=by
 obtain⟨m,r,h1,h2,h3,a,b,g1,g2,g3,⟨gl,g4⟩,g5⟩:=s.ok
 rcases g4 with⟨rfl,rfl⟩|⟨id,cs,c,rfl,J,hc⟩|⟨id,rfl,J,h5⟩
 ·grind
 ·refine⟨id,c,_,cs,rfl,⟨s.wf,m,r,h1,h2,h3,a,b,g1,g2,g3,J,g5⟩,hc,fun h' I e1 e2 s'=>s'.gO ?_⟩
  intro m' r' hm
  exact⟨e2,.inr (.inl ⟨id,cs,c,by rw[e1],hm,by omega⟩)⟩
 ·refine⟨id,l.length,_,[],rfl,⟨s.wf,m,r,h1,h2,h3,a,b,g1,g2,g3,by rw[iw];exact J,g5⟩,by simp,fun h' I e1 e2 s'=>s'.gO ?_⟩
  intro m' r' hm
  have DF:m' id=some (.cells l.length (ofBytes I++[]) false):=hm
  exact⟨e2,.inr (.inr ⟨id,by rw[e1],by grind,by omega⟩)⟩
theorem HV (l:List Nat)(i b:Nat): (ofBytes l).set i (.int .u8 (b:Int))=ofBytes (l.set i b):=by simp[ofBytes,List.map_set]
theorem w9 (l:List Nat)(n:Nat): (ofBytes l).take n=ofBytes (l.take n):=by simp[ofBytes,List.map_take]
theorem FG (l:List Nat)(n:Nat): (ofBytes l).drop n=ofBytes (l.drop n):=by simp[ofBytes,List.map_drop]
theorem mM (s:Sat h (aW v l::S))(hi:i<l.length)(hb:b<256):
  ∃id off,indexAddrV Tryz.prog 23 v (.int .i64 (i:Int))=some (.ptr id off)∧∃h',fu Tryz.prog h 5 (.ptr id off) (.int .u8 (b:Int))=some h'∧Sat h' (aW v (l.set i b)::S):=by
 have hv:=(s.buf (k:=0) rfl).1
 obtain⟨id,c,cap,rest,rfl,s1,hc,J⟩:=s.eZ (by omega)
 refine⟨id,i,?_,?_⟩
 ·simp_all[indexAddrV,dY]
 ·obtain⟨h',e1,I⟩:=s1.dL (t:=5) (P:=Tryz.prog) (v:=.int .u8 (b:Int)) (k:=0) (off:=i) rfl dY (by simp[c_];omega) (by omega) rfl rfl
  refine⟨h',e1,J h' (l.set i b) (by simp) (fun x hx => ?_) ?_⟩
  ·grind
  ·have e3:(ofBytes l++rest).set i (.int .u8 (b:Int))=ofBytes (l.set i b)++rest:=by
    grind[c_,HV]
   rw[e3] at I
   exact I
def bx (l:List Nat)(a:Nat)(m:List Nat): List Nat:=l.take a++(m++l.drop (a+m.length))
theorem cQ (h:a+m.length≤l.length): (bx l a m).length=l.length:=by simp[bx];omega
theorem DR (I:∀b∈l,b<256)(hm:∀b∈m,b<256): ∀b∈bx l a m,b<256:=by grind[bx]
theorem FH (s:Sat h (aW v l::X::S))(hX:cq X (cz w m))(rF:a<b)(hb:b≤l.length)(hm:1≤m.length):
  ∃h',copyV Tryz.prog h 23 (slR v a b) w=some (.int .i64 (min m.length (b-a):Nat),h')∧Sat h' (aW v (bx l a (m.take (b-a)))::X::S):=by
 have hw:=s.aD (k:=1) rfl hX
 have YS:=hw.1
 have hv:=(s.buf (k:=0) rfl).1
 obtain⟨id,c,cap,rest,rfl,s1,hc,hf⟩:=s.eZ (by omega)
 have jY:∃J,slR (.sl id 0 l.length cap) a b=.sl id a (b-a) J:=by
  cases cap with
  |exact c =>
   refine⟨.exact (c-a),?_⟩
   simp only[slR]
   by_cases hca:c=a
   ·obtain⟨m',r,h1,h2,h3⟩:=s.at (k:=0) rfl
    rcases h3.2 with⟨e,_⟩|⟨A0,cs',c',e,hg,YT⟩|⟨A0,e,_⟩
    ·cases e
    ·grind
    ·grind
   grind[eO]
  |rest e alt=>simp[slR]
 obtain⟨J,jY⟩:=jY
 rw[jY]
 have rP:=hw
 rcases rP.2 with⟨_,rfl⟩|⟨zU,I,KJ,n2,Vt,RV,rfl,FI,q1,q2,q3,q4⟩
 ·grind
 ·have Z3:Nat.min m.length (b-a)=(m.take (b-a)).length:=by
   grind
  have iY:rdN h zU I (Nat.min m.length (b-a)*1)=some (ofBytes (m.take (b-a))):=by
   have sU:View h (.sl zU I (m.take (b-a)).length KJ) (m.take (b-a)):=by
    refine⟨fun x hx=>YS x (kX hx),.inr ⟨zU,I,KJ,n2,Vt,RV,rfl,FI,q1,?_,?_,?_⟩⟩
    ·grind
    ·rw[←w9,←q3,List.take_take,j6]
    ·grind
   rw[iz,Z3]
   exact sU.rdN.2
  simp only[copyV,aM,dY,iY]
  have hlen:(m.take (b-a)).length≤b-a:=by grind
  have FJ:wrN h id a (ofBytes (m.take (b-a)))=some (h.put id (some (.cells c (ofBytes (bx l a (m.take (b-a)))++rest) false))):=by
   simp only[wrN,s1.row (k:=0) rfl,c_]
   rw[aG.2 (by omega),ai]
   have e0:(ofBytes l++rest).take a++(ofBytes (m.take (b-a))++(ofBytes l++rest).drop (a+(m.take (b-a)).length))=ofBytes (bx l a (m.take (b-a)))++rest:=by
    grind[c_,w9,FG,bx,tD]
   cases MR:(Nat.beq a 0&&Nat.beq (m.take (b-a)).length c)<;>grind[beq_iff,List.drop_eq_nil_of_le,c_]
  rw[FJ]
  refine⟨_,rfl,hf _ _ (cQ (by omega)) (DR hv (fun x hx=>YS x (kX hx))) ?_⟩
  exact s1.put (k:=0) rfl
end
section
variable {v w x:V}
theorem RW (I:isAggT P t=some true)(hs:bj P t=some q)(J:T.get h.tr id=some (.cells n cs st))(hl:cs.length=n)(hb:off+q≤n):
  loadV P h t (.ptr id off)=some (.agg ((cs.drop off).take q)):=by
 grind[loadV,rdN,aG,beq_iff]
theorem Sat.I9 (s:Sat h (.arr k v cs::S))(I:cs≠[]): ∃id n cap N rest,v=.sl id 0 n cap∧cs.length=n*k∧N=cs.length+rest.length∧Sat h (pt id (.cells N (cs++rest) false)::S) ∧
  (∀(h':H) (cs':List V) (S':List aE),cs'.length=cs.length→cs'.all storable=true→Sat h' (pt id (.cells N (cs'++rest) false)::S')→Sat h' (.arr k v cs'::S')):=by
 obtain⟨m,r,J,h2,h3,a,b,g1,g2,g3,⟨gl,g4⟩,g5⟩:=s.ok
 rcases g4 with⟨_,e⟩|⟨id,n,cap,N,rest,rfl,hg,q1,q2,q3,q4⟩
 ·grind
 ·refine⟨id,n,cap,N,rest,rfl,q1,q2.symm,⟨s.wf,m,r,J,h2,h3,a,b,g1,g2,g3,hg,g5⟩,fun h' cs' S' e1 e2 s'=>s'.gO ?_⟩
  intro m' r' hm
  exact⟨e2,.inr ⟨id,n,cap,N,rest,rfl,hm,by omega,by omega,q3,q4⟩⟩
theorem Sat.XO (s:Sat h S)(I:getA S j=some (.arr k v cs)): cs.all storable=true:=by
 obtain⟨m,r,h1,h2,J⟩:=s.at I
 exact J.1
theorem Sat.iU (s:Sat h S)(I:getA S j=some (.arr k v cs)): v.cells=[v]∧storable v=true∧v.beq v=true:=by
 obtain⟨m,r,h1,h2,J⟩:=s.at I
 rcases J.2 with⟨rfl,_⟩|⟨id,n,cap,N,rest,rfl,_⟩
 ·exact⟨rfl,rfl,rfl⟩
 ·exact⟨rfl,rfl,EM _ _ _ _⟩
theorem Sat.gF (s:Sat h S)(hj:getA S j=some (.arr k v cs))(hn:cs.length=n*k)(J:1≤k)(hu:P.underlying t=some (.slice e)): lenV P h t v=some (.int .i64 n):=by
 obtain⟨m,r,h1,h2,h3⟩:=s.at hj
 rcases h3.2 with⟨rfl,rfl⟩|⟨id,n',cap,N,rest,rfl,_,q,_⟩
 ·have:n=0:=by
   rcases tT n with I|I
   ·exact I
   ·have:=qQ I J
    simp at hn
    omega
  simp_all[lenV]
 ·have:n'=n:=IB J (by omega)
  subst this
  simp only[lenV,hu]
theorem pM (z:List V)(n:Nat): (repeatL z n).length=n*z.length:=by
 induction n<;>grind[repeatL]
theorem Bw {z:List V}(I:z.all storable=true)(n:Nat): (repeatL z n).all storable=true:=by
 induction n<;>grind[repeatL]
theorem DS (s:Sat h S){i:TypeInfo}(hu:P.underlying t=some (.slice e))(hi:P.info? e=some i)(hz:zeroT P e=some z)(hk:i.size=k)(hb:i.bytes≤4096)(J:z.cells.length=k)(I:z.cells.all storable=true)
 (h1:1≤k)(hn:n≤c)(hc:c<1073741824):
  ∃v h',makeSliceV P h t (.int .i64 (n:Int)) (.int .i64 (c:Int))=some (v,h')∧Sat h' (.arr k v (repeatL z.cells n)::S):=by
 refine⟨.sl h.next 0 n (.exact c),h.new (.cells (c*k) (repeatL z.cells c) false),?_,(s.new _).gO fun m r hm => ?_⟩
 ·grind[makeSliceV,aG,Nat.beq_refl]
 ·refine⟨Bw I n,.inr ⟨h.next,n,.exact c,c*k,repeatL z.cells (c-n),rfl,?_,by rw[pM,J],?_,Bw I _,rfl,hn⟩⟩
  ·have:repeatL z.cells n++repeatL z.cells (c-n)=repeatL z.cells c:=by
    have:∀a b,repeatL z.cells a++repeatL z.cells b=repeatL z.cells (a+b):=fun a b=>by
     induction a<;>grind[repeatL]
    rw[this,show n+(c-n)=c by omega]
   rw[this];exact hm
  ·rw[pM,pM,J,←nr,show n+(c-n)=c by omega]
theorem S8 (I:T.get h.tr id=some (.cells n cs false))(J:cs.length=n)(hb:off+vs.length≤n):
  wrN h id off vs=some (h.put id (some (.cells n (cs.take off++(vs++cs.drop (off+vs.length))) false))):=by
 grind[wrN,aG,beq_iff,List.drop_eq_nil_of_le]
theorem w_ (I:T.get h.tr id=some (.cells n cs st))(J:cs.length=n)(hb:off+q≤n): rdN h id off q=some ((cs.drop off).take q):=by
 grind[rdN,aG,beq_iff]
def Vu (X:aE)(k:Nat)(v:V)(cs:List V): Prop:=∀m r,X.p m r→rR m k v cs∨rR r k v cs
theorem FK (k:Nat)(v:V)(cs:List V): Vu (.arr k v cs) k v cs:=fun _ _ h=>.inl h
theorem Sat.PF (s:Sat h S)(I:getA S j=some X)(J:Vu X k v cs): rR (T.get h.tr) k v cs:=by
 obtain⟨m,r,h1,h2,h3⟩:=s.at I
 rcases J _ _ h3 with q|q
 ·exact q.up h1
 ·exact q.up h2
theorem PG (hX:Vu X k w ds)(s:Sat h (.arr k v cs::X::S)){i:TypeInfo}(hu:P.underlying t=some (.slice e))(hi:P.info? e=some i)(hz:zeroT P e=some z)(hk:i.size=k)(hb:i.bytes≤4096)(hl:z.cells.length=k)
 (h1:1≤k)(ej:cs.length+ds.length≤1073741824):
  ∃v' h',appendV P h #[t,t] v w=some (v',h')∧Sat h' (.arr k v' (cs++ds)::X::S):=by
 have abB:=s.XO (j:=0) rfl
 have am:=s.PF (j:=1) rfl hX
 have Vv:=am.1
 have oU:(cs++ds).all storable=true:=by grind
 -- what is appended
 have CJ:∃m,srcV h k w=some (ds,m)∧ds.length=m*k:=by
  rcases am.2 with⟨rfl,rfl⟩|⟨id,n,cap,N,rest,rfl,J,e1,e2,e3,e4⟩
  ·exact⟨0,rfl,by simp⟩
  ·refine⟨n,?_,e1⟩
   simp only[srcV]
   rw[w_ J (by grind) (by omega)]
   grind
 obtain⟨m,CJ,hm⟩:=CJ
 have I:∀n:Nat,n*k=cs.length→kQ (n+m) i.bytes=true:=fun n hn=>by
  have e2:n+m≤(n+m)*k:=Nat.le_mul_of_pos_right _ h1
  have e3:(n+m)*i.bytes≤(n+m)*4096:=Cj _ hb
  grind[vf]
 have vg:∀(σ:H) (n:Nat) (T:List aE),Sat σ T→n*k=cs.length→1≤m→Sat (l_ σ k cs ds (n+m)).2 (.arr k (l_ σ k cs ds (n+m)).1 (cs++ds)::T):=by
  intro σ n T sT hn rV
  refine(sT.new (.cells ((n+m)*k) (cs++ds) false)).gO fun a r DF=>⟨oU,.inr ⟨σ.next,n+m,.rest k 0,(n+m)*k,[],rfl,by rw[iw];exact DF,by grind,by grind,rfl,rfl,rfl,rfl,by omega⟩⟩
 unfold appendV
 simp only[hu,hi,hz,hk,hl,CJ]
 rw[show(Nat.ble 1 k&&Nat.ble i.bytes 4096&&Nat.beq k k)=true by simp_all,ai]
 cases Dt:Nat.beq m 0 with
 |true =>
  have:m=0:=beq_iff.1 Dt
  subst this
  have RX:ds=[]:=oM (by omega)
  subst RX
  obtain⟨m,r,q1,q2,q3⟩:=s.at (k:=0) rfl
  rcases q3.2 with⟨rfl,rfl⟩|⟨id,n,cap,N,rest,rfl,J,e1,e2,e3,e4⟩
  ·grind
  ·grind
 |false =>
  have rV:1≤m:=by
   grind[qi]
  obtain⟨a,r,q1,q2,q3⟩:=s.at (k:=0) rfl
  rcases q3.2 with⟨rfl,rfl⟩|⟨id,n,cap,N,rest,rfl,J,e1,e2,e3,e4⟩
  ·have J:=I 0 (by simp)
   rw[fF] at J
   simp only[J,ai]
   have:=vg h 0 (.arr k .aO []::X::S) s (by simp) rV
   rw[fF] at this
   refine⟨_,_,rfl,?_⟩
   exact(this.oc [1]).drop
  ·cases cap with
   |exact c =>
    obtain⟨e4,e5⟩:=e4
    simp only[fF]
    have mz:(cs++rest).take cs.length=cs:=nk rfl
    cases hq:Nat.ble (n+m) c with
    |true =>
     have y_:=aG.1 hq
     have eR:n*k+ds.length≤N:=by rw[hm,←nr,e4];exact oN _ y_
     rw[S8 (q1 _ _ J) (by grind) eR]
     obtain⟨m',r',p1,p2,p3,x1,x2,x3,x4,x5,⟨_,x6⟩,x7⟩:=s.ok
     have An:x1 id=some (.cells N (cs++rest) false):=by
      rcases x6 with⟨x6,_⟩|⟨A0,n',J5,N',Xc,x6,x8,x9,x10,_⟩
      ·cases x6
      ·injection x6 with y1 y2 y3 y4
       subst y1
       rw[x8]
       have:=p1 _ _ (x4 _ _ x8)
       rw[q1 _ _ J] at this
       injection this with this
       rw[this]
     have s0:Sat h (pt id (.cells N (cs++rest) false)::X::S):=⟨s.wf,m',r',p1,p2,p3,x1,x2,x3,x4,x5,An,x7⟩
     have s1:=s0.put (k:=0) (o':=.cells N ((cs++rest).take (n*k)++(ds++(cs++rest).drop (n*k+ds.length))) false) rfl
     refine⟨_,_,rfl,Sat.gO s1 fun a' r'' ha=>⟨oU,.inr ⟨id,n+m,.exact c,N,rest.drop ds.length,rfl,?_,by grind,by grind,?_,e4,y_⟩⟩⟩
     ·have ha':a' id=some (.cells N ((cs++rest).take (n*k)++(ds++(cs++rest).drop (n*k+ds.length))) false):=ha
      simp_all[yb]
     ·grind
    |false =>
     rw[aK,I n e1.symm,ai,w_ (q1 _ _ J) (by grind) (by omega)]
     rw[gX,←e1,mz]
     have:=vg h n _ s e1.symm rV
     exact⟨_,_,rfl,(this.oc [1]).drop⟩
   |rest e' alt =>
    obtain⟨ek,rfl,rfl,e7⟩:=e4
    have ek:=ek.symm
    subst ek
    simp only[eW,ai,iw,fF] at J e2 ⊢
    have E9:kP h id 0 k=n:=by
     simp only[kP,q1 _ _ J]
     grind[Nat.mul_div_cancel]
    rw[E9]
    rw[show Nat.ble (n+m) n=false by
     grind[aG],aK,I n e1.symm,show Nat.ble 2 ((n+m)*k)=true from aG.2 (by
      have:2*1≤(n+m)*k:=qQ (by omega) h1
      omega),iy,ai,w_ (q1 _ _ J) (by omega) (by omega),q1 _ _ J]
    simp only
    obtain⟨m',r',p1,p2,p3,x1,x2,x3,x4,x5,⟨_,x6⟩,x7⟩:=s.ok
    have An:x1 id=some (.cells N cs false):=by
     grind
    have s0:Sat h (pt id (.cells N cs false)::X::S):=⟨s.wf,m',r',p1,p2,p3,x1,x2,x3,x4,x5,An,x7⟩
    have:=vg (h.put id none) n _ s0.kill e1.symm rV
    rw[gX,fS (by omega)]
    exact⟨_,_,rfl,this⟩
theorem iV (s:Sat h (.arr k v cs::.arr k w ds::S)){i:TypeInfo}(hu:P.underlying t=some (.slice e))(hi:P.info? e=some i)(J:zeroT P e=some z)(hk:i.size=k)(hb:i.bytes≤4096)(hl:z.cells.length=k)
 (h1:1≤k)(I:cs.length+ds.length≤1073741824):
  ∃v' h',appendV P h #[t,t] v w=some (v',h')∧Sat h' (.arr k v' (cs++ds)::.arr k w ds::S):=PG (FK _ _ _) s hu hi J hk hb hl h1 I
end
section
variable {v w x:V}
theorem Sat.fh {l:List V}(s:Sat h S)(J:getA S j=some (pt id (.cells n cs false)))(hs:bj P t=some n)(hl:l.length=n)(I:l.all storable=true):
  ∃h₁,fu P h t (.ptr id 0) (.agg l)=some h₁∧Sat h₁ (setA S j (pt id (.cells n l false))):=by
 refine⟨h.put id (some (.cells n l false)),?_,s.put J⟩
 simp only[fu,hs,V.cells,I,hl,eW,iy,ai,wrN,s.row J]
 grind[aG]
theorem k9 (s:Sat h S)(hu:P.underlying t=some (.slice e))(hz:zeroT P e=some z)(hk:bj P e=some k)(hl:z.cells.length=k)(h1:1≤k)(h2:k≤65536)(J:x.cells.length=k)(I:x.cells.all storable=true):
  ∃v h',buildSliceV P h t 1 [(0,x)]=some (v,h')∧Sat h' (.arr k v x.cells::S):=by
 refine⟨.sl h.next 0 1 (.exact 1),newRow h x.cells,?_,?_⟩
 ·grind[buildSliceV,repeatL,fillV,Nat.beq_refl,aG]
 ·refine(s.new _).gO fun m r hm=>⟨I,.inr ⟨h.next,1,.exact 1,k,[],rfl,?_,by omega,by omega,rfl,by omega,aS _⟩⟩
  rw[hm,J,iw]
end
section
variable {v w x:V}
theorem ViewM.slice {m:PM}(hv:ViewM m v l)(rF:a≤b)(hb:b≤l.length): ViewM m (slR v a b) ((l.take b).drop a):=by
 have I:∀x∈(l.take b).drop a,x<256:=fun x hx=>hv.1 x (kX (l7 hx))
 have hlen:((l.take b).drop a).length=b-a:=by grind
 obtain⟨hl,J⟩:=hv
 rcases J with⟨rfl|⟨ea,rfl⟩,rfl⟩|⟨id,off,cap,n,cs,st,rfl,hg,h1,h2,h3,h4⟩
 ·simp at hb
  subst_vars
  exact⟨by simp,.inl ⟨.inl rfl,by simp⟩⟩
 ·simp at hb
  subst_vars
  exact⟨by simp,.inl ⟨.inr ⟨ea,rfl⟩,by simp⟩⟩
 ·have EH:∀o,o=off+a∨b-a=0→(cs.drop o).take (b-a)=ofBytes ((l.take b).drop a):=by
   grind[ofBytes,List.map_take,List.map_drop,List.drop_take,List.drop_drop]
  cases cap with
  |exact c =>
   refine⟨I,.inr ⟨id,_,_,n,cs,st,by rw[hlen];rfl,hg,h1,?_,?_,?_⟩⟩<;>grind[eO]
  |rest e alt =>
   exact⟨I,.inr ⟨id,_,_,n,cs,st,by rw[hlen];rfl,hg,h1,by omega,by grind,rfl⟩⟩
theorem jh (hX:cq X (cz v l))(I:a≤b)(J:b≤l.length): cq X (cz (slR v a b) ((l.take b).drop a)):=fun m r hm =>
 (hX m r hm).imp (fun h=>ViewM.slice h I J) (fun h=>ViewM.slice h I J)
theorem uI (I:cq X (cz v l))(J:a≤l.length): cq X (cz (slR v a l.length) (l.drop a)):=by
 grind[jh,List.take_length]
theorem XP (I:cq X (cz v l))(J:b≤l.length): cq X (cz (slR v 0 b) (l.take b)):=by
 have:=jh I (eX b) J
 rwa [gX] at this
theorem Sat.ot (s:Sat h S): Sat h (.arr k .aO []::S):=(s.fH aa).gO fun _ _ _=>⟨rfl,.inl ⟨rfl,rfl⟩⟩
theorem Sat.rW (s:Sat h S): Sat h (aW .aO []::S):=(s.fH aa).gO fun _ _ _=>⟨by simp,.inl ⟨rfl,rfl⟩⟩
theorem Sat.qH (s:Sat h S): Sat h (Bp .aO []::S):=(s.fH aa).gO fun _ _ _=>⟨by simp,.inl ⟨.inl rfl,rfl⟩⟩
theorem DT (s:Sat h S){i:TypeInfo}(hu:P.underlying t=some (.slice e))(hi:P.info? e=some i)(I:zeroT P e=some z)(J:i.size=k)(hb:i.bytes≤4096)(hl:z.cells.length=k)
 (h1:1≤k)(hn:n<1073741824):
  ∃id h',makeSliceV P h t (.int .i64 (n:Int)) (.int .i64 (n:Int))=some (.sl id 0 n (.exact n),h')∧Sat h' (pt id (.cells (n*k) (repeatL z.cells n) false)::S):=by
 refine⟨h.next,h.new (.cells (n*k) (repeatL z.cells n) false),?_,s.new _⟩<;>grind[makeSliceV,aG,Nat.beq_refl]
theorem o9 {o:Nat}{c:Cap}(I:v=.sl i o n c)(hu:P.underlying t=some (.slice e)): lenV P h t v=some (.int .i64 n):=by subst I;exact MK hu
theorem rX (I:v=.aO)(hu:P.underlying t=some (.slice e)): lenV P h t v=some (.int .i64 0):=by subst I;exact IX hu
theorem Z4 {ts:Array TypeId}{k:IntKind}{a b:Int}: builtinV P h .min ts [.int k a,.int k b]=some (.int k (min a b),h):=by
 grind[builtinV,foldV,Af,dI]
theorem Ao {c:Go.Call}{b:Builtin}(I:c.callee=.builtin b)(J:lookArgs E c.args.toList=some args)(hf:builtinV P h b c.argTypes args=some (r,h')): opE P E h (.call c)=some (r,h'):=by
 simp only[opE,I,J,hf]
end
def slR3 (v:V)(a b m:Nat): V:=match v with
 |.sl id off _ _=>.sl id (cond (Nat.beq m a) off (off+a*1)) (b-a) (.exact (m-a))
 |v=>v
section
variable {v w x:V}
theorem ViewM.slice3 {m:PM}(hv:ViewM m v l)(rF:a≤b)(hb:b≤c)(hc:c≤l.length)(hl:1≤l.length): ViewM m (slR3 v a b c) ((l.take b).drop a):=by
 have I:∀x∈(l.take b).drop a,x<256:=fun x hx=>hv.1 x (kX (l7 hx))
 have hlen:((l.take b).drop a).length=b-a:=by grind
 obtain⟨_,J⟩:=hv
 rcases J with⟨_,rfl⟩|⟨id,off,cap,n,cs,st,rfl,hg,h1,h2,h3,h4⟩
 ·grind
 ·have EH:∀o,o=off+a∨b-a=0→(cs.drop o).take (b-a)=ofBytes ((l.take b).drop a):=by
   grind[ofBytes,List.map_take,List.map_drop,List.drop_take,List.drop_drop]
  refine⟨I,.inr ⟨id,_,_,n,cs,st,by rw[hlen];rfl,hg,h1,?_,?_,?_⟩⟩<;>grind[eO]
theorem DU (hX:cq X (cz v l))(I:a≤b)(J:b≤c)(hc:c≤l.length)(hl:1≤l.length): cq X (cz (slR3 v a b c) ((l.take b).drop a)):=fun m r hm =>
 (hX m r hm).imp (fun h=>ViewM.slice3 h I J hc hl) (fun h=>ViewM.slice3 h I J hc hl)
theorem zV (J:View h v l)(rF:a≤b)(hb:b≤c)(hc:c≤l.length)(hl:1≤l.length): sliceV Tryz.prog h 23 v (some a) (some b) (some c)=some (slR3 v a b c):=by
 obtain⟨_,I⟩:=J
 rcases I with⟨_,rfl⟩|⟨id,off,cap,n,cs,st,rfl,hg,h1,h2,h3,h4⟩
 ·grind
 ·cases cap with
  |exact q =>
   simp only[sliceV,slR3,aM,dY,gq]
   grind[aG]
  |rest e alt =>
   have he:e=1:=h4
   subst he
   simp only[sliceV,slR3,aM,dY,gq,eW]
   grind[Nat.blt,aG]
theorem gL (I:View h v l)(J:1≤l.length): ∃id off cap,v=.sl id off l.length cap:=by
 rcases I.2 with⟨_,rfl⟩|⟨id,off,cap,_,_,_,rfl,_⟩<;>grind
theorem cn {k:IntKind}{n:Int}(I:0≤n): jo (some (V.int k n))=some (some n.toNat):=by
 grind[jo,bndV]
end
section
variable {v w x:V} {m:List Nat}
theorem Vw (s:Sat h S)(J:getA S j=some (.arr q v cs))(hi:i*q+q≤cs.length)(hq:1≤q)(hu:P.underlying t=some (.slice e))(I:bj P e=some q):
  ∃id off,indexAddrV P t v (.int .i64 (i:Int))=some (.ptr id off)∧(isAggT P e=some true→loadV P h e (.ptr id off)=some (.agg ((cs.drop (i*q)).take q))):=by
 obtain⟨m,r,h1,h2,h3⟩:=s.at J
 rcases h3.2 with⟨_,rfl⟩|⟨id,n,cap,N,rest,rfl,hg,e1,e2,_⟩
 ·grind
 ·refine⟨id,i*q,?_,fun ht => ?_⟩
  ·simp only[indexAddrV,hu,I,b8]
   have:i<n:=by
    have h4:i*q+q=(i+1)*q:=by grind
    rw[h4,e1] at hi
    exact Co (Cg hi hq)
   grind
  ·rw[RW ht I (h1 _ _ hg) (by grind) (by omega)]
   grind
theorem Sat.Vx (s:Sat h (aW v l::X::S))(hX:cq X (cz w m)): ∀i∈rowIds w,i∉rowIds v:=by
 intro i hi J
 obtain⟨a,r,h1,h2,h3,b,c,g1,g2,g3,g4,d,e,k1,k2,k3,k4,k5⟩:=s.ok
 have hb:=IV g4 i J
 have hw:∀q:PM,ViewM q w m→q i≠none:=fun q hq=>by
  rcases hq.2 with⟨rfl|⟨ea,rfl⟩,_⟩|⟨id,off,cap,n,cs,st,rfl,hg,_⟩<;>grind[rowIds]
 rcases hX _ _ k4 with hq|hq
 ·cases hd:d i with
  |none=>grind
  |some o =>
   rcases g1 i with I|I
   ·grind
   ·rw[k2 _ _ hd] at I;cases I
 ·cases RY:b i with
  |none=>grind
  |some o =>
   rcases h3 i with I|I
   ·rw[g2 _ _ RY] at I;cases I
   ·grind
end
abbrev dP := List (Int×V×Nat)
def i_ (κ:IntKind)(e:Int×V×Nat): V×V×Nat:=(.int κ e.1,e.2)
abbrev MS := i_ .i64
def lookE (n:Int): dP→Option V
 |[]=>none
 |e::l=>if e.1=n then some e.2.1 else lookE n l
def m7 (n:Int)(v:V)(c:Nat): dP→dP
 |[]=>[(n,v,c)]
 |e::l=>if e.1=n then(e.1,v,e.2.2)::l else e::m7 n v c l
def o_ (n:Int): dP→dP
 |[]=>[]
 |e::l=>if e.1=n then l else e::o_ n l
def clkE (n:Int)(c:Nat)(l:dP): Nat:=match lookE n l with
 |some _=>c
 |none=>c+1
abbrev lB (κ:IntKind)(id:Nat)(l:dP)(c:Nat): aE:=pt id (.map (l.map (i_ κ)) c)
abbrev FL := lB .i64
def idxE (n:Int): dP→Nat→Option (Nat×V)
 |[],_=>none
 |e::l,i=>if e.1=n then some (i,e.2.1) else idxE n l (i+1)
theorem mq (a b:Int): intBeq a b=decide (a=b):=by
 grind[sP,pK]
theorem uJ {k:IntKind}{n:Int}: ∀(l:dP) (i:Nat),findK (.int k) (.int κ n) (l.map (i_ κ)) i=some (idxE n l i):=by
 intro l
 induction l<;>grind[findK,i_,keyBeq,dI,mq,idxE]
theorem pW {n:Int}: ∀(l:dP) (i:Nat),(idxE n l i).map (·.2)=lookE n l:=by
 intro l
 induction l<;>grind[idxE,lookE]
theorem I_ {n:Int}: ∀(l:dP) (i j:Nat) (v:V),idxE n l i=some (j,v)→i≤j:=by
 intro l
 induction l<;>grind[idxE]
theorem XQ {n:Int}{v:V}: ∀(l:dP) (i j:Nat) (u:V),idxE n l i=some (j,u)→setNth (l.map (i_ κ)) (j-i) (fun e=>(e.1,v,e.2.2))=(m7 n v c l).map (i_ κ):=by
 intro l
 induction l with
 |nil=>intro i j u h;cases h
 |cons e l J =>
  intro i j u h
  simp only[idxE] at h
  simp only[m7,ey,setNth]
  by_cases he:e.1=n
  ·rw[aF he] at h;injection h with h;injection h with I h2
   subst I
   rw[aF he,yg]
   rfl
  ·rw[ay he] at h
   have h3:=I_ _ _ _ _ h
   grind[eO]
theorem Vy {n:Int}: ∀(l:dP) (i j:Nat) (u:V),idxE n l i=some (j,u)→j9 (l.map (i_ κ)) (j-i)=(o_ n l).map (i_ κ):=by
 intro l
 induction l with
 |nil=>intro i j u h;cases h
 |cons e l I =>
  intro i j u h
  simp only[idxE] at h
  simp only[o_,ey,j9]
  by_cases he:e.1=n
  ·simp_all
  ·rw[ay he] at h
   have J:=I_ _ _ _ _ h
   grind[eO]
theorem S9 {n:Int}{v:V}: ∀(l:dP),lookE n l=none→m7 n v c l=l++[(n,v,c)]:=by
 intro l
 induction l<;>grind[lookE,m7]
theorem PI {n:Int}: ∀(l:dP),lookE n l=none→o_ n l=l:=by
 intro l
 induction l<;>grind[lookE,o_]
section
variable {v:V} {k:IntKind} {l:dP} {n:Int}
theorem Sat.XR (s:Sat h S)(I:getA S j=some (lB κ id l c))(hu:P.underlying t=some (.map kt et))(J:P.underlying kt=some (.int k))(hz:zeroT P et=some z):
  dK P h t (.map id) (.int κ n) true=some (match lookE n l with|some v=>.aI [v,.bool true]|none=>.aI [z,.bool false]):=by
 have hg:=s.row I
 simp only[dK,lookupV,hu,J,hz,hg,keyBeq,dI,ai,uJ]
 rw[←pW l 0]
 cases idxE n l 0<;>grind
theorem Sat.XS (s:Sat h S)(I:getA S j=some (lB κ id l c))(hu:P.underlying t=some (.map kt et))(J:P.underlying kt=some (.int k))(hz:zeroT P et=some z):
  dK P h t (.map id) (.int κ n) false=some (match lookE n l with|some v=>v|none=>z):=by
 have hg:=s.row I
 simp only[dK,lookupV,hu,J,hz,hg,keyBeq,dI,ai,uJ]
 rw[←pW l 0]
 cases idxE n l 0<;>grind
theorem Sat.update (s:Sat h S)(hj:getA S j=some (lB κ id l c))(hu:P.underlying t=some (.map kt et))(hk:P.underlying kt=some (.int k)):
  ∃h',mapUpdateV P h t (.map id) (.int κ n) v=some h'∧Sat h' (setA S j (lB κ id (m7 n v c l) (clkE n c l))):=by
 have hg:=s.row hj
 refine⟨h.put id (some (.map ((m7 n v c l).map (i_ κ)) (clkE n c l))),?_,s.put hj⟩
 simp only[mapUpdateV,hu,hk,hg,keyBeq,dI,ai,uJ]
 have I:=pW (n:=n) l 0
 cases J:idxE n l 0 with
 |none =>
  rw[J] at I
  have I:lookE n l=none:=I.symm
  simp only[clkE,I,S9 l I,List.map_append]
  rfl
 |some q =>
  obtain⟨i,u⟩:=q
  rw[J] at I
  have I:lookE n l=some u:=I.symm
  simp only[clkE,I]
  rw[←XQ (v:=v) (c:=c) l 0 i u J,l9]
theorem Sat.delete (s:Sat h S)(J:getA S j=some (lB κ id l c))(hu:P.underlying t=some (.map kt et))(hk:P.underlying kt=some (.int k)):
  ∃h',ny P h t (.map id) (.int κ n)=some h'∧Sat h' (setA S j (lB κ id (o_ n l) c)):=by
 have hg:=s.row J
 simp only[ny,hu,hk,hg,keyBeq,dI,ai,uJ]
 have I:=pW (n:=n) l 0
 cases hq:idxE n l 0 with
 |none =>
  rw[hq] at I
  have I:lookE n l=none:=I.symm
  refine⟨h,rfl,?_⟩
  rw[PI l I]
  have:∀(S:List aE) (j:Nat) (A:aE),getA S j=some A→setA S j A=S:=by
   intro S
   induction S with
   |nil=>intro j A h;cases h
   |cons B S ih =>
    intro j A h
    cases j<;>grind[getA,setA]
  rw[this S j _ J]
  exact s
 |some q =>
  obtain⟨i,u⟩:=q
  refine⟨_,rfl,?_⟩
  have e:=Vy (κ:=κ) l 0 i u hq
  rw[l9] at e
  rw[e]
  exact s.put J
theorem Sat.Z5 (s:Sat h S)(I:getA S j=some (lB κ id l c))(hu:P.underlying t=some (.map kt et)): lenV P h t (.map id)=some (.int .i64 (l.length:Int)):=by
 have J:=s.row I
 simp_all[lenV]
end
section
variable {z:Operand} {a b v:V}
theorem OpR.upd (J:∀env,gS env E→evOp C (ev C 0) env h o=(match mapUpdateV C.P h t a b v with|some h'=>some (bR,h')|none=>none))
 (ho:∃h₁,mapUpdateV C.P h t a b v=some h₁∧Sat h₁ S'): OpR C E h o fun _ h₁=>Sat h₁ S':=by
 obtain⟨h₁,e1,I⟩:=ho
 exact⟨bR,h₁,I,fun env he=>⟨0,by grind⟩⟩
theorem OpR.mapUpdate (I:o.op=.mapUpdate t x y z)(J:aT E x=some a)(hy:aT E y=some b)(hz:aT E z=some v)
 (ho:∃h₁,mapUpdateV C.P h t a b v=some h₁∧Sat h₁ S'): OpR C E h o fun _ h₁=>Sat h₁ S':=by
 refine OpR.upd (t:=t) (a:=a) (b:=b) (v:=v) (fun env he => ?_) ho
 simp only[evOp,I,bE he J,bE he hy,bE he hz,sF]
 cases mapUpdateV C.P h t a b v<;>rfl
theorem OpR.builtin {bi:Builtin}{R:V→H→Prop}(I:o.op=.call cl)(J:cl.callee=.builtin bi)(ha:lookArgs E cl.args.toList=some args)(ho:∃v h₁,builtinV C.P h bi cl.argTypes args=some (v,h₁)∧R v h₁): OpR C E h o R:=by
 grind[OpR.of,opE]
theorem OpR.rY {m:List Nat}(hP:C.P=Tryz.prog)(s:Sat h (aW v l::X::S))(hX:cq X (cz u m))(I:o.op=.call cl)(hc:cl.callee=.builtin .append)(J:cl.argTypes = #[23,23])(ha:lookArgs E cl.args.toList=some [v,u])
 (ej:l.length+m.length≤140737488355328): OpR C E h o fun v' h₁=>Sat h₁ (aW v' (l++m)::X::S):=by
 grind[KI,OpR.builtin,builtinV]
theorem OpR.rZ (J:C.P=Tryz.prog)(s:Sat h S)(I:o.op=.makeSlice t x y)(ht:t=23)(hx:aT E x=some (.int .i64 0))(hy:aT E y=some (.int .i64 (c:Int)))(hc:c<1073741824): OpR C E h o fun v' h₁=>Sat h₁ (aW v' []::S):=by
 grind[MO,OpR.of,yy]
theorem OpR.Bx (J:C.P=Tryz.prog)(s:Sat h S)(I:o.op=.makeSlice t x y)(ht:t=23)(hx:aT E x=some (.int .i64 (c:Int)))(hy:aT E y=some (.int .i64 (c:Int)))(hc:c<1073741824): OpR C E h o fun v' h₁=>Sat h₁ (aW v' (List.replicate c 0)::S):=by
 grind[MP,OpR.of,yy]
theorem OpR.KK {m:List Nat}{p:Nat}(hP:C.P=Tryz.prog)(s:Sat h (aW v l::X::S))(hX:cq X (cz u m))(I:o.op=.call cl)(hc:cl.callee=.builtin .copy)(J:cl.argTypes = #[23,23])(ha:lookArgs E cl.args.toList=some [slR v p q,u])
 (hpq:p<q)(hq:q≤l.length)(hm:1≤m.length): OpR C E h o fun _ h₁=>Sat h₁ (aW v (bx l p (m.take (q-p)))::X::S):=by
 grind[FH,OpR.builtin,builtinV]
theorem OpR.ER (J:C.P=Tryz.prog)(s:Sat h S)(I:o.op=.buildSlice t 1 ps)(ht:t=23)(hx:lookParts E ps.toList=some [(0,.int .u8 (n:Int))])(hn:n<256): OpR C E h o fun v' h₁=>Sat h₁ (aW v' [n]::S):=by
 grind[MQ,OpR.of,ob]
end
section
def lookL (n:Int): List (Int×α)→Option α
 |[]=>none
 |e::l=>if e.1=n then some e.2 else lookL n l
def cN (n:Int)(a:α): List (Int×α)→List (Int×α)
 |[]=>[(n,a)]
 |e::l=>if e.1=n then(n,a)::l else e::cN n a l
def ko (n:Int): List (Int×α)→List (Int×α)
 |[]=>[]
 |e::l=>if e.1=n then l else e::ko n l
theorem jH {n k:Int}{a:α}: ∀l:List (Int×α),lookL k (cN n a l)=if n=k then some a else lookL k l:=by
 intro l
 induction l<;>grind[cN,lookL]
theorem ou {n:Int}: ∀ {l:List (Int×α)},lookL n l=none↔n∉l.map (·.1):=by
 intro l
 induction l<;>grind[lookL]
theorem DV {n k:Int}: ∀ {l:List (Int×α)},(l.map (·.1)).Nodup→lookL k (ko n l)=if n=k then none else lookL k l:=by
 intro l
 induction l<;>grind[ko,lookL,ou]
theorem r5 {n:Int}{a:α}: ∀ {l:List (Int×α)} {k:Int},k∈(cN n a l).map (·.1)↔k=n∨k∈l.map (·.1):=by
 intro l
 induction l<;>grind[cN]
theorem kI {n:Int}{a:α}: ∀ {l:List (Int×α)},(l.map (·.1)).Nodup→((cN n a l).map (·.1)).Nodup:=by
 intro l
 induction l<;>grind[cN,r5]
theorem PJ {n:Int}: ∀ {l:List (Int×α)} {k:Int},k∈(ko n l).map (·.1)→k∈l.map (·.1):=by
 intro l
 induction l<;>grind[ko]
theorem vq {n:Int}: ∀ {l:List (Int×α)},(l.map (·.1)).Nodup→((ko n l).map (·.1)).Nodup:=by
 intro l
 induction l<;>grind[ko,PJ]
def f_ (f:V→α→aE): dP→List (Int×α)→aE
 |[],[]=>.pu True
 |e::l,x::m=>.an (.an (.pu (e.1=x.1)) (f e.2.1 x.2)) (f_ f l m)
 |_,_=>.pu False
variable {f:V→α→aE} {a b:PM}
theorem vr : ∀ {l:dP} {m:List (Int×α)},(f_ f l m).p a b→l.map (·.1)=m.map (·.1):=by
 intro l
 induction l with
 |nil=>intro m h;cases m with
  |nil=>rfl
  |cons x m=>exact h.elim
 |cons e l I=>intro m h;cases m with
  |nil=>exact h.elim
  |cons x m=>simp only[ey];rw[h.1.1,I h.2]
theorem qI {n:Int}: ∀ {l:dP} {m:List (Int×α)},(f_ f l m).p a b→(lookE n l=none∧lookL n m=none)∨∃u x,lookE n l=some u∧lookL n m=some x∧(f u x).p a b:=by
 intro l
 induction l with
 |nil=>intro m h;cases m with
  |nil=>exact .inl ⟨rfl,rfl⟩
  |cons x m=>exact h.elim
 |cons e l J=>intro m h;cases m with
  |nil=>exact h.elim
  |cons x m =>
   obtain⟨⟨I,h2⟩,h3⟩:=h
   have I:e.1=x.1:=I
   grind[lookE,lookL]
theorem MT {n:Int}{x:α}(hu:(f u x).p a b): ∀ {l:dP} {m:List (Int×α)},(f_ f l m).p a b→(f_ f (m7 n u c l) (cN n x m)).p a b:=by
 intro l
 induction l with
 |nil=>intro m h;cases m with
  |nil=>exact⟨⟨rfl,hu⟩,aa⟩
  |cons x m=>exact h.elim
 |cons e l ih=>intro m h;cases m with
  |nil=>exact h.elim
  |cons y m =>
   obtain⟨⟨I,h2⟩,J⟩:=h
   have I:e.1=y.1:=I
   simp only[m7,cN,←I]
   by_cases he:e.1=n
   ·rw[aF he,aF he];exact⟨⟨he,hu⟩,J⟩
   ·rw[ay he,ay he];exact⟨⟨I,h2⟩,ih J⟩
theorem MU {n:Int}: ∀ {l:dP} {m:List (Int×α)},(f_ f l m).p a b→(f_ f (o_ n l) (ko n m)).p a b:=by
 intro l
 induction l with
 |nil=>intro m h;cases m with
  |nil=>trivial
  |cons x m=>exact h.elim
 |cons e l J=>intro m h;cases m with
  |nil=>exact h.elim
  |cons y m =>
   obtain⟨⟨I,h2⟩,h3⟩:=h
   have I:e.1=y.1:=I
   simp only[o_,ko,←I]
   by_cases he:e.1=n
   ·grind
   ·rw[ay he,ay he];exact⟨⟨I,h2⟩,J h3⟩
theorem aX.PK (I:∀u x,aX (f u x)): ∀(l:dP) (m:List (Int×α)),aX (f_ f l m):=by
 intro l
 induction l with
 |nil=>intro m;cases m<;>exact aX.pu _
 |cons e l J=>intro m;cases m with
  |nil=>exact aX.pu _
  |cons x m=>exact aX.an (aX.an (aX.pu _) (I _ _)) (J m)
def iD (c:Nat): Nat→dP→Prop
 |_,[]=>True
 |b,e::l=>b≤e.2.2∧e.2.2<c∧iD c (e.2.2+1) l
theorem KL : ∀ {l:dP} {b I:Nat},I≤b→iD c b l→iD c I l:=by
 intro l
 cases l with
 |nil=>intro b I _ _;trivial
 |cons e l=>intro b I h J;exact⟨b9 h J.1,J.2⟩
theorem MV {k:Int}(hn:n=c): ∀ {l:dP} {b:Nat},b≤c→iD c b l→iD (clkE k c l) b (m7 k u n l):=by
 subst hn
 intro l
 induction l with
 |nil=>intro b J _;exact⟨J,Cr _,aa⟩
 |cons e l ih =>
  intro b J h
  have I:=ih (b:=e.2.2+1) (by have:=h.2.1;omega) h.2.2
  by_cases he:e.1=k
  ·simp only[m7,clkE,lookE,aF he];exact h
  ·simp only[m7,clkE,lookE,ay he]
   refine⟨h.1,?_,I⟩
   have:=h.2.1
   split<;>omega
theorem MW {k:Int}: ∀ {l:dP} {b:Nat},iD c b l→iD c b (o_ k l):=by
 intro l
 induction l with
 |nil=>intro b h;exact h
 |cons e l I =>
  intro b h
  simp only[o_]
  by_cases he:e.1=k
  ·rw[aF he];exact KL (by have:=h.1;omega) h.2.2
  ·rw[ay he];exact⟨h.1,h.2.1,I h.2.2⟩
def js (κ:IntKind)(f:V→α→aE)(v:V)(m:List (Int×α)): aE :=
 xs fun id:Nat=>xs fun l:dP=>xs fun c:Nat=>star [.pu (v=.map id∧iD c 0 l∧(m.map (·.1)).Nodup),lB κ id l c,f_ f l m]
abbrev pn {α:Type}(f:V→α→aE)(v:V)(m:List (Int×α)): aE:=js .i64 f v m
section
variable {v:V} {k:IntKind} {m:List (Int×α)} {n:Int} {x:α}
theorem fR : Sat h (js κ f v m::S)↔∃id l c,v=.map id∧iD c 0 l∧(m.map (·.1)).Nodup∧Sat h (lB κ id l c::f_ f l m::S):=by
 simp[js,gT,aZ,mL,and_assoc]
theorem pX : Sat h (pn f v m::S)↔∃id l c,v=.map id∧iD c 0 l∧(m.map (·.1)).Nodup∧Sat h (FL id l c::f_ f l m::S):=fR
theorem jI (hf:∀u x,aX (f u x))(s:Sat h (js κ f v m::S))(hu:P.underlying t=some (.map kt et))(I:P.underlying kt=some (.int k))(J:zeroT P et=some z):
  (lookL n m=none∧dK P h t v (.int κ n) true=some (.aI [z,.bool false])∧dK P h t v (.int κ n) false=some z) ∨
  ∃u x,lookL n m=some x∧dK P h t v (.int κ n) true=some (.aI [u,.bool true])∧dK P h t v (.int κ n) false=some u∧Sat h (f u x::js κ f v m::S):=by
 obtain⟨id,l,c,rfl,hb,hn,s1⟩:=fR.1 s
 have e2:=s1.XR (n:=n) (j:=0) rfl hu I J
 have e1:=s1.XS (n:=n) (j:=0) rfl hu I J
 obtain⟨a,b,q1,q2,q3⟩:=s1.at (k:=1) rfl
 rcases qI (n:=n) q3 with⟨g1,g2⟩|⟨u,x,g1,g2,g3⟩
 ·grind
 ·rw[g1] at e1 e2
  refine .inr ⟨u,x,g2,e2,e1,?_⟩
  have s2:Sat h (f_ f l m::lB κ id l c::S):=s1.oc [1]
  have s3:=s2.dup (aX.PK hf l m)
  have s4:Sat h (f u x::f_ f l m::lB κ id l c::S):=s3.gO fun a' b' h'=>by
   grind[qI]
  have s5:Sat h (lB κ id l c::f_ f l m::f u x::S):=s4.oc [2,1]
  exact(fR.2 ⟨id,l,c,rfl,hb,hn,s5⟩:Sat h (js κ f (.map id) m::f u x::S)).oc [1]
theorem kJ (I:∀u x,aX (f u x))(s:Sat h (f u x::js κ f v m::S))(hu:P.underlying t=some (.map kt et))(J:P.underlying kt=some (.int k)):
  ∃h',mapUpdateV P h t v (.int κ n) u=some h'∧Sat h' (js κ f v (cN n x m)::S):=by
 have s0:Sat h (js κ f v m::f u x::S):=s.oc [1]
 obtain⟨id,l,c,rfl,hb,hn,s1⟩:=fR.1 s0
 obtain⟨h',e1,e2⟩:=s1.update (n:=n) (v:=u) (j:=0) rfl hu J
 refine⟨h',e1,?_⟩
 have e3:Sat h' (f u x::f_ f l m::lB κ id (m7 n u c l) (clkE n c l)::S):=e2.oc [2,1]
 have e4:Sat h' (f_ f (m7 n u c l) (cN n x m)::lB κ id (m7 n u c l) (clkE n c l)::S):=e3.map fun a b h=>by
  obtain⟨p1,p2,d1,d2,d3,d4,p3,p4,d5,d6,d7,d8,d9⟩:=h
  exact⟨fun _=>none,p4,fun _=>.inl rfl,fun _ _ h=>(by cases h),PM.le_trans d7 d3,MT (I _ _ _ _ d4) (aX.PK I _ _ _ _ d8),d9⟩
 exact fR.2 ⟨id,_,_,rfl,MV rfl (eX _) hb,kI hn,e4.oc [1]⟩
theorem Ap (s:Sat h (js κ f v m::S))(hu:P.underlying t=some (.map kt et))(I:P.underlying kt=some (.int k)):
  ∃h',ny P h t v (.int κ n)=some h'∧Sat h' (js κ f v (ko n m)::S):=by
 obtain⟨id,l,c,rfl,J,hn,s1⟩:=fR.1 s
 obtain⟨h',e1,e2⟩:=s1.delete (n:=n) (j:=0) rfl hu I
 refine⟨h',e1,?_⟩
 have e3:Sat h' (f_ f l m::lB κ id (o_ n l) c::S):=e2.oc [1]
 have e4:Sat h' (f_ f (o_ n l) (ko n m)::lB κ id (o_ n l) c::S):=e3.gO fun a b h=>MU h
 exact fR.2 ⟨id,_,_,rfl,MW J,vq hn,e4.oc [1]⟩
theorem FM (s:Sat h (js κ f v m::S))(hu:P.underlying t=some (.map kt et)): lenV P h t v=some (.int .i64 (m.length:Int)):=by
 obtain⟨id,l,c,rfl,J,hn,s1⟩:=fR.1 s
 have e:=s1.Z5 (j:=0) rfl hu
 obtain⟨a,b,q1,q2,I⟩:=s1.at (k:=1) rfl
 have:=iA List.length (vr I)
 grind
theorem FN (s:Sat h (pt id (.map [] 0)::S)): Sat h (js κ f (.map id) []::S):=by
 have s1:Sat h (f_ f [] []::pt id (.map [] 0)::S):=s.fH aa
 exact fR.2 ⟨id,[],0,rfl,aa,by simp,s1.oc [1]⟩
theorem pq (s:Sat h (pt id (.map [] 0)::S)): Sat h (pn f (.map id) []::S):=FN s
theorem FO (s:Sat h S)(I:getA S j=some (js κ f v m)): ∃id,v=.map id:=by
 have s1:=s.take j I
 grind[fR]
end
end
theorem OpR.delete {u:TypeId}{m k:V}(I:o.op=.call cl)(J:cl.callee=.builtin .delete)(hty:cl.argTypes = #[t,u])(ha:lookArgs E cl.args.toList=some [m,k])
 (ho:∃h₁,ny C.P h t m k=some h₁∧Sat h₁ S'): OpR C E h o fun _ h₁=>Sat h₁ S':=by
 obtain⟨h₁,e1,e2⟩:=ho
 refine OpR.builtin I J ha ⟨.aI [],h₁,?_,e2⟩<;>grind[builtinV]
end Go.Proofs.YtiojppeahfoiaaaGreat.Am
