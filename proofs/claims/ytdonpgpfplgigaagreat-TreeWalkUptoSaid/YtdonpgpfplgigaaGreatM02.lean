/- TreeWalk: a part of its proof; conditions: its statement's. -/
import Derived.Test.YtdonpgpfplgigaaGreatM01
import Derived.Scope
import Derived.Test.YtdonpgpfplgigaaGreatProg
import Derived.KernelRfl
import Derived.Shelf.SlIterI.Sorted
import Derived.Defers
import Derived.Recover
set_option linter.defProp false
namespace Go.Proofs.YtdonpgpfplgigaaGreat.Am
open Go
def aK:=@Tryz.underlying29
def Fk:=@Tryz.func211
abbrev cE:=Nat→Option (List V→H→Option (V×H))
variable {ps:Array (Nat×Operand)} {ops:Array Oper} {st:Bool} {C:gE} {code:Code} {c₀:Ctx} {env:Env} {Q:Ex→List (Nat×V)→H→Prop} {fn:Func} {h h' σ h₁ eP:H} {κ:IntKind} {E E':List (Nat×V)} {R:List (Nat×V)→H→Prop} {d₀:List Deferred} {hs:List H} {fq es l:List Nat} {L rest:List Oper} {args first cap vs cs ds:List V} {a b i c k id n d off j g uU k' q:Nat} {Hs:Nat→H} {early:Nat→Option (Nat×FV)} {Fl:Nat→Prop} {vv:Nat→V} {o':Obj} {x y:Operand} {P:Program} {φ:Prop} {self:Self} {s':St} {α:Type} {td:TypeDesc} {t t' e kt et:TypeId} {r u z:V} {BD:V→H→Prop} {w₀ w:World}
theorem T8 {a b:IntKind}(h:ikBeq a b=true): a=b:=by cases a<;>cases b<;>first|rfl|(simp[ikBeq] at h)
theorem wR {a b:Int}(h:intBeq a b=true): a=b:=by
 cases a<;>cases b<;>simp[intBeq] at h<;>rw[h]
theorem Fo : ∀ {a b:List Nat},natsBeq a b=true→a=b
 |[],[],_=>rfl
 |[],_::_,h=>by simp[natsBeq] at h
 |_::_,[],h=>by simp[natsBeq] at h
 |x::a,y::b,h=>by
  simp only[natsBeq] at h
  cases I:Nat.beq x y with
  |false=>grind
  |true=>rw[I,ah] at h;rw[beq_iff.1 I,Fo h]
theorem Q7 {a b:Cap}(h:a.beq b=true): a=b:=by
 cases a<;>cases b<;>simp[Cap.beq] at h
 ·rw[h]
 ·grind
mutual
theorem Hj : ∀(a b:V),V.beq a b=true→a=b
 |.bool a,b,h=>by cases b<;>simp[V.beq] at h;rw[h]
 |.int j a,b,h=>by
  cases b<;>simp[V.beq] at h
  rw[T8 h.1,wR h.2]
 |.str a,b,h=>by cases b<;>simp[V.beq] at h;rw[Fo h]
 |.b8,b,h=>by cases b<;>simp[V.beq] at h;rfl
 |.ptr x y,b,h=>by cases b<;>simp[V.beq] at h;rw[h.1,h.2]
 |.aR,b,h=>by cases b<;>simp[V.beq] at h;rfl
 |.sl x y z u,b,h=>by
  cases b<;>simp[V.beq] at h
  rw[h.1.1.1,h.1.1.2,h.1.2,Q7 h.2]
 |.mR,b,h=>by cases b<;>simp[V.beq] at h;rfl
 |.map x,b,h=>by cases b<;>simp[V.beq] at h;rw[h]
 |.fn f x y,b,h=>by
  cases f with
  |func k=>cases b with
   |fn g u v=>cases g with
    |func j =>
     simp[V.beq] at h
     rw[h.1.1,vV x u h.1.2,vV y v h.2]
    |_=>simp[V.beq] at h
   |_=>simp[V.beq] at h
  |_=>cases b<;>simp[V.beq] at h
 |.Ig,b,h=>by cases b<;>simp[V.beq] at h;rfl
 |.iface t v,b,h=>by
  cases b<;>simp[V.beq] at h
  rw[h.1,Hj v _ h.2]
 |.qj,b,h=>by cases b<;>simp[V.beq] at h;rfl
 |.agg l,b,h=>by cases b<;>simp[V.beq] at h;rw[vV l _ h]
 |.aT l,b,h=>by cases b<;>simp[V.beq] at h;rw[vV l _ h]
 |.Qv _,b,h=>by cases b<;>simp[V.beq] at h
 |.sle a,b,h=>by cases b<;>simp[V.beq] at h;rw[h]
 |.vM k x,b,h=>by
  cases b with
  |vM j y =>
   simp[V.beq] at h
   rw[h.2]
   cases k<;>cases j<;>first|rfl|(simp[fkBeq] at h)
  |_=>simp[V.beq] at h
theorem vV : ∀(a b:List V),V.beqL a b=true→a=b
 |[],b,h=>by cases b<;>simp[V.beqL] at h;rfl
 |x::a,b,h=>by
  cases b with
  |nil=>simp[V.beqL] at h
  |cons y b =>
   simp only[V.beqL] at h
   cases I:V.beq x y with
   |false=>rw[I] at h;cases h
   |true=>rw[I,ah] at h;rw[Hj x y I,vV a b h]
end
theorem Hl {m:Nat}: ∀(es:List Nat),(∀idx p,idx<mT m es→es[idx]?=some p→bit m p=true)∧mT m es≤es.length:=by
 intro es
 induction es<;>grind[mT]
theorem T9 {m:Nat}: ∀(es:List Nat),rR m es=true→∀(I Z2 p q:Nat),I≤Z2→es[I]?=some p→es[Z2]?=some q→bit m q=true→bit m p=true:=by
 intro es
 induction es<;>grind[rR]
theorem Nc : ∀(es:List Nat),qf fq i es≤es.length∧∀p,es[qf fq i es]?=some p→bit ((nth fq p).getD 0) i=true:=by
 intro es
 induction es<;>grind[qf]
section
theorem Q8 {o:Oper}{x:Env×V}: ∀(l:List H),sameIn C self L o x l=true→wantedV L x.1 o=true→∀h∈l,∃h',evOp C self x.1 h o=some (x.2,h'):=by
 intro l
 induction l with
 |nil=>simp
 |cons y l I =>
  intro hs hw h hm
  simp only[sameIn,hw,ah] at hs
  cases he:evOp C self x.1 y o with
  |none=>grind
  |some r =>
   grind[Hj]
theorem Im : ∀(l:List Oper) (tr:List (Env×V)) (k:Nat),stayOk C self L fq es hs l tr k=true →
  ∀j o x,l[j]?=some o→tr[j]?=some x→isEff C o.op=false →
   rR ((nth fq (k+j)).getD 0) es=true∧(mT ((nth fq (k+j)).getD 0) es=qf fq (k+j) es ∨
    sameIn C self L o x ((hs.drop (mT ((nth fq (k+j)).getD 0) es)).take (qf fq (k+j) es+1-mT ((nth fq (k+j)).getD 0) es))=true):=by
 intro l
 induction l with
 |nil=>simp
 |cons y l I =>
  intro tr k h j o x ho hx he
  cases tr with
  |nil=>grind
  |cons z tr =>
   simp only[stayOk] at h
   cases j<;>grind[beq_iff]
theorem Yd {ops:List Oper}: ∀(l:List Oper) (tr:List (Env×V)),allW ops l tr=true→∀(i:Nat) (o:Oper) (x:Env×V),l[i]?=some o→tr[i]?=some x→isAlloc true o=true→wantedV ops x.1 o=true:=by
 intro l
 induction l with
 |nil=>simp
 |cons y l I =>
  intro tr h i o x ho hx ha
  cases tr<;>grind[allW]
theorem Js {o:Oper}(h:isAlloc false o=true): isAlloc true o=true∧o.guard=none:=by
 grind[isAlloc]
theorem T_ {s z:St}(hr:ql C self L s=some z):
    ∃Fl st vv Hs,je C self Fl L s st vv (eY C L 0) Hs∧st L.length=z∧L.all (fun o => !JV o.op)=true:=by
  unfold ql at hr
  cases kH:trace C self L L s [s.h] with
  |none=>grind
  |some q =>
      obtain⟨tr,hs,z'⟩:=q
      simp only[kH] at hr
      cases uV:stayOk C self L (ancs L []) (eY C L 0) hs L tr 0 with
      |false=>grind
      |true =>
        rw[uV,ah] at hr
        obtain⟨fl,eD,hW,hr⟩:∃fl,mS C fl L=true∧(∀(i:Nat) (o:Oper) (x:Env×V),L[i]?=some o→tr[i]?=some x→isAlloc fl o=true→isAlloc true o=true∧wantedV L x.1 o=true)∧z'=z:=by
          cases h0:mS C false L with
          |true =>
            rw[h0,ah] at hr
            refine⟨false,h0,fun i o x _ _ ha => ?_,bW hr⟩<;>grind[Js,wantedV]
          |false =>
            grind[Yd]
        subst hr
        simp only[mS,bQ] at eD
        obtain⟨⟨⟨s1,s2⟩,s3⟩,s4⟩:=eD
        obtain⟨st,t1,t2,t3,t4,t5⟩:=T6 L 0 s [s.h] tr hs z' kH
        simp only[fh] at t2 t5
        have WD:∀i o,L[i]?=some o→∀e∈o.after,iu e=true→e.on<i:=fun i o ho e he hb=>by
          have:=Kb L 0 s1 i o ho e he hb;omega
        have aeR:∀i o,L[i]?=some o→∀j,bit ((nth (ancs L []) i).getD 0) j=true→j<i:=fun i o ho j hj =>
          (Ka WD (fun _=>True) i o ho (fun _ _ _ _ _ _ _ _=>trivial) (fun _ _ _=>trivial) j hj).2
        have I:=(BB (C:=C) L 0).1
        have AR:∀p,p∈eY C L 0↔∃o,L[p]?=some o∧isEff C o.op=true:=fun p=>by
          grind[Q1]
        have hHs:∀k p,(eY C L 0)[k]?=some p→hs[k+1]?=some (st (p+1)).h:=fun k p hp=>by
          grind
        have hH0:hs[0]?=some s.h:=by grind
        have aeG:hs.length=(eY C L 0).length+1:=by grind
        have wK:∀i o,L[i]?=some o→∃h,(st i).put o.dst (((tr[i]?).map (·.2)).getD cP) h=some (st (i+1)) ∧
            (wantedV L (st i).env o=true→evOp C self (st i).env (st i).h o=some (((tr[i]?).map (·.2)).getD cP,h))∧(wantedV L (st i).env o=false→((tr[i]?).map (·.2)).getD cP=cP∧h=(st i).h):=fun i o ho=>by
          grind
        -- all but 'same'; it is wanted for 'heapAt'
        have aeS:(∀i o,L[i]?=some o→isEff C o.op=false→∀k,k≤(eY C L 0).length→(∀idx p,idx<k→(eY C L 0)[idx]?=some p→bit ((nth (ancs L []) p).getD 0) i=false) →
              (∀idx p,k≤idx→(eY C L 0)[idx]?=some p→bit ((nth (ancs L []) i).getD 0) p=false) →
              wantedV L (st i).env o=true→∃h',evOp C self (st i).env ((hs[k]?).getD s.h) o=some (((tr[i]?).map (·.2)).getD cP,h')) →
            je C self (fun i=>∃o,L[i]?=some o∧isAlloc fl o=true) L s st (fun i=>((tr[i]?).map (·.2)).getD cP) (eY C L 0) (fun k=>(hs[k]?).getD s.h):=fun OM =>
          { back:=WD
            OU:=fun j o ho i x hi hx=>by
              have:=OS L 0 s2 j o ho i x (by omega) hx
              grind
            Dc:=fun i o ho ⟨o',AQ,ha⟩=>by
              grind
            Q3:=fun i o ho ⟨o',AQ,ha⟩ j u hu cq=>by
              rw[ho] at AQ
              obtain rfl:=bW AQ
              rcases Ml L 0 s3 i o ho ha j u hu (by omega) with h|h<;>grind[Q2]
            tV:=AR
            sorted:=I
            start:=t1
            step:=wK
            OV:=by grind
            Fh:=fun k p hp=>by grind
            gap:=fun i o ho he=>by
              obtain⟨v,h,e1,_⟩:=t5 i o ho
              have:=(Im L tr 0 uV i o _ ho e1 he).1
              grind[T9]
            same:=OM }
        refine⟨_,st,_,_,aeS ?_,t2,s4⟩
        intro i o ho he k hk h1 h2 hw
        obtain⟨v,h,e1,e2,e3,e4⟩:=t5 i o ho
        obtain⟨g1,g2⟩:=Im L tr 0 uV i o _ ho e1 he
        simp only[fh] at g1 g2
        have ac0:mT ((nth (ancs L []) i).getD 0) (eY C L 0)≤k:=vo fun cq=>by
          obtain⟨p,hp⟩:∃p,(eY C L 0)[k]?=some p:=⟨_,aG (by have:=(Hl (m:=(nth (ancs L []) i).getD 0) (eY C L 0)).2;omega)⟩<;>grind[Hl]
        have aeT:k≤qf (ancs L []) i (eY C L 0):=vo fun cq=>by
          grind[Nc]
        have Bv:((tr[i]?).map (·.2)).getD cP=v:=by grind
        rw[Bv]
        rcases g2 with g2|g2
        · -- its place is known
          have Ws:(st i).h=(hs[k]?).getD s.h:=by
            have lS:k=qf (ancs L []) i (eY C L 0):=by omega
            have cq:∀idx p,idx<k→(eY C L 0)[idx]?=some p→p<i:=fun idx p cq hp=>by
              grind[Hl]
            have Io:∀idx p,k≤idx→(eY C L 0)[idx]?=some p→i≤p:=fun idx p hle hp=>by
              obtain⟨q,hq⟩:∃q,(eY C L 0)[k]?=some q:=⟨_,aG (by grind)⟩
              have hb:=(Nc (fq:=ancs L []) (i:=i) (eY C L 0)).2 q (by grind)
              obtain⟨x,hx,_⟩:=(AR q).1 (aM hq)<;>grind[List.pairwise_iff_getElem]
            exact Fi (Hs:=fun k=>(hs[k]?).getD s.h) wK (fun p=>AR p) I t1 (by grind) (fun k p hp=>by grind) i k (by grind) hk cq Io
          rw[←Ws]
          exact⟨h,e3 hw⟩
        · have hm:(hs[k]?).getD s.h∈(hs.drop (mT ((nth (ancs L []) i).getD 0) (eY C L 0))).take (qf (ancs L []) i (eY C L 0)+1-mT ((nth (ancs L []) i).getD 0) (eY C L 0)):=by
            have ac1:k<hs.length:=by omega
            refine aM (i:=k-mT ((nth (ancs L []) i).getD 0) (eY C L 0)) ?_
            rw[ig,ay (by omega),fb,Nat.add_sub_cancel' ac0,aG ac1]
            simp
          exact Q8 _ g2 hw _ hm
theorem Ye {S:Nat→Prop}(hb:∀i o,L[i]?=some o→∀e∈o.after,iu e=true→e.on<i)(I:∀i o,¬ ni L S i o): ∀i,i<L.length→S i:=by
 intro i
 induction i using Nat.strongRecOn with
 |_ i ih =>
  intro hi
  refine GP fun hS => ?_
  refine I i L[i] ⟨aG hi,hS,fun e he Q9 => ?_⟩<;>grind
theorem iN.done {s:St}{st:Nat→St}{c:Ctx}{S:Nat→Prop}{a:Act}
 (D:je C self Fl L s st vv es Hs)(I:iN C self Fl L s st vv es Hs c₀ w₀ d₀ S early k c a w)(kO:∀p,es[k]?=some p→¬ S p)(kj:∀i,i<L.length→S i):
  Rel c (st L.length).h w∧fM c (st L.length).env (st L.length).ax a:=by
 have cq:∀p∈es,p<L.length:=fun p hp=>by
  obtain⟨o,ho,_⟩:=(D.tV p).1 hp<;>grind
 have aeu:∀p,early p=none:=fun p=>by
  cases h:early p with
  |none=>rfl
  |some b =>
   obtain⟨_,idx,h1,h2⟩:=I.vB p b h<;>grind
 refine⟨?_,?_⟩
 ·rw[D.Kc L.length k (aI _) I.M9 (fun idx p _ hp=>cq p (aM hp)) (fun idx p hle hp=>by grind)]
  exact I.rel
 ·have hv:∀t,a.tmps.getD t undef=conc c ((st L.length).env.v t)∧wf c ((st L.length).env.v t):=fun t=>by
   rcases I.tmp t with⟨i,o,g1,g2,g3,g4,g5⟩|⟨g1,g2,g3⟩
   ·have:(st L.length).env.v t=vv i:=by
     rcases D.JB t L.length (aI _) with⟨j,oj,h1,h2,h3,h4,h5⟩|⟨h1,_⟩<;>grind
    rcases g5 with⟨b,e1,_⟩|⟨_,e2,e3⟩
    ·grind
    ·grind
   ·have:(st L.length).env.v t=s.env.v t:=by
     rcases D.JB t L.length (aI _) with⟨j,oj,h1,h2,h3,h4,h5⟩|⟨_,h⟩<;>grind
    rw[this];exact⟨g2,g3⟩
  exact⟨by rw[I.size,D.ax L.length (aI _)],fun t=>(hv t).1,fun t=>(hv t).2⟩
theorem iN.congr {s:St}{st:Nat→St}{c:Ctx}{S S':Nat→Prop}{a:Act}
 (I:iN C self Fl L s st vv es Hs c₀ w₀ d₀ S early k c a w)(h:∀j,S j↔S' j): iN C self Fl L s st vv es Hs c₀ w₀ d₀ S' early k c a w:=by
 have:S=S':=funext fun j=>propext (h j)
 rw[←this];exact I
theorem Ua (hS:kG C.P self)(hT:iK C){r:Option Nat}(hL:ops.toList=L){Q:Exit→Act→World→Prop}{s:St}{st:Nat→St}(D:je C self Fl L s st vv es Hs)
 (hQ:∀c a w,Rel c (st L.length).h w→fM c (st L.length).env (st L.length).ax a→c_ c₀ w₀ c w→a.defers=d₀→Q .normal a w):
  ∀(fuel:Nat) (kU:Array Bool) (early:Nat→Option (Nat×FV)) (k:Nat) (c:Ctx) (a:Act) (w:World),kU.size=L.length→kU.count false≤fuel →
   iN C self Fl L s st vv es Hs c₀ w₀ d₀ (fun j=>kU.getD j false=true) early k c a w→wpAnyIn (Fr r) 0 C.P .any ops Q fuel kU a w:=by
 intro fuel
 induction fuel with
 |zero =>
  intro kU early k c a w fJ qH I
  have kj:∀i,i<L.length→kU.getD i false=true:=fun i hi=>by
   have h0:kU.count false=0:=by omega
   have:false∉kU:=Array.count_eq_zero.1 h0
   rw[xX,CK (by omega)]
   grind
  obtain⟨nK,k',c',I',kO⟩:=iN.Il D (es.length-k) k early c rfl I
  obtain⟨r1,r2⟩:=I'.done D kO kj
  refine⟨?_,hQ c' a w r1 r2 I'.M_ I'.defers⟩
  refine List.eq_nil_iff_forall_not_mem.2 fun j hj => ?_
  obtain⟨h1,o,h2,_⟩:=mem_ready.1 hj
  have cq:j<L.length:=by grind
  have h3:=kj j cq
  rw[xX,CK (by omega)] at h1 h3
  simp at h1 h3
  rw[h1] at h3;cases h3
 |succ fuel ih =>
  intro kU early k c a w fJ qH I
  obtain⟨nK,k',c',I',kO⟩:=iN.Il D (es.length-k) k early c rfl I
  have aaa:∀j,j∈Region.ready .any ops kU↔∃o,ni L (fun j=>kU.getD j false=true) j o:=fun j=>by
   rw[mem_ready]
   constructor
   ·rintro⟨h1,o,h2,h3⟩
    refine⟨o,by grind,fun h4 => ?_,fun e he hb=>h3 e he ?_⟩
    ·grind
    ·rw[←hb];cases e;rename_i on g;cases g<;>rfl
   ·rintro⟨o,R⟩
    have h2:=R.at_
    rw[←hL,nk] at h2
    refine⟨?_,o,h2,fun e he hb=>R.OY e he ?_⟩
    ·have cq:j<kU.size:=by grind
     have h4:=R.not
     grind
    ·rw[←hb];cases e;rename_i on g;cases g<;>rfl
  refine⟨fun Bz => ?_,fun i hi => ?_⟩
  ·have kj:=Ye (S:=fun j=>kU.getD j false=true) D.back (fun i o R=>by
    grind)
   obtain⟨r1,r2⟩:=I'.done D kO kj
   exact hQ c' a w r1 r2 I'.M_ I'.defers
  ·obtain⟨o,R⟩:=(aaa i).1 hi
   have cq:i<kU.size:=by rw[fJ];exact(List.getElem?_eq_some_iff.1 R.at_).1
   have aev:kU[i]=false:=by
    have:=R.not
    rw[xX,CK cq] at this
    simpa using this
   refine I'.Z9 hS hT hL D kO R ?_
   intro Yf k'' J8 J9 DR I''
   refine ih (kU.setIfInBounds i true) Yf k'' J8 J9 DR (by grind) ?_ (I''.congr fun j => ?_)
   ·grind
   ·by_cases kg:j=i
    ·subst kg
     simp[xX,cq]
    simp_all[jH]
theorem Q_ (hS:kG C.P self)(hT:iK C)(hm:C.P.follows .mixedOrders=true){r:Option Nat}{s:St}(hr:ql C self ops.toList s=some s'){Q:Exit→Act→World→Prop}{c:Ctx}{a:Act}(h:Rel c s.h w)(he:fM c s.env s.ax a)
 (hQ:∀c' a' w',Rel c' s'.h w'→fM c' s'.env s'.ax a'→c_ c w c' w'→a'.defers=a.defers→Q .normal a' w'):
  (Code.region id ops true).wpIn (Fr r) 0 C.P Q a w:=by
 obtain⟨Fl,st,vv,Hs,D,hz,_⟩:=T_ hr
 refine wpIn_region_any hm ?_
 have ac2:c_ c w c { w with drawn:=w.drawn+1 }:=c_.drew c w
 have ux:Rel c s.h { w with drawn:=w.drawn+1 }:=h.drew
 refine Ua hS hT rfl D (c₀:=c) (w₀:=w) (d₀:=a.defers) (fun c' a' w' r1 r2 r3 r4=>hQ c' a' w' (by grind) (by grind) r3 r4)
  ops.size (Array.replicate ops.size false) (fun _=>none) 0 c a _ (by simp) (by simp) ?_
 have I:∀j,¬ (Array.replicate ops.size false).getD j false=true:=fun j=>by
  rw[xX,Array.getElem?_replicate];split<;>simp
 refine⟨fun i o hi=>absurd hi (I i),fun idx p h=>by omega,gu _,fun idx p _ _ hp=>absurd hp (I p),(fun p b h=>by cases h),(by rw[D.OV];exact ux),he.size,
  fun t=>.inr ⟨fun j o hj=>absurd hj (I j),he.val t,he.EY t⟩,(fun p b h=>by cases h),(fun p q b b' h=>by cases h),ac2,rfl⟩
end
end Go.Proofs.YtdonpgpfplgigaaGreat.Am
namespace Go.Proofs.YtdonpgpfplgigaaGreat.Am
open Go
variable {ps:Array (Nat×Operand)} {ops:Array Oper} {st:Bool} {C:gE} {code:Code} {c₀:Ctx} {env:Env} {Q:Ex→List (Nat×V)→H→Prop} {fn:Func} {h h' σ h₁ eP:H} {κ:IntKind} {E E':List (Nat×V)} {R:List (Nat×V)→H→Prop} {d₀:List Deferred} {hs:List H} {fq es l:List Nat} {L rest:List Oper} {args first cap vs cs ds:List V} {a b i c k id n d off j g uU k' q:Nat} {Hs:Nat→H} {early:Nat→Option (Nat×FV)} {Fl:Nat→Prop} {vv:Nat→V} {o':Obj} {x y:Operand} {P:Program} {φ:Prop} {self:Self} {s':St} {α:Type} {td:TypeDesc} {t t' e kt et:TypeId} {r u z:V} {BD:V→H→Prop} {w₀ w:World}
section
variable {b:Frame} {a:Act} {k:List Item} {cs:List Frame}
theorem qo {c:Code}: step P (lone (b.atR a (.code (.scope c)::k)) cs w)=.next (lone (b.atR a (.code c::.inScope c::k)) cs w) :=
 by rfl
theorem Jt {c:Code}: step P (lone (b.atR a (.inScope c::k)) cs w)=.next (lone (b.atR a k) cs w) :=
 by rfl
end
theorem OZ {r:Option Nat}{c:Code}{Q:Exit→Act→World→Prop}{a:Act}(h:c.wpIn (Fr r) 0 P (Exit.noGoto Q) a w): (Code.scope c).wpIn (Fr r) 0 P Q a w:=by
 intro b k cs hro hb hr
 obtain⟨e,Bw,Bx,hq,I⟩:=h b (.inScope c::k) cs hro hb hr
 cases e with
 |normal=>exact⟨.normal,Bw,Bx,hq,.of_steps (.one (fenced_calm hb hr rfl) qo) (StepsIn.trans I (.one (fenced_calm hb hr rfl) Jt))⟩
 |exit id=>exact⟨.exit id,Bw,Bx,hq,.of_steps (.one (fenced_calm hb hr rfl) qo) ⟨fun k' hk=>I.1 k' (by simpa[exitTo] using hk),fun hr hk=>I.2 hr (by simpa[exitTo] using hk)⟩⟩
 |goto l=>exact hq.elim
 |ret=>exact⟨_,Bw,Bx,hq,.of_steps (.one (fenced_calm hb hr rfl) qo) I⟩
 |panic ch=>exact⟨_,Bw,Bx,hq,.of_steps (.one (fenced_calm hb hr rfl) qo) I⟩
 |outgrown=>exact⟨_,Bw,Bx,hq,.of_steps (.one (fenced_calm hb hr rfl) qo) I⟩
def Fp (P:Program)(self:Self)(m:Nat): Prop:=∀(b:Code) (s:St) (ex:Ex) (s':St),self (.loop b) s=some (ex,s') →
 ∀(r:Option Nat) (c:Ctx) (a:Act) (w:World) (Q:Exit→Act→World→Prop),Rel c s.h w→fM c s.env s.ax a →
  (∀e I w',(e=exOf ex∧I.defers=a.defers∧∃c',Rel c' s'.h w'∧fM c' s'.env s'.ax I∧c_ c w c' w')→Q e I w')→Code.roundsIn (Fr r) 0 P b Q m a w
section
theorem DY {m:Nat}(hS:kG C.P self)(hL:Fp C.P self m): Fp C.P (evStep C self) (m+1):=by
 intro b s ex s' hr r c a w Q h he hQ
 unfold evStep at hr
 simp only at hr
 cases hb:self b s with
 |none=>grind
 |some q =>
  obtain⟨I,JU⟩:=q
  rw[hb] at hr
  refine wpIn_mono (hS b s I JU hb r c a w h he) ?_
  rintro e Bw Bx ⟨rfl,q2,c₁,q3,q4,q5⟩
  cases I with
  |normal =>
   refine hL b JU ex s' hr r c₁ Bw Bx Q q3 q4 ?_
   rintro aer abA abB ⟨p1,p2,c₂,p3,p4,p5⟩
   exact hQ _ _ _ ⟨p1,by grind,c₂,p3,p4,q5.trans p5⟩
  |exit i =>
   obtain⟨rfl,rfl⟩:=hr
   exact hQ _ _ _ ⟨rfl,q2,c₁,q3,q4,q5⟩
  |ret =>
   obtain⟨rfl,rfl⟩:=hr
   exact hQ _ _ _ ⟨rfl,q2,c₁,q3,q4,q5⟩
theorem Ra {m:Nat}(hm:C.P.follows .mixedOrders=true)(hT:iK C)(hS:kG C.P self)(hL:Fp C.P self m): kG C.P (evStep C self):=by
 intro code s ex s' hr r c a w h he
 have same:∀ {ex:Ex} {s':St},(Ex.normal,s)=(ex,s')→exOf ex=.normal∧s'=s:=fun e=>by cases e;exact⟨rfl,rfl⟩
 cases code with
 |skip =>
  simp only[evStep,aA,bN] at hr
  obtain⟨rfl,rfl⟩:=hr
  exact wpIn_skip ⟨rfl,rfl,c,h,he,c_.refl c w⟩
 |label l =>
  simp only[evStep,aA,bN] at hr
  obtain⟨rfl,rfl⟩:=hr
  exact wpIn_label ⟨rfl,rfl,c,h,he,c_.refl c w⟩
 |region id ops draw =>
  unfold evStep at hr
  simp only at hr
  cases draw with
  |true =>
   rw[ah] at hr
   cases hd:ql C self ops.toList s with
   |none=>simp[hd] at hr
   |some I =>
    simp only[hd,aA,bN] at hr
    obtain⟨rfl,rfl⟩:=hr
    exact Q_ hS hT hm hd h he fun c' a' w' r1 r2 r3 r4=>⟨rfl,r4,c',r1,r2,r3⟩
  |false =>
   rw[aV] at hr
   cases hd:evOps C self ops.toList ops.toList s with
   |none=>simp[hd] at hr
   |some I =>
    simp only[hd,aA,bN] at hr
    obtain⟨rfl,rfl⟩:=hr
    refine wpIn_region ?_
    rw[List.range_eq_range',←GV]
    exact T2 hS hT ops.toList 0 s I c a w (fun j=>by rw[fh,nk]) hd h he fun c' a' w' r1 r2 r3 r4=>⟨rfl,r4,c',r1,r2,r3⟩
 |seq x y =>
  unfold evStep at hr
  simp only at hr
  cases hx:self x s with
  |none=>rw[hx] at hr;simp at hr
  |some r =>
   obtain⟨Ip,I⟩:=r
   rw[hx] at hr
   refine wpIn_seq (wpIn_mono (hS x s Ip I hx r c a w h he) ?_)
   rintro e Bw Bx ⟨rfl,q2,c₁,q3,q4,q5⟩
   cases Ip with
   |normal =>
    simp only at hr
    refine wpIn_mono (hS y I ex s' hr r c₁ Bw Bx q3 q4) ?_
    rintro e abA abB ⟨rfl,p2,c₂,p3,p4,p5⟩
    exact⟨rfl,by rw[p2,q2],c₂,p3,p4,q5.trans p5⟩
   |exit i =>
    simp only[aA,bN] at hr
    obtain⟨rfl,rfl⟩:=hr
    exact⟨rfl,q2,c₁,q3,q4,q5⟩
   |ret =>
    simp only[aA,bN] at hr
    obtain⟨rfl,rfl⟩:=hr
    exact⟨rfl,q2,c₁,q3,q4,q5⟩
 |cond x y z =>
  unfold evStep at hr
  simp only at hr
  split at hr
  ·rename_i t hx
   obtain⟨e1,_⟩:=E3 he hx
   refine wpIn_cond (t:=t) (by rw[e1];rfl) ?_
   have:=hS (cond t y z) s ex s' hr r c a w h he
   cases t<;>simpa using this
  ·cases hr
 |block id b =>
  unfold evStep at hr
  simp only at hr
  cases hb:self b s with
  |none=>rw[hb] at hr;simp at hr
  |some r =>
   obtain⟨Ip,I⟩:=r
   rw[hb] at hr
   refine wpIn_block (wpIn_mono (hS b s Ip I hb r c a w h he) ?_)
   rintro e Bw Bx ⟨rfl,q2,c₁,q3,q4,q5⟩
   cases Ip with
   |normal =>
    simp only[aA,bN] at hr
    obtain⟨rfl,rfl⟩:=hr
    simp only[exOf,Exit.inBlock]
    exact⟨aa,q2,c₁,q3,q4,q5⟩
   |exit i =>
    simp only at hr
    by_cases hi:i=id
    ·rw[rS hi,ah] at hr
     simp only[aA,bN] at hr
     obtain⟨rfl,rfl⟩:=hr
     simp only[exOf,Exit.inBlock,hi,dw]
     exact⟨aa,q2,c₁,q3,q4,q5⟩
    ·rw[fH hi,aV] at hr
     simp only[aA,bN] at hr
     obtain⟨rfl,rfl⟩:=hr
     simp only[exOf,Exit.inBlock,hi,gK]
     exact⟨aa,q2,c₁,q3,q4,q5⟩
   |ret =>
    simp only[aA,bN] at hr
    obtain⟨rfl,rfl⟩:=hr
    simp only[exOf,Exit.inBlock]
    exact⟨aa,q2,c₁,q3,q4,q5⟩
 |loop b =>
  exact wpIn_loop_rounds (m+1) (DY hS hL b s ex s' hr r c a w _ h he (fun _ _ _ hq=>hq))
 |exit id =>
  simp only[evStep,aA,bN] at hr
  obtain⟨rfl,rfl⟩:=hr
  exact wpIn_exit ⟨rfl,rfl,c,h,he,c_.refl c w⟩
 |scope b =>
  unfold evStep at hr
  simp only at hr
  refine OZ (wpIn_mono (hS b s ex s' hr r c a w h he) ?_)
  rintro e Bw Bx ⟨rfl,q2,c₁,q3,q4,q5⟩
  cases ex<;>exact⟨rfl,q2,c₁,q3,q4,q5⟩
 |ret =>
  simp only[evStep,aA,bN] at hr
  obtain⟨rfl,rfl⟩:=hr
  exact wpIn_ret ⟨rfl,rfl,c,h,he,c_.refl c w⟩
 |_=>simp[evStep] at hr
theorem Rb (hm:C.P.follows .mixedOrders=true)(hT:iK C): ∀n,kG C.P (ev C n)∧Fp C.P (ev C n) n:=by
 intro n
 induction n with
 |zero=>exact⟨fun _ _ _ _ h=>by simp[ev] at h,fun _ _ _ _ h=>by simp[ev] at h⟩
 |succ n I=>exact⟨Ra hm hT I.1 I.2,DY I.1 I.2⟩
theorem De (hm:C.P.follows .mixedOrders=true)(I:iK C)(n:Nat): J6 C.P (ev C n)∧True:=⟨(Rb hm I n).1.wide,aa⟩
theorem Kh (hm:C.P.follows .mixedOrders=true)(hT:iK C){f:FuncId}{v:V}(hr:run C n f args h=some (v,h')){c:Ctx}
 (I:Rel c h w)(hw:∀x∈args,wf c x): ki C.P f args c w v h' :=
 (callF_ok (De hm hT n).1 hT hr I hw).1
theorem Rel.empty (w:World): Rel ⟨fun _=>(0,0),fun _=>0,0,fun _=>false⟩ ⟨0,.lf⟩ w :=
 ⟨rfl,fun id o h=>by simp[T.vN] at h,fun id h=>absurd h (vp _),fun id h=>absurd h (vp _),fun i j o o' h=>by simp[T.vN] at h,fun id o h=>by simp[T.vN] at h,fun id cs st h=>by simp,fun id o h=>by simp⟩
end
def leftC : Code→Code
 |.seq a _=>a
 |c=>c
def d_ : Code→Code
 |.seq _ b=>b
 |c=>c
def om (f g:Self): Prop:=∀c s r,f c s=some r→g c s=some r
section
variable {f g:Self}
theorem rX (h : om f g) {r : V × H} (hr : callF C f k args σ = some r) : callF C g k args σ = some r := by
 unfold callF at hr ⊢
 cases I : C.told k with
 | some t => grind
 | none =>
  simp only [I] at hr ⊢
  cases hf : C.P.funcs[k]? with
  | none => grind
  | some fn =>
   simp only [hf] at hr ⊢
   cases hb : fn.body with
   | none => grind
   | some c =>
    simp only [hb] at hr ⊢
    cases hq : (fn.name == "runtime.NumGoroutine" || Nat.blt fn.ntmps args.length) with
    | true => grind
    | false =>
     simp only [hq, aV] at hr ⊢
     cases hs : f c ⟨bindArgs args 0 .lf, fn.ntmps, σ⟩ with
     | none => grind
     | some q => rw [h _ _ _ hs]; rw [hs] at hr; exact hr
theorem Mm (h:om f g){r:V×H}(hr:roundV f id args σ=some r): roundV g id args σ=some r:=by
 unfold roundV at hr ⊢
 cases ho:σ.tr.get id with
 |none=>grind
 |some o =>
  simp only[ho] at hr ⊢
  cases o with
  |loop busy ax env ps fq bd =>
   cases busy with
   |true=>cases hr
   |false =>
    cases he:bindPs ax ps args env with
    |none=>grind
    |some e =>
     simp only[he] at hr ⊢
     cases h1:f fq ⟨e,ax,σ⟩ with
     |none=>grind
     |some q =>
      rw[h fq _ _ h1]
      simp only[h1] at hr
      split at hr
      ·rename_i JU hq
       split at hr
       ·split at hr
        ·rename_i ZR I
         rw[h bd _ _ I]
         exact hr
        ·rename_i ZR I
         rw[h bd _ _ I]
         exact hr
        ·grind
       ·cases hr
      ·cases hr
  |_=>cases hr
theorem nX (h:om f g){o:Oper}{r:V×H}(hr:evOp C f env σ o=some r): evOp C g env σ o=some r:=by
 unfold evOp at hr ⊢
 cases I:o.op<;>simp only[I] at hr ⊢<;>try exact hr
 rename_i cl
 unfold evCall at hr ⊢
 cases ha:evArgs env cl.args.toList with
 |none=>grind
 |some args =>
  cases hc:cl.callee with
  |builtin b=>grind
  |value x =>
   cases hx:evO env x with
   |none=>grind
   |some fv =>
    unfold callV at hr ⊢
    grind[rX,Mm]
  |invoke x m =>
   grind[rX]
theorem rY (h:om f g): ∀(l:List Oper) (s s':St),evOps C f L l s=some s'→evOps C g L l s=some s':=by
 intro l
 induction l with
 |nil=>intro s s' hr;exact hr
 |cons o l I =>
  intro s s' hr
  simp only[evOps] at hr ⊢
  cases hw:wantedV L s.env o with
  |true =>
   cases ho:evOp C f s.env s.h o with
   |none=>grind
   |some q =>
    grind[nX]
  |false =>
   grind
theorem zX (h:om f g): ∀(l:List Oper) (s:St) (hs:List H) (r:List (Env×V)×List H×St),trace C f L l s hs=some r→trace C g L l s hs=some r:=by
 intro l
 induction l with
 |nil=>intro s hs r hr;exact hr
 |cons o l I =>
  intro s hs r hr
  simp only[trace] at hr ⊢
  have key:∀q,cond (wantedV L s.env o) (evOp C f s.env s.h o) (some (cP,s.h))=some q→cond (wantedV L s.env o) (evOp C g s.env s.h o) (some (cP,s.h))=some q:=by
   grind[nX]
  cases hc:cond (wantedV L s.env o) (evOp C f s.env s.h o) (some (cP,s.h)) with
  |none=>grind
  |some q =>
   grind
theorem Mn (h:om f g){o:Oper}{x:Env×V}: ∀(l:List H),sameIn C f L o x l=true→sameIn C g L o x l=true:=by
 intro l
 induction l with
 |nil=>intro hr;exact hr
 |cons y l I =>
  intro hr
  simp only[sameIn] at hr ⊢
  cases hw:wantedV L x.1 o with
  |false=>simp
  |true =>
   cases ho:evOp C f x.1 y o with
   |none=>grind
   |some q =>
    grind[nX]
theorem Mp (h:om f g): ∀(l:List Oper) (tr:List (Env×V)) (i:Nat),stayOk C f L fq es hs l tr i=true→stayOk C g L fq es hs l tr i=true:=by
 intro l
 induction l with
 |nil=>intro tr i hr;cases tr<;>exact hr
 |cons o l I =>
  intro tr i hr
  cases tr<;>grind[stayOk,Mn]
theorem Mq (h:om f g){s:St}(hr:ql C f L s=some s'): ql C g L s=some s':=by
 grind[ql,zX,Mp]
theorem Mr (h:om f g): om (evStep C f) (evStep C g):=by
 intro c s r hr
 cases c with
 |region id ops draw =>
  grind[evStep,Mq,rY]
 |seq a b =>
  simp only[evStep] at hr ⊢
  cases I:f a s with
  |none=>grind
  |some q =>
   obtain⟨ex,s1⟩:=q
   rw[h _ _ _ I]
   rw[I] at hr
   cases ex with
   |normal=>exact h _ _ _ hr
   |exit i=>exact hr
   |ret=>exact hr
 |cond x a b =>
  simp only[evStep] at hr ⊢
  split at hr
  ·exact h _ _ _ hr
  ·cases hr
 |block id b =>
  simp only[evStep] at hr ⊢
  cases I:f b s with
  |none=>grind
  |some q=>rw[h _ _ _ I];rw[I] at hr;exact hr
 |loop b =>
  simp only[evStep] at hr ⊢
  cases I:f b s with
  |none=>grind
  |some q =>
   obtain⟨ex,s1⟩:=q
   rw[h _ _ _ I]
   rw[I] at hr
   cases ex with
   |normal=>exact h _ _ _ hr
   |exit i=>exact hr
   |ret=>exact hr
 |scope b=>exact h _ _ _ hr
 |_=>exact hr
theorem O0 : ∀n,om (ev C n) (ev C (n+1)):=by
 intro n
 induction n with
 |zero=>intro c s r hr;cases hr
 |succ n I=>exact Mr I
theorem iC {m:Nat}(hle:n≤m): om (ev C n) (ev C m):=by
 induction hle with
 |refl=>intro c s r hr;exact hr
 |step _ I=>intro c s r hr;exact O0 _ c s r (I c s r hr)
end
def look : List (Nat×V)→Nat→Option V
 |[],_=>none
 |x::E,k=>cond (Nat.beq x.1 k) (some x.2) (look E k)
def lU (env:Env)(E:List (Nat×V)): Prop:=∀t v,look E t=some v→T.get env t=some v
theorem lU.set (h:lU env E)(d:Nat)(v:V): lU (env.set d (some v)) ((d,v)::E):=by
 intro t u hl
 simp only[look] at hl
 rw[bf]
 by_cases I:d=t
 ·simp_all
 ·rw[fH I,aV] at hl
  rw[ai (fun e=>I e.symm)]
  exact h t u hl
theorem lU.sub (h:lU env E)(hs:∀t v,look E' t=some v→look E t=some v): lU env E':=fun t v hl=>h t v (hs t v hl)
def bC (E:List (Nat×V)): Operand→Option V
 |.tmp t=>look E t
 |.const c=>ofValue c
 |.global _=>none
 |.func f=>some (.fn (.func f) [] [])
theorem cC (h:lU env E){v:V}(I:bC E x=some v): evO env x=some v:=by
 cases x with
 |tmp t=>simp only[evO,Env.v,h t v I]
 |const c=>exact I
 |global g=>cases I
 |func f=>exact I
def lookArgs (E:List (Nat×V)): List Operand→Option (List V)
 |[]=>some []
 |x::l=>match bC E x with
  |none=>none
  |some v=>match lookArgs E l with
   |none=>none
   |some m=>some (v::m)
theorem oE (h:lU env E): ∀ {l:List Operand} {m:List V},lookArgs E l=some m→evArgs env l=some m:=by
 intro l
 induction l<;>grind[lookArgs,evArgs,cC]
def lookParts (E:List (Nat×V)): List (Nat×Operand)→Option (List (Nat×V))
 |[]=>some []
 |x::l=>match bC E x.2 with
  |none=>none
  |some v=>match lookParts E l with
   |none=>none
   |some m=>some ((x.1,v)::m)
theorem BE (h:lU env E): ∀ {l:List (Nat×Operand)} {m:List (Nat×V)},lookParts E l=some m→evParts env l=some m:=by
 intro l
 induction l<;>grind[lookParts,evParts,cC]
def lookOpt (E:List (Nat×V)): Option Operand→Option (Option V)
 |none=>some none
 |some x=>match bC E x with
  |some v=>some (some v)
  |none=>none
theorem zZ (h:lU env E){x:Option Operand}{v:Option V}(I:lookOpt E x=some v): optV env x=some v:=by
 cases x<;>grind[lookOpt,optV,cC]
section
variable (P:Program)
def kV (E:List (Nat×V))(x:Operand)(g:V→Option (V×H)): Option (V×H):=match bC E x with
 |some v=>g v
 |none=>none
def wS (E:List (Nat×V))(x y:Operand)(g:V→V→Option (V×H)): Option (V×H):=match bC E x with
 |some v=>match bC E y with
  |some u=>g v u
  |none=>none
 |none=>none
noncomputable def opE (E:List (Nat×V))(h:H)(o:Op): Option (V×H):=match o with
 |.move x|.assign x=>kV E x fun v=>some (v,h)
 |.pick c a b=>kV E c fun v=>match v with
  |.bool t=>kV E (cond t a b) fun v=>some (v,h)
  |_=>none
 |.alloc t=>match zeroT P t with
  |some z=>some (.ptr h.next 0,newRow h z.cells)
  |none=>none
 |.box _ x=>kV E x fun v=>cond (v.cells.all storable) (some (.ptr h.next 0,newRow h v.cells)) none
 |.build t ps=>match lookParts E ps.toList with
  |some l=>bI (buildV P t l) h
  |none=>none
 |.buildSlice t n ps=>match lookParts E ps.toList with
  |some l=>buildSliceV P h t n l
  |none=>none
 |.load t a=>kV E a fun v=>bI (loadV P h t v) h
 |.store t a x=>wS E a x fun p v=>wJ (jR P h t p v)
 |.nilCheck x=>kV E x fun v=>match v with
  |.ptr a b=>some (.ptr a b,h)
  |_=>none
 |.binOp op t x y _=>wS E x y fun a b=>bI (binV P h op t x y a b) h
 |.unOp op _ x=>kV E x fun a=>bI (unV op a) h
 |.convert s d x=>kV E x fun a=>match convV P h s d a with
   |some r=>some r
   |none=>convB P h s d a
 |.sliceToArrayPointer d x=>kV E x fun a=>bI (arrPtrV P d a) h
 |.makeInterface t x=>kV E x fun a=>bI (makeIfaceV P t a) h
 |.makeFunc f a b=>match lookArgs E a.toList with
  |some x=>match lookArgs E b.toList with
   |some y=>some (.fn f x y,h)
   |none=>none
  |none=>none
 |.makeMap _ r=>match r with
  |none=>some (.map h.next,h.new (.map [] 0))
  |some _=>none
 |.makeSlice t l c=>wS E l c fun a b=>makeSliceV P h t a b
 |.slice t x lo hi mx=>kV E x fun v=>match lookOpt E lo with
  |some a=>match lookOpt E hi with
   |some b=>match lookOpt E mx with
    |some c=>match me a with
     |some a=>match me b with
      |some b=>match me c with
       |some c=>bI (sliceV P h t v a b c) h
       |none=>none
      |none=>none
     |none=>none
    |none=>none
   |none=>none
  |none=>none
 |.fieldAddr t x i=>kV E x fun v=>bI (fieldAddrV P t v i) h
 |.field t x i=>kV E x fun v=>bI (tP P t v i) h
 |.indexAddr t x i=>wS E x i fun v j=>bI (indexAddrV P t v j) h
 |.index t x i=>wS E x i fun v j=>bI (indexV P t v j) h
 |.lookup t x k ok=>wS E x k fun m j=>bI (gL P h t m j ok) h
 |.extract t i=>kV E t fun v=>match v with
  |.aT l=>bI (nth l i) h
  |_=>none
 |.typeAssert x _ a ok=>kV E x fun v=>bI (assertV P v a ok) h
 |.call c=>match c.callee with
  |.builtin b=>match lookArgs E c.args.toList with
   |some args=>builtinV P h b c.argTypes args
   |none=>none
  |_=>none
 |_=>none
end
theorem jI {g:V→Option (V×H)}{r:V×H}(h:kV E x g=some r): ∃v,bC E x=some v∧g v=some r:=by
 grind[kV]
theorem vC {g:V→V→Option (V×H)}{r:V×H}(h:wS E x y g=some r): ∃v u,bC E x=some v∧bC E y=some u∧g v u=some r:=by
 grind[wS]
set_option maxHeartbeats 1000000 in
theorem Fq {o:Oper}{r:V×H}(hE:lU env E)(hr:opE C.P E h o.op=some r): evOp C self env h o=some r:=by
 unfold opE at hr
 unfold evOp
 split at hr
 ·rename_i x I;obtain⟨v,h1,h2⟩:=jI hr;simp only[I,cC hE h1,bI];exact h2
 ·rename_i x I;obtain⟨v,h1,h2⟩:=jI hr;simp only[I,cC hE h1,bI];exact h2
 ·rename_i c a b I
  obtain⟨v,h1,h2⟩:=jI hr
  split at h2
  ·rename_i t
   obtain⟨u,h3,h4⟩:=jI h2
   simp only[I,cC hE h1,cC hE h3,bI];exact h4
  ·cases h2
 ·rename_i t I;simp only[I];exact hr
 ·rename_i t x I;obtain⟨v,h1,h2⟩:=jI hr;simp only[I,cC hE h1];exact h2
 ·rename_i t ps I
  cases hp:lookParts E ps.toList with
  |none=>simp[hp] at hr
  |some l=>simp only[hp] at hr;simp only[I,BE hE hp];exact hr
 ·rename_i t n ps I
  cases hp:lookParts E ps.toList with
  |none=>simp[hp] at hr
  |some l=>simp only[hp] at hr;simp only[I,BE hE hp];exact hr
 ·rename_i t a I;obtain⟨v,h1,h2⟩:=jI hr;simp only[I,cC hE h1];exact h2
 ·rename_i t a x I;obtain⟨v,u,h1,h2,h3⟩:=vC hr;simp only[I,cC hE h1,cC hE h2];exact h3
 ·rename_i x I
  obtain⟨v,h1,h2⟩:=jI hr
  split at h2
  ·simp only[I,cC hE h1];exact h2
  ·cases h2
 ·rename_i op t x y u I;obtain⟨v,u,h1,h2,h3⟩:=vC hr;simp only[I,cC hE h1,cC hE h2];exact h3
 ·rename_i op t x I;obtain⟨v,h1,h2⟩:=jI hr;simp only[I,cC hE h1];exact h2
 ·rename_i s d x I;obtain⟨v,h1,h2⟩:=jI hr;simp only[I,cC hE h1];exact h2
 ·rename_i d x I;obtain⟨v,h1,h2⟩:=jI hr;simp only[I,cC hE h1];exact h2
 ·rename_i t x I;obtain⟨v,h1,h2⟩:=jI hr;simp only[I,cC hE h1];exact h2
 ·rename_i f a b I
  cases ha:lookArgs E a.toList with
  |none=>simp[ha] at hr
  |some x =>
   cases hb:lookArgs E b.toList with
   |none=>simp[ha,hb] at hr
   |some y=>simp only[ha,hb] at hr;simp only[I,oE hE ha,oE hE hb];exact hr
 ·rename_i t r I
  simp only[I]
  exact hr
 ·rename_i t l c I;obtain⟨v,u,h1,h2,h3⟩:=vC hr;simp only[I,cC hE h1,cC hE h2];exact h3
 ·rename_i t x lo hi mx I
  obtain⟨v,h1,h2⟩:=jI hr
  cases ha:lookOpt E lo with
  |none=>simp[ha] at h2
  |some a =>
   cases hb:lookOpt E hi with
   |none=>simp[ha,hb] at h2
   |some b =>
    cases hc:lookOpt E mx with
    |none=>simp[ha,hb,hc] at h2
    |some c =>
     simp only[ha,hb,hc] at h2
     simp only[I,cC hE h1,zZ hE ha,zZ hE hb,zZ hE hc]
     cases pa:me a with
     |none=>simp[pa] at h2
     |some a =>
      cases pb:me b with
      |none=>simp[pa,pb] at h2
      |some b =>
       cases pc:me c with
       |none=>simp[pa,pb,pc] at h2
       |some c=>simp only[pa,pb,pc] at h2 ⊢;exact h2
 ·rename_i t x i I;obtain⟨v,h1,h2⟩:=jI hr;simp only[I,cC hE h1];exact h2
 ·rename_i t x i I;obtain⟨v,h1,h2⟩:=jI hr;simp only[I,cC hE h1];exact h2
 ·rename_i t x i I;obtain⟨v,u,h1,h2,h3⟩:=vC hr;simp only[I,cC hE h1,cC hE h2];exact h3
 ·rename_i t x i I;obtain⟨v,u,h1,h2,h3⟩:=vC hr;simp only[I,cC hE h1,cC hE h2];exact h3
 ·rename_i t x k ok I;obtain⟨v,u,h1,h2,h3⟩:=vC hr;simp only[I,cC hE h1,cC hE h2];exact h3
 ·rename_i t i I
  obtain⟨v,h1,h2⟩:=jI hr
  split at h2
  ·simp only[I,cC hE h1];exact h2
  ·cases h2
 ·rename_i x t a ok I;obtain⟨v,h1,h2⟩:=jI hr;simp only[I,cC hE h1];exact h2
 ·rename_i cl I
  split at hr
  ·rename_i b hc
   cases ha:lookArgs E cl.args.toList with
   |none=>simp[ha] at hr
   |some args=>simp only[ha] at hr;simp only[I,evCall,hc,oE hE ha];exact hr
  ·cases hr
 ·cases hr
def iL (C:gE)(f:FuncId)(args:List V)(h:H)(v:V)(h':H): Prop:=∃N,callF C (ev C N) f args h=some (v,h')
def Call (C:gE)(f:FuncId)(args:List V)(h:H)(R:V→H→Prop): Prop:=∃v h',iL C f args h v h'∧R v h'
variable {cl:Go.Call}
theorem Call.mono {f:FuncId}{R I:V→H→Prop}(hc:Call C f args h R)(hr:∀v h',R v h'→I v h'): Call C f args h I:=by
 obtain⟨v,h',h1,h2⟩:=hc
 exact⟨v,h',h1,hr v h' h2⟩
theorem iL.told {f:FuncId}{g:List V→H→Option (V×H)}{v:V}(I:C.told f=some g)(hf:C.P.funcs[f]?=some fn)(hb:fn.body.isSome=true)(hr:g args h=some (v,h')): iL C f args h v h':=by
 refine⟨0,?_⟩<;>grind[callF,hasBody]
theorem iL.body {f:FuncId}{v:V}(I:iL C f args h v h'): hasBody C.P f=true:=by
 obtain⟨N,hN⟩:=I<;>grind[callF,hasBody]
theorem jJ (C:gE)(n:Nat)(c:Code)(s:St): ev C (n+1) c s=evStep C (ev C n) c s:=rfl
def WP (C:gE)(ax:Nat)(code:Code)(E:List (Nat×V))(h:H)(Q:Ex→List (Nat×V)→H→Prop): Prop :=
 ∀env,lU env E→∃N ex I h' E',ev C N code ⟨env,ax,h⟩=some (ex,⟨I,ax,h'⟩)∧lU I E'∧Q ex E' h'
def au (C:gE)(ax:Nat)(L l:List Oper)(E:List (Nat×V))(h:H)(Q:List (Nat×V)→H→Prop): Prop :=
 ∀env,lU env E→∃N I h' E',evOps C (ev C N) L l ⟨env,ax,h⟩=some ⟨I,ax,h'⟩∧lU I E'∧Q E' h'
section
variable {ax:Nat} {l:List Oper}
theorem WP.sub {I:List (Nat×V)}(hs:∀t v,look I t=some v→look E t=some v)(hw:WP C ax code I h Q): WP C ax code E h Q:=fun env hE=>hw env (hE.sub hs)
theorem WP.skip (I:Q .normal E h): WP C ax .skip E h Q:=fun env hE=>⟨1,.normal,env,h,E,rfl,hE,I⟩
theorem WP.ret (I:Q .ret E h): WP C ax .ret E h Q:=fun env hE=>⟨1,.ret,env,h,E,rfl,hE,I⟩
theorem WP.exit (I:Q (.exit i) E h): WP C ax (.exit i) E h Q:=fun env hE=>⟨1,.exit i,env,h,E,rfl,hE,I⟩
theorem WP.region (hl:ops.toList=l)(hw:au C ax l l E h fun E' h'=>Q .normal E' h'): WP C ax (.region id ops false) E h Q:=by
 intro env hE
 obtain⟨N,I,h',E',h1,h2,h3⟩:=hw env hE
 refine⟨N+1,.normal,I,h',E',?_,h2,h3⟩<;>grind[jJ,evStep]
theorem WP.seq {a b:Code}(hw:WP C ax a E h fun ex E' h'=>match ex with
  |.normal=>WP C ax b E' h' Q
  |ex=>Q ex E' h'): WP C ax (.seq a b) E h Q:=by
 intro env hE
 obtain⟨N,ex,I,h',E',h1,h2,h3⟩:=hw env hE
 cases ex with
 |normal =>
  obtain⟨M,tW,Ki,Iq,E2,g1,g2,g3⟩:=h3 I h2
  refine⟨Nat.max N M+1,tW,Ki,Iq,E2,?_,g2,g3⟩
  rw[jJ]
  simp only[evStep,iC (qX N M) _ _ _ h1]
  exact iC (qW N M) _ _ _ g1
 |exit i =>
  refine⟨N+1,.exit i,I,h',E',?_,h2,h3⟩<;>grind[jJ,evStep]
 |ret =>
  refine⟨N+1,.ret,I,h',E',?_,h2,h3⟩<;>grind[jJ,evStep]
theorem WP.cond {a b:Code}{t:Bool}(hx:bC E x=some (.bool t))(hw:WP C ax (_root_.cond t a b) E h Q): WP C ax (.cond x a b) E h Q:=by
 intro env hE
 obtain⟨N,ex,I,h',E',h1,h2,h3⟩:=hw env hE
 refine⟨N+1,ex,I,h',E',?_,h2,h3⟩<;>grind[jJ,evStep,cC]
theorem WP.block {b:Code}(hw:WP C ax b E h fun ex E' h'=>match ex with
  |.exit j=>_root_.cond (Nat.beq j i) (Q .normal E' h') (Q (.exit j) E' h')
  |ex=>Q ex E' h'): WP C ax (.block i b) E h Q:=by
 intro env hE
 obtain⟨N,ex,I,h',E',h1,h2,h3⟩:=hw env hE
 cases ex with
 |exit j =>
  cases hj:Nat.beq j i with
  |true =>
   simp only[hj,ah] at h3
   refine⟨N+1,.normal,I,h',E',?_,h2,h3⟩<;>grind[jJ,evStep]
  |false =>
   simp only[hj,aV] at h3
   refine⟨N+1,.exit j,I,h',E',?_,h2,h3⟩<;>grind[jJ,evStep]
 |normal =>
  refine⟨N+1,.normal,I,h',E',?_,h2,h3⟩<;>grind[jJ,evStep]
 |ret =>
  refine⟨N+1,.ret,I,h',E',?_,h2,h3⟩<;>grind[jJ,evStep]
theorem WP.scope {b:Code}(hw:WP C ax b E h Q): WP C ax (.scope b) E h Q:=by
 intro env hE
 obtain⟨N,ex,I,h',E',h1,h2,h3⟩:=hw env hE
 exact⟨N+1,ex,I,h',E',h1,h2,h3⟩
theorem WP.loop {b:Code}(hw:WP C ax b E h fun ex E' h'=>match ex with
  |.normal=>WP C ax (.loop b) E' h' Q
  |ex=>Q ex E' h'): WP C ax (.loop b) E h Q:=by
 intro env hE
 obtain⟨N,ex,I,h',E',h1,h2,h3⟩:=hw env hE
 cases ex with
 |normal =>
  obtain⟨M,tW,Ki,Iq,E2,g1,g2,g3⟩:=h3 I h2
  refine⟨Nat.max N M+1,tW,Ki,Iq,E2,?_,g2,g3⟩
  rw[jJ]
  simp only[evStep,iC (qX N M) _ _ _ h1]
  exact iC (qW N M) _ _ _ g1
 |exit i =>
  refine⟨N+1,.exit i,I,h',E',?_,h2,h3⟩<;>grind[jJ,evStep]
 |ret =>
  refine⟨N+1,.ret,I,h',E',?_,h2,h3⟩<;>grind[jJ,evStep]
theorem au.nil (I:R E h): au C ax L [] E h R:=fun env hE=>⟨0,env,h,E,rfl,hE,I⟩
def wantE (L:List Oper)(E:List (Nat×V))(g:Option (Nat×Bool)): Option Bool:=match g with
 |none=>some true
 |some (j,want)=>match (nth L j).bind (·.dst) with
  |some d=>match look E d with
   |some (.bool b)=>some (b == want)
   |some _=>some false
   |none=>none
  |none=>none
theorem kP {o:Oper}{b:Bool}(I:lU env E)(hw:wantE L E o.guard=some b): wantedV L env o=b:=by
 unfold wantE at hw
 unfold wantedV
 split at hw
 ·grind
 ·rename_i j want hg
  simp only[hg]
  split at hw
  ·rename_i d hd
   simp only[hd]
   split at hw
   ·rename_i b' hl
    simp only[Env.v,I d _ hl]
    simpa using hw
   ·rename_i v eZ hl
    simp only[Env.v,I d _ hl]
    grind
   ·cases hw
  ·cases hw
theorem au.op {o:Oper}{v:V}(hg:wantE L E o.guard=some true)(hd:o.dst=some d)(hn:Nat.blt d ax=true)(ho:opE C.P E h o.op=some (v,h₁))
 (hw:au C ax L rest ((d,v)::E) h₁ R): au C ax L (o::rest) E h R:=by
 intro env hE
 obtain⟨N,I,h',E',h1,h2,h3⟩:=hw (env.set d (some v)) (hE.set d v)<;>grind[evOps,kP,Fq,St.put]
theorem au.op0 {o:Oper}{v:V}(hg:wantE L E o.guard=some true)(hd:o.dst=none)(ho:opE C.P E h o.op=some (v,h₁))
 (hw:au C ax L rest E h₁ R): au C ax L (o::rest) E h R:=by
 intro env hE
 obtain⟨N,I,h',E',h1,h2,h3⟩:=hw env hE<;>grind[evOps,kP,Fq,St.put]
theorem au.no {o:Oper}(hg:wantE L E o.guard=some false)(hd:o.dst=some d)(hn:Nat.blt d ax=true)
 (hw:au C ax L rest ((d,cP)::E) h R): au C ax L (o::rest) E h R:=by
 intro env hE
 obtain⟨N,I,h',E',h1,h2,h3⟩:=hw (env.set d (some cP)) (hE.set d cP)<;>grind[evOps,kP,St.put]
theorem Ir {o:Oper}{k:FuncId}{v:V}(hE:lU env E)(rW:o.op=.call cl)(hc:cl.callee=.value x)
 (hx:bC E x=some (.fn (.func k) first cap))(ha:lookArgs E cl.args.toList=some args)(I:iL C k (first++(args++cap)) h v h₁):
  ∃N,evOp C (ev C N) env h o=some (v,h₁):=by
 have hb:=I.body
 obtain⟨N,hN⟩:=I
 refine⟨N,?_⟩
 simp only[evOp,rW,evCall,oE hE ha,hc,cC hE hx,callV,hb,ah]
 exact hN
theorem au.call {o:Oper}{k:FuncId}(hg:wantE L E o.guard=some true)(hd:o.dst=some d)(hn:Nat.blt d ax=true)
 (rW:o.op=.call cl)(hc:cl.callee=.value x)(hx:bC E x=some (.fn (.func k) first cap))(ha:lookArgs E cl.args.toList=some args)
 (I:Call C k (first++(args++cap)) h BD)(hw:∀v h₁,BD v h₁→au C ax L rest ((d,v)::E) h₁ R): au C ax L (o::rest) E h R:=by
 intro env hE
 obtain⟨v,h₁,Rc,hr⟩:=I
 obtain⟨N,hN⟩:=Ir hE rW hc hx ha Rc
 obtain⟨M,xM,h',E',h1,h2,h3⟩:=hw v h₁ hr (env.set d (some v)) (hE.set d v)
 refine⟨Nat.max N M,xM,h',E',?_,h2,h3⟩
 simp only[evOps,kP hE hg,ah,nX (iC (qX N M)) hN,St.put,hd,hn]
 exact rY (iC (qW N M)) _ _ _ h1
end
def Has (E:List (Nat×V)): List (Nat×V)→Prop
 |[]=>True
 |p::F=>look E p.1=some p.2∧Has E F
theorem Has.sub : ∀ {F:List (Nat×V)},Has E F→∀t v,look F t=some v→look E t=some v:=by
 intro F
 induction F with
 |nil=>intro _ t v h;cases h
 |cons p F ih =>
  intro I t v h
  simp only[look] at h
  by_cases hp:p.1=t
  ·subst hp
   rw[rS rfl,ah] at h
   rw[I.1];exact h
  ·rw[fH hp,aV] at h
   exact ih I.2 t v h
theorem WP.has {ax:Nat}{F:List (Nat×V)}(I:Has E F)(hw:WP C ax code F h Q): WP C ax code E h Q:=WP.sub I.sub hw
theorem abF {s:St}(I:lU s.env E){t:Nat}{v:V}(h:look E t=some v): resV P s (.tmp t)=some v:=by
 simp only[resV,Env.v,I t v h]
noncomputable def resE (P:Program)(E:List (Nat×V))(h:H): ResultVar→Option V
 |.tmp t=>look E t
 |.cell a t=>match look E a with
  |some p=>loadV P h t p
  |none=>none
theorem Yg {s:St}(hE:lU s.env E){x:ResultVar}{v:V}(I:resE P E s.h x=some v): resV P s x=some v:=by
 cases x with
 |tmp t=>exact abF hE I
 |cell a t =>
  simp only[resE] at I
  cases ha:look E a with
  |none=>grind
  |some p=>simp only[ha] at I;simp only[resV,Env.v,hE a p ha];exact I
noncomputable def resLE (P:Program)(E:List (Nat×V))(h:H)(rs:List ResultVar): Option V:=match mapO (resE P E h) rs with
 |some [v]=>some v
 |some vs=>some (.aT vs)
 |none=>none
theorem Nd {s:St}(I:lU s.env E): ∀ {rs:List ResultVar} {vs:List V},mapO (resE P E s.h) rs=some vs→mapO (resV P s) rs=some vs:=by
 intro rs
 induction rs<;>grind[mapO,Yg]
def argE : List V→Nat→List (Nat×V)
 |[],_=>[]
 |v::l,k=>(k,v)::argE l (k+1)
theorem Re : ∀(l:List V) (k t:Nat),look (argE l k) t=if k≤t∧t<k+l.length then l[t-k]? else none:=by
 intro l
 induction l with
 |nil=>simp[argE,look]
 |cons v l I =>
  intro k t
  simp only[argE,look]
  by_cases h:k=t
  ·simp_all
  grind[fH]
theorem Nf (l:List V): lU (bindArgs l 0 .lf) (argE l 0):=by
 intro t v h
 grind[Re,vT]
theorem Call.of_wp {f : FuncId} {R : V → H → Prop} (ht : C.told f = none) (hf : C.P.funcs[f]? = some fn) (hb : fn.body = some code)
  (hq : (fn.name == "runtime.NumGoroutine" || Nat.blt fn.ntmps args.length) = false)
  (hw : WP C fn.ntmps code (argE args 0) h fun ex E' h' => (match ex with | .exit _ => False | _ => True) ∧ ∃ v, resLE C.P E' h' fn.results.toList = some v ∧ R v h') : Call C f args h R := by
 obtain ⟨N, ex, I, h', E', h1, h2, h3, v, h4, h5⟩ := hw _ (Nf args)
 refine ⟨v, h', ⟨N, ?_⟩, h5⟩
 unfold callF
 unfold resLE at h4
 cases hm : mapO (resE C.P E' h') fn.results.toList with
 | none => grind
 | some vs =>
  have DZ := Nd (P := C.P) (s := ⟨I, fn.ntmps, h'⟩) h2 hm
  cases ex with
  | exit i => grind
  | normal =>
   grind
  | ret =>
   grind
noncomputable section
end
def crcStep : Nat→Nat→Nat
 |r,0=>r
 |r,k+1=>crcStep (cond (Nat.beq (r%2) 1) (Nat.xor (r/2) 3988292384) (r/2)) k
def crcL : Nat→List Nat→Nat
 |r,[]=>r
 |r,b::l=>crcL (crcStep (Nat.xor r b) 8) l
def bytesIn : List V→Option (List Nat)
 |[]=>some []
 |.int .u8 n::l=>cond (decide (0≤n)&&decide (n<256)) (match bytesIn l with
  |some m=>some (n.toNat::m)
  |none=>none) none
 |_=>none
def yD (s:Int)(l:List Nat): V:=.int .u32 ((Nat.xor (crcL (Nat.xor s.toNat 4294967295) l) 4294967295:Nat):Int)
noncomputable def toldMore : List V→H→Option (V×H)
 |[.int .u32 s,.sl id off len _],h=>cond (decide (0≤s)&&decide (s<4294967296)&&Nat.ble len 4611686018427387904) (match rdN h id off len with
  |some cs=>match bytesIn cs with
   |some l=>some (yD s l,h)
   |none=>none
  |none=>none) none
 |[.int .u32 s,.aR],h=>cond (decide (0≤s)&&decide (s<4294967296)) (some (yD s [],h)) none
 |[.int .u32 s,.sle _],h=>cond (decide (0≤s)&&decide (s<4294967296)) (some (yD s [],h)) none
 |_,_=>none
theorem wrap_u32 (h:n<4294967296): IntKind.wrap .u32 (n:Int)=(n:Int):=by
 grind[IntKind.wrap,IntKind.bits,IntKind.signed]
theorem Is (h:n<4294967296): ((n:Int)%(2^(IntKind.u32).bits:Int)).toNat=n:=by
 grind[IntKind.bits]
theorem qp (I:a<4294967296)(hb:b<4294967296): Nat.xor a b<4294967296:=Nat.xor_lt_two_pow (n:=32) I hb
theorem z6 (I:a<4294967296)(hb:b<4294967296): intV .xor .u32 (a:Int) (b:Int)=some (.int .u32 ((Nat.xor a b:Nat):Int)):=by
 grind[intV,bitsV,Is,wrap_u32,qp]
theorem Rf (I:a<4294967296): intV .and .u32 (a:Int) 1=some (.int .u32 ((a%2:Nat):Int)):=by
 have h1:((1:Int)%(2^(IntKind.u32).bits:Int)).toNat=1:=by rfl
 simp only[intV,bitsV]
 rw[Is I,h1]
 have:Nat.land a 1=a%2:=Nat.and_one_is_mod a
 rw[this,wrap_u32 (by omega)]
theorem Fs : shiftV .shr .u32 (a:Int) 1=some (.int .u32 ((a/2:Nat):Int)):=by
 grind[shiftV,IntKind.bits]
theorem Yh {c:Ctx}(h:Rel c σ w)(hr:rdN σ id off k=some vs): vs.length=k∧∀j,j<k→Bc σ id (off+j)=vs[j]?:=by
 unfold rdN at hr
 split at hr
 ·rename_i n cs st I
  have hn:n=cs.length:=(h.obj id _ I).1
  grind[aW,beq_iff,Bc,gF]
 ·cases hr
def unblk : Code→Code
 |.block _ c=>c
 |c=>c
def unloop : Code→Code
 |.loop c=>c
 |c=>c
noncomputable def lp : Code:=(Tryz.f211.body).getD .skip
noncomputable def kW : Code:=unloop (unblk (d_ (leftC (d_ (d_ lp)))))
noncomputable def pS : Code:=unblk (leftC (d_ (d_ kW)))
noncomputable def qq : Code:=unloop (unblk (d_ (d_ (d_ pS))))
theorem iY (C:gE)(n:Nat)(c:Code)(s:St): ev C (n+1) c s=evStep C (ev C n) c s:=rfl
theorem wrap_i64 (h:n<9223372036854775808): IntKind.wrap .i64 (n:Int)=(n:Int):=by
 grind[IntKind.bits,IntKind.wrap]
theorem BF (h:n<9223372036854775807): intV .add .i64 (n:Int) 1=some (.int .i64 ((n+1:Nat):Int)):=by
 have:((n:Int)+1)=((n+1:Nat):Int):=by omega
 simp only[intV,this,wrap_i64 (show n+1<9223372036854775808 by omega)]
section
theorem cn {o:Oper}(hg:o.guard=none)(hd:o.dst=some d)(I:Nat.blt d n=true):
  evOps C self L (o::rest) ⟨env,n,h⟩=(evOp C self env h o).bind fun r=>evOps C self L rest ⟨env.set d (some r.1),n,r.2⟩:=by
 grind[evOps,wantedV,St.put]
end
noncomputable def mR7 : Code:=leftC qq
noncomputable def wT : Code:=d_ (d_ qq)
noncomputable def mR8 : Code:=leftC (unblk (leftC wT))
noncomputable def mIf : Code:=d_ (unblk (leftC wT))
noncomputable def Ub : Code:=d_ wT
section
variable (n:Nat) (env:Env) (h:H)
theorem Rg (I:T.get env 20=some (.int .i64 j)): ev C (n+1) mR7 ⟨env,34,h⟩=some (.normal,⟨env.set 21 (some (.bool (decide ((j:Int)<8)))),34,h⟩):=by
 simp only[mR7,qq,pS,kW,lp,Tryz.f211,dD,leftC,d_,unblk,unloop,iY,evStep,aV]
 rw[cn rfl rfl rfl]
 simp only[evOp,evO,Env.v,I,ofValue,ofScalar,binV,ikBeq,ah,intV,bI,dF,evOps]
theorem aab {x:Nat}(hx:x<4294967296)(h5:T.get env 5=some (.int .u32 x)):
  ∃I,ev C (n+1) mR8 ⟨env,34,h⟩=some (.normal,⟨I,34,h⟩)∧T.get I 24=some (.bool (Nat.beq (x%2) 1))∧∀t,t≠22→t≠23→t≠24→T.get I t=T.get env t:=by
 refine⟨((env.set 22 (some (.int .u32 x))).set 23 (some (.int .u32 ((x%2:Nat):Int)))).set 24 (some (.bool (Nat.beq (x%2) 1))),?_,by simp[bf],fun t h1 h2 h3=>by simp[bf,h1,h2,h3]⟩
 simp only[mR8,wT,qq,pS,kW,lp,Tryz.f211,dD,leftC,d_,unblk,unloop,iY,evStep,aV]
 rw[cn rfl rfl rfl]
 simp only[evOp,evO,Env.v,h5,bI,dF]
 rw[cn rfl rfl rfl]
 simp only[evOp,evO,Env.v,bf,dw,ofValue,ofScalar,binV,ikBeq,ah,Rf hx,bI,dF]
 rw[cn rfl rfl rfl]
 simp only[evOp,evO,Env.v,bf,dw,ofValue,ofScalar,binV,ikBeq,ah,intV,bI,dF,evOps]
 rfl
theorem Rh {x:Nat}(I:x<4294967296): Nat.xor (x/2) 3988292384<4294967296:=qp (by omega) (by omega)
theorem aac {x:Nat}{b:Bool}(hx:x<4294967296)(h5:T.get env 5=some (.int .u32 x))(I:T.get env 24=some (.bool b)):
  ∃e',ev C (n+2) mIf ⟨env,34,h⟩=some (.normal,⟨e',34,h⟩)∧T.get e' 5=some (.int .u32 ((cond b (Nat.xor (x/2) 3988292384) (x/2):Nat):Int))∧∀t,t<25→t≠5→T.get e' t=T.get env t:=by
 simp only[mIf,wT,qq,pS,kW,lp,Tryz.f211,dD,leftC,d_,unblk,unloop,iY,evStep,evO,Env.v,I]
 cases b with
 |true =>
  refine⟨(((env.set 25 (some (.int .u32 x))).set 26 (some (.int .u32 ((x/2:Nat):Int)))).set 27 (some (.int .u32 ((Nat.xor (x/2) 3988292384:Nat):Int)))).set 5 (some (.int .u32 ((Nat.xor (x/2) 3988292384:Nat):Int))),?_,by simp[bf],fun t h1 h2 => ?_⟩
  ·simp only[ah,aV]
   rw[cn rfl rfl rfl]
   simp only[evOp,evO,Env.v,h5,bI,dF]
   rw[cn rfl rfl rfl]
   simp only[evOp,evO,Env.v,bf,dw,ofValue,ofScalar,binV,Fs,bI,dF]
   rw[cn rfl rfl rfl]
   have:=z6 (a:=x/2) (b:=3988292384) (by omega) (by omega)
   rw[show((3988292384:Nat):Int)=3988292384 from rfl] at this
   simp only[evOp,evO,Env.v,bf,dw,ofValue,ofScalar,binV,ikBeq,ah,this,bI,dF]
   rw[cn rfl rfl rfl]
   simp only[evOp,evO,Env.v,bf,dw,bI,dF,evOps]
  grind[bf]
 |false =>
  refine⟨((env.set 28 (some (.int .u32 x))).set 29 (some (.int .u32 ((x/2:Nat):Int)))).set 5 (some (.int .u32 ((x/2:Nat):Int))),?_,by simp[bf],fun t h1 h2 => ?_⟩
  ·simp only[aV]
   rw[cn rfl rfl rfl]
   simp only[evOp,evO,Env.v,h5,bI,dF]
   rw[cn rfl rfl rfl]
   simp only[evOp,evO,Env.v,bf,dw,ofValue,ofScalar,binV,Fs,bI,dF]
   rw[cn rfl rfl rfl]
   simp only[evOp,evO,Env.v,bf,dw,bI,dF,evOps]
  grind[bf]
theorem Yi (hj:j<8)(I:T.get env 20=some (.int .i64 j)):
  ∃e',ev C (n+1) Ub ⟨env,34,h⟩=some (.normal,⟨e',34,h⟩)∧T.get e' 20=some (.int .i64 ((j+1:Nat):Int))∧∀t,t≠20→t≠30→T.get e' t=T.get env t:=by
 refine⟨(env.set 30 (some (.int .i64 ((j+1:Nat):Int)))).set 20 (some (.int .i64 ((j+1:Nat):Int))),?_,by simp[bf],fun t h1 h2=>by simp[bf,h1,h2]⟩
 simp only[Ub,wT,qq,pS,kW,lp,Tryz.f211,dD,leftC,d_,unblk,unloop,iY,evStep,aV]
 rw[cn rfl rfl rfl]
 simp only[evOp,evO,Env.v,I,ofValue,ofScalar,binV,ikBeq,ah,BF (show j<9223372036854775807 by omega),bI,dF]
 rw[cn rfl rfl rfl]
 simp only[evOp,evO,Env.v,bf,dw,bI,dF,evOps]
section
variable {n:Nat} {s:St}
theorem lV {a b:Code}(I:ev C n a s=some (.normal,s')): ev C (n+1) (.seq a b) s=ev C n b s':=by grind[iY,evStep]
theorem xN {a b:Code}(I:ev C n a s=some (.exit i,s')): ev C (n+1) (.seq a b) s=some (.exit i,s'):=by grind[iY,evStep]
theorem yE {a b:Code}{t:Bool}(I:evO s.env x=some (.bool t)): ev C (n+1) (.cond x a b) s=ev C n (cond t a b) s:=by grind[iY,evStep]
theorem Kj {c:Code}(h:ev C n c s=some (.normal,s')): ev C (n+1) (.block i c) s=some (.normal,s'):=by grind[iY,evStep]
theorem AT {c:Code}(h:ev C n c s=some (.exit i,s')): ev C (n+1) (.block i c) s=some (.normal,s'):=by simp_all[iY,evStep]
theorem Ng {b:Code}(h:ev C n b s=some (.normal,s')): ev C (n+1) (.loop b) s=ev C n (.loop b) s':=by grind[iY,evStep]
theorem vW {b:Code}(h:ev C n b s=some (.exit i,s')): ev C (n+1) (.loop b) s=some (.exit i,s'):=by grind[iY,evStep]
end
theorem It : qq=.seq mR7 (.seq (.cond (.tmp 21) .skip (.exit 2)) wT):=rfl
theorem Uc : wT=.seq (.block 3 (.seq mR8 mIf)) Ub:=rfl
theorem O1 {x:Nat}(hx:x<4294967296)(hj:j<8)(h5:T.get env 5=some (.int .u32 x))(h20:T.get env 20=some (.int .i64 j)):
  ∃e',ev C (n+9) qq ⟨env,34,h⟩=some (.normal,⟨e',34,h⟩)∧T.get e' 5=some (.int .u32 ((crcStep x 1:Nat):Int))∧T.get e' 20=some (.int .i64 ((j+1:Nat):Int)) ∧
   ∀t,t<20→t≠5→T.get e' t=T.get env t:=by
 have cq:decide ((j:Int)<8)=true:=by grind
 have q7:=Rg (C:=C) (n+7) env h h20
 rw[cq] at q7
 have g5:T.get (env.set 21 (some (.bool true))) 5=some (.int .u32 x):=by simp[bf,h5]
 obtain⟨e8,q8,q8a,q8b⟩:=aab (C:=C) (n+3) (env.set 21 (some (.bool true))) h hx g5
 have g5':T.get e8 5=some (.int .u32 x):=by grind
 obtain⟨e9,q9,q9a,q9b⟩:=aac (C:=C) (n+2) e8 h hx g5' q8a
 have g20:T.get e9 20=some (.int .i64 j):=by
  grind[bf]
 obtain⟨e11,q11,I,aeU⟩:=Yi (C:=C) (n+5) e9 h hj g20
 refine⟨e11,?_,?_,I,fun t h1 h2 => ?_⟩
 ·rw[It,lV q7,lV (s':=⟨env.set 21 (some (.bool true)),34,h⟩) (by rw[yE (t:=true) (by simp[evO,Env.v,bf])];rfl),Uc,
   lV (Kj (by rw[lV q8];exact q9)),q11]
 ·grind[crcStep]
 ·grind[bf]
theorem O2 : ∀(k n:Nat) (env:Env) (x:Nat),k≤8→x<4294967296→T.get env 5=some (.int .u32 x)→T.get env 20=some (.int .i64 ((8-k:Nat):Int)) →
  ∃e',ev C (n+10+k) (.loop qq) ⟨env,34,h⟩=some (.exit 2,⟨e',34,h⟩)∧T.get e' 5=some (.int .u32 ((crcStep x k:Nat):Int))∧∀t,t<20→t≠5→T.get e' t=T.get env t:=by
 intro k
 induction k with
 |zero =>
  intro n env x _ hx h5 I
  have q7:=Rg (C:=C) (n+7) env h I
  refine⟨env.set 21 (some (.bool false)),?_,by simp[bf,h5,crcStep],fun t h1 h2 => ?_⟩
  ·refine vW ?_
   rw[It,lV q7]
   exact xN (by rw[yE (t:=false) (by simp[evO,Env.v,bf])];rfl)
  grind[bf]
 |succ k ih =>
  intro n env x hk hx h5 I
  obtain⟨e1,q1,q2,q3,q4⟩:=O1 (C:=C) (n+1+k) env h hx (show 8-(k+1)<8 by omega) h5 I
  have h8:8-(k+1)+1=8-k:=by omega
  rw[h8] at q3
  have Iu:crcStep x 1<4294967296:=by
   grind[crcStep,Rh]
  obtain⟨e2,p1,p2,p3⟩:=ih n e1 (crcStep x 1) (by omega) Iu q2 q3
  refine⟨e2,?_,?_,fun t h1 h2=>by grind⟩
  ·grind[Ng]
  ·rw[p2];simp only[crcStep]
end
noncomputable def mR3 : Code:=leftC kW
noncomputable def JC : Code:=d_ (d_ kW)
noncomputable def Ud : Code:=d_ JC
noncomputable def mR4 : Code:=leftC pS
noncomputable def mR5 : Code:=leftC (d_ pS)
noncomputable def mR6 : Code:=leftC (d_ (d_ pS))
theorem Ue : pS=.seq mR4 (.seq mR5 (.seq mR6 (.block 2 (.loop qq)))):=rfl
theorem BG : kW=.seq mR3 (.seq (.cond (.tmp 13) .skip (.exit 0)) JC):=rfl
theorem Uf : JC=.seq (.block 1 pS) Ud:=rfl
theorem fB : bp Tryz.prog 5=some 1:=by kernel_rfl
theorem Nh : isAggT Tryz.prog 5=some false:=by kernel_rfl
section
variable {told:cE} (n:Nat) (env:Env) (h:H)
theorem Kk {len:Nat}(I:T.get env 12=some (.int .i64 i))(Ft:T.get env 11=some (.int .i64 len)):
  ev ⟨Tryz.prog,told⟩ (n+1) mR3 ⟨env,34,h⟩=some (.normal,⟨env.set 13 (some (.bool (decide ((i:Int)<(len:Int))))),34,h⟩):=by
 simp only[mR3,kW,lp,Tryz.f211,dD,leftC,d_,unblk,unloop,iY,evStep,aV]
 rw[cn rfl rfl rfl]
 simp_all[evOp,evO,Env.v,binV,ikBeq,intV,bI,evOps]
theorem aad {len:Nat}{cap:Cap}(hi:i<len)(I:T.get env 12=some (.int .i64 i))(uG:T.get env 10=some (.sl id off len cap))(hb:Bc h id (off+i)=some (.int .u8 b)):
  ∃e',ev ⟨Tryz.prog,told⟩ (n+1) mR4 ⟨env,34,h⟩=some (.normal,⟨e',34,h⟩)∧T.get e' 7=some (.int .u8 b)∧∀t,t≠7→t≠14→t≠15→T.get e' t=T.get env t:=by
 refine⟨((env.set 14 (some (.ptr id (off+i)))).set 15 (some (.int .u8 b))).set 7 (some (.int .u8 b)),?_,by simp[bf],fun t h1 h2 h3=>by simp[bf,h1,h2,h3]⟩
 simp only[mR4,pS,kW,lp,Tryz.f211,dD,leftC,d_,unblk,unloop,iY,evStep,aV]
 rw[cn rfl rfl rfl]
 have d1:decide ((0:Int)≤(i:Int))=true:=by simp
 have d2:decide ((i:Int)<(len:Int))=true:=by grind
 simp only[evOp,evO,Env.v,uG,I,indexAddrV,aK,fB,d1,d2,lN,ah,gU,dV,bI,dF]
 rw[cn rfl rfl rfl]
 simp only[evOp,evO,Env.v,bf,dw,loadV,Nh,hb,bI,dF]
 rw[cn rfl rfl rfl]
 simp only[evOp,evO,Env.v,bf,dw,bI,dF,evOps]
theorem aae {x:Nat}(hx:x<4294967296)(hb:b<256)(h5:T.get env 5=some (.int .u32 x))(h7:T.get env 7=some (.int .u8 b)):
  ∃I,ev ⟨Tryz.prog,told⟩ (n+1) mR5 ⟨env,34,h⟩=some (.normal,⟨I,34,h⟩)∧T.get I 5=some (.int .u32 ((Nat.xor x b:Nat):Int))∧∀t,t<16→t≠5→T.get I t=T.get env t:=by
 refine⟨((((env.set 16 (some (.int .u32 x))).set 17 (some (.int .u8 b))).set 18 (some (.int .u32 b))).set 19 (some (.int .u32 ((Nat.xor x b:Nat):Int)))).set 5 (some (.int .u32 ((Nat.xor x b:Nat):Int))),?_,by simp[bf],fun t h1 h2 => ?_⟩
 ·simp only[mR5,pS,kW,lp,Tryz.f211,dD,leftC,d_,unblk,unloop,iY,evStep,aV]
  rw[cn rfl rfl rfl]
  simp only[evOp,evO,Env.v,h5,bI,dF]
  rw[cn rfl rfl rfl]
  have g7:T.get (env.set 16 (some (.int .u32 x))) 7=some (.int .u8 b):=by simp[bf,h7]
  simp only[evOp,evO,Env.v,g7,bI,dF]
  rw[cn rfl rfl rfl]
  simp only[evOp,evO,Env.v,bf,dw,convV,Tryz.underlying5,Tryz.underlying260,wrap_u32 (show b<4294967296 by omega),dF]
  rw[cn rfl rfl rfl]
  have g16:T.get (((env.set 16 (some (.int .u32 x))).set 17 (some (.int .u8 b))).set 18 (some (.int .u32 b))) 16=some (.int .u32 x):=by simp[bf]
  have g18:T.get (((env.set 16 (some (.int .u32 x))).set 17 (some (.int .u8 b))).set 18 (some (.int .u32 b))) 18=some (.int .u32 b):=by simp[bf]
  simp only[evOp,evO,Env.v,g16,g18,binV,ikBeq,ah,z6 hx (show b<4294967296 by omega),bI,dF]
  rw[cn rfl rfl rfl]
  simp only[evOp,evO,Env.v,bf,dw,bI,dF,evOps]
 grind[bf]
theorem aaf : ev ⟨Tryz.prog,told⟩ (n+1) mR6 ⟨env,34,h⟩=some (.normal,⟨env.set 20 (some (.int .i64 0)),34,h⟩):=by
 rfl
theorem Yj (hi:i<9223372036854775807)(I:T.get env 12=some (.int .i64 i)):
  ∃e',ev ⟨Tryz.prog,told⟩ (n+1) Ud ⟨env,34,h⟩=some (.normal,⟨e',34,h⟩)∧T.get e' 12=some (.int .i64 ((i+1:Nat):Int))∧∀t,t≠12→t≠31→T.get e' t=T.get env t:=by
 refine⟨(env.set 31 (some (.int .i64 ((i+1:Nat):Int)))).set 12 (some (.int .i64 ((i+1:Nat):Int))),?_,by simp[bf],fun t h1 h2=>by simp[bf,h1,h2]⟩
 simp only[Ud,JC,kW,lp,Tryz.f211,dD,leftC,d_,unblk,unloop,iY,evStep,aV]
 rw[cn rfl rfl rfl]
 simp only[evOp,evO,Env.v,I,ofValue,ofScalar,binV,ikBeq,ah,BF hi,bI,dF]
 rw[cn rfl rfl rfl]
 simp only[evOp,evO,Env.v,bf,dw,bI,dF,evOps]
theorem Fu : ∀(k x:Nat),x<4294967296→crcStep x k<4294967296:=by
 intro k
 induction k<;>grind[crcStep,Rh]
theorem Ug {x len:Nat}{cap:Cap}(hx:x<4294967296)(hb:b<256)(hi:i<len)(h5:T.get env 5=some (.int .u32 x))(I:T.get env 12=some (.int .i64 i))(uG:T.get env 10=some (.sl id off len cap))
 (hr:Bc h id (off+i)=some (.int .u8 b)):
  ∃e',ev ⟨Tryz.prog,told⟩ (n+22) pS ⟨env,34,h⟩=some (.normal,⟨e',34,h⟩)∧T.get e' 5=some (.int .u32 ((crcStep (Nat.xor x b) 8:Nat):Int))∧∀t,t=10∨t=11∨t=12→T.get e' t=T.get env t:=by
 obtain⟨e4,q4,q4a,q4b⟩:=aad (told:=told) (n+20) env h hi I uG hr
 obtain⟨e5,q5,q5a,q5b⟩:=aae (told:=told) (n+19) e4 h hx hb (by grind) q4a
 have q6:=aaf (told:=told) (n+18) e5 h
 obtain⟨e2,q2,WE,WG⟩:=O2 (C:=⟨Tryz.prog,told⟩) h 8 n (e5.set 20 (some (.int .i64 0))) (Nat.xor x b) (by omega) (qp hx (by omega)) (by simp[bf,q5a]) (by simp[bf])<;>simp_all[bf,Ue,lV,AT]
theorem O3 {len:Nat}{cap:Cap}(hlen:len<9223372036854775807): ∀(l:List Nat) (i n:Nat) (env:Env) (x:Nat),i+l.length=len→x<4294967296→(∀b∈l,b<256) →
  (∀j b:Nat,l[j]?=some b→Bc h id (off+(i+j))=some (.int .u8 (b:Int)))→T.get env 5=some (.int .u32 x)→T.get env 12=some (.int .i64 i)→T.get env 10=some (.sl id off len cap)→T.get env 11=some (.int .i64 len) →
  ∃e',ev ⟨Tryz.prog,told⟩ (n+30+l.length) (.loop kW) ⟨env,34,h⟩=some (.exit 0,⟨e',34,h⟩)∧T.get e' 5=some (.int .u32 ((crcL x l:Nat):Int)):=by
 intro l
 induction l with
 |nil =>
  intro i n env x hi hx _ _ h5 I uG Ft
  have q3:=Kk (told:=told) (n+27) env h I Ft
  have hd:decide ((i:Int)<(len:Int))=false:=by grind
  rw[hd] at q3
  refine⟨env.set 13 (some (.bool false)),?_,by simp[bf,h5,crcL]⟩
  refine vW ?_
  rw[BG,lV q3]
  exact xN (by rw[yE (t:=false) (by simp[evO,Env.v,bf])];rfl)
 |cons b l ih =>
  intro i n env x hi hx WH ju h5 I uG Ft
  simp only[bq] at hi
  have q3:=Kk (told:=told) (n+l.length+28) env h I Ft
  have hd:decide ((i:Int)<(len:Int))=true:=by grind
  rw[hd] at q3
  have hb:b<256:=WH b (by simp)
  have hr:=ju 0 b (by simp)
  rw[eS] at hr
  obtain⟨e1,q1,q1a,q1b⟩:=Ug (told:=told) (cap:=cap) (n+l.length+4) (env.set 13 (some (.bool true))) h hx hb (show i<len by omega) (by simp[bf,h5]) (by simp[bf,I]) (by simp[bf,uG]) hr
  obtain⟨e2,q2,WE,WG⟩:=Yj (told:=told) (n+l.length+26) e1 h (show i<9223372036854775807 by omega) (by grind[bf])
  have rA:crcStep (Nat.xor x b) 8<4294967296:=Fu 8 _ (qp hx (by omega))
  obtain⟨e3,q3',q3a⟩:=ih (i+1) n e2 (crcStep (Nat.xor x b) 8) (by omega) rA (fun c hc=>WH c (by grind)) (fun j c hj=>by
   have:=ju (j+1) c (by grind)
   rwa [show i+(j+1)=i+1+j from by omega] at this) (by grind) WE (by grind[bf]) (by grind[bf])
  refine⟨e3,?_,by rw[q3a];simp only[crcL]⟩
  have aag:ev ⟨Tryz.prog,told⟩ (n+l.length+30) kW ⟨env,34,h⟩=some (.normal,⟨e2,34,h⟩):=by
   rw[BG,lV q3,lV (s':=⟨env.set 13 (some (.bool true)),34,h⟩) (by rw[yE (t:=true) (by simp[evO,Env.v,bf])];rfl),Uf,
    lV (Kj q1),q2]
  rw[bq,show n+30+(l.length+1)=(n+l.length+30)+1 from by omega,Ng aag,show n+l.length+30=n+30+l.length from by omega]
  exact q3'
noncomputable def mR0 : Code:=leftC lp
noncomputable def mR1 : Code:=leftC (d_ lp)
noncomputable def mR2 : Code:=leftC (leftC (d_ (d_ lp)))
noncomputable def Uh : Code:=d_ (d_ (d_ lp))
theorem Ui : lp=.seq mR0 (.seq mR1 (.seq (.seq mR2 (.block 0 (.loop kW))) Uh)):=rfl
theorem aah : ev ⟨Tryz.prog,told⟩ (n+1) mR0 ⟨env,34,h⟩=some (.normal,⟨env.set 4 (some (.int .u32 0)),34,h⟩):=by
 rfl
theorem aai {x:Nat}(hx:x<4294967296)(h0:T.get env 0=some (.int .u32 x)):
  ∃I,ev ⟨Tryz.prog,told⟩ (n+1) mR1 ⟨env,34,h⟩=some (.normal,⟨I,34,h⟩)∧T.get I 5=some (.int .u32 ((Nat.xor x 4294967295:Nat):Int))∧∀t,t≠5→t≠8→t≠9→T.get I t=T.get env t:=by
 refine⟨((env.set 8 (some (.int .u32 x))).set 9 (some (.int .u32 ((Nat.xor x 4294967295:Nat):Int)))).set 5 (some (.int .u32 ((Nat.xor x 4294967295:Nat):Int))),?_,by simp[bf],fun t h1 h2 h3=>by simp[bf,h1,h2,h3]⟩
 simp only[mR1,lp,Tryz.f211,dD,leftC,d_,iY,evStep,aV]
 rw[cn rfl rfl rfl]
 simp only[evOp,evO,Env.v,h0,bI,dF]
 rw[cn rfl rfl rfl]
 have:=z6 (a:=x) (b:=4294967295) hx (by omega)
 rw[show((4294967295:Nat):Int)=4294967295 from rfl] at this
 simp only[evOp,evO,Env.v,bf,dw,ofValue,ofScalar,binV,ikBeq,ah,this,bI,dF]
 rw[cn rfl rfl rfl]
 simp only[evOp,evO,Env.v,bf,dw,bI,dF,evOps]
theorem aaj {x:V}{len:Nat}(h1:T.get env 1=some x)(hl:lenV Tryz.prog h 29 x=some (.int .i64 len)):
  ∃I,ev ⟨Tryz.prog,told⟩ (n+1) mR2 ⟨env,34,h⟩=some (.normal,⟨I,34,h⟩)∧T.get I 10=some x∧T.get I 11=some (.int .i64 len)∧T.get I 12=some (.int .i64 ((0:Nat):Int))∧T.get I 5=T.get env 5:=by
 refine⟨((env.set 10 (some x)).set 11 (some (.int .i64 len))).set 12 (some (.int .i64 0)),?_,by simp[bf],by simp[bf],by simp[bf],by simp[bf]⟩
 simp only[mR2,lp,Tryz.f211,dD,leftC,d_,iY,evStep,aV]
 rw[cn rfl rfl rfl]
 simp only[evOp,evO,Env.v,h1,bI,dF]
 rw[cn rfl rfl rfl]
 simp only[evOp,evCall,evArgs,evO,Env.v,bf,dw,builtinV,hl,gJ,dF]
 rw[cn rfl rfl rfl]
 simp only[evOp,evO,ofValue,ofScalar,bI,dF,evOps]
theorem Yk {x:Nat}(hx:x<4294967296)(h5:T.get env 5=some (.int .u32 x)):
  ∃I,ev ⟨Tryz.prog,told⟩ (n+2) Uh ⟨env,34,h⟩=some (.ret,⟨I,34,h⟩)∧T.get I 4=some (.int .u32 ((Nat.xor x 4294967295:Nat):Int)):=by
 refine⟨((env.set 32 (some (.int .u32 x))).set 33 (some (.int .u32 ((Nat.xor x 4294967295:Nat):Int)))).set 4 (some (.int .u32 ((Nat.xor x 4294967295:Nat):Int))),?_,by simp[bf]⟩
 simp only[Uh,lp,Tryz.f211,dD,d_,iY,evStep,aV]
 rw[cn rfl rfl rfl]
 simp only[evOp,evO,Env.v,h5,bI,dF]
 rw[cn rfl rfl rfl]
 have:=z6 (a:=x) (b:=4294967295) hx (by omega)
 rw[show((4294967295:Nat):Int)=4294967295 from rfl] at this
 simp only[evOp,evO,Env.v,bf,dw,ofValue,ofScalar,binV,ikBeq,ah,this,bI,dF]
 rw[cn rfl rfl rfl]
 simp only[evOp,evO,Env.v,bf,dw,bI,dF,evOps]
end
theorem O4 : ∀(cs:List V) (l:List Nat),bytesIn cs=some l→cs=l.map (fun(b:Nat)=>V.int .u8 (b:Int))∧∀b∈l,b<256:=by
 intro cs
 induction cs with
 |nil=>grind[bytesIn]
 |cons v cs I =>
  intro l h
  unfold bytesIn at h
  grind
theorem Ho : ∀(l:List Nat) (x:Nat),x<4294967296→(∀b∈l,b<256)→crcL x l<4294967296:=by
 intro l
 induction l with
 |nil=>intro x I _;exact I
 |cons b l ih =>
  intro x I hb
  have h1:=hb b (by simp)
  exact ih _ (Fu 8 _ (qp I (by omega))) (fun c hc=>hb c (by grind))
theorem Ei {s : Int} {x : V} {len : Nat} (WJ : 0 ≤ s) (fK : s < 4294967296) (hl : lenV Tryz.prog σ 29 x = some (.int .i64 len)) (hlen : len = l.length) (kO : len < 9223372036854775807)
  (hb : ∀ b ∈ l, b < 256) (hx : l = [] ∨ ∃ id off cap, x = .sl id off len cap ∧ ∀ j b : Nat, l[j]? = some b → Bc σ id (off + (0 + j)) = some (.int .u8 (b : Int))) :
  run ⟨Tryz.prog, fun _ => none⟩ (l.length + 40) 211 [.int .u32 s, x] σ = some (yD s l, σ) := by
 obtain ⟨u, rfl⟩ : ∃ u : Nat, s = (u : Int) := ⟨s.toNat, by omega⟩
 have hu : u < 4294967296 := by omega
 have q0 := aah (told := fun _ => none) (l.length + 38) (bindArgs [.int .u32 u, x] 0 .lf) σ
 obtain ⟨e1, q1, q1a, q1b⟩ := aai (told := fun _ => none) (l.length + 37) ((bindArgs [.int .u32 u, x] 0 .lf).set 4 (some (.int .u32 0))) σ hu (by rfl)
 obtain ⟨e2, q2, WE, WG, q2c, q2d⟩ := aaj (told := fun _ => none) (l.length + 35) e1 σ (x := x) (by grind [bf, bindArgs]) hl
 have I : Nat.xor u 4294967295 < 4294967296 := qp hu (by omega)
 have abG : ∃ e', ev ⟨Tryz.prog, fun _ => none⟩ (5 + 30 + l.length) (.loop kW) ⟨e2, 34, σ⟩ = some (.exit 0, ⟨e', 34, σ⟩) ∧ T.get e' 5 = some (.int .u32 ((crcL (Nat.xor u 4294967295) l : Nat) : Int)) := by
  rcases hx with rfl | ⟨id, off, cap, rfl, ju⟩
  ·have q3 := Kk (told := fun _ => none) 32 e2 σ q2c WG
   have hd : decide ((((0 : Nat) : Int)) < (len : Int)) = false := by grind
   rw [hd] at q3
   refine ⟨e2.set 13 (some (.bool false)), ?_, by simp [bf, q2d, q1a, crcL]⟩
   refine vW ?_
   rw [BG, lV q3]
   exact xN (by rw [yE (t := false) (by simp [evO, Env.v, bf])]; rfl)
  ·exact O3 σ kO l 0 5 e2 _ (by omega) I hb ju (by grind) q2c WE WG
 obtain ⟨e3, q3, q3a⟩ := abG
 obtain ⟨e4, q4, q4a⟩ := Yk (told := fun _ => none) (l.length + 35) e3 σ (Ho l _ I hb) q3a
 have abH : ev ⟨Tryz.prog, fun _ => none⟩ (l.length + 40) lp ⟨bindArgs [.int .u32 u, x] 0 .lf, 34, σ⟩ = some (.ret, ⟨e4, 34, σ⟩) := by
  rw [Ui, lV q0, lV q1, lV (s' := ⟨e3, 34, σ⟩) (by
   rw [lV q2]
   grind [AT]), q4]
 unfold run callF
 simp only [Fk]
 rw [show Tryz.f211.body = some lp from rfl]
 rw [show (Tryz.f211.name == "runtime.NumGoroutine" || Nat.blt Tryz.f211.ntmps [V.int .u32 (u : Int), x].length) = false from rfl]
 simp only [aV]
 rw [show Tryz.f211.ntmps = 34 from rfl, abH]
 simp only
 rw [show Tryz.f211.results = #[.tmp 4] from rfl]
 simp only [mapO, resV, Env.v, q4a, yD, gU]
section
variable {c:Ctx}
theorem Ms (hP:C.P=Tryz.prog)(hm:C.P.follows .mixedOrders=true){v:V}(hr:toldMore args σ=some (v,eP))(h:Rel c σ w)(hw:∀x∈args,wf c x):
  ki C.P 211 args c w v eP:=by
 rw[hP] at hm ⊢
 have hT:iK ⟨Tryz.prog,fun _=>none⟩:=fun f g hg=>by cases hg
 unfold toldMore at hr
 split at hr
 ·rename_i s id off len cap
  cases Ri:(decide (0≤s)&&decide (s<4294967296)&&Nat.ble len 4611686018427387904) with
  |false=>grind
  |true =>
   rw[Ri,ah] at hr
   simp only[bQ,jX,aW] at Ri
   obtain⟨I,kO⟩:=Ri
   cases ju:rdN σ id off len with
   |none=>grind
   |some cs =>
    simp only[ju] at hr
    cases hb:bytesIn cs with
    |none=>grind
    |some l =>
     simp only[hb,aA,bN] at hr
     obtain⟨rfl,rfl⟩:=hr
     obtain⟨b1,b2⟩:=O4 cs l hb
     obtain⟨d1,d2⟩:=Yh h ju
     have hl:len=l.length:=by grind
     refine Kh (C:=⟨Tryz.prog,fun _=>none⟩) hm hT (Ei I.1 I.2 (len:=len) (by simp[lenV,aK]) hl (by omega) b2 (.inr ⟨id,off,cap,rfl,fun j b hj => ?_⟩)) h hw
     ·grind
 ·rename_i s
  cases I:(decide (0≤s)&&decide (s<4294967296)) with
  |false=>grind
  |true =>
   rw[I,ah] at hr
   simp only[bQ,jX] at I
   obtain⟨rfl,rfl⟩:=hr
   exact Kh (C:=⟨Tryz.prog,fun _=>none⟩) hm hT (Ei I.1 I.2 (len:=0) (l:=[]) (by simp[lenV,aK]) rfl (by omega) (by simp) (.inl rfl)) h hw
 ·rename_i s _
  cases I:(decide (0≤s)&&decide (s<4294967296)) with
  |false=>grind
  |true =>
   rw[I,ah] at hr
   simp only[bQ,jX] at I
   obtain⟨rfl,rfl⟩:=hr
   exact Kh (C:=⟨Tryz.prog,fun _=>none⟩) hm hT (Ei I.1 I.2 (len:=0) (l:=[]) (by simp[lenV,aK]) rfl (by omega) (by simp) (.inl rfl)) h hw
 ·cases hr
end
end Go.Proofs.YtdonpgpfplgigaaGreat.Am
namespace Go.Proofs.YtdonpgpfplgigaaGreat.Am
open Go Go.Maps Go.RowKit
variable {ps:Array (Nat×Operand)} {ops:Array Oper} {st:Bool} {C:gE} {code:Code} {c₀:Ctx} {env:Env} {Q:Ex→List (Nat×V)→H→Prop} {fn:Func} {cl:Go.Call} {h h' σ h₁ eP:H} {κ:IntKind} {E E':List (Nat×V)} {R:List (Nat×V)→H→Prop} {d₀:List Deferred} {hs:List H} {fq es l:List Nat} {L rest:List Oper} {args first cap vs cs ds:List V} {a b i c k id n d off j g uU k' q:Nat} {Hs:Nat→H} {early:Nat→Option (Nat×FV)} {Fl:Nat→Prop} {vv:Nat→V} {o':Obj} {x y:Operand} {P:Program} {φ:Prop} {self:Self} {s':St} {α:Type} {td:TypeDesc} {t t' e kt et:TypeId} {r u z:V} {BD:V→H→Prop} {w₀ w:World}
def keyInts : List (V×V×Nat)→Option (List Int)
 |[]=>some []
 |(.int .i64 n,_,_)::l=>cond (Lit.int .i64 n).wf (match keyInts l with
  |some m=>some (n::m)
  |none=>none) none
 |_=>none
def bornUp (clock:Nat): Nat→List (V×V×Nat)→Bool
 |_,[]=>true
 |b,(_,_,x)::l=>cond (Nat.ble b x&&Nat.blt x clock) (bornUp clock (x+1) l) false
def insI (x:Int): List Int→List Int
 |[]=>[x]
 |y::l=>cond (decide (x≤y)) (x::y::l) (y::insI x l)
def oG : List Int→List Int
 |[]=>[]
 |x::l=>insI x (oG l)
def tX : List Int→Bool
 |[]=>true
 |x::l=>l.all (fun y=>decide (x<y))&&tX l
def jl (l:List Int): List V:=l.map (V.int .i64)
noncomputable def toldSorted (gs:List Nat): List V→H→Option (V×H)
 |[.fn (.func g) [] [.ptr b 0]],h=>match h.tr.get b with
  |some (.cells n [.map id] false)=>match h.tr.get id with
   |some (.map es clock)=>cond (Nat.beq n 1&&zI gs g&&bornUp clock 0 es&&Nat.ble es.length 1048576) (match keyInts es with
    |some ks=>cond (tX (oG ks)) (match ks with
     |[]=>some (.aR,h)
     |_=>some (.sl h.next 0 ks.length (.rest 1 0),newRow h (jl (oG ks)))) none
    |none=>none) none
   |_=>none
  |_=>none
 |_,_=>none
theorem BH (x:Int): ∀l:List Int,(insI x l).Perm (x::l)
 |[]=>.refl _
 |y::l=>by
  simp only[insI]
  cases decide (x≤y) with
  |true=>rfl
  |false=>exact((BH x l).cons y).trans (.swap x y l)
theorem iT : ∀l:List Int,(oG l).Perm l
 |[]=>.refl _
 |x::l=>(BH x _).trans ((iT l).cons x)
theorem Iv : ∀l:List Int,tX l=true→l.Pairwise (· < ·)
 |[],_=>.nil
 |x::l,h=>by
  simp only[tX,bQ,oA,jX] at h
  exact List.pairwise_cons.2 ⟨h.1,Iv l h.2⟩
theorem yF : ∀ {l m:List Int},l.Perm m→l.Pairwise (· ≤ ·)→m.Pairwise (· ≤ ·)→l=m
 |[],m,I,_,_=>I.nil_eq
 |a::r,[],I,_,_=>absurd I.symm.nil_eq (by simp)
 |a::r,b::s,I,h1,h2=>by
  obtain⟨a1,a2⟩:=List.pairwise_cons.1 h1
  obtain⟨b1,b2⟩:=List.pairwise_cons.1 h2
  have l7:a=b:=by
   have ha:a∈b::s:=I.mem_iff.1 (by simp)
   have hb:b∈a::r:=I.mem_iff.2 (by simp)
   grind
  subst l7
  rw[yF (List.Perm.cons_inv I) a2 b2]
theorem Iw {clock:Nat}: ∀(l:List (V×V×Nat)) (b:Nat),bornUp clock b l=true→(∀x∈l,b≤x.2.2∧x.2.2<clock)∧(l.map (·.2.2)).Nodup
 |[],_,_=>⟨by simp,by simp⟩
 |(k,v,x)::l,b,h=>by
  simp only[bornUp] at h
  cases I:(Nat.ble b x&&Nat.blt x clock) with
  |false=>grind
  |true =>
   rw[I,ah] at h
   simp only[bQ,aW,fS] at I
   obtain⟨i1,i2⟩:=Iw l (x+1) h<;>grind
theorem Fv {c:Ctx}: ∀(l:List (V×V×Nat)) (ks:List Int),keyInts l=some ks→l.map (fun x=>conc c x.1)=ks.map (Value.int .i64)∧∀n∈ks,(Lit.int .i64 n).wf=true
 |[],ks,h=>by grind[keyInts]
 |(k,v,b)::l,ks,h=>by
  unfold keyInts at h
  split at h
  ·grind
  ·rename_i n v' b' I he
   obtain⟨⟨rfl,rfl,rfl⟩,rfl⟩:=he
   cases hw:(Lit.int .i64 n).wf with
   |false=>grind
   |true =>
    cases hm:keyInts l with
    |none=>grind
    |some m =>
     simp[hw,hm] at h
     obtain⟨i1,i2⟩:=Fv (c:=c) l m hm<;>grind[conc]
  ·cases h
section
variable {c:Ctx} {w':World}
theorem Rel.below (h:Rel c σ w)(I:Below w.heap.size w w'): Rel c σ w'∧c_ c w c w':=by
 have rows:∀b,b<w.heap.size→rowSize w' b=rowSize w b:=fun b cq=>by unfold rowSize;rw[I.block b cq]
 refine⟨⟨h.next,h.live,fun id hi=>jV (h.oM id hi) I.size,fun id hi=>by rw[rows _ (h.oM id hi)];exact h.zz id hi,h.inj,
  fun id o ho=>(h.obj id o ho).later (Ext.refl c) (h.live id o ho) (I.block _ (h.oM id (h.live id o ho))),h.one,h.fx⟩,
  ⟨Ext.refl c,I.size,rows,fun b cq _=>I.block b cq,fun id h1 h2=>by omega,I.os,I.output⟩⟩
theorem Rel.take {C:Array Value}{T:TypeId}(h:Rel c σ w)(hb:b<w.heap.size)(hr:∀id,id<c.N→(c.ρ id).1≠b)(lz:∀v∈cs,wf c v∧storable v=true)
 (hg:w.heap[b]?=some (.cells C T (0,0)))(hC:C.toList.take cs.length=cs.map (conc c)): Rel (c.grow b 0 C.size) (Am.newRow σ cs) w:=by
 have e:=tH hr 0 C.size
 have hN:(c.grow b 0 C.size).N=c.N+1:=rfl
 have hle:cs.length≤C.size:=by
  have:=dn List.length hC
  simp at this
  omega
 have key:∀i o,(Am.newRow σ cs).tr.get i=some o→(i=c.N∧o=.cells cs.length cs false)∨(i<c.N∧σ.tr.get i=some o):=by
  intro i o hi
  rw[Am.newRow,iX,h.next] at hi
  by_cases h1:i=c.N
  ·grind
  ·simp[h1] at hi;exact .inr ⟨h.live i o hi,hi⟩
 refine⟨by simp[Am.newRow,H.new,Ctx.grow,h.next],fun i o hi => ?_,fun i hi => ?_,fun i hi => ?_,fun i j o o' hi hj he => ?_,fun i o hi => ?_,fun i wL rz hi hx => ?_,fun i o hi hx => ?_⟩
 ·grind
 ·by_cases h1:i=c.N
  ·grind[bK]
  ·rw[dP c _ _ _ (by omega)];exact h.oM i (by omega)
 ·by_cases h1:i=c.N
  ·grind[Ctx.grow,rowSize]
  ·rw[dP c _ _ _ (by omega),←h.zz i (by omega)];simp[Ctx.grow,hr i (by omega)]
 ·rcases key i o hi with⟨I,_⟩|⟨I,a2⟩<;>rcases key j o' hj with⟨b1,_⟩|⟨b1,b2⟩
  ·omega
  ·grind[bK,dP]
  ·grind[bK,dP]
  ·rw[dP c _ _ _ I,dP c _ _ _ b1] at he;rw[hO c _ _ _ I,hO c _ _ _ b1];exact h.inj i j _ _ a2 b2 he
 ·rcases key i o hi with⟨rfl,rfl⟩|⟨I,a2⟩
  ·refine⟨rfl,fun v hv=>⟨(cT e v (lz v hv).1).2,(lz v hv).2⟩,C,T,(0,0),by rw[bK];exact hg,by grind[bK],fun j v hj => ?_,rfl⟩
   rw[bK,(cT e v (lz v (aM hj)).1).1]
   have h1:(C.toList.take cs.length)[j]?=some (conc c v):=by grind
   grind
  ·exact(h.obj i o a2).later e I rfl
 ·rcases key i _ hi with⟨rfl,_⟩|⟨I,a2⟩
  ·rw[bK]
  ·rw[hO c _ _ _ I] at hx
   rw[dP c _ _ _ I];exact h.one i wL rz a2 hx
 ·rcases key i o hi with⟨rfl,_⟩|⟨I,a2⟩
  ·grind[zP]
  ·rw[hO c _ _ _ I] at hx;exact h.fx i o a2 hx
def qt (_:Value): Option (DataW Unit×List MemPlace):=some (.nil,[])
def Iy (P:Program)(f K:Nat)(gs:List Nat): Prop:=∀g∈gs,∀(Bm b nn:Nat) (I:DataW Unit) (w:World),Bm<w.heap.size→w.cell? ⟨Bm,0,none⟩=some (.map (some b)) →
 w.ownsMap P K qt b nn I→Maps.size I≤maxLen→Maps.size I*8≤140737488355328 →
 Calls P f #[.func (.func g) #[] #[.pointer (some ⟨Bm,0,none⟩)]] w fun e w'=>∃(v:Value) (ss:List Int),e=.returned v∧ss.Perm (intKeys I) ∧
  w'.ownsRow w.heap.size K 1 v ss.length ((ss.mergeSort (fun x y=>decide (x≤y))).map encZ)∧(v=.slice none 0 0↔ss=[])∧Below w.heap.size w w'
theorem Ju {f K:Nat}{gs:List Nat}(hK:P.underlying K=some (.int .i64))(hS:Iy P f K gs){v:V}(hr:toldSorted gs args σ=some (v,eP))
 (h:Rel c σ w): ki P f args c w v eP:=by
 unfold toldSorted at hr
 split at hr
 ·rename_i g b
  split at hr
  ·rename_i n id WK
   split at hr
   ·rename_i es clock hgm
    cases hq:(Nat.beq n 1&&zI gs g&&bornUp clock 0 es&&Nat.ble es.length 1048576) with
    |false=>grind
    |true =>
     rw[hq,ah] at hr
     simp only[bQ,beq_iff,aW,Eh] at hq
     obtain⟨⟨⟨q1,q2⟩,q3⟩,q4⟩:=hq
     subst q1
     cases hk:keyInts es with
     |none=>grind
     |some ks =>
      simp only[hk] at hr
      cases I:tX (oG ks) with
      |false=>grind
      |true =>
       simp only[I,ah] at hr
       obtain⟨k1,k2⟩:=Fv (c:=c) es ks hk
       obtain⟨b1,b2⟩:=Iw es 0 q3
       have cq:=Iv _ I
       have iS:ks.Nodup:=(iT ks).nodup_iff.1 (cq.imp fun {a b} l7=>by omega)
       have WL:=h.one b _ _ WK (h.G7 WK (by simp))
       have rT:=cell_of h WK (j:=0) (v:=.map id) rfl
       have ac3:iR c b 0=⟨(c.ρ b).1,0,none⟩:=by simp[iR,WL]
       rw[ac3] at rT
       have aak:w.cell? ⟨(c.ρ b).1,0,none⟩=some (.map (some (c.ρ id).1)):=by simpa[conc] using rT
       obtain⟨m1,m2⟩:=h.obj id _ hgm
       have JD:∀x∈es,∃n,n∈ks∧(cR c x).key=.int .i64 n:=fun x hx=>by
        have:conc c x.1∈ks.map (Value.int .i64):=by grind
        obtain⟨n,hn,he⟩:=List.mem_map.1 this
        exact⟨n,hn,he.symm⟩
       have ju:∀x∈es,∀n,(cR c x).key=.int .i64 n→n∈ks→WideElems.rd P K qt (cR c x)=some (.int .i64 n,.nil):=fun x hx n hn hm=>by
        grind[WideElems.rd,Maps.keyOf_int_mk,qt]
       have O5:w.ownsMap P K qt (c.ρ id).1 es.length (.map (((es.map (cR c)).toArray.toList.map (WideElems.rg P K qt)).foldr DataW.insert [])):=by
        refine⟨(es.map (cR c)).toArray,clock,m2,⟨by simp[maxLen];omega,⟨fun x hx => ?_,?_,?_⟩,fun x hx => ?_⟩,by simp,rfl⟩
        ·simp only[List.mem_map] at hx
         obtain⟨y,hy,rfl⟩:=hx
         exact(b1 y hy).2
        ·grind[cR]
        ·have:(es.map (cR c)).toArray.toList.map (·.key)=ks.map (Value.int .i64):=by simp_all[cR,Function.comp_def]
         grind
        grind
       have fJ:Maps.size (H:=Unit) (.map (((es.map (cR c)).toArray.toList.map (WideElems.rg P K qt)).foldr DataW.insert []))=es.length:=by
        rw[Maps.size_eq,(WideShapes.sorted_perm _).length_eq];simp
       have Fw:(intKeys (H:=Unit) (.map (((es.map (cR c)).toArray.toList.map (WideElems.rg P K qt)).foldr DataW.insert []))).Perm ks:=by
        refine((WideShapes.sorted_perm _).map _).trans ?_
        have:(((es.map (cR c)).toArray.toList.map (WideElems.rg P K qt)).map fun p=>intOf p.1)=ks:=by
         have mH:∀x∈es,Value.int .i64 (intOf (WideElems.rg P K qt (cR c x)).1)=conc c x.1:=fun x hx=>by
          obtain⟨n,hn,he⟩:=JD x hx
          rw[WideElems.rg_of (ju x hx n he hn)]
          exact he.symm
         have h1:((((es.map (cR c)).toArray.toList.map (WideElems.rg P K qt)).map fun p=>intOf p.1).map (Value.int .i64))=ks.map (Value.int .i64):=by
          grind[List.map_congr_left]
         grind[List.map_inj_right]
        rw[this]
       have Fy:=hS g q2 (c.ρ b).1 (c.ρ id).1 es.length _ w (h.oM b (h.live b _ WK)) aak O5 (by rw[fJ];simp[maxLen];omega) (by omega)
       have JE:([V.fn (.func g) [] [.ptr b 0]].map (conc c)).toArray = #[.func (.func g) #[] #[.pointer (some ⟨(c.ρ b).1,0,none⟩)]]:=by simp[conc,concL,WL]
       unfold ki
       rw[JE]
       refine Fy.mono ?_
       rintro e w' ⟨rv,ss,rfl,s1,s2,s3,s4⟩
       obtain⟨g1,g2⟩:=h.below s4
       have hss:ss.Perm ks:=s1.trans Fw
       have hms:ss.mergeSort (fun x y=>decide (x≤y))=oG ks:=by
        refine yF (((List.mergeSort_perm ss _).trans hss).trans (iT ks).symm) ?_ (cq.imp fun {a b} l7=>by omega)<;>grind[List.pairwise_mergeSort]
       rw[hms] at s2
       split at hr
       ·-- no key
        have Bz:ss=[]:=by simp_all
        grind[conc,wf]
       ·obtain⟨rfl,rfl⟩:=hr
        have aeV:ss≠[]:=fun e=>by
         simp_all
        have ja:ss.length=ks.length:=hss.length_eq
        rcases s2.2 with⟨e1,_⟩|⟨gb,cap,cur,rfl,l1,l2,l3,l4,l5,l6⟩
        ·grind
        have ac4:gb<w'.heap.size:=(Array.getElem?_eq_some_iff.1 l2).1
        have sM:∀i,i<c.N→(c.ρ i).1≠gb:=fun i hi e=>by have:=h.oM i hi;omega
        have lz:∀x∈jl (oG ks),wf c x∧storable x=true:=fun x hx=>by
         obtain⟨n,_,rfl⟩:=List.mem_map.1 hx<;>grind[wf,storable]
        have AU:(jl (oG ks)).length=ks.length:=by simp[jl,(iT ks).length_eq]
        have abI:cur.toList.take (jl (oG ks)).length=(jl (oG ks)).map (conc c):=by
         simp_all[jl,conc]
        have R:=g1.take ac4 sM lz l2 abI
        have nh:(c.grow gb 0 cur.size).room σ.next 0 1=cap:=by
         simp only[Ctx.room,h.next,Ctx.grow,dw]
         simp[l5]
        refine⟨c.grow gb 0 cur.size,?_,?_,R,g2.JA sM l1⟩
        ·simp only[conc,nh]
         simp[h.next,Ctx.grow,ja]
        ·exact⟨by rw[h.next];simp[Ctx.grow],aI _,by omega⟩
   ·cases hr
  ·cases hr
 ·cases hr
end
end Go.Proofs.YtdonpgpfplgigaaGreat.Am
namespace Go.Proofs.YtdonpgpfplgigaaGreat.Am
open Go
variable {ps:Array (Nat×Operand)} {ops:Array Oper} {st:Bool} {C:gE} {code:Code} {c₀:Ctx} {env:Env} {Q:Ex→List (Nat×V)→H→Prop} {fn:Func} {cl:Go.Call} {h h' σ h₁ eP:H} {κ:IntKind} {E E':List (Nat×V)} {R:List (Nat×V)→H→Prop} {d₀:List Deferred} {hs:List H} {fq es l:List Nat} {L rest:List Oper} {args first cap vs cs ds:List V} {a b i c k id n d off j g uU k' q:Nat} {Hs:Nat→H} {early:Nat→Option (Nat×FV)} {Fl:Nat→Prop} {vv:Nat→V} {o':Obj} {x y:Operand} {P:Program} {φ:Prop} {self:Self} {s':St} {α:Type} {td:TypeDesc} {t t' e kt et:TypeId} {r u z:V} {BD:V→H→Prop} {w₀ w:World}
abbrev rZ := List (Nat×List V×List V)
noncomputable def resOf (P:Program)(s:St)(rs:List ResultVar): Option V:=match mapO (resV P s) rs with
 |some [v]=>some v
 |some vs=>some (.aT vs)
 |none=>none
noncomputable def evOpsD (C:gE)(self:Self)(L:List Oper): List Oper→St→rZ→Option (St×rZ)
 |[],s,d=>some (s,d)
 |o::rest,s,d=>match o.op with
  |.defer cl=>match o.guard,o.dst,cl.callee,evArgs s.env cl.args.toList with
   |none,none,.value x,some args=>match evO s.env x with
    |some (.fn (.func g) first cap)=>evOpsD C self L rest s ((g,first++args,cap)::d)
    |_=>none
   |_,_,_,_=>none
  |_=>cond (wantedV L s.env o)
   (match evOp C self s.env s.h o with
    |some (v,h)=>match s.put o.dst v h with
     |some s'=>evOpsD C self L rest s' d
     |none=>none
    |none=>none)
   (match s.put o.dst cP s.h with
    |some s'=>evOpsD C self L rest s' d
    |none=>none)
noncomputable def evTop (C:gE)(n:Nat): Nat→Code→St→rZ→Option (Ex×St×rZ)
 |0,_,_,_=>none
 |m+1,c,s,d=>match c with
  |.seq a b=>match evTop C n m a s d with
   |some (.normal,s',I)=>evTop C n m b s' I
   |r=>r
  |.region _ ops false=>match evOpsD C (ev C n) ops.toList ops.toList s d with
   |some (s',I)=>some (.normal,s',I)
   |none=>none
  |c=>match ev C n c s with
   |some (ex,s')=>some (ex,s',d)
   |none=>none
def quietParts : Code→Option (Nat×Nat×Code)
 |.seq (.region _ ops false) rest=>match ops.toList with
  |[I,OF]=>match I.op,I.guard,I.dst,OF.op,OF.guard,OF.dst with
   |.call cl,none,some uU,.assign (.tmp t),none,some aal=>match cl.callee,cl.args.toList with
    |.builtin .recover,[]=>cond (Nat.beq t uU) (some (uU,aal,rest)) none
    |_,_=>none
   |_,_,_,_,_,_=>none
  |_=>none
 |_=>none
noncomputable def defCall (C : gE) (n : Nat) (g : Nat) (args : List V) (h : H) : Option H := match C.P.funcs[g]? with
 | none => none
 | some fn => match fn.body with
  | none => none
  | some code => match quietParts code with
   | some (uU, I, rest) => cond (Nat.blt uU fn.ntmps && Nat.blt I fn.ntmps && Nat.ble args.length fn.ntmps && !(fn.name == "runtime.NumGoroutine"))
    (match ev C n rest ⟨((bindArgs args 0 .lf).set uU (some .qj)).set I (some .qj), fn.ntmps, h⟩ with
     | some (.normal, s) | some (.ret, s) => match resOf C.P s fn.results.toList with
      | some _ => some s.h
      | none => none
     | _ => none) none
   | none => match callF C (ev C n) g args h with
    | some (_, h') => some h'
    | none => none
noncomputable def runDefs (C:gE)(n:Nat): rZ→H→Option H
 |[],h=>some h
 |(g,args,cap)::d,h=>match C.told g with
  |some _=>none
  |none=>match defCall C n g (args++cap) h with
   |some h'=>runDefs C n d h'
   |none=>none
noncomputable def toldDefer (C:gE)(n f:Nat)(args:List V)(h:H): Option (V×H):=match C.P.funcs[f]? with
 |none=>none
 |some fn=>match fn.body with
  |none=>none
  |some c=>cond (Nat.blt fn.ntmps args.length) none (match evTop C n 1000 c ⟨bindArgs args 0 .lf,fn.ntmps,h⟩ [] with
   |some (.exit _,_,_)=>none
   |some (_,s,d)=>match runDefs C n d s.h with
    |some h'=>match resOf C.P ⟨s.env,s.ax,h'⟩ fn.results.toList with
     |some v=>some (v,h')
     |none=>none
    |none=>none
   |none=>none)
section
variable {c:Ctx}
theorem Ej {s:St}{a:Act}{v:V}(h:Rel c s.h w)(he:fM c s.env s.ax a)(hr:resOf P s fn.results.toList=some v):
  (results fn a.tmps).run P w=.ok (conc c v) w∧wf c v:=by
 unfold resOf at hr
 cases I:mapO (resV P s) fn.results.toList with
 |none=>grind
 |some vs =>
  obtain⟨q1,q2⟩:=Fb h he I
  rw[q1]
  rcases vs with _|⟨v0,_|⟨v1,vs⟩⟩<;>grind[conc,wf,iw,kF]
structure tI (c:Ctx)(d:rZ)(ds:List Deferred): Prop where
 eq:ds=d.map fun x=>{ target:=.fn (.func x.1) (x.2.2.map (conc c)).toArray,args:=(x.2.1.map (conc c)).toArray }
 Iz:∀x∈d,(∀v∈x.2.1,wf c v)∧∀v∈x.2.2,wf c v
theorem tI.ext {c':Ctx}{d:rZ}{ds:List Deferred}(h:tI c d ds)(e:Ext c c'): tI c' d ds where
 eq:=by
  rw[h.eq]
  refine yf fun x I => ?_
  rw[(oT e (h.Iz x I).1).1,(oT e (h.Iz x I).2).1]
 Iz:=fun x I=>⟨(oT e (h.Iz x I).1).2,(oT e (h.Iz x I).2).2⟩
theorem Rj {a:Act}(he:fM c env n a): ∀(l:List Operand) (vs:List V),evArgs env l=some vs→l.map a.eval=vs.map (conc c)∧∀v∈vs,wf c v:=by
 intro l
 induction l<;>grind[evArgs,E3]
theorem Rk (hS:kG C.P self)(hT:iK C){Q:Exit→Act→World→Prop}: ∀(l:List Oper) (k:Nat) (s s':St) (d d':rZ) (c:Ctx) (a:Act) (w:World),
  (∀j,l[j]?=ops[k+j]?)→evOpsD C self ops.toList l s d=some (s',d')→Rel c s.h w→fM c s.env s.ax a→tI c d a.defers →
  (∀c' a' w',Rel c' s'.h w'→fM c' s'.env s'.ax a'→c_ c w c' w'→tI c' d' a'.defers→Q .normal a' w') →
  wpOpsIn (Fr none) 0 C.P ops Q (List.range' k l.length) a w:=by
 intro l
 induction l with
 |nil =>
  grind[evOpsD,wpOpsIn,c_.refl]
 |cons o l ih =>
  intro k s s' d d' c a w hl hr h he hd hQ
  have h0:ops[k]?=some o:=by simpa using(hl 0).symm
  have DW:∀j,l[j]?=ops[k+1+j]?:=fun j=>by have:=hl (j+1);grind
  simp only[bq,G0,wpOpsIn,h0]
  rw[Fg he]
  have common:(cond (wantedV ops.toList s.env o)
    (match evOp C self s.env s.h o with
     |some (v,h)=>match s.put o.dst v h with
      |some s'=>evOpsD C self ops.toList l s' d
      |none=>none
     |none=>none)
    (match s.put o.dst cP s.h with
     |some s'=>evOpsD C self ops.toList l s' d
     |none=>none))=some (s',d') →
    (if wantedV ops.toList s.env o=true then o.wpIn (Fr none) 0 C.P a w (wpOpsIn (Fr none) 0 C.P ops Q (List.range' (k+1) l.length)) Q else(∀f,o.about C.P w a.eval=some f→(Fr none).fn f)∧wpOpsIn (Fr none) 0 C.P ops Q (List.range' (k+1) l.length) (a.put o.dst undef) w):=by
   intro hr
   cases hw:wantedV ops.toList s.env o with
   |true =>
    rw[hw,ah] at hr
    cases ho:evOp C self s.env s.h o with
    |none=>grind
    |some r =>
     obtain⟨v,eP⟩:=r
     simp only[ho] at hr
     cases hp:s.put o.dst v eP with
     |none=>grind
     |some I =>
      simp only[hp] at hr
      refine(Db hS hT h (he.M6 o) ho).wpIn (oY ho) ?_
      intro c' w' r1 r2 r3
      obtain⟨p1,p2,p3⟩:=St.EZ (he.ext r2.ext) r3 hp
      refine ih (k+1) I s' d d' c' _ w' DW hr (by grind) p1 (by rw[put_defers];exact hd.ext r2.ext) ?_
      intro J8 J9 DR q1 q2 q3 q4
      exact hQ J8 J9 DR q1 q2 (r2.trans q3) q4
   |false =>
    refine⟨fun _ _=>trivial,?_⟩
    cases hp:s.put o.dst cP s.h with
    |none=>grind
    |some I =>
     obtain⟨p1,p2,p3⟩:=St.EZ he (show wf c cP by simp[cP,wf,g_]) hp<;>grind[uN,put_defers]
  unfold evOpsD at hr
  split at hr
  ·rename_i cl gy
   split at hr
   ·rename_i x args hg TS aek JE
    split at hr
    ·rename_i g first cap hfv
     have abJ:wantedV ops.toList s.env o=true:=by simp[wantedV,hg]
     simp only[abJ,dw]
     obtain⟨e1,e2⟩:=Rj he _ _ JE
     obtain⟨f1,f2⟩:=E3 he hfv
     have fw:(∀x∈first,wf c x)∧(∀x∈cap,wf c x):=by
      grind[wf,kF]
     have Bp:(execOp a.eval o).run C.P w=.ok (.defer { target:=.fn (.func g) (cap.map (conc c)).toArray,args:=((first++args).map (conc c)).toArray }) w:=by
      simp_all[conc,iw,execOp,resolve,Deferred.ofValue]
     refine⟨fun _ _=>trivial,?_⟩
     rw[show(Fr none).round=none from rfl,Oper.semAt_none,Bp]
     simp only[Oper.uponIn,TS,Act.put]
     refine ih (k+1) s s' ((g,first++args,cap)::d) d' c _ w DW hr h ⟨he.size,he.val,he.EY⟩ ⟨by simp[hd.eq],fun x hx => ?_⟩ ?_
     ·rcases List.mem_cons.1 hx with rfl|hx
      ·grind
      ·exact hd.Iz x hx
     ·omega
    ·cases hr
   ·cases hr
  ·grind
theorem Uj (hm:C.P.follows .mixedOrders=true)(hT:iK C): ∀(m:Nat) (code:Code) (s:St) (d:rZ) (ex:Ex) (s':St) (d':rZ),evTop C n m code s d=some (ex,s',d') →
  ∀(c:Ctx) (a:Act) (w:World),Rel c s.h w→fM c s.env s.ax a→tI c d a.defers →
   code.wp C.P (fun e a' w'=>e=exOf ex∧∃c',Rel c' s'.h w'∧fM c' s'.env s'.ax a'∧c_ c w c' w'∧tI c' d' a'.defers) a w:=by
 have hS:=(De (C:=C) hm hT n).1
 intro m
 induction m with
 |zero=>grind[evTop]
 |succ m ih =>
  intro code s d ex s' d' hr c a w h he hd
  have rest:(match ev C n code s with
    |some (ex,s')=>some (ex,s',d)
    |none=>none)=some (ex,s',d')→code.wp C.P (fun e a' w'=>e=exOf ex∧∃c',Rel c' s'.h w'∧fM c' s'.env s'.ax a'∧c_ c w c' w'∧tI c' d' a'.defers) a w:=by
   intro hr
   cases oO:ev C n code s with
   |none=>grind
   |some r =>
    rw[oO] at hr
    obtain⟨rfl,rfl,rfl⟩:=hr
    refine Code.wp_mono ?_ (hS _ _ _ _ oO c a w h he)
    rintro e a' w' ⟨rfl,q2,c',q3,q4,q5⟩
    exact⟨rfl,c',q3,q4,q5,by rw[q2];exact hd.ext q5.ext⟩
  unfold evTop at hr
  split at hr
  ·rename_i x y
   cases hx:evTop C n m x s d with
   |none=>grind
   |some r =>
    obtain⟨Ip,I,uU⟩:=r
    rw[hx] at hr
    refine wp_seq (Code.wp_mono ?_ (ih x s d Ip I uU hx c a w h he hd))
    rintro e Bw Bx ⟨rfl,c₁,q3,q4,q5,q6⟩
    cases Ip with
    |normal =>
     refine Code.wp_mono ?_ (ih y I uU ex s' d' hr c₁ Bw Bx q3 q4 q6)
     rintro e abA abB ⟨rfl,c₂,p3,p4,p5,p6⟩
     exact⟨rfl,c₂,p3,p4,q5.trans p5,p6⟩
    |exit i =>
     obtain⟨rfl,rfl,rfl⟩:=hr
     exact⟨rfl,c₁,q3,q4,q5,q6⟩
    |ret =>
     obtain⟨rfl,rfl,rfl⟩:=hr
     exact⟨rfl,c₁,q3,q4,q5,q6⟩
  ·rename_i id ops
   cases hx:evOpsD C (ev C n) ops.toList ops.toList s d with
   |none=>grind
   |some r =>
    obtain⟨I,uU⟩:=r
    rw[hx] at hr
    simp only[aA,bN] at hr
    obtain⟨rfl,rfl,rfl⟩:=hr
    refine wpIn_wide.1 (show(Code.region id ops false).wpIn (Fr none) 0 C.P _ a w from wpIn_region ?_)
    rw[List.range_eq_range',←GV]
    exact Rk (Rb (C:=C) hm hT n).1 hT ops.toList 0 s I d uU c a w (fun j=>by simp) hx h he hd fun c' a' w' r1 r2 r3 r4=>⟨rfl,c',r1,r2,r3,r4⟩
  ·grind
theorem Uk (hm : C.P.follows .mixedOrders = true) (hT : iK C) {v : V} (hg : C.told g = none) (hr : callF C (ev C n) g args σ = some (v, eP)) (h : Rel c σ w) (hw : ∀ x ∈ args, wf c x) :
  CallsD C.P g (args.map (conc c)).toArray .returning w (fun e u' w' => u' = .returning ∧ (∃ x, e = .returned x) ∧ ∃ c', Rel c' eP w' ∧ c_ c w c' w') ∧ ∀ (x : Array Value) (w : World), (callFunc g x).run C.P w = .ok (.enter g x) w := by
 have hS := (De (C := C) hm hT n).1
 have hen := (callF_ok hS hT hr h hw).2
 unfold callF at hr
 rw [hg] at hr
 simp only at hr
 cases hf : C.P.funcs[g]? with
 | none => grind
 | some fn =>
  simp only [hf] at hr
  cases hb : fn.body with
  | none => grind
  | some code =>
   simp only [hb] at hr
   cases hq : (fn.name == "runtime.NumGoroutine" || Nat.blt fn.ntmps args.length) with
   | true => grind
   | false =>
    simp only [Bool.or_eq_false_iff] at hq
    have hle : args.length ≤ fn.ntmps := by
     grind [fS]
    have I := rV (c := c) hle hw
    have done : ∀ ex s, ev C n code ⟨bindArgs args 0 .lf, fn.ntmps, σ⟩ = some (ex, s) → (ex = .normal ∨ ex = .ret) →
      (match mapO (resV C.P s) fn.results.toList with
       | some [v] => some (v, s.h)
       | some vs => some (.aT vs, s.h)
       | none => none) = some (v, eP) →
      CallsD C.P g (args.map (conc c)).toArray .returning w (fun e u' w' => u' = .returning ∧ (∃ x, e = .returned x) ∧ ∃ c', Rel c' eP w' ∧ c_ c w c' w') := by
     intro ex s hs hex hmr
     have ZQ := hS code _ ex s hs c _ w h I
     have uy : resOf C.P s fn.results.toList = some v ∧ s.h = eP := by
      grind [resOf]
     have Rl := callsD_of_wp (u := .returning) (R := fun e w' => (∃ x, e = .returned x) ∧ ∃ c', Rel c' eP w' ∧ c_ c w c' w') hf hb (Code.wp_mono (Q' := bodyPost C.P fn fun e w' => (∃ x, e = .returned x) ∧ ∃ c', Rel c' eP w' ∧ c_ c w c' w') ?_ ZQ)
     ·omega
     ·rintro e a' w' ⟨rfl, hd, c', r1, r2, r3⟩
      have Jz : a'.defers = [] ∧ ∃ x, (results fn a'.tmps).run C.P w' = .ok x w' ∧ (∃ y, Ending.returned x = .returned y) ∧ ∃ c', Rel c' eP w' ∧ c_ c w c' w' :=
       ⟨hd, _, (Ej r1 r2 uy.1).1, ⟨_, rfl⟩, c', by grind, r3⟩
      grind [bodyPost, exOf]
    split at hr
    ·grind
    ·grind
    ·grind
theorem Jv {o:Oper}{ρ:Operand→Value}(ho:o.op=.call cl)(I:cl.callee=.builtin .recover)(ha:cl.args.toList=[])(w:World): (execOp ρ o).run P w=.ok .recover w:=by
 simp_all[execOp,resolve,invoke,builtin]
theorem IA (hm:C.P.follows .mixedOrders=true)(hT:iK C){aal:Nat}{rest:Code}{ex:Ex}{I:St}{v:V}(hf:C.P.funcs[g]?=some fn)(hb:fn.body=some code)
 (hq:quietParts code=some (uU,aal,rest))(h1:uU<fn.ntmps)(h2:aal<fn.ntmps)(hle:args.length≤fn.ntmps)
 (aew:ev C n rest ⟨((bindArgs args 0 .lf).set uU (some .qj)).set aal (some .qj),fn.ntmps,σ⟩=some (ex,I))(hex:ex=.normal∨ex=.ret)(uy:resOf C.P I fn.results.toList=some v)
 (h:Rel c σ w)(hw:∀x∈args,wf c x):
  CallsD C.P g (args.map (conc c)).toArray .returning w (fun e u' w'=>u'=.returning∧(∃x,e=.returned x)∧∃c',Rel c' I.h w'∧c_ c w c' w'):=by
 have hS:=(De (C:=C) hm hT n).1
 unfold quietParts at hq
 split at hq
 ·rename_i id ops WM
  split at hq
  ·rename_i abw OF aeW
   split at hq
   ·rename_i cl aex t aey q6 q2 q4 q9 q3 q5
    split at hq
    ·rename_i q7 q8
     cases ht:Nat.beq t aex with
     |false=>grind
     |true =>
      rw[ht,ah] at hq
      simp only[aA,bN] at hq
      obtain⟨rfl,rfl,rfl⟩:=hq
      have:=beq_iff.1 ht
      subst this
      have abK:ops = #[abw,OF]:=by grind
      subst abK
      refine callsD_of_wpS hf hb fun c₀ cs hu=>(wpS_seq ?_)
      have Zy:=rV (c:=c) hle hw
      generalize hA:({ tmps:=(args.map (conc c)).toArray++Array.replicate (fn.ntmps-(args.map (conc c)).toArray.size) undef,defers:=[] }:Act)=A at Zy ⊢
      have hAd:A.defers=[]:=by grind
      have ZT:=(Zy.put (d:=t) (v:=.qj) h1 (by simp[wf])).put (d:=aey) (v:=.qj) h2 (by simp[wf])
      have Bp:=hS _ _ _ _ aew c _ w h ZT
      rw[show conc c .qj=.nilIface from by rfl] at Bp
      have ac5:recoverD (c₀::cs)=none:=by simp[recoverD,hu]
      have h5:(A.put (some t) .nilIface).eval (.tmp t)=.nilIface:=by
       have:=(Zy.put (d:=t) (v:=.qj) h1 (by simp[wf])).val t
       grind[conc,Act.eval,Env.v,bf]
      refine wpS_region ?_
      rw[show List.range (#[abw,OF]:Array Oper).size=[0,1] from rfl]
      simp only[wpOpsS,pJ,jE,ow,Region.wanted,q2,q3,dw]
      rw[Jv q6 q7 q8]
      simp only[ac5,q4]
      have ac6:(execOp (A.put (some t) .nilIface).eval OF).run C.P w=.ok (.value .nilIface) w:=by simp[execOp,q9,h5]
      rw[ac6]
      simp only[Oper.upon,q5,Exit.thenS]
      refine wpS_of_wp (Code.wp_mono ?_ Bp)
      rintro e a' w' ⟨rfl,dd,c',r1,e2,p1⟩
      have Jz:a'.defers=[]∧∃u',c₀::cs={ c₀ with mode:=u' }::cs∧∃v,(results fn a'.tmps).run C.P w'=.ok v w'∧(u'=.returning∧(∃x,Ending.returned v=.returned x)∧∃c',Rel c' I.h w'∧c_ c w c' w') :=
       ⟨dd.trans hAd,.returning,by rw[←hu],_,(Ej r1 e2 uy).1,rfl,⟨_,rfl⟩,c',r1,p1⟩
      rcases hex with rfl|rfl
      ·exact Jz
      ·exact Jz
    ·cases hq
   ·cases hq
  ·cases hq
 ·cases hq
theorem O6 (hm : C.P.follows .mixedOrders = true) (hT : iK C) (hg : C.told g = none) (hr : defCall C n g args σ = some eP) (h : Rel c σ w) (hw : ∀ x ∈ args, wf c x) :
  CallsD C.P g (args.map (conc c)).toArray .returning w (fun e u' w' => u' = .returning ∧ (∃ x, e = .returned x) ∧ ∃ c', Rel c' eP w' ∧ c_ c w c' w') ∧ ∀ (x : Array Value) (w : World), (callFunc g x).run C.P w = .ok (.enter g x) w := by
 unfold defCall at hr
 cases hf : C.P.funcs[g]? with
 | none => grind
 | some fn =>
  simp only [hf] at hr
  cases hb : fn.body with
  | none => grind
  | some code =>
   simp only [hb] at hr
   split at hr
   ·rename_i uU I rest hq
    cases hc : (Nat.blt uU fn.ntmps && Nat.blt I fn.ntmps && Nat.ble args.length fn.ntmps && !(fn.name == "runtime.NumGoroutine")) with
    | false => grind
    | true =>
     rw [hc, ah] at hr
     simp only [bQ, fS, aW, Bool.not_eq_true'] at hc
     refine ⟨?_, fun x w => by simp_all [callFunc]⟩
     split at hr
     ·grind [IA]
     ·grind [IA]
     ·cases hr
   grind [Uk]
theorem Rm (hm:C.P.follows .mixedOrders=true)(hT:iK C){s:St}{v:V}(uy:resOf C.P ⟨s.env,s.ax,h'⟩ fn.results.toList=some v):
  ∀(d:rZ) (h:H) (c:Ctx) (a:Act) (ds:List Deferred) (w:World),runDefs C n d h=some h'→Rel c h w→fM c s.env s.ax a→tI c d ds→c_ c₀ w₀ c w →
   Leaves C.P fn a.tmps (fun e w'=>∃c',e=.returned (conc c' v)∧wf c' v∧Rel c' h' w'∧c_ c₀ w₀ c' w') ds .returning w:=by
 intro d
 induction d with
 |nil =>
  intro h c a ds w hr I he hd hs
  simp only[runDefs,aA] at hr
  subst hr
  have:ds=[]:=by rw[hd.eq];rfl
  subst this
  obtain⟨q1,q2⟩:=Ej (s:=⟨s.env,s.ax,h⟩) I he uy
  exact⟨_,q1,c,rfl,q2,I,hs⟩
 |cons x d ih =>
  intro h c a ds w hr I he hd hs
  obtain⟨g,args,cap⟩:=x
  simp only[runDefs] at hr
  cases ht:C.told g with
  |some t=>grind
  |none =>
   rw[ht] at hr
   cases hc:defCall C n g (args++cap) h with
   |none=>grind
   |some h₁ =>
    rw[hc] at hr
    have oN:=hd.Iz (g,args,cap) (by simp)
    obtain⟨k1,k2⟩:=O6 hm hT ht hc I (fun x hx=>by
     grind)
    have hds:ds={ target:=.fn (.func g) (cap.map (conc c)).toArray,args:=(args.map (conc c)).toArray }::d.map fun x=>{ target:=.fn (.func x.1) (x.2.2.map (conc c)).toArray,args:=(x.2.1.map (conc c)).toArray }:=by rw[hd.eq];rfl
    rw[hds]
    refine leaves_cons (f:=g) (args:=((args++cap).map (conc c)).toArray) (by simp) ?_ ?_
    ·grind[invoke]
    ·refine k1.mono ?_
     rintro e u' Bx ⟨rfl,⟨y,rfl⟩,c₁,r1,r2⟩
     have Ri:tI c d (d.map fun x=>{ target:=.fn (.func x.1) (x.2.2.map (conc c)).toArray,args:=(x.2.1.map (conc c)).toArray }):=⟨rfl,fun z hz=>hd.Iz z (by grind)⟩
     exact ih h₁ c₁ a _ Bx hr r1 (he.ext r2.ext) (Ri.ext r2.ext) (hs.trans r2)
theorem Kl (hm:C.P.follows .mixedOrders=true)(hT:iK C){f:Nat}{v:V}(hr:toldDefer C n f args σ=some (v,eP))(h:Rel c σ w)(hw:∀x∈args,wf c x):
  ki C.P f args c w v eP:=by
 unfold toldDefer at hr
 cases hf:C.P.funcs[f]? with
 |none=>grind
 |some fn =>
  simp only[hf] at hr
  cases hb:fn.body with
  |none=>grind
  |some code =>
   simp only[hb] at hr
   cases hq:Nat.blt fn.ntmps args.length with
   |true=>grind
   |false =>
    rw[hq,aV] at hr
    have hle:args.length≤fn.ntmps:=by
     grind[fS]
    have Hg:=rV (c:=c) hle hw
    refine calls_of_wp_defers hf hb ?_
    have done:∀ex s d,evTop C n 1000 code ⟨bindArgs args 0 .lf,fn.ntmps,σ⟩ []=some (ex,s,d)→(ex=.normal∨ex=.ret) →
      (match runDefs C n d s.h with
       |some h'=>match resOf C.P ⟨s.env,s.ax,h'⟩ fn.results.toList with
        |some v=>some (v,h')
        |none=>none
       |none=>none)=some (v,eP) →
      code.wp C.P (bodyPostD C.P fn fun e w'=>∃c',e=.returned (conc c' v)∧wf c' v∧Rel c' eP w'∧c_ c w c' w')
       { tmps:=(args.map (conc c)).toArray++Array.replicate (fn.ntmps-(args.map (conc c)).toArray.size) undef,defers:=[] } w:=by
     intro ex s d hs hex I
     refine Code.wp_mono ?_ (Uj hm hT 1000 code _ [] ex s d hs c _ w h Hg ⟨rfl,fun x hx=>by cases hx⟩)
     rintro e a' w' ⟨rfl,c',r1,r2,r3,r4⟩
     cases ju:runDefs C n d s.h with
     |none=>grind
     |some h' =>
      rw[ju] at I
      simp only at I
      cases hro:resOf C.P ⟨s.env,s.ax,h'⟩ fn.results.toList with
      |none=>grind
      |some v' =>
       rw[hro] at I
       obtain⟨rfl,rfl⟩:=I<;>grind[Rm,bodyPostD,exOf]
    split at hr
    ·cases hr
    ·rename_i ex s d eZ hs
     cases ex<;>grind
    ·cases hr
end

/- Heaps compared. -/
def nL (h:H): Prop:=∀id o,T.get h.tr id=some o→id<h.next
theorem nL.new (hw:nL h)(o:Obj): nL (h.new o):=by
 intro id q I
 rw[iX] at I
 show id<h.next+1
 split at I
 ·omega
 ·exact Nat.lt_succ_of_lt (hw id q I)
theorem nL.put (hw:nL h)(wO:id<h.next)(o:Option Obj): nL (h.put id o):=by
 intro j q I
 rw[iq] at I
 show j<h.next
 split at I
 ·omega
 ·exact hw j q I
structure fo (k:Nat)(S:List Nat)(h h':H): Prop where
 wf:nL h'
 le:h.next≤h'.next
 bd:h'.next≤h.next+k
 get:∀id,id<h.next→id∉S→T.get h'.tr id=T.get h.tr id
theorem fo.refl (hw:nL h)(S:List Nat): fo 0 S h h:=⟨hw,aI _,aI _,fun _ _ _=>rfl⟩
theorem fo.trans {S S':List Nat}{I:H}(a:fo k S h h')(b:fo k' S' h' I)(hs:∀i∈S',i∈S∨h.next≤i): fo (k+k') S h I:=by
 refine⟨b.wf,cY a.le b.le,by have:=a.bd;have:=b.bd;omega,fun id wO hn => ?_⟩
 rw[b.get id (jV wO a.le) (fun hm => ?_),a.get id wO hn]
 rcases hs id hm with h1|h1
 ·exact hn h1
 ·omega
theorem fo.mono {S S':List Nat}(a:fo k S h h')(hk:k≤k')(hs:∀i∈S,i∈S'): fo k' S' h h' :=
 ⟨a.wf,a.le,cY a.bd (CP hk _),fun id I hn=>a.get id I (fun hm=>hn (hs id hm))⟩
theorem fo.row {S:List Nat}(a:fo k S h h')(hw:nL h){o:Obj}(I:T.get h.tr id=some o)(hn:id∉S): T.get h'.tr id=some o:=by
 rw[a.get id (hw id o I) hn];exact I
theorem fo.Df (hw:nL h)(o:Obj): fo 1 [] h (h.new o) :=
 ⟨hw.new o,rq _,aI _,fun id I _=>by rw[iX,ai (by omega)]⟩
theorem fo.WN (hw:nL h)(I:id<h.next)(o:Option Obj): fo 0 [id] h (h.put id o) :=
 ⟨hw.put I o,aI _,aI _,fun j _ hn=>by rw[iq,ai (fun e=>hn (by simp[e]))]⟩
theorem dx (l:List Nat): (ofBytes l).length=l.length:=by simp[ofBytes]
theorem tJ (l m:List Nat): ofBytes (l++m)=ofBytes l++ofBytes m:=by simp[ofBytes]
def View (h:H)(v:V)(l:List Nat): Prop:=(∀b∈l,b<256)∧(((v=.aR∨∃a,v=.sle a)∧l=[]) ∨
 ∃id off cap n cs st,v=.sl id off l.length cap∧T.get h.tr id=some (.cells n cs st)∧cs.length=n∧off+l.length≤n∧(cs.drop off).take l.length=ofBytes l ∧
  (match cap with|.exact c=>l.length≤c|.rest e _=>e=1))
def kX (h:H)(v:V)(l:List Nat): Prop:=(∀b∈l,b<256)∧((v=.aR∧l=[]) ∨
 (∃id cs c,v=.sl id 0 l.length (.exact c)∧T.get h.tr id=some (.cells c (ofBytes l++cs) false)∧l.length+cs.length=c) ∨
 (∃id,v=.sl id 0 l.length (.rest 1 0)∧T.get h.tr id=some (.cells l.length (ofBytes l) false)∧1≤l.length))
def rowIds : V→List Nat
 |.sl id _ _ _=>[id]
 |_=>[]
theorem kX.view {v:V}(I:kX h v l): View h v l:=by
 obtain⟨hl,I⟩:=I
 refine⟨hl,?_⟩
 rcases I with I|⟨id,cs,c,rfl,hg,hc⟩|⟨id,rfl,hg,h1⟩
 ·exact .inl ⟨.inl I.1,I.2⟩
 ·refine .inr ⟨id,0,.exact c,c,_,false,rfl,hg,by simp[dx,hc],by omega,?_,by show l.length≤c;omega⟩
  rw[ij,gq (dx l)]
 ·refine .inr ⟨id,0,.rest 1 0,_,_,false,rfl,hg,dx l,by omega,?_,rfl⟩
  rw[ij]
  exact gT (by rw[dx];exact aI _)
theorem View.qg {S:List Nat}{v:V}(I:View h v l)(hw:nL h)(hk:fo k S h h')(hn:∀i∈rowIds v,i∉S): View h' v l:=by
 obtain⟨hl,I⟩:=I
 refine⟨hl,?_⟩
 rcases I with I|⟨id,off,cap,n,cs,st,rfl,hg,h1,h2,h3,h4⟩
 ·exact .inl I
 ·exact .inr ⟨id,off,cap,n,cs,st,rfl,hk.row hw hg (hn id (by simp[rowIds])),h1,h2,h3,h4⟩
theorem kX.qg {S:List Nat}{v:V}(I:kX h v l)(hw:nL h)(hk:fo k S h h')(hn:∀i∈rowIds v,i∉S): kX h' v l:=by
 obtain⟨hl,I⟩:=I
 refine⟨hl,?_⟩
 rcases I with I|⟨id,cs,c,rfl,hg,hc⟩|⟨id,rfl,hg,h1⟩
 ·exact .inl I
 ·exact .inr (.inl ⟨id,cs,c,rfl,hk.row hw hg (hn id (by simp[rowIds])),hc⟩)
 ·exact .inr (.inr ⟨id,rfl,hk.row hw hg (hn id (by simp[rowIds])),h1⟩)
theorem View.len {v:V}(I:View h v l): lenV Tryz.prog h 29 v=some (.int .i64 l.length):=by
 obtain⟨_,I⟩:=I
 rcases I with⟨rfl|⟨ea,rfl⟩,rfl⟩|⟨id,off,cap,n,cs,st,rfl,_⟩<;>simp[lenV,aK]
theorem View.rdN {len:Nat}{cap:Cap}(hv:View h (.sl id off len cap) l): len=l.length∧rdN h id off len=some (ofBytes l):=by
 obtain⟨_,hv⟩:=hv
 rcases hv with⟨I,_⟩|⟨wI,off',Bt,n,cs,st,I,hg,h1,h2,h3,h4⟩
 ·rcases I with I|⟨_,I⟩<;>cases I
 ·injection I with e1 e2 e3 e4
  subst e1;subst e2;subst e3
  refine⟨rfl,?_⟩
  unfold Am.rdN
  simp only[hg]
  rw[aW.2 h2,ah]
  cases hc:(Nat.beq off 0&&Nat.beq l.length n) with
  |true =>
   simp only[bQ,beq_iff] at hc
   obtain⟨rfl,hn⟩:=hc
   rw[ah,←h3,ij,gT (by omega)]
  |false=>rw[aV,h3]
theorem Hp : ∃i,Tryz.prog.info? 5=some i∧i.size=1∧i.bytes=1:=by
 refine⟨_,(show Tryz.prog.info? 5=some ((Tryz.prog.info? 5).getD default) by kernel_rfl),by kernel_rfl,by kernel_rfl⟩
theorem sZ : zeroT Tryz.prog 5=some (.int .u8 0):=by kernel_rfl
theorem O7 {x:V}{m:List Nat}(hx:View h x m): srcV h 1 x=some (ofBytes m,m.length):=by
 obtain⟨hl,I⟩:=hx
 rcases I with⟨rfl|⟨ea,rfl⟩,rfl⟩|⟨id,off,cap,n,cs,st,rfl,hg,h1,h2,h3,h4⟩
 ·rfl
 ·rfl
 ·simp only[srcV,dV]
  rw[(View.rdN (l:=m) ⟨hl,.inr ⟨id,off,cap,n,cs,st,rfl,hg,h1,h2,h3,h4⟩⟩).2]
  rfl
theorem BI {s x:V}{m:List Nat}(hw:nL h)(hs:kX h s l)(hx:View h x m)(fJ:l.length+m.length≤140737488355328):
  ∃v' h',appendV Tryz.prog h #[29,29] s x=some (v',h')∧kX h' v' (l++m)∧fo 1 (rowIds s) h h'∧(∀i∈rowIds v',i∈rowIds s∨h.next≤i):=by
 obtain⟨i,hi,i1,i2⟩:=Hp
 have kj:∀b∈l++m,b<256:=fun b hb=>by
  rcases List.mem_append.1 hb with hb|hb
  ·exact hs.1 b hb
  ·exact hx.1 b hb
 have hgr:mA (l.length+m.length) 1=true:=rU.2 ⟨fJ,by omega⟩
 unfold appendV
 simp only[aK,hi,sZ,i1,i2,V.cells,bq,cj,O7 hx]
 rw[show(Nat.ble 1 1&&Nat.ble 1 4096&&Nat.beq (0+1) 1)=true from rfl,ah]
 cases hm:Nat.beq m.length 0 with
 |true =>
  have vP:m=[]:=ic (beq_iff.1 hm)
  subst vP
  rw[ah,fe]
  have I:=hs
  obtain⟨_,I⟩:=I
  rcases I with⟨rfl,rfl⟩|⟨id,cs,c,rfl,hg,hc⟩|⟨id,rfl,hg,h1⟩
  ·exact⟨_,_,rfl,hs,(fo.refl hw _).mono (gu _) (fun _ h=>h),fun i hi=>.inl hi⟩
  ·exact⟨_,_,rfl,hs,(fo.refl hw _).mono (gu _) (fun _ h=>h),fun i hi=>.inl hi⟩
  ·exact⟨_,_,rfl,hs,(fo.refl hw _).mono (gu _) (fun _ h=>h),fun i hi=>.inl hi⟩
 |false =>
  have vP:1≤m.length:=by
   rcases pM m.length with h0|h0
   ·rw[rS h0] at hm;cases hm
   ·exact h0
  rw[aV]
  have nJ:∀(σ:H) (old:List Nat),nL σ→1≤(old++m).length→(∀b∈old++m,b<256)→kX (mB σ 1 (ofBytes old) (ofBytes m) (old.length+m.length)).2 (mB σ 1 (ofBytes old) (ofBytes m) (old.length+m.length)).1 (old++m):=by
   intro σ old _ h1 h2
   refine⟨h2,.inr (.inr ⟨σ.next,?_,?_,h1⟩)⟩
   ·simp only[mB,aX]
   ·simp only[mB]
    rw[iX,ay rfl,dV,aX,tJ]
  have I:=hs
  obtain⟨_,I⟩:=I
  rcases I with⟨rfl,rfl⟩|⟨id,cs,c,rfl,hg,hc⟩|⟨id,rfl,hg,h1⟩
  ·simp only
   have ac7:mA m.length 1=true:=by simpa using hgr
   rw[ac7,ah]
   have:=nJ h [] hw (by simpa using vP) (by simpa using hx.1)
   simp only[cj,fh,dG] at this
   exact⟨_,_,rfl,by rw[dG];exact this,(fo.Df hw _).mono (aI _) (fun i hi=>by simp at hi),fun i hi=>.inr (by simp[rowIds] at hi;omega)⟩
  ·simp only[dV,fh]
   have hv:=kX.view hs
   cases hq:Nat.ble (l.length+m.length) c with
   |true =>
    have Bh:=aW.1 hq
    rw[ah]
    unfold wrN
    simp only[hg,dx]
    rw[hq,ah]
    simp only
    have oX:(cond (Nat.beq l.length 0&&Nat.beq m.length c) (ofBytes m) ((ofBytes l++cs).take l.length++(ofBytes m++(ofBytes l++cs).drop (l.length+m.length))))=ofBytes (l++m)++cs.drop m.length:=by
     have e1:(ofBytes l++cs).take l.length=ofBytes l:=gq (dx l)
     have e2:(ofBytes l++cs).drop (l.length+m.length)=cs.drop m.length:=by
      rw[yj,dx,show l.length+m.length-l.length=m.length from by omega,pI (by rw[dx];omega),dG]
     cases hz:(Nat.beq l.length 0&&Nat.beq m.length c) with
     |true =>
      simp only[bQ,beq_iff] at hz
      have Ii:l=[]:=ic hz.1
      subst Ii
      have lz:cs.drop m.length=[]:=pI (by simp at hc;omega)
      simp[lz]
     |false=>rw[aV,e1,e2,tJ,dA]
    rw[oX]
    refine⟨_,_,rfl,⟨kj,.inr (.inl ⟨id,cs.drop m.length,c,by simp,?_,by simp;omega⟩)⟩,(fo.WN hw (hw id _ hg) _).mono (gu _) (fun i hi=>by simpa[rowIds] using hi),fun i hi=>.inl (by simpa[rowIds] using hi)⟩
    rw[iq,ay rfl]
   |false =>
    rw[aV,hgr,ah,hv.rdN.2]
    simp only
    exact⟨_,_,rfl,nJ h l hw (by simp;omega) kj,(fo.Df hw _).mono (aI _) (fun i hi=>by simp at hi),fun i hi=>.inr (by simp[rowIds] at hi;omega)⟩
  ·simp only[kE,ah,dV,fh]
   have hv:=kX.view hs
   have zU:fU h id 0 1=l.length:=by simp[fU,hg]
   have hf:Nat.ble (l.length+m.length) l.length=false:=by
    cases hq:Nat.ble (l.length+m.length) l.length with
    |true=>have:=aW.1 hq;omega
    |false=>rfl
   rw[zU,hf,aV,hgr,show Nat.ble 2 (l.length+m.length)=true from aW.2 (by omega),lN,ah,hv.rdN.2,hg]
   simp only
   have tY:nL (h.put id none):=hw.put (hw id _ hg) _
   refine⟨_,_,rfl,nJ (h.put id none) l tY (by simp;omega) kj,?_,fun i hi=>.inr (by simp[rowIds,H.put] at hi;omega)⟩
   refine((fo.WN hw (hw id _ hg) none).trans (S':=[]) (fo.Df tY _) (fun i hi=>by simp at hi)).mono (aI _) (fun i hi=>by simpa[rowIds] using hi)
section
variable {a b:Operand} {v:V}
theorem bV (I:bC E x=some v): opE P E h (.move x)=some (v,h):=by simp only[opE,kV,I]
theorem iO (I:bC E x=some v): opE P E h (.assign x)=some (v,h):=by simp only[opE,kV,I]
theorem mw (I:bC E x=some (.bool true))(ha:bC E a=some v): opE P E h (.pick x a b)=some (v,h):=by simp only[opE,kV,I,ah,ha]
theorem pT (I:bC E x=some (.bool false))(hb:bC E b=some v): opE P E h (.pick x a b)=some (v,h):=by simp only[opE,kV,I,aV,hb]
theorem uW {o:Nat}(I:bC E x=some (.ptr i o)): opE P E h (.nilCheck x)=some (.ptr i o,h):=by simp only[opE,kV,I]
theorem mU {t:Nat}(I:bC E x=some v)(hf:fieldAddrV P t v i=some r): opE P E h (.fieldAddr t x i)=some (r,h):=by simp only[opE,kV,I,hf,bI]
theorem o_load (I:bC E x=some v)(hf:loadV P h t v=some r): opE P E h (.load t x)=some (r,h):=by simp only[opE,kV,I,hf,bI]
theorem Ni (I:bC E x=some v)(hy:bC E y=some u)(hf:jR P h t v u=some h₁): opE P E h (.store t x y)=some (cP,h₁):=by simp only[opE,wS,I,hy,hf,wJ]
theorem ak {op:BinOp}(I:bC E x=some v)(hy:bC E y=some u)(hf:binV P h op t x y v u=some r): opE P E h (.binOp op t x y t')=some (r,h):=by simp only[opE,wS,I,hy,hf,bI]
theorem dZ {op:UnOp}(I:bC E x=some v)(hf:unV op v=some r): opE P E h (.unOp op t x)=some (r,h):=by simp only[opE,kV,I,hf,bI]
theorem cL {s d:TypeId}(I:bC E x=some v)(hf:convV P h s d v=some (r,h₁)): opE P E h (.convert s d x)=some (r,h₁):=by simp only[opE,kV,I,hf]
theorem bS (I:bC E x=some v)(hy:bC E y=some u)(hf:indexAddrV P t v u=some r): opE P E h (.indexAddr t x y)=some (r,h):=by simp only[opE,wS,I,hy,hf,bI]
theorem BJ (I:bC E x=some v)(hy:bC E y=some u)(hf:indexV P t v u=some r): opE P E h (.index t x y)=some (r,h):=by simp only[opE,wS,I,hy,hf,bI]
theorem iU {l:List V}(I:bC E x=some (.aT l))(hf:nth l i=some r): opE P E h (.extract x i)=some (r,h):=by simp only[opE,kV,I,hf,bI]
theorem cQ {l:List (Nat×V)}(I:lookParts E ps.toList=some l)(hf:buildV P t l=some r): opE P E h (.build t ps)=some (r,h):=by simp only[opE,I,hf,bI]
theorem eU (I:bC E x=some v)(hs:v.cells.all storable=true): opE P E h (.box t x)=some (.ptr h.next 0,newRow h v.cells):=by simp only[opE,kV,I,hs,ah]
theorem cu (I:zeroT P t=some v): opE P E h (.alloc t)=some (.ptr h.next 0,newRow h v.cells):=by simp only[opE,I]
theorem mI (I:bC E x=some v)(hf:makeIfaceV P t v=some r): opE P E h (.makeInterface t x)=some (r,h):=by simp only[opE,kV,I,hf,bI]
theorem Fz {f:Fn}{p q:Array Operand}{l m:List V}(I:lookArgs E p.toList=some l)(hy:lookArgs E q.toList=some m): opE P E h (.makeFunc f p q)=some (.fn f l m,h):=by simp only[opE,I,hy]
theorem aD {c:Go.Call}(I:c.callee=.builtin .len)(ha:lookArgs E c.args.toList=some [v])(ht:c.argTypes.toList=[t])(hf:lenV P h t v=some r): opE P E h (.call c)=some (r,h):=by
 simp only[opE,I,ha,builtinV,ht,hf,gJ]
theorem j_ {c:Go.Call}(I:c.callee=.builtin .append)(ha:lookArgs E c.args.toList=some [v,u])(hf:appendV P h c.argTypes v u=some (r,h₁)): opE P E h (.call c)=some (r,h₁):=by
 simp only[opE,I,ha,builtinV,hf]
theorem Dg (I:bC E x=some v)(hy:bC E y=some u)(hf:makeSliceV P h t v u=some (r,h₁)): opE P E h (.makeSlice t x y)=some (r,h₁):=by simp only[opE,wS,I,hy,hf]
theorem ku {t:Nat}{l:List (Nat×V)}(I:lookParts E ps.toList=some l)(hf:buildSliceV P h t n l=some (r,h₁)): opE P E h (.buildSlice t n ps)=some (r,h₁):=by simp only[opE,I,hf]
theorem bO {lo hi mx:Option Operand}{p q m:Option V}{p' q' m':Option Nat}(I:bC E x=some v)(h1:lookOpt E lo=some p)(h2:lookOpt E hi=some q)(h3:lookOpt E mx=some m)
 (g1:me p=some p')(g2:me q=some q')(g3:me m=some m')(hf:sliceV P h t v p' q' m'=some r): opE P E h (.slice t x lo hi mx)=some (r,h):=by simp only[opE,kV,I,h1,h2,h3,g1,g2,g3,hf,bI]
theorem D1 (I:isAggT P t=some false)(hg:T.get h.tr id=some (.cells n cs st))(hn:nth cs off=some v): loadV P h t (.ptr id off)=some v:=by
 simp only[loadV,I,Bc,hg,hn]
theorem b7 (I:isAggT P t=some true)(hs:bp P t=some n)(hg:T.get h.tr id=some (.cells n cs st)): loadV P h t (.ptr id 0)=some (.agg cs):=by
 simp only[loadV,I,hs,rdN,hg,fh]
 rw[aW.2 (aI n),ah,kE,kE]
 rfl
end
section
variable {ax:Nat} {o:Oper}
theorem IB (hw:nL h)(I:b<256):
  ∃v h₁,buildSliceV Tryz.prog h 29 1 [(0,.int .u8 b)]=some (v,h₁)∧kX h₁ v [b]∧fo 1 [] h h₁∧∀i∈rowIds v,h.next≤i:=by
 refine⟨.sl h.next 0 1 (.exact 1),newRow h [.int .u8 b],?_,⟨by simpa using I,.inr (.inl ⟨h.next,[],1,rfl,?_,rfl⟩)⟩,fo.Df hw _,fun i hi=>by simp[rowIds] at hi;omega⟩
 ·simp only[buildSliceV,aK,fB,sZ,V.cells]
  rfl
 ·rw[newRow,iX,ay rfl];rfl
theorem au.O8 (hP:C.P=Tryz.prog)(hw:nL h)(hg:wantE L E o.guard=some true)(hd:o.dst=some d)(hn:Nat.blt d ax=true)(I:o.op=.buildSlice t 1 ps)(ht:t=29)
 (hx:lookParts E ps.toList=some [(0,.int .u8 (b:Int))])(hb:b<256)
 (hr:∀v h₁,kX h₁ v [b]→fo 1 [] h h₁→(∀i∈rowIds v,h.next≤i)→au C ax L rest ((d,v)::E) h₁ R): au C ax L (o::rest) E h R:=by
 obtain⟨v,h₁,e1,e2,e3,e4⟩:=IB hw hb
 refine au.op hg hd hn (v:=v) (h₁:=h₁) ?_ (hr v h₁ e2 e3 e4)
 rw[I,ht,hP]
 exact ku hx e1
theorem au.app {c:Go.Call}{s x:V}{m:List Nat}(hP:C.P=Tryz.prog)(hw:nL h)(hg:wantE L E o.guard=some true)(hd:o.dst=some d)(hn:Nat.blt d ax=true)(I:o.op=.call c)(hc:c.callee=.builtin .append)
 (yG:c.argTypes = #[29,29])(ha:lookArgs E c.args.toList=some [s,x])(hs:kX h s l)(hx:View h x m)(fJ:l.length+m.length≤140737488355328)
 (hr:∀v h₁,kX h₁ v (l++m)→fo 1 (rowIds s) h h₁→(∀i∈rowIds v,i∈rowIds s∨h.next≤i)→au C ax L rest ((d,v)::E) h₁ R): au C ax L (o::rest) E h R:=by
 obtain⟨v,h₁,e1,e2,e3,e4⟩:=BI hw hs hx fJ
 refine au.op hg hd hn (v:=v) (h₁:=h₁) ?_ (hr v h₁ e2 e3 e4)
 rw[I,hP]
 exact j_ hc ha (by rw[yG];exact e1)
theorem FA (hw:nL h)(hc:c<1073741824):
  ∃v h₁,makeSliceV Tryz.prog h 29 (.int .i64 0) (.int .i64 (c:Int))=some (v,h₁)∧kX h₁ v []∧fo 1 [] h h₁∧∀i∈rowIds v,h.next≤i:=by
 obtain⟨i,hi,i1,i2⟩:=Hp
 refine⟨.sl h.next 0 0 (.exact c),h.new (.cells c (repeatL [.int .u8 0] c) false),?_,⟨by simp,.inr (.inl ⟨h.next,repeatL [.int .u8 0] c,c,rfl,?_,?_⟩)⟩,fo.Df hw _,fun i hi=>by simp[rowIds] at hi;omega⟩
 ·simp only[makeSliceV,aK,hi,sZ,i1,i2,V.cells,bq,cj,gU,dV]
  rw[show(decide ((0:Int)≤0)&&decide ((0:Int)≤(c:Int))&&decide ((c:Int)<1073741824)&&Nat.ble 1 4096&&Nat.beq (0+1) 1&&Nat.ble 1 1)=true by simp;omega,ah]
  rfl
 ·rw[iX,ay rfl];rfl
 ·have:∀n,(repeatL [V.int .u8 0] n).length=n:=fun n=>by
   induction n with
   |zero=>rfl
   |succ n I=>simp[repeatL,I]
  simp[this]
end
section
variable {ax:Nat} {o:Oper} {v:V} {a b:Operand}
theorem zm (e:(o.op,wantE L E o.guard,o.dst,Nat.blt d ax,bC E x)=(Op.move x,some true,some d,true,some v))(hw:au C ax L rest ((d,v)::E) h R): au C ax L (o::rest) E h R:=by
  simp only[bN] at e;exact au.op e.2.1 e.2.2.1 e.2.2.2.1 (by rw[e.1];exact bV e.2.2.2.2) hw
theorem za (e:(o.op,wantE L E o.guard,o.dst,Nat.blt d ax,bC E x)=(Op.assign x,some true,some d,true,some v))(hw:au C ax L rest ((d,v)::E) h R): au C ax L (o::rest) E h R:=by
  simp only[bN] at e;exact au.op e.2.1 e.2.2.1 e.2.2.2.1 (by rw[e.1];exact iO e.2.2.2.2) hw
theorem zn (e:(o.op,wantE L E o.guard,o.dst,Nat.blt d ax,bC E x)=(Op.nilCheck x,some true,some d,true,some (V.ptr j k)))(hw:au C ax L rest ((d,.ptr j k)::E) h R): au C ax L (o::rest) E h R:=by
  simp only[bN] at e;exact au.op e.2.1 e.2.2.1 e.2.2.2.1 (by rw[e.1];exact uW e.2.2.2.2) hw
theorem zf (e:(o.op,wantE L E o.guard,o.dst,Nat.blt d ax,bC E x)=(Op.fieldAddr t x i,some true,some d,true,some v))(I:fieldAddrV C.P t v i=some r)(hw:au C ax L rest ((d,r)::E) h R): au C ax L (o::rest) E h R:=by
  simp only[bN] at e;exact au.op e.2.1 e.2.2.1 e.2.2.2.1 (by rw[e.1];exact mU e.2.2.2.2 I) hw
theorem zl (e:(o.op,wantE L E o.guard,o.dst,Nat.blt d ax,bC E x)=(Op.load t x,some true,some d,true,some v))(I:loadV C.P h t v=some r)(hw:au C ax L rest ((d,r)::E) h R): au C ax L (o::rest) E h R:=by
  simp only[bN] at e;exact au.op e.2.1 e.2.2.1 e.2.2.2.1 (by rw[e.1];exact o_load e.2.2.2.2 I) hw
theorem ze {l:List V}(e:(o.op,wantE L E o.guard,o.dst,Nat.blt d ax,bC E x,nth l i)=(Op.extract x i,some true,some d,true,some (V.aT l),some r))(hw:au C ax L rest ((d,r)::E) h R): au C ax L (o::rest) E h R:=by
  simp only[bN] at e;exact au.op e.2.1 e.2.2.1 e.2.2.2.1 (by rw[e.1];exact iU e.2.2.2.2.1 e.2.2.2.2.2) hw
theorem zp (e:(o.op,wantE L E o.guard,o.dst,Nat.blt d ax,bC E x,bC E b)=(Op.pick x a b,some true,some d,true,some (V.bool false),some v))(hw:au C ax L rest ((d,v)::E) h R): au C ax L (o::rest) E h R:=by
  simp only[bN] at e;exact au.op e.2.1 e.2.2.1 e.2.2.2.1 (by rw[e.1];exact pT e.2.2.2.2.1 e.2.2.2.2.2) hw
theorem zq (e:(o.op,wantE L E o.guard,o.dst,Nat.blt d ax,bC E x,bC E a)=(Op.pick x a b,some true,some d,true,some (V.bool true),some v))(hw:au C ax L rest ((d,v)::E) h R): au C ax L (o::rest) E h R:=by
  simp only[bN] at e;exact au.op e.2.1 e.2.2.1 e.2.2.2.1 (by rw[e.1];exact mw e.2.2.2.2.1 e.2.2.2.2.2) hw
theorem zb {op:BinOp}(e:(o.op,wantE L E o.guard,o.dst,Nat.blt d ax,bC E x,bC E y)=(Op.binOp op t x y t',some true,some d,true,some v,some u))(I:binV C.P h op t x y v u=some r)(hw:au C ax L rest ((d,r)::E) h R): au C ax L (o::rest) E h R:=by
  simp only[bN] at e;exact au.op e.2.1 e.2.2.1 e.2.2.2.1 (by rw[e.1];exact ak e.2.2.2.2.1 e.2.2.2.2.2 I) hw
theorem zx (e:(wantE L E o.guard,o.dst,Nat.blt d ax)=(some false,some d,true))(hw:au C ax L rest ((d,cP)::E) h R): au C ax L (o::rest) E h R:=by
  simp only[bN] at e;exact au.no e.1 e.2.1 e.2.2 hw
theorem zo (e:(wantE L E o.guard,o.dst,Nat.blt d ax)=(some true,some d,true))(ho:opE C.P E h o.op=some (v,h₁))(hw:au C ax L rest ((d,v)::E) h₁ R): au C ax L (o::rest) E h R:=by
  simp only[bN] at e;exact au.op e.1 e.2.1 e.2.2 ho hw
theorem zv (I:R E h): au C ax L [] E h R:=au.nil I
variable {c f:Code}
theorem zw (hw:WP C ax c E h fun ex E' h'=>match ex with
    |.normal=>WP C ax f E' h' Q
    |ex=>Q ex E' h'): WP C ax (.seq c f) E h Q:=WP.seq hw
theorem zr (hl:ops.toList=L)(hw:au C ax L L E h fun E' h'=>Q .normal E' h'): WP C ax (.region k ops false) E h Q:=WP.region hl hw
theorem zg (hl:ops.toList=L)(hw:au C ax L L E h fun E' h'=>WP C ax f E' h' Q): WP C ax (.seq (.region k ops false) f) E h Q:=WP.seq (WP.region hl hw)
theorem zi (I:bC E x=some (.bool true))(hw:WP C ax c E h Q): WP C ax (.cond x c f) E h Q:=WP.cond I hw
theorem zj (I:bC E x=some (.bool false))(hw:WP C ax f E h Q): WP C ax (.cond x c f) E h Q:=WP.cond I hw
end
inductive Md where
  |c (c:Code)
  |o (L l:List Oper)
def FB (C:gE)(ax:Nat)(Q:Ex→List (Nat×V)→H→Prop): List Code→Ex→List (Nat×V)→H→Prop
  |[]=>Q
  |b::K=>fun ex E' h'=>match ex with
    |.normal=>WP C ax b E' h' (FB C ax Q K)
    |ex=>FB C ax Q K ex E' h'
def WO : List (Nat×V)→Nat→Option V
  |[],_=>none
  |(d,v)::E,k=>cond (Nat.beq d k) (some v) (WO E k)
theorem Rn : ∀(E:List (Nat×V)) (k:Nat),WO E k=look E k
  |[],_=>rfl
  |(d,v)::E,k=>by simp only[WO,look,Rn E k]
def FC (E:List (Nat×V)): Operand→Option V
  |.tmp t=>WO E t
  |.const c=>ofValue c
  |.global _=>none
  |.func f=>some (.fn (.func f) [] [])
theorem Ro (E:List (Nat×V))(x:Operand): FC E x=bC E x:=by cases x<;>first|rfl|exact Rn _ _
def pur (E:List (Nat×V)): Op→Option V
  |.move x=>FC E x
  |.assign x=>FC E x
  |.nilCheck x=>match FC E x with
    |some (.ptr j k)=>some (.ptr j k)
    |_=>none
  |.extract x i=>match FC E x with
    |some (.aT l)=>nth l i
    |_=>none
  |.pick x a b=>match FC E x with
    |some (.bool true)=>FC E a
    |some (.bool false)=>FC E b
    |_=>none
  |_=>none
def runM (ax:Nat): Nat→Md→List (Nat×V)→List Code→Option (Md×List (Nat×V)×List Code)
  |0,m,E,K=>some (m,E,K)
  |n+1,.o _ [],E,b::K=>runM ax n (.c b) E K
  |n+1,.o L (o::l),E,K=>match wantE L E o.guard,o.dst with
    |some false,some d=>cond (Nat.blt d ax) (runM ax n (.o L l) ((d,cP)::E) K) none
    |some true,some d=>match pur E o.op with
      |some v=>cond (Nat.blt d ax) (runM ax n (.o L l) ((d,v)::E) K) none
      |none=>none
    |_,_=>none
  |n+1,.c (.seq a b),E,K=>runM ax n (.c a) E (b::K)
  |n+1,.c (.region _ ops false),E,K=>runM ax n (.o ops.toList ops.toList) E K
  |n+1,.c (.cond x a b),E,K=>match FC E x with
    |some (.bool true)=>runM ax n (.c a) E K
    |some (.bool false)=>runM ax n (.c b) E K
    |_=>none
  |n+1,.c .skip,E,b::K=>runM ax n (.c b) E K
  |_+1,_,_,_=>none
abbrev Gl (C:gE)(ax:Nat)(h:H)(Q:Ex→List (Nat×V)→H→Prop)(m:Md)(E:List (Nat×V))(K:List Code): Prop:=match m with
  |.c c=>WP C ax c E h (FB C ax Q K)
  |.o L l=>au C ax L l E h fun E' h'=>FB C ax Q K .normal E' h'
class Km (C:gE)(ax:Nat)(R:List (Nat×V)→H→Prop)(Q:outParam (Ex→List (Nat×V)→H→Prop))where
  K:List Code
  eq:R=fun E' h'=>FB C ax Q K .normal E' h'
class WQ (C:gE)(ax:Nat)(R:Ex→List (Nat×V)→H→Prop)(Q:outParam (Ex→List (Nat×V)→H→Prop))where
  K:List Code
  eq:R=FB C ax Q K
instance (priority:=50) (C:gE) (ax:Nat) (R:List (Nat×V)→H→Prop):Km C ax R (fun _=>R):=⟨[],rfl⟩
instance (priority:=60) (C:gE) (ax:Nat) (Q:Ex→List (Nat×V)→H→Prop):Km C ax (fun E' h'=>Q .normal E' h') Q:=⟨[],rfl⟩
instance (priority:=70) (C:gE) (ax:Nat) (f:Code) (Q:Ex→List (Nat×V)→H→Prop) (K:List Code):Km C ax (fun E' h'=>WP C ax f E' h' (FB C ax Q K)) Q:=⟨f::K,rfl⟩
instance (priority:=65) (C:gE) (ax:Nat) (f:Code) (Q:Ex→List (Nat×V)→H→Prop):Km C ax (fun E' h'=>WP C ax f E' h' Q) Q:=⟨[f],rfl⟩
instance (priority:=80) (C:gE) (ax:Nat) (K:List Code) (Q:Ex→List (Nat×V)→H→Prop):Km C ax (fun E' h'=>FB C ax Q K .normal E' h') Q:=⟨K,rfl⟩
instance (priority:=50) (C:gE) (ax:Nat) (Q:Ex→List (Nat×V)→H→Prop):WQ C ax Q Q:=⟨[],rfl⟩
instance (priority:=80) (C:gE) (ax:Nat) (K:List Code) (Q:Ex→List (Nat×V)→H→Prop):WQ C ax (FB C ax Q K) Q:=⟨K,rfl⟩
section
variable {ax:Nat} {l:List Oper} {m m':Md} {K K':List Code} {f:Code}
theorem aam {o:Op}{v:V}(e:pur E o=some v): opE C.P E h o=some (v,h):=by
  unfold pur at e
  simp only[Ro] at e
  split at e
  · exact bV e
  · exact iO e
  · split at e
    · rename_i I
      cases e;exact uW I
    · cases e
  · split at e
    · rename_i I
      exact iU I e
    · cases e
  · split at e
    · rename_i I;exact mw I e
    · rename_i I;exact pT I e
    · cases e
  · cases e
theorem Nj : ∀(n:Nat) (m:Md) (E:List (Nat×V)) (K:List Code),runM ax n m E K=some (m',E',K')→Gl C ax h Q m' E' K'→Gl C ax h Q m E K:=by
  intro n
  induction n with
  |zero=>intro m E K e hw;simp only[runM,aA,bN] at e;obtain⟨rfl,rfl,rfl⟩:=e;exact hw
  |succ n I =>
    intro m E K e hw
    unfold runM at e
    split at e
    · rename_i he;cases he
    · rename_i he;cases he
      exact au.nil (I _ _ _ e hw)
    · rename_i he;cases he
      split at e
      · rename_i d hg hd
        cases hn:Nat.blt d ax with
        |false=>rw[hn] at e;cases e
        |true=>rw[hn] at e;exact au.no hg hd hn (I _ _ _ e hw)
      · rename_i d hg hd
        split at e
        · rename_i v hv
          cases hn:Nat.blt d ax with
          |false=>rw[hn] at e;cases e
          |true=>rw[hn] at e;exact au.op hg hd hn (aam hv) (I _ _ _ e hw)
        · cases e
      · cases e
    · rename_i he;cases he
      exact WP.seq (I _ _ _ e hw)
    · rename_i he;cases he
      exact WP.region rfl (I _ _ _ e hw)
    · rename_i he;cases he
      rw[Ro] at e
      split at e
      · rename_i hx;exact WP.cond hx (I _ _ _ e hw)
      · rename_i hx;exact WP.cond hx (I _ _ _ e hw)
      · cases e
    · rename_i he;cases he
      exact WP.skip (I _ _ _ e hw)
    · cases e
theorem zk (n:Nat)[a:Km C ax R Q](e:runM ax n (.o L l) E (Km.K C ax R)=some (m',E',K'))(hw:Gl C ax h Q m' E' K'): au C ax L l E h R:=by
  rw[a.eq];exact Nj n (.o L l) E _ e hw
theorem zK {I:Ex→List (Nat×V)→H→Prop}(n:Nat)[a:WQ C ax I Q](e:runM ax n (.c f) E (WQ.K C ax I)=some (m',E',K'))(hw:Gl C ax h Q m' E' K'): WP C ax f E h I:=by
  rw[a.eq];exact Nj n (.c f) E _ e hw
end
section
variable {ax:Nat} {l:List Oper} {o:Oper}
def OpR (C:gE)(E:List (Nat×V))(h:H)(o:Oper)(R:V→H→Prop): Prop:=∃v h₁,R v h₁∧∀env,lU env E→∃N,evOp C (ev C N) env h o=some (v,h₁)
theorem OpR.call {k:FuncId}{R:V→H→Prop}(rW:o.op=.call cl)(hc:cl.callee=.value x)(hx:bC E x=some (.fn (.func k) first cap))
 (ha:lookArgs E cl.args.toList=some args)(I:Am.Call C k (first++(args++cap)) h R): OpR C E h o R:=by
 obtain⟨v,h₁,Rc,hr⟩:=I
 exact⟨v,h₁,hr,fun env hE=>Ir hE rW hc hx ha Rc⟩
theorem OpR.of {v:V}{R:V→H→Prop}(ho:opE C.P E h o.op=some (v,h₁))(hr:R v h₁): OpR C E h o R:=⟨v,h₁,hr,fun _ I=>⟨0,Fq I ho⟩⟩
theorem au.any (hg:wantE L E o.guard=some true)(hd:o.dst=some d)(hn:Nat.blt d ax=true)(ho:OpR C E h o BD)
 (hw:∀v h₁,BD v h₁→au C ax L rest ((d,v)::E) h₁ R): au C ax L (o::rest) E h R:=by
 intro env hE
 obtain⟨v,h₁,hr,oO⟩:=ho
 obtain⟨N,hN⟩:=oO env hE
 obtain⟨M,I,h',E',h1,h2,h3⟩:=hw v h₁ hr (env.set d (some v)) (hE.set d v)
 refine⟨Nat.max N M,I,h',E',?_,h2,h3⟩
 simp only[evOps,kP hE hg,ah,nX (iC (qX N M)) hN,St.put,hd,hn]
 exact rY (iC (qW N M)) _ _ _ h1
def JF : List (Env×V)→List (List (Nat×V)×V)→Prop
 |[],[]=>True
 |x::l,y::m=>lU x.1 y.1∧x.2=y.2∧JF l m
 |_,_=>False
def aB (C:gE)(ax:Nat)(L l:List Oper)(E:List (Nat×V))(h:H)(hs:List H)(Q:List (Nat×V)→H→List (List (Nat×V)×V)→List H→Prop): Prop :=
 ∀env,lU env E→∃N I h' E' tr ts IC,trace C (ev C N) L l ⟨env,ax,h⟩ hs=some (tr,IC,⟨I,ax,h'⟩)∧lU I E'∧JF tr ts∧Q E' h' ts IC
variable {Q:List (Nat×V)→H→List (List (Nat×V)×V)→List H→Prop}
theorem aB.nil (I:Q E h [] hs): aB C ax L [] E h hs Q:=fun env hE=>⟨0,env,h,E,[],[],hs,rfl,hE,aa,I⟩
theorem aB.any {e:Bool}(hg:wantE L E o.guard=some true)(hd:o.dst=some d)(hn:Nat.blt d ax=true)(he:isEff C o.op=e)(ho:OpR C E h o BD)
 (hw:∀v h₁,BD v h₁→aB C ax L rest ((d,v)::E) h₁ (cond e (hs++[h₁]) hs) fun E' h' ts I=>Q E' h' ((E,v)::ts) I): aB C ax L (o::rest) E h hs Q:=by
 intro env hE
 obtain⟨v,h₁,hr,oO⟩:=ho
 obtain⟨N,hN⟩:=oO env hE
 obtain⟨M,xM,h',E',tr,ts,I,h1,h2,h3,h4⟩:=hw v h₁ hr (env.set d (some v)) (hE.set d v)
 refine⟨Nat.max N M,xM,h',E',(env,v)::tr,(E,v)::ts,I,?_,h2,⟨hE,rfl,h3⟩,h4⟩
 simp only[trace,kP hE hg,ah,nX (iC (qX N M)) hN,St.put,hd,hn,he]
 rw[zX (iC (qW N M)) _ _ _ _ h1]
theorem aB.mg {e:Bool}(hg:wantE L E o.guard=some true)(hd:o.dst=none)(he:isEff C o.op=e)(ho:OpR C E h o BD)
 (hw:∀v h₁,BD v h₁→aB C ax L rest E h₁ (cond e (hs++[h₁]) hs) fun E' h' ts I=>Q E' h' ((E,v)::ts) I): aB C ax L (o::rest) E h hs Q:=by
 intro env hE
 obtain⟨v,h₁,hr,oO⟩:=ho
 obtain⟨N,hN⟩:=oO env hE
 obtain⟨M,xM,h',E',tr,ts,I,h1,h2,h3,h4⟩:=hw v h₁ hr env hE
 refine⟨Nat.max N M,xM,h',E',(env,v)::tr,(E,v)::ts,I,?_,h2,⟨hE,rfl,h3⟩,h4⟩
 simp only[trace,kP hE hg,ah,nX (iC (qX N M)) hN,St.put,hd,he]
 rw[zX (iC (qW N M)) _ _ _ _ h1]
theorem aB.op {v:V}(hg:wantE L E o.guard=some true)(hd:o.dst=some d)(hn:Nat.blt d ax=true)(he:isEff C o.op=false)(ho:opE C.P E h o.op=some (v,h))
 (hw:aB C ax L rest ((d,v)::E) h hs fun E' h' ts I=>Q E' h' ((E,v)::ts) I): aB C ax L (o::rest) E h hs Q :=
 aB.any hg hd hn he (OpR.of (R:=fun v' h'=>v'=v∧h'=h) ho ⟨rfl,rfl⟩) (fun v' h' hr=>by obtain⟨rfl,rfl⟩:=hr;exact hw)
theorem aB.no {e:Bool}(hg:wantE L E o.guard=some false)(hd:o.dst=some d)(hn:Nat.blt d ax=true)(he:isEff C o.op=e)
 (hw:aB C ax L rest ((d,cP)::E) h (cond e (hs++[h]) hs) fun E' h' ts I=>Q E' h' ((E,cP)::ts) I): aB C ax L (o::rest) E h hs Q:=by
 intro env hE
 obtain⟨M,xM,h',E',tr,ts,I,h1,h2,h3,h4⟩:=hw (env.set d (some cP)) (hE.set d cP)
 refine⟨M,xM,h',E',(env,cP)::tr,(E,cP)::ts,I,?_,h2,⟨hE,rfl,h3⟩,h4⟩
 simp only[trace,kP hE hg,aV,St.put,hd,hn,ah,he]
 rw[h1]
def Kn (C:gE)(L:List Oper)(o:Oper)(x:List (Nat×V)×V)(h:H): Prop :=
 wantE L x.1 o.guard=some false∨(wantE L x.1 o.guard=some true∧(∃h',opE C.P x.1 h o.op=some (x.2,h'))∧x.2.beq x.2=true)
def FD (C:gE)(L:List Oper)(an es:List Nat)(hs:List H): List Oper→List (List (Nat×V)×V)→Nat→Prop
 |o::l,x::tr,i=>(isEff C o.op=true∨(rR ((nth an i).getD 0) es&&Nat.beq (mT ((nth an i).getD 0) es) (qf an i es))=true ∨
   (rR ((nth an i).getD 0) es=true∧∀h∈(hs.drop (mT ((nth an i).getD 0) es)).take (qf an i es+1-mT ((nth an i).getD 0) es),Kn C L o x h))∧FD C L an es hs l tr (i+1)
 |[],[],_=>True
 |_,_,_=>False
theorem Rp {x:Env×V}{y:List (Nat×V)×V}(hE:lU x.1 y.1)(hv:x.2=y.2): ∀(hs:List H),(∀h∈hs,Kn C L o y h)→sameIn C self L o x hs=true:=by
 intro hs
 induction hs with
 |nil=>intro _;rfl
 |cons h hs ih =>
  intro I
  simp only[sameIn]
  rcases I h bB with hg|⟨hg,⟨h',ho⟩,hb⟩
  ·rw[kP hE hg,aV]
  ·rw[kP hE hg,ah,Fq hE ho]
   simp only
   rw[hv,hb,ah]
   exact ih (fun h hh=>I h (bA _ hh))
theorem ID {an:List Nat}: ∀(l:List Oper) (tr:List (Env×V)) (ts:List (List (Nat×V)×V)) (i:Nat),JF tr ts→FD C L an es hs l ts i→stayOk C self L an es hs l tr i=true:=by
 intro l
 induction l with
 |nil=>intro tr ts i hn eD;cases tr<;>cases ts<;>first|rfl|(exact eD.elim)|(exact hn.elim)
 |cons o l ih =>
  intro tr ts i hn eD
  cases tr with
  |nil=>cases ts with
   |nil=>exact eD.elim
   |cons y ts=>exact hn.elim
  |cons x tr =>
   cases ts with
   |nil=>exact hn.elim
   |cons y ts =>
    obtain⟨n1,n2,n3⟩:=hn
    obtain⟨s1,s2⟩:=eD
    simp only[stayOk]
    have I:=ih tr ts (i+1) n3 s2
    cases he:isEff C o.op with
    |true=>rw[ah];exact I
    |false =>
     rw[aV]
     rcases s1 with s1|s1|⟨s1,s3⟩
     ·rw[he] at s1;cases s1
     ·rw[s1,ah];exact I
     ·cases hq:(rR ((nth an i).getD 0) es&&Nat.beq (mT ((nth an i).getD 0) es) (qf an i es)) with
      |true=>rw[ah];exact I
      |false=>rw[aV,s1,Rp n1 n2 _ s3,lN,ah];exact I
theorem WP.draw {Q:Ex→List (Nat×V)→H→Prop}(hl:ops.toList=L)(eD:mS C false L=true)
 (hw:aB C ax L L E h [h] fun E' h' ts hs=>FD C L (ancs L []) (eY C L 0) hs L ts 0∧Q .normal E' h'): WP C ax (.region id ops true) E h Q:=by
 intro env hE
 obtain⟨N,I,h',E',tr,ts,IC,h1,h2,h3,h4,h5⟩:=hw env hE
 refine⟨N+1,.normal,I,h',E',?_,h2,h5⟩
 subst hl
 rw[jJ]
 simp only[evStep,ah,ql,eD,h1,ID _ _ _ _ h3 h4]
def Nk (L:List Oper): List Oper→List (List (Nat×V)×V)→Prop
 |o::l,x::ts=>(isAlloc true o=false∨wantE L x.1 o.guard=some true)∧Nk L l ts
 |_,_=>True
theorem Nk.all : ∀(l:List Oper) (tr:List (Env×V)) (ts:List (List (Nat×V)×V)),JF tr ts→Nk L l ts→allW L l tr=true:=by
 intro l
 induction l with
 |nil=>intro tr ts _ _;rfl
 |cons o l I =>
  intro tr ts hn hf
  cases tr with
  |nil=>rfl
  |cons x tr =>
   cases ts with
   |nil=>exact hn.elim
   |cons y ts =>
    obtain⟨n1,n2,n3⟩:=hn
    obtain⟨f1,f2⟩:=hf
    simp only[allW]
    rcases f1 with f1|f1
    ·rw[f1];exact I tr ts n3 f2
    ·rw[kP n1 f1]
     simp only[Bool.or_true,ah]
     exact I tr ts n3 f2
theorem WP.abL {Q:Ex→List (Nat×V)→H→Prop}(hl:ops.toList=L)(eD:mS C true L=true)
 (hw:aB C ax L L E h [h] fun E' h' ts hs=>(FD C L (ancs L []) (eY C L 0) hs L ts 0∧Nk L L ts)∧Q .normal E' h'): WP C ax (.region id ops true) E h Q:=by
 intro env hE
 obtain⟨N,I,h',E',tr,ts,IC,h1,h2,h3,⟨h4,h6⟩,h5⟩:=hw env hE
 refine⟨N+1,.normal,I,h',E',?_,h2,h5⟩
 subst hl
 rw[jJ]
 simp only[evStep,ah,ql,eD,h1,ID _ _ _ _ h3 h4,Nk.all _ _ _ h3 h6,lN]
 cases mS C false ops.toList<;>rfl
end
def planOk (C:gE)(an es:List Nat): List Oper→List (Option (Nat×Nat))→Nat→Bool
 |[],[],_=>true
 |o::l,p::ps,i=>(match p with
   |none=>isEff C o.op||(rR ((nth an i).getD 0) es&&Nat.beq (mT ((nth an i).getD 0) es) (qf an i es))
   |some (lo,n)=>rR ((nth an i).getD 0) es&&Nat.beq lo (mT ((nth an i).getD 0) es)&&Nat.beq n (qf an i es+1-mT ((nth an i).getD 0) es))&&planOk C an es l ps (i+1)
 |_,_,_=>false
def z7 (C:gE)(L:List Oper)(hs:List H): List Oper→List (List (Nat×V)×V)→List (Option (Nat×Nat))→Prop
 |o::l,x::tr,p::ps=>(match p with
   |none=>True
   |some (lo,n)=>∀h∈(hs.drop lo).take n,Kn C L o x h)∧z7 C L hs l tr ps
 |[],[],_=>True
 |_,_,_=>False
theorem z7.stay {an:List Nat}: ∀(l:List Oper) (ts:List (List (Nat×V)×V)) (ps:List (Option (Nat×Nat))) (i:Nat),planOk C an es l ps i=true→z7 C L hs l ts ps→FD C L an es hs l ts i:=by
 intro l
 induction l with
 |nil=>intro ts ps i h1 h2;cases ts with
  |nil=>trivial
  |cons x ts=>exact h2.elim
 |cons o l ih =>
  intro ts ps i h1 h2
  cases ts with
  |nil=>cases ps<;>exact h2.elim
  |cons x ts =>
   cases ps with
   |nil=>exact h2.elim
   |cons p ps =>
    simp only[planOk,bQ] at h1
    obtain⟨I,a2⟩:=h1
    obtain⟨b1,b2⟩:=h2
    refine⟨?_,ih ts ps (i+1) a2 b2⟩
    cases p with
    |none =>
     simp only[G3] at I
     rcases I with I|I
     ·exact .inl I
     ·exact .inr (.inl I)
    |some q =>
     obtain⟨lo,n⟩:=q
     simp only[bQ,beq_iff] at I
     obtain⟨⟨c1,c2⟩,c3⟩:=I
     refine .inr (.inr ⟨c1,?_⟩)
     subst c2
     subst c3
     exact b1
theorem WP.drawn {ax:Nat}(ps:List (Option (Nat×Nat)))(hl:ops.toList=L)(eD:mS C false L=true)
 (hp:planOk C (ancs L []) (eY C L 0) L ps 0=true)
 (hw:aB C ax L L E h [h] fun E' h' ts hs=>z7 C L hs L ts ps∧Q .normal E' h'): WP C ax (.region id ops true) E h Q:=by
 refine WP.draw hl eD ?_
 intro env hE
 obtain⟨N,I,h',E',tr,ts,IC,h1,h2,h3,h4,h5⟩:=hw env hE
 exact⟨N,I,h',E',tr,ts,IC,h1,h2,h3,z7.stay _ _ _ _ hp h4,h5⟩
theorem WP.aan {ax:Nat}(ps:List (Option (Nat×Nat)))(hl:ops.toList=L)(eD:mS C true L=true)
 (hp:planOk C (ancs L []) (eY C L 0) L ps 0=true)
 (hw:aB C ax L L E h [h] fun E' h' ts hs=>(z7 C L hs L ts ps∧Nk L L ts)∧Q .normal E' h'): WP C ax (.region id ops true) E h Q:=by
 refine WP.abL hl eD ?_
 intro env hE
 obtain⟨N,I,h',E',tr,ts,IC,h1,h2,h3,h4,h5⟩:=hw env hE
 exact⟨N,I,h',E',tr,ts,IC,h1,h2,h3,⟨z7.stay _ _ _ _ hp h4.1,h4.2⟩,h5⟩
theorem fV {a b:H}{l:List H}{p:H→Prop}(ha:p a)(hb:p b): ∀x∈((a::b::l).drop 0).take 2,p x:=by
 intro x I
 simp only[ij,List.take_succ_cons,qZ,gj,jY,nE] at I
 rcases I with rfl|rfl
 ·exact ha
 ·exact hb
theorem BK {a b c:H}{l:List H}{p:H→Prop}(ha:p a)(hb:p b)(hc:p c): ∀x∈((a::b::c::l).drop 0).take 3,p x:=by
 intro x I
 simp only[ij,List.take_succ_cons,qZ,gj,jY,nE] at I
 rcases I with rfl|rfl|rfl
 ·exact ha
 ·exact hb
 ·exact hc
theorem ff (k:IntKind): ikBeq k k=true:=by cases k<;>rfl
theorem tK (n:Int): intBeq n n=true:=by cases n<;>simp[intBeq]
theorem D2 (c:Cap): c.beq c=true:=by cases c<;>simp[Cap.beq]
theorem z8 (a b c:Nat)(d:Cap): (V.sl a b c d).beq (.sl a b c d)=true:=by simp[V.beq,D2]
theorem nM {v:V}(I:View h v l): v.beq v=true:=by
 obtain⟨_,I⟩:=I
 rcases I with⟨rfl|⟨ea,rfl⟩,_⟩|⟨id,off,cap,n,cs,st,rfl,_⟩
 ·simp[V.beq]
 ·simp[V.beq]
 ·exact z8 _ _ _ _
section
variable {ax:Nat} {Q:List (Nat×V)→H→List (List (Nat×V)×V)→List H→Prop} {o:Oper} {v:V} {a b:Operand}
theorem zM (e:(o.op,wantE L E o.guard,o.dst,Nat.blt d ax,isEff C o.op,bC E x)=(Op.move x,some true,some d,true,false,some v))(hw:aB C ax L rest ((d,v)::E) h hs fun E' h' ts I=>Q E' h' ((E,v)::ts) I): aB C ax L (o::rest) E h hs Q:=by
  simp only[bN] at e;exact aB.op e.2.1 e.2.2.1 e.2.2.2.1 e.2.2.2.2.1 (by rw[e.1];exact bV e.2.2.2.2.2) hw
theorem zA (e:(o.op,wantE L E o.guard,o.dst,Nat.blt d ax,isEff C o.op,bC E x)=(Op.assign x,some true,some d,true,false,some v))(hw:aB C ax L rest ((d,v)::E) h hs fun E' h' ts I=>Q E' h' ((E,v)::ts) I): aB C ax L (o::rest) E h hs Q:=by
  simp only[bN] at e;exact aB.op e.2.1 e.2.2.1 e.2.2.2.1 e.2.2.2.2.1 (by rw[e.1];exact iO e.2.2.2.2.2) hw
theorem zN (e:(o.op,wantE L E o.guard,o.dst,Nat.blt d ax,isEff C o.op,bC E x)=(Op.nilCheck x,some true,some d,true,false,some (V.ptr j k)))(hw:aB C ax L rest ((d,.ptr j k)::E) h hs fun E' h' ts I=>Q E' h' ((E,.ptr j k)::ts) I): aB C ax L (o::rest) E h hs Q:=by
  simp only[bN] at e;exact aB.op e.2.1 e.2.2.1 e.2.2.2.1 e.2.2.2.2.1 (by rw[e.1];exact uW e.2.2.2.2.2) hw
theorem zF (e:(o.op,wantE L E o.guard,o.dst,Nat.blt d ax,isEff C o.op,bC E x)=(Op.fieldAddr t x i,some true,some d,true,false,some v))(hf:fieldAddrV C.P t v i=some r)(hw:aB C ax L rest ((d,r)::E) h hs fun E' h' ts I=>Q E' h' ((E,r)::ts) I): aB C ax L (o::rest) E h hs Q:=by
  simp only[bN] at e;exact aB.op e.2.1 e.2.2.1 e.2.2.2.1 e.2.2.2.2.1 (by rw[e.1];exact mU e.2.2.2.2.2 hf) hw
theorem zL (e:(o.op,wantE L E o.guard,o.dst,Nat.blt d ax,isEff C o.op,bC E x)=(Op.load t x,some true,some d,true,false,some v))(hf:loadV C.P h t v=some r)(hw:aB C ax L rest ((d,r)::E) h hs fun E' h' ts I=>Q E' h' ((E,r)::ts) I): aB C ax L (o::rest) E h hs Q:=by
  simp only[bN] at e;exact aB.op e.2.1 e.2.2.1 e.2.2.2.1 e.2.2.2.2.1 (by rw[e.1];exact o_load e.2.2.2.2.2 hf) hw
theorem zO (e:(wantE L E o.guard,o.dst,Nat.blt d ax,isEff C o.op)=(some true,some d,true,false))(ho:opE C.P E h o.op=some (v,h))(hw:aB C ax L rest ((d,v)::E) h hs fun E' h' ts I=>Q E' h' ((E,v)::ts) I): aB C ax L (o::rest) E h hs Q:=by
  simp only[bN] at e;exact aB.op e.1 e.2.1 e.2.2.1 e.2.2.2 ho hw
end
abbrev PM := Nat→Option Obj
variable {m':PM}
def PM.le (a b:PM): Prop:=∀i o,a i=some o→b i=some o
def PM.dj (a b:PM): Prop:=∀i,a i=none∨b i=none
def PM.upd (m:PM)(id:Nat)(o:Option Obj): PM:=fun i=>if i=id then o else m i
def PM.un (a b:PM): PM:=fun i=>(a i).orElse fun _=>b i
theorem PM.le_refl (a:PM): a.le a:=fun _ _ h=>h
theorem PM.le_trans {a b c:PM}(x:a.le b)(y:b.le c): a.le c:=fun i o h=>y i o (x i o h)
theorem PM.oZ {a b I b':PM}(hd:a.dj b)(ha:I.le a)(hb:b'.le b): I.dj b':=by
 intro i
 rcases hd i with h|h
 ·left
  cases h1:I i with
  |none=>rfl
  |some o=>rw[ha i o h1] at h;cases h
 ·right
  cases h1:b' i with
  |none=>rfl
  |some o=>rw[hb i o h1] at h;cases h
theorem PM.rC {a b:PM}(h:a.dj b): b.dj a:=fun i=>(h i).symm
theorem PM.Ko (a b:PM): a.le (a.un b):=fun i o h=>by simp[PM.un,h]
theorem PM.Kp {a b:PM}(I:a.dj b): b.le (a.un b):=fun i o h=>by
 rcases I i with h1|h1<;>grind[PM.un]
theorem PM.FE {a b c:PM}(ha:a.le c)(hb:b.le c): (a.un b).le c:=fun i o h=>by
 simp only[PM.un] at h
 cases I:a i with
 |none=>rw[I] at h;exact hb i o h
 |some x=>rw[I] at h;injection h with h;subst h;exact ha i _ I
theorem PM.FF {a b c:PM}(I:a.dj c)(hb:b.dj c): (a.un b).dj c:=fun i=>by
 rcases I i with h|h
 ·rcases hb i with h2|h2<;>grind[PM.un]
 ·grind
def ViewM (m:PM)(v:V)(l:List Nat): Prop:=(∀b∈l,b<256)∧(((v=.aR∨∃a,v=.sle a)∧l=[]) ∨
 ∃id off cap n cs st,v=.sl id off l.length cap∧m id=some (.cells n cs st)∧cs.length=n∧off+l.length≤n∧(cs.drop off).take l.length=ofBytes l ∧
  (match cap with|.exact c=>l.length≤c|.rest e _=>e=1))
def uz (m:PM)(v:V)(l:List Nat): Prop:=(∀b∈l,b<256)∧((v=.aR∧l=[]) ∨
 (∃id cs c,v=.sl id 0 l.length (.exact c)∧m id=some (.cells c (ofBytes l++cs) false)∧l.length+cs.length=c) ∨
 (∃id,v=.sl id 0 l.length (.rest 1 0)∧m id=some (.cells l.length (ofBytes l) false)∧1≤l.length))
theorem ViewM.up {m:PM}{v:V}(h:ViewM m v l)(hm:PM.le m m'): ViewM m' v l:=by
 obtain⟨h1,I⟩:=h
 refine⟨h1,?_⟩
 rcases I with I|⟨id,off,cap,n,cs,st,e,hg,h3⟩
 ·grind
 ·exact .inr ⟨id,off,cap,n,cs,st,e,hm _ _ hg,h3⟩
theorem uz.up {m:PM}{v:V}(h:uz m v l)(hm:PM.le m m'): uz m' v l:=by
 obtain⟨h1,h2⟩:=h
 refine⟨h1,?_⟩
 rcases h2 with h2|⟨id,cs,c,e,I,h3⟩|⟨id,e,I,h3⟩
 ·grind
 ·exact .inr (.inl ⟨id,cs,c,e,hm _ _ I,h3⟩)
 ·exact .inr (.inr ⟨id,e,hm _ _ I,h3⟩)
theorem uz.view {m:PM}{v:V}(I:uz m v l): ViewM m v l:=by
 obtain⟨hl,I⟩:=I
 refine⟨hl,?_⟩<;>grind[dx]
def qI (m:PM)(k:Nat)(v:V)(cs:List V): Prop:=cs.all storable=true∧((v=.aR∧cs=[]) ∨
 ∃id n cap N rest,v=.sl id 0 n cap∧m id=some (.cells N (cs++rest) false)∧cs.length=n*k∧cs.length+rest.length=N∧rest.all storable=true ∧
  (match cap with|.exact c=>N=c*k∧n≤c|.rest e alt=>e=k∧alt=0∧rest=[]∧1≤n))
theorem qI.up {m:PM}{v:V}(h:qI m k v cs)(hm:PM.le m m'): qI m' k v cs:=by
 obtain⟨h1,I⟩:=h
 refine⟨h1,?_⟩
 rcases I with I|⟨id,n,cap,N,rest,e,hg,h3⟩
 ·grind
 ·exact .inr ⟨id,n,cap,N,rest,e,hm _ _ hg,h3⟩
inductive aE : Type 1 where
 |pt (id:Nat) (o:Obj)
 |ro (id:Nat) (o:Obj)
 |pu (φ:Prop)
 |buf (v:V) (l:List Nat)
 |cg (v:V) (l:List Nat)
 |rdb (v:V) (l:List Nat)
 |arr (k:Nat) (v:V) (cs:List V)
 |an (A B:aE)
 |xs {α:Type} (f:α→aE)
 |all {α:Type} (f:α→aE)
 |se (A B:aE)
variable {A B X:aE} {S S':List aE}
abbrev pt := aE.pt
abbrev ro := aE.ro
abbrev pu := aE.pu
abbrev xs {α:Type}(f:α→aE): aE:=aE.xs f
abbrev aU := aE.buf
abbrev oP := aE.cg
abbrev cy := aE.rdb
def aE.p : aE→PM→PM→Prop
 |.pt id o,m,_=>m id=some o
 |.ro id o,_,r=>r id=some o
 |.pu φ,_,_=>φ
 |.buf v l,m,_=>uz m v l
 |.cg v l,_,r=>ViewM r v l
 |.rdb v l,m,r=>ViewM m v l∨ViewM r v l
 |.arr k v cs,m,_=>qI m k v cs
 |.an A B,m,r=>A.p m r∧B.p m r
 |.xs f,m,r=>∃x,(f x).p m r
 |.all f,m,r=>∀x,(f x).p m r
 |.se A B,m,r=>∃a b,PM.dj a b∧PM.le a m∧PM.le b m∧A.p a r∧B.p b r
theorem aE.mono : ∀(A:aE) (m m' r I:PM),PM.le m m'→PM.le r I→A.p m r→A.p m' I:=by
 intro A
 induction A with
 |pt id o=>intro m m' r I hm hr h;exact hm _ _ h
 |ro id o=>intro m m' r I hm hr h;exact hr _ _ h
 |pu φ=>intro m m' r I hm hr h;exact h
 |buf v l=>intro m m' r I hm hr h;exact uz.up h hm
 |cg v l=>intro m m' r I hm hr h;exact ViewM.up h hr
 |rdb v l =>
  intro m m' r I hm hr h
  rcases h with h|h
  ·exact .inl (ViewM.up h hm)
  ·exact .inr (ViewM.up h hr)
 |arr k v cs=>intro m m' r I hm hr h;exact qI.up h hm
 |an A B ia ib=>intro m m' r I hm hr h;exact⟨ia _ _ _ _ hm hr h.1,ib _ _ _ _ hm hr h.2⟩
 |xs f ih=>intro m m' r I hm hr h;obtain⟨x,hx⟩:=h;exact⟨x,ih x _ _ _ _ hm hr hx⟩
 |all f ih=>intro m m' r I hm hr h x;exact ih x _ _ _ _ hm hr (h x)
 |se A B ia ib =>
  intro m m' r I hm hr h
  obtain⟨a,b,h1,h2,h3,h4,h5⟩:=h
  exact⟨a,b,h1,PM.le_trans h2 hm,PM.le_trans h3 hm,ia _ _ _ _ (PM.le_refl _) hr h4,ib _ _ _ _ (PM.le_refl _) hr h5⟩
def star : List aE→aE
 |[]=>.pu True
 |A::L=>.se A (star L)
theorem aE.up {m r I:PM}(h:A.p m r)(hm:m.le m')(hr:r.le I): A.p m' I:=A.mono m m' r I hm hr h
def cf (A B:aE): Prop:=∀m r,A.p m r→B.p m r
def aJ (A:aE): Prop:=∀m r,A.p m r→A.p (fun _=>none) r
theorem aJ.ro (id:Nat)(o:Obj): aJ (.ro id o):=fun _ _ h=>h
theorem aJ.pu (φ:Prop): aJ (.pu φ):=fun _ _ h=>h
theorem aJ.xs {f:α→aE}(h:∀x,aJ (f x)): aJ (.xs f):=fun m r ⟨x,I⟩=>⟨x,h x m r I⟩
theorem aJ.an (I:aJ A)(h2:aJ B): aJ (.an A B):=fun m r h=>⟨I m r h.1,h2 m r h.2⟩
def getA : List aE→Nat→Option aE
 |[],_=>none
 |A::_,0=>some A
 |_::L,k+1=>getA L k
theorem kI (I:getA S k=some X): getA (A::S) (k+1)=some X:=I
def setA : List aE→Nat→aE→List aE
 |[],_,_=>[]
 |_::L,0,B=>B::L
 |A::L,k+1,B=>A::setA L k B
def aL : List aE→Nat→List aE
 |[],_=>[]
 |_::L,0=>L
 |A::L,k+1=>A::aL L k
def bringA (S:List aE): List Nat→List aE
 |[]=>S
 |k::ks=>match getA S k with
  |some A=>A::bringA (aL S k) ks
  |none=>[]
def O9 (k:Nat): List Nat→Nat
 |[]=>0
 |x::l=>cond (Nat.blt x k) (O9 k l+1) (O9 k l)
def aao : List Nat→List Nat→List Nat
 |_,[]=>[]
 |seen,k::ks=>(k-O9 k seen)::aao (k::seen) ks
theorem Rq {L:List aE}{m r:PM}(h:(star (A::B::L)).p m r): (star (B::A::L)).p m r:=by
 obtain⟨a,b,h1,h2,h3,h4,c,d,g1,g2,g3,g4,g5⟩:=h
 have Rr:a.dj c:=PM.oZ h1 (PM.le_refl _) g2
 have I:a.dj d:=PM.oZ h1 (PM.le_refl _) g3
 exact⟨c,a.un d,PM.rC (PM.FF Rr (PM.rC g1)),PM.le_trans g2 h3,PM.FE h2 (PM.le_trans g3 h3),g4,a,d,I,PM.Ko _ _,PM.Kp I,h4,g5⟩
theorem BL {L I:List aE}(h:∀m r,(star L).p m r→(star I).p m r){m r:PM}(hs:(star (A::L)).p m r): (star (A::I)).p m r:=by
 obtain⟨a,b,h1,h2,h3,h4,h5⟩:=hs
 exact⟨a,b,h1,h2,h3,h4,h _ _ h5⟩
theorem BM : ∀ {S:List aE} {k:Nat} {A:aE},getA S k=some A→∀m r,(star S).p m r→(star (A::aL S k)).p m r:=by
 intro S
 induction S with
 |nil=>intro k A h;cases h
 |cons B S I =>
  intro k A h m r hs
  cases k with
  |zero=>injection h with h;subst h;exact hs
  |succ k =>
   exact Rq (BL (I h) hs)
theorem BN {L:List aE}{m r:PM}(h:(star (A::L)).p m r): (star L).p m r:=by
 obtain⟨a,b,I,h2,h3,h4,h5⟩:=h<;>grind[aE.up,PM.le_refl]
theorem Rs {L:List aE}{m r:PM}(h:(star (A::L)).p m r): A.p m r:=by
 obtain⟨a,b,I,h2,h3,h4,h5⟩:=h<;>grind[aE.up,PM.le_refl]
theorem FG : ∀(ks:List Nat) (S:List aE) (m r:PM),(star S).p m r→(bringA S ks=[]∨True)→(star (bringA S ks)).p m r:=by
 intro ks
 induction ks with
 |nil=>intro S m r h _;exact h
 |cons k ks I =>
  intro S m r h _
  simp only[bringA]
  cases hk:getA S k with
  |none=>trivial
  |some A=>exact BL (fun m r h=>I _ m r h (.inr aa)) (BM hk m r h)
theorem Kq {L:List aE}: ∀m r,(star (star L::S)).p m r↔(star (L++S)).p m r:=by
 induction L with
 |nil =>
  intro m r
  constructor
  ·intro h;exact BN h
  ·intro h;exact⟨fun _=>none,m,fun _=>.inl rfl,fun _ _ h=>(by cases h),PM.le_refl _,aa,h⟩
 |cons A L ih =>
  intro m r
  constructor
  ·rintro⟨a,b,h1,h2,h3,⟨c,d,g1,g2,g3,g4,g5⟩,h5⟩
   have I:c.dj b:=PM.oZ h1 g2 (PM.le_refl _)
   have hdb:d.dj b:=PM.oZ h1 g3 (PM.le_refl _)
   exact⟨c,d.un b,PM.rC (PM.FF (PM.rC g1) (PM.rC I)),PM.le_trans g2 h2,PM.FE (PM.le_trans g3 h2) h3,g4,(ih _ _).1 ⟨d,b,hdb,PM.Ko _ _,PM.Kp hdb,g5,h5⟩⟩
  ·rintro⟨c,e,h1,h2,h3,h4,h5⟩
   obtain⟨d,b,g1,g2,g3,g4,g5⟩:=(ih _ _).2 h5
   have Rl:c.dj d:=PM.oZ h1 (PM.le_refl _) g2
   have I:c.dj b:=PM.oZ h1 (PM.le_refl _) g3
   exact⟨c.un d,b,PM.FF I g1,PM.FE h2 (PM.le_trans g2 h3),PM.le_trans g3 h3,⟨c,d,Rl,PM.Ko _ _,PM.Kp Rl,h4,g4⟩,g5⟩
structure Sat (h:H)(S:List aE): Prop where
 wf:nL h
 ok:∃m r,PM.le m (T.get h.tr)∧PM.le r (T.get h.tr)∧PM.dj m r∧(star S).p m r
section
theorem Sat.map (s:Sat h S)(I:∀m r,(star S).p m r→(star S').p m r): Sat h S':=by
 obtain⟨m,r,h1,h2,h3,h4⟩:=s.ok
 exact⟨s.wf,m,r,h1,h2,h3,I _ _ h4⟩
theorem Sat.at (s:Sat h S)(I:getA S k=some A): ∃m r,PM.le m (T.get h.tr)∧PM.le r (T.get h.tr)∧A.p m r:=by
 obtain⟨m,r,h1,h2,h3,h4⟩:=s.ok
 exact⟨m,r,h1,h2,Rs (BM I m r h4)⟩
theorem Sat.take (k:Nat)(s:Sat h S)(I:getA S k=some A): Sat h (A::aL S k):=s.map (BM I)
theorem Sat.r7 (ks:List Nat)(s:Sat h S): Sat h (bringA S (aao [] ks)):=s.map fun m r h=>FG _ S m r h (.inr aa)
theorem Sat.ae (ks:List Nat)(s:Sat h S): Sat h (bringA S ks):=s.map fun m r h=>FG _ S m r h (.inr aa)
theorem Sat.drop (s:Sat h (A::S)): Sat h S:=s.map fun _ _ h=>BN h
theorem Ul : ∀(S:List aE) (k:Nat) (m r:PM),(star S).p m r→(star (aL S k)).p m r:=by
 intro S
 induction S with
 |nil=>intro k m r h;exact h
 |cons B S I =>
  intro k m r h
  cases k with
  |zero=>exact BN h
  |succ k=>exact BL (I k) h
theorem Sat.del (k:Nat)(s:Sat h S): Sat h (aL S k):=s.map (Ul S k)
theorem Sat.dQ (s:Sat h (A::S))(he:cf A B): Sat h (B::S):=s.map fun m r ⟨a,b,I,h2,h3,h4,h5⟩=>⟨a,b,I,h2,h3,he _ _ h4,h5⟩
theorem Sat.dup (s:Sat h (A::S))(hp:aJ A): Sat h (A::A::S):=s.map fun m r hs=>by
 obtain⟨a,b,h1,h2,h3,I,h5⟩:=hs
 exact⟨fun _=>none,m,fun _=>.inl rfl,fun _ _ h=>(by cases h),PM.le_refl _,hp _ _ I,a,b,h1,h2,h3,I,h5⟩
theorem Sat.gQ (s:Sat h S)(I:φ): Sat h (pu φ::S):=s.map fun m _ hs=>⟨fun _=>none,m,fun _=>.inl rfl,fun _ _ h=>(by cases h),PM.le_refl _,I,hs⟩
theorem Sat.two {C:aE}(s:Sat h (A::B::S))(I:aJ A)(pB:aJ B)(hC:∀m r,A.p m r→B.p m r→C.p m r): Sat h (C::S):=s.map fun m r hs=>by
 obtain⟨a,b,h1,h2,h3,h4,c,d,g1,g2,g3,g4,g5⟩:=hs
 exact⟨fun _=>none,d,fun _=>.inl rfl,fun _ _ h=>(by cases h),PM.le_trans g3 h3,hC _ _ (I _ _ h4) (pB _ _ g4),g5⟩
theorem jv {f:α→aE}: Sat h (xs f::S)↔∃x,Sat h (f x::S):=by
 constructor
 ·intro s
  obtain⟨m,r,I,h2,h3,a,b,g1,g2,g3,⟨x,g4⟩,g5⟩:=s.ok
  exact⟨x,s.wf,m,r,I,h2,h3,a,b,g1,g2,g3,g4,g5⟩
 ·rintro⟨x,s⟩
  exact s.dQ fun m r h=>⟨x,h⟩
theorem r8 : Sat h (pu φ::S)↔φ∧Sat h S:=by
 constructor
 ·intro s
  obtain⟨m,r,I,h2,h3,a,b,g1,g2,g3,g4,g5⟩:=s.ok
  exact⟨g4,s.drop⟩
 ·rintro⟨I,s⟩;exact s.gQ I
theorem cK {L:List aE}: Sat h (star L::S)↔Sat h (L++S) :=
 ⟨fun s=>s.map fun m r hs=>(Kq m r).1 hs,fun s=>s.map fun m r hs=>(Kq m r).2 hs⟩
theorem Sat.row {o:Obj}(s:Sat h S)(I:getA S k=some (pt id o)): T.get h.tr id=some o:=by
 obtain⟨m,r,h1,h2,h3⟩:=s.at I
 exact h1 _ _ h3
theorem Sat.aap {o:Obj}(s:Sat h S)(I:getA S k=some (ro id o)): T.get h.tr id=some o:=by
 obtain⟨m,r,h1,h2,h3⟩:=s.at I
 exact h2 _ _ h3
theorem Sat.ne {o:Obj}(s:Sat h (pt i o::pt j o'::S)): i≠j:=by
 rintro rfl
 obtain⟨m,r,h1,h2,h3,a,b,I,g2,g3,g4,c,d,k1,k2,k3,k4,k5⟩:=s.ok
 have e1:a i=some o:=g4
 have e2:b i=some o':=k2 _ _ k4
 rcases I i with e|e
 ·grind
 ·grind
theorem aaq {m:PM}{t:T Obj}{o:Option Obj}(hm:m.le (T.get t)): (m.upd id o).le (T.get (t.set id o)):=by
 intro i x I
 rw[bf]
 simp only[PM.upd] at I
 split
 ·grind
 ·rename_i e;rw[ai e] at I;exact hm i x I
theorem Kr {m:PM}{o:Option Obj}(hm:m.le (T.get h.tr))(hn:m id=none): m.le (T.get (h.put id o).tr):=by
 intro i x I
 rw[iq]
 split
 ·grind
 ·exact hm i x I
theorem Um : ∀ {S:List aE} {k id:Nat} {o o':Obj},getA S k=some (pt id o)→∀m r,(star S).p m r→m id=some o∧(star (setA S k (pt id o'))).p (m.upd id (some o')) r:=by
 intro S
 induction S with
 |nil=>intro k id o o' h;cases h
 |cons B S ih =>
  intro k id o o' hk m r hs
  obtain⟨a,b,h1,h2,h3,h4,h5⟩:=hs
  cases k with
  |zero =>
   injection hk with hk
   subst hk
   have ha:a id=some o:=h4
   have hb:b id=none:=by
    rcases h1 id with e|e
    ·grind
    ·exact e
   refine⟨h2 _ _ ha,a.upd id (some o'),b,fun i => ?_,fun i x I => ?_,fun i x I => ?_,?_,h5⟩
   ·by_cases e:i=id
    ·grind
    ·simp only[PM.upd,ai e];exact h1 i
   ·simp only[PM.upd] at I ⊢
    split
    ·grind
    ·rename_i e;rw[ai e] at I;exact h2 i x I
   ·simp only[PM.upd]
    split
    ·grind
    ·exact h3 i x I
   ·show(a.upd id (some o')) id=some o'
    simp[PM.upd]
  |succ k =>
   obtain⟨g1,g2⟩:=ih (o':=o') hk b r h5
   have ha:a id=none:=by
    rcases h1 id with e|e
    ·exact e
    ·grind
   refine⟨h3 _ _ g1,a,b.upd id (some o'),fun i => ?_,fun i x I => ?_,fun i x I => ?_,h4,g2⟩
   ·by_cases e:i=id
    ·grind
    ·simp only[PM.upd,ai e];exact h1 i
   ·simp only[PM.upd]
    split
    ·grind
    ·exact h2 i x I
   ·simp only[PM.upd] at I ⊢
    split
    ·grind
    ·rename_i e;rw[ai e] at I;exact h3 i x I
theorem Sat.put {o:Obj}(s:Sat h S)(hk:getA S k=some (pt id o)): Sat (h.put id (some o')) (setA S k (pt id o')):=by
 obtain⟨m,r,I,h2,h3,h4⟩:=s.ok
 obtain⟨g1,g2⟩:=Um (o':=o') hk m r h4
 have hr:r id=none:=by
  rcases h3 id with e|e
  ·grind
  ·exact e
 refine⟨s.wf.put (s.wf _ _ (I _ _ g1)) _,m.upd id (some o'),r,aaq I,Kr h2 hr,fun i => ?_,g2⟩
 by_cases e:i=id
 ·grind
 ·simp only[PM.upd,ai e];exact h3 i
theorem Sat.new (s:Sat h S)(o:Obj): Sat (h.new o) (pt h.next o::S):=by
 obtain⟨m,r,h1,h2,h3,h4⟩:=s.ok
 have hm:m h.next=none:=by
  cases e:m h.next with
  |none=>rfl
  |some x=>exact absurd (s.wf _ _ (h1 _ _ e)) (yo _)
 have hr:r h.next=none:=by
  cases e:r h.next with
  |none=>rfl
  |some x=>exact absurd (s.wf _ _ (h2 _ _ e)) (yo _)
 have WR:∀(q:PM),q.le (T.get h.tr)→q h.next=none→q.le (T.get (h.new o).tr):=fun q hq hn i x I=>by
  rw[iX]
  split
  ·grind
  ·exact hq i x I
 refine⟨s.wf.new o,m.upd h.next (some o),r,fun i x I => ?_,WR r h2 hr,fun i => ?_,fun i=>if i=h.next then some o else none,m,fun i => ?_,fun i x I => ?_,fun i x I => ?_,?_,h4⟩
 ·rw[iX]
  simp only[PM.upd] at I
  split
  ·grind
  ·rename_i e;rw[ai e] at I;exact h1 i x I
 ·by_cases e:i=h.next
  ·grind
  ·simp only[PM.upd,ai e];exact h3 i
 ·grind
 ·grind[PM.upd]
 ·grind[PM.upd]
 ·show(if h.next=h.next then some o else none)=some o
  simp
theorem Sat.kill {o:Obj}(s:Sat h (pt id o::S)): Sat (h.put id none) S:=by
 obtain⟨m,r,I,h2,h3,a,b,g1,g2,g3,g4,g5⟩:=s.ok
 have ha:a id=some o:=g4
 have hb:b id=none:=by
  rcases g1 id with e|e
  ·grind
  ·exact e
 have hr:r id=none:=by
  rcases h3 id with e|e
  ·rw[g2 _ _ ha] at e;cases e
  ·exact e
 exact⟨s.wf.put (s.wf _ _ (I _ _ (g2 _ _ ha))) _,b,r,Kr (PM.le_trans g3 I) hb,Kr h2 hr,PM.oZ h3 g3 (PM.le_refl _),g5⟩
theorem Sat.freeze {o:Obj}(s:Sat h (pt id o::S)): Sat h (ro id o::S):=by
 obtain⟨m,r,h1,h2,h3,a,b,g1,g2,g3,g4,g5⟩:=s.ok
 have ha:a id=some o:=g4
 have hb:b id=none:=by
  rcases g1 id with e|e
  ·grind
  ·exact e
 have hr:r id=none:=by
  rcases h3 id with e|e
  ·rw[g2 _ _ ha] at e;cases e
  ·exact e
 have hle:r.le (r.upd id (some o)):=fun i x I=>by
  grind[PM.upd]
 refine⟨s.wf,b,r.upd id (some o),PM.le_trans g3 h1,fun i x I => ?_,fun i => ?_,fun _=>none,b,fun _=>.inl rfl,fun _ _ h=>(by cases h),PM.le_refl _,?_,aE.up g5 (PM.le_refl _) hle⟩
 ·simp only[PM.upd] at I
  split at I
  ·rename_i e;subst e;injection I with I;subst I;exact h1 _ _ (g2 _ _ ha)
  ·exact h2 i x I
 ·by_cases e:i=id
  ·grind
  ·simp only[PM.upd,ai e];exact PM.oZ h3 g3 (PM.le_refl _) i
 ·show(r.upd id (some o)) id=some o
  simp[PM.upd]
theorem Sat.qg (s:Sat h S)(hk:fo k [] h h'): Sat h' S:=by
 obtain⟨m,r,h1,h2,h3,h4⟩:=s.ok
 have I:∀(q:PM),q.le (T.get h.tr)→q.le (T.get h'.tr):=fun q hq i x hx=>by
  rw[hk.get i (s.wf _ _ (hq _ _ hx)) jY]
  exact hq _ _ hx
 exact⟨hk.wf,m,r,I m h1,I r h2,h3,h4⟩
theorem Sat.aar {X:List Nat}{m₀:PM}(s:Sat h (A::S))(hk:fo k X h h')(hX:∀m r,PM.le m (T.get h.tr)→PM.le r (T.get h.tr)→A.p m r→∀i∈X,m i≠none)
 (hm:PM.le m₀ (T.get h'.tr))(hB:∀r,B.p m₀ r)(hn:∀i,m₀ i≠none→i∈X∨h.next≤i): Sat h' (B::S):=by
 obtain⟨m,r,h1,h2,h3,a,b,g1,g2,g3,g4,g5⟩:=s.ok
 have hXa:∀i∈X,a i≠none:=hX a r (PM.le_trans g2 h1) h2 g4
 have hXb:∀i∈X,b i=none:=fun i hi=>by
  rcases g1 i with e|e<;>grind
 have hXr:∀i∈X,r i=none:=fun i hi=>by
  cases e:a i with
  |none=>grind
  |some o =>
   rcases h3 i with e2|e2
   ·rw[g2 _ _ e] at e2;cases e2
   ·exact e2
 have WR:∀(q:PM),q.le (T.get h.tr)→(∀i∈X,q i=none)→q.le (T.get h'.tr):=fun q hq hz i x hx=>by
  rw[hk.get i (s.wf _ _ (hq _ _ hx)) (fun hi=>by grind)]
  exact hq _ _ hx
 have I:∀(q:PM),q.le (T.get h.tr)→(∀i∈X,q i=none)→m₀.dj q:=fun q hq hz i=>by
  cases e:m₀ i with
  |none=>simp
  |some x =>
   right
   rcases hn i (by grind) with hi|hi
   ·grind
   ·cases e2:q i with
    |none=>rfl
    |some y=>exact absurd (s.wf _ _ (hq _ _ e2)) (Nat.not_lt.2 hi)
 have p_:=WR b (PM.le_trans g3 h1) hXb
 have hd:=I b (PM.le_trans g3 h1) hXb
 exact⟨hk.wf,m₀.un b,r,PM.FE hm p_,WR r h2 hXr,PM.FF (I r h2 hXr) (PM.oZ h3 g3 (PM.le_refl _)),m₀,b,hd,PM.Ko _ _,PM.Kp hd,hB r,g5⟩
end
theorem aZ (v:V)(l:List Nat): cf (aU v l) (cy v l):=fun _ _ h=>.inl (uz.view h)
theorem bj (v:V)(l:List Nat): cf (oP v l) (cy v l):=fun _ _ h=>.inr h
theorem aJ.cg (v:V)(l:List Nat): aJ (.cg v l):=fun _ _ h=>h
section
variable {v:V}
theorem Sat.aC (s:Sat h S)(hk:getA S k=some X)(hX:cf X (cy v l)): View h v l:=by
 obtain⟨m,r,h1,h2,h3⟩:=s.at hk
 rcases hX _ _ h3 with I|I
 ·exact ViewM.up I h1
 ·exact ViewM.up I h2
theorem Sat.buf (s:Sat h S)(I:getA S k=some (aU v l)): kX h v l:=by
 obtain⟨m,r,h1,h2,h3⟩:=s.at I
 exact uz.up (l:=l) h3 h1
theorem Nl {m:PM}(I:uz m v l): ∀i∈rowIds v,m i≠none:=by
 obtain⟨_,h2⟩:=I<;>grind[rowIds]
theorem Nm (I:kX h v l): uz (fun i=>if i∈rowIds v then T.get h.tr i else none) v l:=by
 obtain⟨h1,h2⟩:=I
 refine⟨h1,?_⟩<;>grind[rowIds]
theorem Ru (L:List Nat): PM.le (fun i=>if i∈L then T.get h.tr i else none) (T.get h.tr):=fun i x I=>by
 grind
theorem Sat.Ks (s:Sat h S)(I:fo k [] h h')(hb:kX h' v l)(hn:∀i∈rowIds v,h.next≤i): Sat h' (aU v l::S):=by
 have s':Sat h (pu True::S):=s.gQ aa
 refine s'.aar (B:=aU v l) (m₀:=fun i=>if i∈rowIds v then T.get h'.tr i else none) I (fun _ _ _ _ _ i hi=>by cases hi) (Ru _) (fun _=>Nm hb) (fun i hi=>.inr ?_)<;>grind
theorem Sat.Dh {v':V}{I:List Nat}(s:Sat h (aU v l::S))(hk:fo k (rowIds v) h h')(hb:kX h' v' I)(hn:∀i∈rowIds v',i∈rowIds v∨h.next≤i): Sat h' (aU v' I::S):=by
 refine s.aar (B:=aU v' I) (m₀:=fun i=>if i∈rowIds v' then T.get h'.tr i else none) hk (fun _ _ _ _ h=>Nl h) (Ru _) (fun _=>Nm hb) (fun i hi => ?_)<;>grind
theorem Sat.eW (s:Sat h (aU v l::S)): Sat h (oP v l::S):=by
 obtain⟨m,r,h1,h2,h3,a,b,g1,g2,g3,g4,g5⟩:=s.ok
 have I:r.dj a:=PM.rC (PM.oZ h3 g2 (PM.le_refl _))
 refine⟨s.wf,b,r.un a,PM.le_trans g3 h1,PM.FE h2 (PM.le_trans g2 h1),PM.rC (PM.FF (PM.rC (PM.oZ h3 g3 (PM.le_refl _))) g1),fun _=>none,b,fun _=>.inl rfl,fun _ _ h=>(by cases h),PM.le_refl _,?_,aE.up g5 (PM.le_refl _) (PM.Ko _ _)⟩
 exact(uz.view g4).up (PM.Kp I)
end
theorem BO {a b c d:H}{l:List H}{p:H→Prop}(I:p a)(hb:p b)(hc:p c)(hd:p d): ∀x∈((a::b::c::d::l).drop 0).take 4,p x:=by
 grind
section
variable {v:V}
theorem Sat.ld (s:Sat h S)(I:getA S k=some (pt id (.cells n cs st)))(ht:isAggT P t=some false)(hn:nth cs off=some v): loadV P h t (.ptr id off)=some v:=D1 ht (s.row I) hn
theorem Sat.b7 (s:Sat h S)(I:getA S k=some (pt id (.cells n cs st)))(ht:isAggT P t=some true)(hs:bp P t=some n): loadV P h t (.ptr id 0)=some (.agg cs):=Am.b7 ht hs (s.row I)
theorem Sat.jS (s:Sat h S)(hk:getA S k=some (pt id (.cells n cs false)))(hs:bp P t=some 1)(hl:cs.length=n)(ho:off<n)(hv:v.cells=[v])(I:storable v=true):
  ∃h₁,jR P h t (.ptr id off) v=some h₁∧Sat h₁ (setA S k (pt id (.cells n (cs.set off v) false))):=by
 refine⟨h.put id (some (.cells n (cs.set off v) false)),?_,s.put hk⟩
 simp only[jR,hs,hv,bq,cj,kD,lP,I,Bool.and_true]
 rw[show Nat.beq (0+1) 1=true from rfl,ah]
 simp only[wrN,s.row hk,bq,cj]
 rw[aW.2 (show off+(0+1)≤n by omega),ah]
 congr 3
 rw[CJ,ay (by omega)]
 cases hc:(Nat.beq off 0&&Nat.beq (0+1) n) with
 |true =>
  simp only[bQ,beq_iff] at hc
  obtain⟨rfl,rfl⟩:=hc
  rw[ah]
  have:cs.drop (0+1)=[]:=pI (by omega)
  simp[this]
 |false=>rw[aV];rfl
theorem Sat.stN {l:List V}(s:Sat h S)(hk:getA S k=some (pt id (.cells n cs false)))(hs:bp P t=some l.length)(hl:cs.length=n)(ho:off+l.length≤n)(I:l.all storable=true):
  ∃h₁,jR P h t (.ptr id off) (.agg l)=some h₁∧Sat h₁ (setA S k (pt id (.cells n (cs.take off++(l++cs.drop (off+l.length))) false))):=by
 refine⟨h.put id (some (.cells n (cs.take off++(l++cs.drop (off+l.length))) false)),?_,s.put hk⟩
 simp only[jR,hs,V.cells,I,kE,lN,ah,wrN,s.row hk]
 grind[aW,beq_iff,List.drop_eq_nil_of_le]
end
section
variable {ax:Nat} {o:Oper}
theorem au.b_ (s:Sat h S)(I:wantE L E o.guard=some true)(hd:o.dst=some d)(hn:Nat.blt d ax=true)(ho:opE C.P E h o.op=some (.ptr h.next 0,newRow h cs))
 (hr:∀id h₁,Sat h₁ (pt id (.cells cs.length cs false)::S)→au C ax L rest ((d,.ptr id 0)::E) h₁ R): au C ax L (o::rest) E h R :=
 au.op I hd hn ho (hr _ _ (s.new _))
theorem au.yH {v:V}(hg:wantE L E o.guard=some true)(hd:o.dst=none)(I:o.op=.store t x y)(hx:bC E x=some v)(hy:bC E y=some u)
 (ho:∃h₁,jR C.P h t v u=some h₁∧Sat h₁ S')(hr:∀h₁,Sat h₁ S'→au C ax L rest E h₁ R): au C ax L (o::rest) E h R:=by
 obtain⟨h₁,e1,e2⟩:=ho
 exact au.op0 hg hd (by rw[I];exact Ni hx hy e1) (hr h₁ e2)
theorem WP.label {l:Nat}(I:Q .normal E h): WP C ax (.label l) E h Q:=fun env hE=>⟨1,.normal,env,h,E,rfl,hE,I⟩
theorem WP.split {a b:Code}{t:Bool}(I:bC E x=some (.bool t))(h1:t=true→WP C ax a E h Q)(h2:t=false→WP C ax b E h Q): WP C ax (.cond x a b) E h Q:=by
 grind[WP.cond]
theorem WP.O_ {a b:Code}{t:Bool}(I:bC E x=some (.bool t))(ht:t=true)(h1:WP C ax a E h Q): WP C ax (.cond x a b) E h Q:=by
 subst ht;exact WP.cond I h1
theorem WP.WU {a b:Code}{t:Bool}(I:bC E x=some (.bool t))(ht:t=false)(h1:WP C ax b E h Q): WP C ax (.cond x a b) E h Q:=by
 subst ht;exact WP.cond I h1
end
section
variable {a b:Operand} {v:V}
theorem abM {t:Nat}(I:bC E x=some v)(hf:tP P t v i=some r): opE P E h (.field t x i)=some (r,h):=by grind[opE,kV,bI]
theorem abN : opE P E h (.makeMap t none)=some (.map h.next,h.new (.map [] 0)):=rfl
theorem lW {ok:Bool}(I:bC E x=some v)(hy:bC E y=some u)(hf:gL P h t v u ok=some r): opE P E h (.lookup t x y ok)=some (r,h):=by grind[opE,wS,bI]
theorem abO {t:Nat}(I:tP P t (.agg cs) i=nth cs off)(hn:nth cs off=some r): tP P t (.agg cs) i=some r:=by grind
theorem kJ {s d:TypeId}{k k':IntKind}{n:Int}(hs:P.underlying s=some td)(I:P.underlying d=some (.int k'))(hn:k'.wrap n=n): convV P h s d (.int k n)=some (.int k' n,h):=by simp only[convV,hs,I,hn]
theorem Rv {o:Nat}{c:Cap}(hu:P.underlying t=some (.slice e)): lenV P h t (.sl i o n c)=some (.int .i64 n):=by simp only[lenV,hu]
theorem Nn (hu:P.underlying t=some (.slice e)): lenV P h t .aR=some (.int .i64 0):=by simp only[lenV,hu]
theorem aY (hu:P.underlying t=some (.slice e))(I:View h v l): lenV P h t v=some (.int .i64 l.length):=by
 obtain⟨_,I⟩:=I
 rcases I with⟨rfl|⟨ea,rfl⟩,rfl⟩|⟨id,off,cap,n,cs,st,rfl,_⟩<;>simp[lenV,hu]
theorem mki_of (hu:P.underlying t=some td)(I:(match td with|.interface _=>false|_=>true)=true): makeIfaceV P t v=some (.iface t v):=by
 grind[makeIfaceV]
end
section
theorem aq {n:Int}(I : -9223372036854775808≤n)(h2:n<9223372036854775808): IntKind.wrap .i64 n=n:=by
 grind[IntKind.bits,IntKind.wrap,IntKind.signed]
theorem iD {n:Int}(I:0≤n)(h2:n<18446744073709551616): IntKind.wrap .u64 n=n:=by
 grind[IntKind.wrap,IntKind.bits,IntKind.signed]
theorem vX {n:Int}(I:0≤n)(h2:n<256): IntKind.wrap .u8 n=n:=by
 grind[IntKind.wrap,IntKind.bits,IntKind.signed]
variable {a b:Int}
theorem aQ {k:IntKind}(hw:k.wrap (a+b)=a+b): binV P h .add t x y (.int k a) (.int k b)=some (.int k (a+b)):=by
 simp_all[binV,ff,intV]
theorem ew {k:IntKind}(hw:k.wrap (a-b)=a-b): binV P h .sub t x y (.int k a) (.int k b)=some (.int k (a-b)):=by
 simp_all[binV,ff,intV]
theorem jx {k:IntKind}(hw:k.wrap (a*b)=a*b): binV P h .mul t x y (.int k a) (.int k b)=some (.int k (a*b)):=by
 simp_all[binV,ff,intV]
theorem c8 {k:IntKind}: binV P h .eql t x y (.int k a) (.int k b)=some (.bool (decide (a=b))):=by
 simp only[binV,ff,ah,intV]
 cases I:intBeq a b with
 |true=>simp[wR I]
 |false =>
  by_cases he:a=b
  ·grind[tK]
  ·grind
theorem aH {k:IntKind}: binV P h .neq t x y (.int k a) (.int k b)=some (.bool (!decide (a=b))):=by
 simp only[binV,ff,ah,intV]
 cases I:intBeq a b with
 |true=>simp[wR I]
 |false =>
  by_cases he:a=b
  ·grind[tK]
  ·grind
theorem aO {k:IntKind}: binV P h .lss t x y (.int k a) (.int k b)=some (.bool (decide (a<b))):=by simp[binV,ff,intV]
theorem r9 {k:IntKind}: binV P h .leq t x y (.int k a) (.int k b)=some (.bool (decide (a≤b))):=by simp[binV,ff,intV]
theorem cV {k:IntKind}: binV P h .gtr t x y (.int k a) (.int k b)=some (.bool (decide (a>b))):=by simp[binV,ff,intV]
theorem mV {k:IntKind}: binV P h .geq t x y (.int k a) (.int k b)=some (.bool (decide (a≥b))):=by simp[binV,ff,intV]
theorem qu : ∀ {l m:List Nat},natsBeq l m=decide (l=m):=by
 intro l
 induction l with
 |nil=>grind[natsBeq]
 |cons a l I =>
  intro m
  cases m<;>grind[natsBeq,Nat.beq_refl,fH]
theorem FH {m:List Nat}: binV P h .eql t x y (.str l) (.str m)=some (.bool (decide (l=m))):=by simp[binV,strV,qu]
theorem Pb {m:List Nat}: binV P h .neq t x y (.str l) (.str m)=some (.bool (!decide (l=m))):=by simp[binV,strV,qu]
end
section
variable {ax:Nat} {o:Oper} {p:Bool}
theorem au.uH (I:wantE L E o.guard=some true)(hd:o.dst=some d)(hn:Nat.blt d ax=true)(ho:opE C.P E h o.op=some (.bool p,h))(hp:p=true)(hw:au C ax L rest ((d,.bool true)::E) h R): au C ax L (o::rest) E h R:=by
 grind[au.op]
theorem au.qb (I:wantE L E o.guard=some true)(hd:o.dst=some d)(hn:Nat.blt d ax=true)(ho:opE C.P E h o.op=some (.bool p,h))(hp:p=false)(hw:au C ax L rest ((d,.bool false)::E) h R): au C ax L (o::rest) E h R:=by
 grind[au.op]
theorem au.opB (I:wantE L E o.guard=some true)(hd:o.dst=some d)(hn:Nat.blt d ax=true)(ho:opE C.P E h o.op=some (.bool p,h))(ht:p=true→au C ax L rest ((d,.bool true)::E) h R)(hf:p=false→au C ax L rest ((d,.bool false)::E) h R): au C ax L (o::rest) E h R:=by
 cases p<;>grind[au.op]
theorem au.Hq (s:Sat h S)(hg:wantE L E o.guard=some true)(hd:o.dst=some d)(hn:Nat.blt d ax=true)(I:o.op=.makeMap t none)
 (hr:∀id h₁,Sat h₁ (pt id (.map [] 0)::S)→au C ax L rest ((d,.map id)::E) h₁ R): au C ax L (o::rest) E h R :=
 au.op hg hd hn (by rw[I];exact abN) (hr _ _ (s.new _))
theorem au.mg (hg:wantE L E o.guard=some true)(hd:o.dst=none)(ho:OpR C E h o BD)
 (hw:∀v h₁,BD v h₁→au C ax L rest E h₁ R): au C ax L (o::rest) E h R:=by
 intro env hE
 obtain⟨v,h₁,hr,oO⟩:=ho
 obtain⟨N,hN⟩:=oO env hE
 obtain⟨M,I,h',E',h1,h2,h3⟩:=hw v h₁ hr env hE
 refine⟨Nat.max N M,I,h',E',?_,h2,h3⟩
 simp only[evOps,kP hE hg,ah,nX (iC (qX N M)) hN,St.put,hd]
 exact rY (iC (qW N M)) _ _ _ h1
variable {Q:List (Nat×V)→H→List (List (Nat×V)×V)→List H→Prop}
theorem aB.uH (hg:wantE L E o.guard=some true)(hd:o.dst=some d)(hn:Nat.blt d ax=true)(he:isEff C o.op=false)(ho:opE C.P E h o.op=some (.bool p,h))(hp:p=true)
 (hw:aB C ax L rest ((d,.bool true)::E) h hs fun E' h' ts I=>Q E' h' ((E,.bool true)::ts) I): aB C ax L (o::rest) E h hs Q:=by
 grind[aB.op]
theorem aB.qb (hg:wantE L E o.guard=some true)(hd:o.dst=some d)(hn:Nat.blt d ax=true)(he:isEff C o.op=false)(ho:opE C.P E h o.op=some (.bool p,h))(hp:p=false)
 (hw:aB C ax L rest ((d,.bool false)::E) h hs fun E' h' ts I=>Q E' h' ((E,.bool false)::ts) I): aB C ax L (o::rest) E h hs Q:=by
 grind[aB.op]
theorem aB.opB (hg:wantE L E o.guard=some true)(hd:o.dst=some d)(hn:Nat.blt d ax=true)(he:isEff C o.op=false)(ho:opE C.P E h o.op=some (.bool p,h))
 (ht:p=true→aB C ax L rest ((d,.bool true)::E) h hs fun E' h' ts I=>Q E' h' ((E,.bool true)::ts) I)
 (hf:p=false→aB C ax L rest ((d,.bool false)::E) h hs fun E' h' ts I=>Q E' h' ((E,.bool false)::ts) I): aB C ax L (o::rest) E h hs Q:=by
 cases p<;>grind[aB.op]
theorem OpR.yH {v:V}(I:o.op=.store t x y)(hx:bC E x=some v)(hy:bC E y=some u)
 (ho:∃h₁,jR C.P h t v u=some h₁∧Sat h₁ S'): OpR C E h o fun w h₁=>w=cP∧Sat h₁ S':=by
 obtain⟨h₁,e1,e2⟩:=ho
 exact OpR.of (by grind[Ni]) ⟨rfl,e2⟩
end
theorem JG {t:Nat}{p v w:V}(hl:look E a=some p)(I:loadV P h t p=some v)(h2:look E b=some w): resLE P E h [.cell a t,.tmp b]=some (.aT [v,w]):=by grind[resLE,mapO,resE]
theorem z_ {t:Nat}{v:V}(hl:look E t=some v): resLE P E h [.tmp t]=some v:=by grind[resLE,mapO,resE]
def ac8 : Code→Nat→Code
 |.seq a _,0=>a
 |.seq _ b,_=>b
 |.cond _ a _,0=>a
 |.cond _ _ b,_=>b
 |.block _ a,_=>a
 |.loop a,_=>a
 |.scope a,_=>a
 |c,_=>c
def eu : List Nat→Code→Code
 |[],c=>c
 |k::ks,c=>eu ks (ac8 c k)
section
variable {ax:Nat} {o:Oper} {v:V} {p:Bool}
theorem zc {k:FuncId}(e:(wantE L E o.guard,o.dst,Nat.blt d ax,o.op,cl.callee,bC E x,lookArgs E cl.args.toList)=(some true,some d,true,Op.call cl,Callee.value x,some (.fn (.func k) first cap),some args))
 (I:Call C k (first++(args++cap)) h BD)(hw:∀v h₁,BD v h₁→au C ax L rest ((d,v)::E) h₁ R): au C ax L (o::rest) E h R:=by
  simp only[bN] at e;exact au.call e.1 e.2.1 e.2.2.1 e.2.2.2.1 e.2.2.2.2.1 e.2.2.2.2.2.1 e.2.2.2.2.2.2 I hw
theorem zt (e:(wantE L E o.guard,o.dst,Nat.blt d ax)=(some true,some d,true))(ho:opE C.P E h o.op=some (.bool p,h))(I:p=true)(hw:au C ax L rest ((d,.bool true)::E) h R): au C ax L (o::rest) E h R:=by
  simp only[bN] at e;exact au.uH e.1 e.2.1 e.2.2 ho I hw
theorem zh (e:(wantE L E o.guard,o.dst,Nat.blt d ax)=(some true,some d,true))(ho:opE C.P E h o.op=some (.bool p,h))(I:p=false)(hw:au C ax L rest ((d,.bool false)::E) h R): au C ax L (o::rest) E h R:=by
  simp only[bN] at e;exact au.qb e.1 e.2.1 e.2.2 ho I hw
theorem zd (e:(wantE L E o.guard,o.dst,Nat.blt d ax)=(some true,some d,true))(ho:opE C.P E h o.op=some (.bool p,h))(I:p=true→au C ax L rest ((d,.bool true)::E) h R)(hf:p=false→au C ax L rest ((d,.bool false)::E) h R): au C ax L (o::rest) E h R:=by
  simp only[bN] at e;exact au.opB e.1 e.2.1 e.2.2 ho I hf
theorem zB {op:BinOp}(e:(o.op,wantE L E o.guard,o.dst,Nat.blt d ax,bC E x,bC E y)=(Op.binOp op t x y t',some true,some d,true,some v,some u))(I:binV C.P h op t x y v u=some (.bool p))(hp:p=true)(hw:au C ax L rest ((d,.bool true)::E) h R): au C ax L (o::rest) E h R:=by
  simp only[bN] at e;exact au.uH e.2.1 e.2.2.1 e.2.2.2.1 (by rw[e.1];exact ak e.2.2.2.2.1 e.2.2.2.2.2 I) hp hw
theorem zC {op:BinOp}(e:(o.op,wantE L E o.guard,o.dst,Nat.blt d ax,bC E x,bC E y)=(Op.binOp op t x y t',some true,some d,true,some v,some u))(I:binV C.P h op t x y v u=some (.bool p))(hp:p=false)(hw:au C ax L rest ((d,.bool false)::E) h R): au C ax L (o::rest) E h R:=by
  simp only[bN] at e;exact au.qb e.2.1 e.2.2.1 e.2.2.2.1 (by rw[e.1];exact ak e.2.2.2.2.1 e.2.2.2.2.2 I) hp hw
theorem zy (s:Sat h S)(k:Nat)(I:isAggT C.P t=some false)(e:(o.op,wantE L E o.guard,o.dst,Nat.blt d ax,bC E x,getA S k,nth cs off)=(Op.load t x,some true,some d,true,some (V.ptr id off),some (pt id (.cells n cs st)),some v))(hw:au C ax L rest ((d,v)::E) h R): au C ax L (o::rest) E h R:=by
  simp only[bN] at e;exact au.op e.2.1 e.2.2.1 e.2.2.2.1 (by rw[e.1];exact o_load e.2.2.2.2.1 (s.ld e.2.2.2.2.2.1 I e.2.2.2.2.2.2)) hw
theorem zY {I:Oper}{aez:Operand}{aeA:TypeId}(s:Sat h S)(k:Nat)(hf:∀a b:Nat,fieldAddrV C.P aeA (.ptr a b) i=some (.ptr a (b+j)))(ha:isAggT C.P t=some false)
 (e:(I.op,wantE L E I.guard,I.dst,Nat.blt uU ax,bC E aez,o.op,wantE L ((uU,.ptr a (b+j))::E) o.guard,o.dst,Nat.blt d ax,bC ((uU,.ptr a (b+j))::E) x,getA S k,nth cs (b+j))=(Op.fieldAddr aeA aez i,some true,some uU,true,some (V.ptr a b),Op.load t x,some true,some d,true,some (V.ptr a (b+j)),some (pt a (.cells n cs st)),some v))
 (hw:au C ax L rest ((d,v)::(uU,.ptr a (b+j))::E) h R): au C ax L (I::o::rest) E h R:=by
  simp only[bN] at e
  obtain⟨e1,e2,e3,e4,e5,e6,e7,e8,e9,e10,e11,e12⟩:=e
  exact au.op e2 e3 e4 (by rw[e1];exact mU e5 (hf a b)) (au.op e7 e8 e9 (by rw[e6];exact o_load e10 (s.ld e11 ha e12)) hw)
theorem zS (e:(wantE L E o.guard,o.dst,o.op,bC E x,bC E y)=(some true,none,Op.store t x y,some v,some u))(ho:∃h₁,jR C.P h t v u=some h₁∧Sat h₁ S')(hr:∀h₁,Sat h₁ S'→au C ax L rest E h₁ R): au C ax L (o::rest) E h R:=by
  simp only[bN] at e;exact au.yH e.1 e.2.1 e.2.2.1 e.2.2.2.1 e.2.2.2.2 ho hr
end
theorem nY : bp Tryz.prog 3=some 1:=by kernel_rfl
theorem b9 : isAggT Tryz.prog 3=some false:=by kernel_rfl
theorem Rw : zeroT Tryz.prog 3=some (.int .i64 0):=by kernel_rfl
theorem BP : bp Tryz.prog 4=some 1:=by kernel_rfl
theorem r_ : isAggT Tryz.prog 4=some false:=by kernel_rfl
theorem sz5 : bp Tryz.prog 5=some 1:=by kernel_rfl
theorem zt5 : zeroT Tryz.prog 5=some (.int .u8 0):=by kernel_rfl
theorem sz9 : bp Tryz.prog 9=some 1:=by kernel_rfl
theorem IE : isAggT Tryz.prog 9=some false:=by kernel_rfl
theorem zt9 : zeroT Tryz.prog 9=some (.str []):=by kernel_rfl
theorem BQ : isAggT Tryz.prog 24=some false:=by kernel_rfl
theorem ac9 : bp Tryz.prog 25=some 1:=by kernel_rfl
theorem Ek : isAggT Tryz.prog 25=some false:=by kernel_rfl
theorem dH : bp Tryz.prog 29=some 1:=by kernel_rfl
theorem bF : isAggT Tryz.prog 29=some false:=by kernel_rfl
theorem lq : zeroT Tryz.prog 29=some .aR:=by kernel_rfl
theorem Un : bp Tryz.prog 31=some 4:=by kernel_rfl
theorem aas : isAggT Tryz.prog 31=some true:=by kernel_rfl
theorem ac_ : zeroT Tryz.prog 31=some (.agg [(.int .i64 0),(.int .i64 0),.aR,.aR]):=by kernel_rfl
theorem FI (a b:Nat): fieldAddrV Tryz.prog 31 (.ptr a b) 0=some (.ptr a (b+0)):=by kernel_rfl
theorem yI (a b:Nat): fieldAddrV Tryz.prog 31 (.ptr a b) 2=some (.ptr a (b+2)):=by kernel_rfl
theorem FJ (a b:Nat): fieldAddrV Tryz.prog 31 (.ptr a b) 3=some (.ptr a (b+3)):=by kernel_rfl
theorem aat : bp Tryz.prog 32=some 1:=by kernel_rfl
theorem Pc : isAggT Tryz.prog 32=some false:=by kernel_rfl
theorem Pd : bp Tryz.prog 42=some 1:=by kernel_rfl
theorem sg : isAggT Tryz.prog 42=some false:=by kernel_rfl
theorem aau : bp Tryz.prog 45=some 1:=by kernel_rfl
theorem Hr : isAggT Tryz.prog 45=some false:=by kernel_rfl
theorem Aa : bp Tryz.prog 47=some 6:=by kernel_rfl
theorem Ht : isAggT Tryz.prog 47=some true:=by kernel_rfl
theorem Uo : zeroT Tryz.prog 47=some (.agg [(.int .i64 0),(.int .u64 0),(.int .u64 0),(.int .u64 0),.aR,.aR]):=by kernel_rfl
theorem BR (a b:Nat): fieldAddrV Tryz.prog 47 (.ptr a b) 0=some (.ptr a (b+0)):=by kernel_rfl
theorem aav (a b:Nat): fieldAddrV Tryz.prog 47 (.ptr a b) 1=some (.ptr a (b+1)):=by kernel_rfl
theorem aaw (a b:Nat): fieldAddrV Tryz.prog 47 (.ptr a b) 2=some (.ptr a (b+2)):=by kernel_rfl
theorem aax (a b:Nat): fieldAddrV Tryz.prog 47 (.ptr a b) 3=some (.ptr a (b+3)):=by kernel_rfl
theorem aay (a b:Nat): fieldAddrV Tryz.prog 47 (.ptr a b) 4=some (.ptr a (b+4)):=by kernel_rfl
theorem vY (a b:Nat): fieldAddrV Tryz.prog 47 (.ptr a b) 5=some (.ptr a (b+5)):=by kernel_rfl
theorem Up (ps:List (Nat×V)): buildV Tryz.prog 47 ps=(fillV (nth [(0,1),(1,1),(2,1),(3,1),(4,1),(5,1)]) ((.agg [(.int .i64 0),(.int .u64 0),(.int .u64 0),(.int .u64 0),.aR,.aR]):V).cells ps).map .agg:=by kernel_rfl
theorem El : bp Tryz.prog 53=some 2:=by kernel_rfl
theorem ada : isAggT Tryz.prog 53=some true:=by kernel_rfl
theorem Pe : zeroT Tryz.prog 53=some (.agg [(.str []),(.str [])]):=by kernel_rfl
theorem BS (a b:Nat): fieldAddrV Tryz.prog 53 (.ptr a b) 0=some (.ptr a (b+0)):=by kernel_rfl
theorem Rx (a b:Nat): fieldAddrV Tryz.prog 53 (.ptr a b) 1=some (.ptr a (b+1)):=by kernel_rfl
theorem adb (ps:List (Nat×V)): buildV Tryz.prog 53 ps=(fillV (nth [(0,1),(1,1)]) ((.agg [(.str []),(.str [])]):V).cells ps).map .agg:=by kernel_rfl
theorem xO : isAggT Tryz.prog 69=some false:=by kernel_rfl
theorem Uq : isAggT Tryz.prog 78=some false:=by kernel_rfl
theorem aaz : bp Tryz.prog 92=some 1:=by kernel_rfl
theorem e_ : isAggT Tryz.prog 92=some false:=by kernel_rfl
theorem kQ : bp Tryz.prog 94=some 2:=by kernel_rfl
theorem Hu : isAggT Tryz.prog 94=some true:=by kernel_rfl
theorem Pf : zeroT Tryz.prog 94=some (.agg [.b8,(.int .i64 0)]):=by kernel_rfl
theorem jb (a b:Nat): fieldAddrV Tryz.prog 94 (.ptr a b) 0=some (.ptr a (b+0)):=by kernel_rfl
theorem si (a b:Nat): fieldAddrV Tryz.prog 94 (.ptr a b) 1=some (.ptr a (b+1)):=by kernel_rfl
theorem aaA (ps:List (Nat×V)): buildV Tryz.prog 94 ps=(fillV (nth [(0,1),(1,1)]) ((.agg [.b8,(.int .i64 0)]):V).cells ps).map .agg:=by kernel_rfl
theorem Ur : bp Tryz.prog 98=some 1:=by kernel_rfl
theorem gz : isAggT Tryz.prog 98=some false:=by kernel_rfl
theorem ade (a b l:Nat)(c:Cap)(k:IntKind)(n:Int): indexAddrV Tryz.prog 98 (.sl a b l c) (.int k n)=cond (decide (0≤n)&&decide (n<(l:Int))) (some (.ptr a (b+n.toNat*1))) none:=by kernel_rfl
theorem iZ (a b:Nat): fieldAddrV Tryz.prog 101 (.ptr a b) 0=some (.ptr a (b+0)):=by kernel_rfl
theorem fG (a b:Nat): fieldAddrV Tryz.prog 101 (.ptr a b) 1=some (.ptr a (b+1)):=by kernel_rfl
theorem nN (a b:Nat): fieldAddrV Tryz.prog 101 (.ptr a b) 2=some (.ptr a (b+2)):=by kernel_rfl
theorem cN (a b:Nat): fieldAddrV Tryz.prog 101 (.ptr a b) 3=some (.ptr a (b+3)):=by kernel_rfl
theorem Pg (ps:List (Nat×V)): buildV Tryz.prog 101 ps=(fillV (nth [(0,1),(1,1),(2,1),(3,1)]) ((.agg [(.int .i64 0),(.int .i64 0),.aR,.aR]):V).cells ps).map .agg:=by kernel_rfl
theorem qG : isAggT Tryz.prog 114=some false:=by kernel_rfl
theorem abP : bp Tryz.prog 116=some 3:=by kernel_rfl
theorem rD (a b:Nat): fieldAddrV Tryz.prog 116 (.ptr a b) 0=some (.ptr a (b+0)):=by kernel_rfl
theorem s8 (a b:Nat): fieldAddrV Tryz.prog 116 (.ptr a b) 1=some (.ptr a (b+1)):=by kernel_rfl
theorem Di (a b:Nat): fieldAddrV Tryz.prog 116 (.ptr a b) 2=some (.ptr a (b+2)):=by kernel_rfl
theorem abQ (ps:List (Nat×V)): buildV Tryz.prog 116 ps=(fillV (nth [(0,1),(1,1),(2,1)]) ((.agg [.b8,.mR,(.bool false)]):V).cells ps).map .agg:=by kernel_rfl
theorem Dj : isAggT Tryz.prog 117=some false:=by kernel_rfl
theorem Dl (a b:Nat): fieldAddrV Tryz.prog 119 (.ptr a b) 0=some (.ptr a (b+0)):=by kernel_rfl
theorem No (a b:Nat): fieldAddrV Tryz.prog 119 (.ptr a b) 1=some (.ptr a (b+1)):=by kernel_rfl
theorem vD (a b:Nat): fieldAddrV Tryz.prog 119 (.ptr a b) 2=some (.ptr a (b+2)):=by kernel_rfl
theorem vE (a b:Nat): fieldAddrV Tryz.prog 119 (.ptr a b) 3=some (.ptr a (b+3)):=by kernel_rfl
theorem abR (ps:List (Nat×V)): buildV Tryz.prog 119 ps=(fillV (nth [(0,1),(1,1),(2,1),(3,1),(4,1),(5,1)]) ((.agg [.b8,.b8,.b8,.b8,.aR,(.int .u64 0)]):V).cells ps).map .agg:=by kernel_rfl
theorem jm : bp Tryz.prog 148=some 4:=by kernel_rfl
theorem pU : isAggT Tryz.prog 148=some true:=by kernel_rfl
theorem uX : zeroT Tryz.prog 148=some (.agg [.b8,(.int .i64 0),.b8,.b8]):=by kernel_rfl
theorem lQ (a b:Nat): fieldAddrV Tryz.prog 148 (.ptr a b) 0=some (.ptr a (b+0)):=by kernel_rfl
theorem yJ (a b:Nat): fieldAddrV Tryz.prog 148 (.ptr a b) 1=some (.ptr a (b+1)):=by kernel_rfl
theorem vF (a b:Nat): fieldAddrV Tryz.prog 148 (.ptr a b) 2=some (.ptr a (b+2)):=by kernel_rfl
theorem rE (a b:Nat): fieldAddrV Tryz.prog 148 (.ptr a b) 3=some (.ptr a (b+3)):=by kernel_rfl
theorem JH (ps:List (Nat×V)): buildV Tryz.prog 148 ps=(fillV (nth [(0,1),(1,1),(2,1),(3,1)]) ((.agg [.b8,(.int .i64 0),.b8,.b8]):V).cells ps).map .agg:=by kernel_rfl
theorem abS : bp Tryz.prog 169=some 1:=by kernel_rfl
theorem Ph : isAggT Tryz.prog 169=some false:=by kernel_rfl
theorem abT : bp Tryz.prog 170=some 1:=by kernel_rfl
theorem Yl (a b:Nat): fieldAddrV Tryz.prog 172 (.ptr a b) 0=some (.ptr a (b+0)):=by kernel_rfl
theorem Hv (a b:Nat): fieldAddrV Tryz.prog 172 (.ptr a b) 1=some (.ptr a (b+1)):=by kernel_rfl
theorem Hw (a b:Nat): fieldAddrV Tryz.prog 172 (.ptr a b) 2=some (.ptr a (b+2)):=by kernel_rfl
theorem Np (a b:Nat): fieldAddrV Tryz.prog 172 (.ptr a b) 3=some (.ptr a (b+3)):=by kernel_rfl
theorem yK (a b:Nat): fieldAddrV Tryz.prog 172 (.ptr a b) 4=some (.ptr a (b+4)):=by kernel_rfl
theorem Nq (a b:Nat): fieldAddrV Tryz.prog 172 (.ptr a b) 5=some (.ptr a (b+5)):=by kernel_rfl
theorem Ym (a b:Nat): fieldAddrV Tryz.prog 172 (.ptr a b) 6=some (.ptr a (b+6)):=by kernel_rfl
theorem Dm (a b:Nat): fieldAddrV Tryz.prog 172 (.ptr a b) 7=some (.ptr a (b+7)):=by kernel_rfl
theorem Dn (a b:Nat): fieldAddrV Tryz.prog 172 (.ptr a b) 8=some (.ptr a (b+8)):=by kernel_rfl
theorem rF (a b:Nat): fieldAddrV Tryz.prog 172 (.ptr a b) 9=some (.ptr a (b+9)):=by kernel_rfl
theorem Us (a b:Nat): fieldAddrV Tryz.prog 172 (.ptr a b) 10=some (.ptr a (b+10)):=by kernel_rfl
theorem Ut (a b:Nat): fieldAddrV Tryz.prog 172 (.ptr a b) 11=some (.ptr a (b+11)):=by kernel_rfl
theorem abU (ps:List (Nat×V)): buildV Tryz.prog 172 ps=(fillV (nth [(0,1),(1,1),(2,1),(3,1),(4,1),(5,1),(6,1),(7,1),(8,1),(9,1),(10,1),(11,1)]) ((.agg [(.int .i64 0),.aR,.aR,.mR,.aR,(.int .i64 0),.aR,(.int .i64 0),(.int .i64 0),(.bool false),.b8,.aR]):V).cells ps).map .agg:=by kernel_rfl
theorem Nr (a b:Nat): fieldAddrV Tryz.prog 174 (.ptr a b) 0=some (.ptr a (b+0)):=by kernel_rfl
theorem yL (a b:Nat): fieldAddrV Tryz.prog 174 (.ptr a b) 1=some (.ptr a (b+1)):=by kernel_rfl
theorem nO (a b:Nat): fieldAddrV Tryz.prog 174 (.ptr a b) 2=some (.ptr a (b+2)):=by kernel_rfl
theorem s_ (a b:Nat): fieldAddrV Tryz.prog 174 (.ptr a b) 3=some (.ptr a (b+3)):=by kernel_rfl
theorem Hy (a b:Nat): fieldAddrV Tryz.prog 174 (.ptr a b) 4=some (.ptr a (b+4)):=by kernel_rfl
theorem Yn (a b:Nat): fieldAddrV Tryz.prog 174 (.ptr a b) 5=some (.ptr a (b+5)):=by kernel_rfl
theorem abV (ps:List (Nat×V)): buildV Tryz.prog 174 ps=(fillV (nth [(0,1),(1,1),(2,1),(3,1),(4,1),(5,1)]) ((.agg [.b8,(.int .u64 0),.aR,.aR,(.int .i64 0),(.int .u64 0)]):V).cells ps).map .agg:=by kernel_rfl
theorem Pj : bp Tryz.prog 185=some 2:=by kernel_rfl
theorem abW : isAggT Tryz.prog 185=some true:=by kernel_rfl
theorem Pk : zeroT Tryz.prog 185=some (.agg [(.int .i64 0),.aR]):=by kernel_rfl
theorem Yo (a b:Nat): fieldAddrV Tryz.prog 185 (.ptr a b) 1=some (.ptr a (b+1)):=by kernel_rfl
theorem abX (ps:List (Nat×V)): buildV Tryz.prog 185 ps=(fillV (nth [(0,1),(1,1)]) ((.agg [(.int .i64 0),.aR]):V).cells ps).map .agg:=by kernel_rfl
theorem aS : bp Tryz.prog 189=some 1:=by kernel_rfl
theorem bx : isAggT Tryz.prog 189=some true:=by kernel_rfl
theorem jo : zeroT Tryz.prog 189=some (.agg [.aR]):=by kernel_rfl
theorem dW (a b:Nat): fieldAddrV Tryz.prog 189 (.ptr a b) 0=some (.ptr a (b+0)):=by kernel_rfl
theorem Ab (ps:List (Nat×V)): buildV Tryz.prog 189 ps=(fillV (nth [(0,1)]) ((.agg [.aR]):V).cells ps).map .agg:=by kernel_rfl
theorem Dp : bp Tryz.prog 206=some 4:=by kernel_rfl
theorem abY : isAggT Tryz.prog 206=some true:=by kernel_rfl
theorem wU : zeroT Tryz.prog 206=some (.agg [(.int .i64 0),(.int .i64 0),(.bool false),.aR]):=by kernel_rfl
theorem Hz (a b:Nat): fieldAddrV Tryz.prog 206 (.ptr a b) 0=some (.ptr a (b+0)):=by kernel_rfl
theorem vG (a b:Nat): fieldAddrV Tryz.prog 206 (.ptr a b) 1=some (.ptr a (b+1)):=by kernel_rfl
theorem Ns (a b:Nat): fieldAddrV Tryz.prog 206 (.ptr a b) 2=some (.ptr a (b+2)):=by kernel_rfl
theorem vH (a b:Nat): fieldAddrV Tryz.prog 206 (.ptr a b) 3=some (.ptr a (b+3)):=by kernel_rfl
theorem Pm (ps:List (Nat×V)): buildV Tryz.prog 206 ps=(fillV (nth [(0,1),(1,1),(2,1),(3,1)]) ((.agg [(.int .i64 0),(.int .i64 0),(.bool false),.aR]):V).cells ps).map .agg:=by kernel_rfl
theorem sj : isAggT Tryz.prog 211=some false:=by kernel_rfl
theorem abZ (a b l:Nat)(c:Cap)(k:IntKind)(n:Int): indexAddrV Tryz.prog 211 (.sl a b l c) (.int k n)=cond (decide (0≤n)&&decide (n<(l:Int))) (some (.ptr a (b+n.toNat*5))) none:=by kernel_rfl
theorem FK : isAggT Tryz.prog 212=some false:=by kernel_rfl
theorem Dq : isAggT Tryz.prog 213=some false:=by kernel_rfl
theorem Dr (a b:Nat): fieldAddrV Tryz.prog 215 (.ptr a b) 0=some (.ptr a (b+0)):=by kernel_rfl
theorem Yp (a b:Nat): fieldAddrV Tryz.prog 215 (.ptr a b) 1=some (.ptr a (b+1)):=by kernel_rfl
theorem nP (a b:Nat): fieldAddrV Tryz.prog 215 (.ptr a b) 2=some (.ptr a (b+2)):=by kernel_rfl
theorem yM (a b:Nat): fieldAddrV Tryz.prog 215 (.ptr a b) 3=some (.ptr a (b+3)):=by kernel_rfl
theorem vI (a b:Nat): fieldAddrV Tryz.prog 215 (.ptr a b) 4=some (.ptr a (b+4)):=by kernel_rfl
theorem HA (a b:Nat): fieldAddrV Tryz.prog 215 (.ptr a b) 5=some (.ptr a (b+5)):=by kernel_rfl
theorem ab0 (ps:List (Nat×V)): buildV Tryz.prog 215 ps=(fillV (nth [(0,1),(1,1),(2,1),(3,1),(4,1),(5,1)]) ((.agg [.b8,.b8,.aR,.mR,.mR,(.int .i64 0)]):V).cells ps).map .agg:=by kernel_rfl
theorem FL : bp Tryz.prog 218=some 5:=by kernel_rfl
theorem ab1 : isAggT Tryz.prog 218=some true:=by kernel_rfl
theorem ab2 : zeroT Tryz.prog 218=some (.agg [(.int .i64 0),.aR,(.int .i64 0),(.bool false),(.bool false)]):=by kernel_rfl
theorem rG (a b:Nat): fieldAddrV Tryz.prog 218 (.ptr a b) 0=some (.ptr a (b+0)):=by kernel_rfl
theorem Ds (a b:Nat): fieldAddrV Tryz.prog 218 (.ptr a b) 1=some (.ptr a (b+1)):=by kernel_rfl
theorem tc (a b:Nat): fieldAddrV Tryz.prog 218 (.ptr a b) 2=some (.ptr a (b+2)):=by kernel_rfl
theorem HB (a b:Nat): fieldAddrV Tryz.prog 218 (.ptr a b) 3=some (.ptr a (b+3)):=by kernel_rfl
theorem HC (a b:Nat): fieldAddrV Tryz.prog 218 (.ptr a b) 4=some (.ptr a (b+4)):=by kernel_rfl
theorem JI (ps:List (Nat×V)): buildV Tryz.prog 218 ps=(fillV (nth [(0,1),(1,1),(2,1),(3,1),(4,1)]) ((.agg [(.int .i64 0),.aR,(.int .i64 0),(.bool false),(.bool false)]):V).cells ps).map .agg:=by kernel_rfl
theorem Dt : bp Tryz.prog 224=some 2:=by kernel_rfl
theorem WV : isAggT Tryz.prog 224=some true:=by kernel_rfl
theorem Du : zeroT Tryz.prog 224=some (.agg [(.int .u64 0),(.bool false)]):=by kernel_rfl
theorem HD (a b:Nat): fieldAddrV Tryz.prog 224 (.ptr a b) 0=some (.ptr a (b+0)):=by kernel_rfl
theorem Yq (cs:List V): tP Tryz.prog 224 (.agg cs) 0=nth cs 0:=by kernel_rfl
theorem Nt (a b:Nat): fieldAddrV Tryz.prog 224 (.ptr a b) 1=some (.ptr a (b+1)):=by kernel_rfl
theorem ab3 (ps:List (Nat×V)): buildV Tryz.prog 224 ps=(fillV (nth [(0,1),(1,1)]) ((.agg [(.int .u64 0),(.bool false)]):V).cells ps).map .agg:=by kernel_rfl
theorem ab4 (ps:List (Nat×V)): buildV Tryz.prog 230 ps=(fillV (fun i=>some (i*1,1)) ((.agg [(.bool false),(.bool false)]):V).cells ps).map .agg:=by kernel_rfl
theorem Nu (a b:Nat): fieldAddrV Tryz.prog 253 (.ptr a b) 0=some (.ptr a (b+0)):=by kernel_rfl
theorem ab5 (ps:List (Nat×V)): buildV Tryz.prog 253 ps=(fillV (nth [(0,1),(1,1)]) ((.agg [.mR,.mR]):V).cells ps).map .agg:=by kernel_rfl
theorem WW (a b:Nat)(k:IntKind)(n:Int): indexAddrV Tryz.prog 257 (.ptr a b) (.int k n)=cond (decide (0≤n)&&decide (n<(512:Nat))) (some (.ptr a (b+n.toNat*1))) none:=by kernel_rfl
theorem ab6 : bp Tryz.prog 269=some 512:=by kernel_rfl
theorem ab7 : isAggT Tryz.prog 269=some true:=by kernel_rfl
theorem ab8 (ps:List (Nat×V)): buildV Tryz.prog 278 ps=(fillV (fun i=>some (i*1,1)) ((.agg [(.int .u64 0),(.int .u64 0),(.int .u64 0)]):V).cells ps).map .agg:=by kernel_rfl
def slR (v:V)(a b:Nat): V:=match v with
 |.sl id off _ (.exact c)=>.sl id (cond (Nat.beq c a) off (off+a*1)) (b-a) (.exact (c-a))
 |.sl id off _ (.rest _ alt)=>.sl id (off+a*1) (b-a) (.rest 1 (cond (Nat.beq a 0) alt (cond (Nat.blt a b) (off+a*1) off)))
 |v=>v
theorem fE {v:V}(hv:View h v l)(l7:a≤b)(hb:b≤l.length):
  sliceV Tryz.prog h 29 v (some a) (some b) none=some (slR v a b)∧View h (slR v a b) ((l.take b).drop a)∧∀i∈rowIds (slR v a b),i∈rowIds v:=by
 have I:∀x∈(l.take b).drop a,x<256:=fun x hx=>hv.1 x (iV (jh hx))
 have hlen:((l.take b).drop a).length=b-a:=by grind
 obtain⟨hl,Kt⟩:=hv
 rcases Kt with⟨rfl|⟨ea,rfl⟩,rfl⟩|⟨id,off,cap,n,cs,st,rfl,hg,h1,h2,h3,h4⟩
 ·simp only[cj] at hb
  have:b=0:=by omega
  have:a=0:=by omega
  subst_vars
  refine⟨?_,⟨by simp,.inl ⟨.inl rfl,by simp⟩⟩,fun i hi=>hi⟩
  simp only[sliceV,aK,fB]
  rfl
 ·simp only[cj] at hb
  have:b=0:=by omega
  have:a=0:=by omega
  subst_vars
  refine⟨?_,⟨by simp,.inl ⟨.inr ⟨ea,rfl⟩,by simp⟩⟩,fun i hi=>hi⟩
  simp only[sliceV,aK,fB]
  rfl
 ·have JD:∀o,o=off+a∨b-a=0→(cs.drop o).take (b-a)=ofBytes ((l.take b).drop a):=by
   grind[ofBytes,List.map_drop,List.map_take,List.drop_take,List.drop_drop]
  cases cap with
  |exact c =>
   refine⟨?_,⟨I,.inr ⟨id,_,_,n,cs,st,by rw[hlen];rfl,hg,h1,?_,?_,?_⟩⟩,fun i hi=>by simpa[rowIds,slR] using hi⟩
   ·simp only[sliceV,slR,aK,fB,dD]
    grind[aW]
   ·grind
   ·grind[fH]
   ·omega
  |rest e alt =>
   have he:e=1:=h4
   subst he
   refine⟨?_,⟨I,.inr ⟨id,_,_,n,cs,st,by rw[hlen];rfl,hg,h1,by omega,by grind,rfl⟩⟩,fun i hi=>by simpa[rowIds,slR] using hi⟩
   simp only[sliceV,slR,aK,fB,dD,kE]
   grind[aW]
theorem hU {v:V}(hv:View h v l)(ha:a≤l.length):
  sliceV Tryz.prog h 29 v (some a) none none=some (slR v a l.length)∧View h (slR v a l.length) (l.drop a)∧∀i∈rowIds (slR v a l.length),i∈rowIds v:=by
 obtain⟨h1,h2,h3⟩:=fE hv ha (aI _)
 refine⟨?_,by grind,h3⟩
 obtain⟨_,I⟩:=hv
 rcases I with⟨rfl|⟨ea,rfl⟩,rfl⟩|⟨id,off,cap,n,cs,st,rfl,hg,g1,g2,g3,g4⟩
 ·simpa[sliceV,aK,fB] using h1
 ·simpa[sliceV,aK,fB] using h1
 ·simp_all[sliceV]
theorem Uu {v:V}(hv:View h v l)(hb:b≤l.length):
  sliceV Tryz.prog h 29 v none (some b) none=some (slR v 0 b)∧View h (slR v 0 b) (l.take b)∧∀i∈rowIds (slR v 0 b),i∈rowIds v:=by
 obtain⟨h1,h2,h3⟩:=fE hv (gu b) hb
 refine⟨?_,by grind,h3⟩
 obtain⟨_,I⟩:=hv
 rcases I with⟨rfl|⟨ea,rfl⟩,rfl⟩|⟨id,off,cap,n,cs,st,rfl,hg,g1,g2,g3,g4⟩
 ·simpa[sliceV,aK,fB] using h1
 ·simpa[sliceV,aK,fB] using h1
 ·simp_all[sliceV]
theorem fg {v:V}(hv:View h v l)(hi:l[i]?=some b):
  ∃id off,indexAddrV Tryz.prog 29 v (.int .i64 (i:Int))=some (.ptr id off)∧loadV Tryz.prog h 5 (.ptr id off)=some (.int .u8 (b:Int)):=by
 obtain⟨hl,I⟩:=hv
 rcases I with⟨_,rfl⟩|⟨id,off,cap,n,cs,st,rfl,hg,h1,h2,h3,h4⟩
 ·grind
 ·refine⟨id,off+i*1,?_,?_⟩
  ·simp only[indexAddrV,aK,fB,gU]
   grind
  ·simp only[loadV,Nh,Bc,hg,gF,dV]
   have e:=dn (fun q=>q[i]?) h3
   grind[ofBytes]
theorem View.cells {v:V}(I:View h v l): v.cells=[v]∧Am.storable v=true:=by
 obtain⟨_,I⟩:=I
 rcases I with⟨rfl|⟨ea,rfl⟩,_⟩|⟨id,off,cap,n,cs,st,rfl,_⟩<;>exact⟨rfl,rfl⟩
def plain1 : V→Bool
 |.bool _|.int _ _|.str _|.b8|.ptr _ _|.aR|.sl _ _ _ _|.mR|.map _|.Ig|.qj|.vM _ _=>true
 |.fn (.func _) [] []=>true
 |_=>false
def aaB : V→Bool
 |.agg l=>l.all plain1
 |.aT l=>l.all plain1
 |.iface _ v=>plain1 v
 |v=>plain1 v
theorem Pn (k:FloatKind): fkBeq k k=true:=by cases k<;>rfl
theorem Ku : ∀l:List Nat,natsBeq l l=true:=by grind[qu]
theorem Uv (v:V)(h:plain1 v=true): v.beq v=true:=by
 cases v<;>simp[plain1,V.beq,ff,tK,D2,Ku,Pn] at h ⊢
 rename_i f a b
 cases f<;>cases a<;>cases b<;>simp[plain1,V.beq,V.beqL] at h ⊢
theorem WX : ∀(l:List V),l.all plain1=true→V.beqL l l=true:=by
 intro l
 induction l<;>grind[V.beqL,Uv]
theorem bg (v:V)(h:aaB v=true): v.beq v=true:=by
 cases v with
 |agg l=>exact WX l h
 |aT l=>exact WX l h
 |iface t v=>simp only[V.beq,kE,Bool.true_and];exact Uv v h
 |_=>exact Uv _ h
section
variable {v w:V} {m:List Nat}
theorem Po (s:Sat h (aU v l::X::S))(hX:cf X (cy w m))(I:l.length+m.length≤140737488355328):
  ∃v' h',appendV Tryz.prog h #[29,29] v w=some (v',h')∧Sat h' (aU v' (l++m)::X::S):=by
 obtain⟨v',h',e1,e2,e3,e4⟩:=BI s.wf (s.buf (k:=0) rfl) (s.aC (k:=1) rfl hX) I
 exact⟨v',h',e1,s.Dh e3 e2 e4⟩
theorem Ry (s:Sat h S)(I:c<1073741824):
  ∃v h',makeSliceV Tryz.prog h 29 (.int .i64 0) (.int .i64 (c:Int))=some (v,h')∧Sat h' (aU v []::S):=by
 obtain⟨v,h',e1,e2,e3,e4⟩:=FA s.wf I
 exact⟨v,h',e1,s.Ks e3 e2 e4⟩
theorem Nw : ∀n:Nat,repeatL [V.int .u8 0] n=ofBytes (List.replicate n 0):=by
 intro n
 induction n<;>grind[repeatL,ofBytes]
theorem Rz (s:Sat h S)(hc:c<1073741824):
  ∃v h',makeSliceV Tryz.prog h 29 (.int .i64 (c:Int)) (.int .i64 (c:Int))=some (v,h')∧Sat h' (aU v (List.replicate c 0)::S):=by
 obtain⟨i,hi,i1,i2⟩:=Hp
 have I:kX (h.new (.cells c (repeatL [.int .u8 0] c) false)) (.sl h.next 0 c (.exact c)) (List.replicate c 0):=by
  refine⟨fun b I=>by grind,.inr (.inl ⟨h.next,[],c,by simp,?_,by simp⟩)⟩<;>grind[iX,Nw]
 refine⟨.sl h.next 0 c (.exact c),h.new (.cells c (repeatL [.int .u8 0] c) false),?_,s.Ks (fo.Df s.wf _) I fun i hi=>by simp[rowIds] at hi;omega⟩
 grind[makeSliceV,Tryz.underlying29,sZ,V.cells,Nat.ble,Nat.beq]
theorem RA (s:Sat h S)(I:b<256): ∃v h',buildSliceV Tryz.prog h 29 1 [(0,.int .u8 b)]=some (v,h')∧Sat h' (aU v [b]::S):=by
 obtain⟨v,h',e1,e2,e3,e4⟩:=IB s.wf I
 exact⟨v,h',e1,s.Ks e3 e2 e4⟩
theorem Sat.eG (s:Sat h (aU v l::S))(hl:1≤l.length): ∃id c cap rest,v=.sl id 0 l.length cap∧Sat h (pt id (.cells c (ofBytes l++rest) false)::S)∧l.length+rest.length=c ∧
  (∀(h':H) (I:List Nat),I.length=l.length→(∀b∈I,b<256)→Sat h' (pt id (.cells c (ofBytes I++rest) false)::S)→Sat h' (aU v I::S)):=by
 obtain⟨m,r,h1,h2,h3,a,b,g1,g2,g3,⟨gl,g4⟩,g5⟩:=s.ok
 rcases g4 with⟨rfl,rfl⟩|⟨id,cs,c,rfl,hg,hc⟩|⟨id,rfl,hg,h5⟩
 ·grind
 ·refine⟨id,c,_,cs,rfl,⟨s.wf,m,r,h1,h2,h3,a,b,g1,g2,g3,hg,g5⟩,hc,fun h' I e1 e2 s'=>s'.dQ ?_⟩
  intro m' r' hm
  exact⟨e2,.inr (.inl ⟨id,cs,c,by rw[e1],hm,by omega⟩)⟩
 ·refine⟨id,l.length,_,[],rfl,⟨s.wf,m,r,h1,h2,h3,a,b,g1,g2,g3,by rw[fe];exact hg,g5⟩,by simp,fun h' I e1 e2 s'=>s'.dQ ?_⟩
  intro m' r' hm
  have DZ:m' id=some (.cells l.length (ofBytes I++[]) false):=hm
  exact⟨e2,.inr (.inr ⟨id,by rw[e1],by grind,by omega⟩)⟩
theorem Mt (l:List Nat)(i b:Nat): (ofBytes l).set i (.int .u8 (b:Int))=ofBytes (l.set i b):=by simp[ofBytes,CY]
theorem vZ (l:List Nat)(n:Nat): (ofBytes l).take n=ofBytes (l.take n):=by simp[ofBytes,ri]
theorem BT (l:List Nat)(n:Nat): (ofBytes l).drop n=ofBytes (l.drop n):=by simp[ofBytes,sW]
theorem qv (s:Sat h (aU v l::S))(hi:i<l.length)(hb:b<256):
  ∃id off,indexAddrV Tryz.prog 29 v (.int .i64 (i:Int))=some (.ptr id off)∧∃h',jR Tryz.prog h 5 (.ptr id off) (.int .u8 (b:Int))=some h'∧Sat h' (aU v (l.set i b)::S):=by
 have hv:=(s.buf (k:=0) rfl).1
 obtain⟨id,c,cap,rest,rfl,s1,hc,I⟩:=s.eG (by omega)
 refine⟨id,i,?_,?_⟩
 ·simp_all[indexAddrV,fB]
 ·obtain⟨h',e1,e2⟩:=s1.jS (t:=5) (P:=Tryz.prog) (v:=.int .u8 (b:Int)) (k:=0) (off:=i) rfl fB (by simp[dx];omega) (by omega) rfl rfl
  refine⟨h',e1,I h' (l.set i b) (by simp) (fun x hx => ?_) ?_⟩
  ·grind
  ·have e3:(ofBytes l++rest).set i (.int .u8 (b:Int))=ofBytes (l.set i b)++rest:=by
    grind[dx,Mt]
   rw[e3] at e2
   exact e2
def az (l:List Nat)(a:Nat)(m:List Nat): List Nat:=l.take a++(m++l.drop (a+m.length))
theorem bD (h:a+m.length≤l.length): (az l a m).length=l.length:=by simp[az];omega
theorem wV (hl:∀b∈l,b<256)(hm:∀b∈m,b<256): ∀b∈az l a m,b<256:=by grind[az]
theorem Kv (s:Sat h (aU v l::X::S))(hX:cf X (cy w m))(l7:a<b)(hb:b≤l.length)(hm:1≤m.length):
  ∃h',copyV Tryz.prog h 29 (slR v a b) w=some (.int .i64 (min m.length (b-a):Nat),h')∧Sat h' (aU v (az l a (m.take (b-a)))::X::S):=by
 have hw:=s.aC (k:=1) rfl hX
 have Nx:=hw.1
 have hv:=(s.buf (k:=0) rfl).1
 obtain⟨id,c,cap,rest,rfl,s1,hc,hf⟩:=s.eG (by omega)
 have ja:∃Bt,slR (.sl id 0 l.length cap) a b=.sl id a (b-a) Bt:=by
  cases cap with
  |exact c =>
   refine⟨.exact (c-a),?_⟩
   simp only[slR]
   by_cases WY:c=a
   ·obtain⟨m',r,h1,h2,h3⟩:=s.at (k:=0) rfl
    rcases h3.2 with⟨e,_⟩|⟨wI,cs',c',e,hg,RB⟩|⟨wI,e,_⟩
    ·cases e
    ·grind
    ·grind
   grind[fH]
  |rest e alt=>simp[slR]
 obtain⟨Bt,ja⟩:=ja
 rw[ja]
 have tY:=hw
 rcases tY.2 with⟨_,rfl⟩|⟨sk,I,HE,n2,qw,st2,rfl,FM,q1,q2,q3,q4⟩
 ·grind
 ·have adf:Nat.min m.length (b-a)=(m.take (b-a)).length:=by
   grind
  have ju:rdN h sk I (Nat.min m.length (b-a)*1)=some (ofBytes (m.take (b-a))):=by
   have IF:View h (.sl sk I (m.take (b-a)).length HE) (m.take (b-a)):=by
    refine⟨fun x hx=>Nx x (iV hx),.inr ⟨sk,I,HE,n2,qw,st2,rfl,FM,q1,?_,?_,?_⟩⟩
    ·grind
    ·rw[←vZ,←q3,q_,cH]
    ·grind
   rw[dV,adf]
   exact IF.rdN.2
  simp only[copyV,aK,fB,ju]
  have hlen:(m.take (b-a)).length≤b-a:=by grind
  have FN:wrN h id a (ofBytes (m.take (b-a)))=some (h.put id (some (.cells c (ofBytes (az l a (m.take (b-a)))++rest) false))):=by
   simp only[wrN,s1.row (k:=0) rfl,dx]
   rw[aW.2 (by omega),ah]
   have e0:(ofBytes l++rest).take a++(ofBytes (m.take (b-a))++(ofBytes l++rest).drop (a+(m.take (b-a)).length))=ofBytes (az l a (m.take (b-a)))++rest:=by
    grind[dx,vZ,BT,az,tJ]
   cases RC:(Nat.beq a 0&&Nat.beq (m.take (b-a)).length c)<;>grind[beq_iff,List.drop_eq_nil_of_le,dx]
  rw[FN]
  refine⟨_,rfl,hf _ _ (bD (by omega)) (wV hv (fun x hx=>Nx x (iV hx))) ?_⟩
  exact s1.put (k:=0) rfl
end
section
variable {v w x:V}
theorem ldN (I:isAggT P t=some true)(hs:bp P t=some q)(hg:T.get h.tr id=some (.cells n cs st))(hl:cs.length=n)(hb:off+q≤n):
  loadV P h t (.ptr id off)=some (.agg ((cs.drop off).take q)):=by
 grind[loadV,rdN,aW,beq_iff]
theorem Sat.Yr (s:Sat h (.arr k v cs::S))(I:cs≠[]): ∃id n cap N rest,v=.sl id 0 n cap∧cs.length=n*k∧N=cs.length+rest.length∧Sat h (pt id (.cells N (cs++rest) false)::S) ∧
  (∀(h':H) (cs':List V) (S':List aE),cs'.length=cs.length→cs'.all storable=true→Sat h' (pt id (.cells N (cs'++rest) false)::S')→Sat h' (.arr k v cs'::S')):=by
 obtain⟨m,r,h1,h2,h3,a,b,g1,g2,g3,⟨gl,g4⟩,g5⟩:=s.ok
 rcases g4 with⟨_,e⟩|⟨id,n,cap,N,rest,rfl,hg,q1,q2,q3,q4⟩
 ·grind
 ·refine⟨id,n,cap,N,rest,rfl,q1,q2.symm,⟨s.wf,m,r,h1,h2,h3,a,b,g1,g2,g3,hg,g5⟩,fun h' cs' S' e1 e2 s'=>s'.dQ ?_⟩
  intro m' r' hm
  exact⟨e2,.inr ⟨id,n,cap,N,rest,rfl,hm,by omega,by omega,q3,q4⟩⟩
theorem Sat.Pp (s:Sat h S)(I:getA S j=some (.arr k v cs)): cs.all storable=true:=by
 obtain⟨m,r,h1,h2,h3⟩:=s.at I
 exact h3.1
theorem Sat.tf (s:Sat h S)(I:getA S j=some (.arr k v cs)): v.cells=[v]∧storable v=true∧v.beq v=true:=by
 obtain⟨m,r,h1,h2,h3⟩:=s.at I
 rcases h3.2 with⟨rfl,_⟩|⟨id,n,cap,N,rest,rfl,_⟩
 ·exact⟨rfl,rfl,rfl⟩
 ·exact⟨rfl,rfl,z8 _ _ _ _⟩
theorem Sat.fW (s:Sat h S)(hj:getA S j=some (.arr k v cs))(hn:cs.length=n*k)(hk:1≤k)(hu:P.underlying t=some (.slice e)): lenV P h t v=some (.int .i64 n):=by
 obtain⟨m,r,h1,h2,h3⟩:=s.at hj
 rcases h3.2 with⟨rfl,rfl⟩|⟨id,n',cap,N,rest,rfl,_,q,_⟩
 ·have:n=0:=by
   rcases pM n with I|I
   ·exact I
   ·have:=vr I hk
    simp at hn
    omega
  simp_all[lenV]
 ·have:n'=n:=GN hk (by omega)
  subst this
  simp only[lenV,hu]
theorem xP (z:List V)(n:Nat): (repeatL z n).length=n*z.length:=by
 induction n<;>grind[repeatL]
theorem FO {z:List V}(I:z.all storable=true)(n:Nat): (repeatL z n).all storable=true:=by
 induction n<;>grind[repeatL]
theorem IG (s:Sat h S){i:TypeInfo}(hu:P.underlying t=some (.slice e))(hi:P.info? e=some i)(hz:zeroT P e=some z)(hk:i.size=k)(hb:i.bytes≤4096)(hl:z.cells.length=k)(I:z.cells.all storable=true)
 (h1:1≤k)(hn:n≤c)(hc:c<1073741824):
  ∃v h',makeSliceV P h t (.int .i64 (n:Int)) (.int .i64 (c:Int))=some (v,h')∧Sat h' (.arr k v (repeatL z.cells n)::S):=by
 refine⟨.sl h.next 0 n (.exact c),h.new (.cells (c*k) (repeatL z.cells c) false),?_,(s.new _).dQ fun m r hm => ?_⟩
 ·grind[makeSliceV,aW,Nat.beq_refl]
 ·refine⟨FO I n,.inr ⟨h.next,n,.exact c,c*k,repeatL z.cells (c-n),rfl,?_,by rw[xP,hl],?_,FO I _,rfl,hn⟩⟩
  ·have:repeatL z.cells n++repeatL z.cells (c-n)=repeatL z.cells c:=by
    have:∀a b,repeatL z.cells a++repeatL z.cells b=repeatL z.cells (a+b):=fun a b=>by
     induction a<;>grind[repeatL]
    rw[this,show n+(c-n)=c by omega]
   rw[this];exact hm
  ·rw[xP,xP,hl,←rj,show n+(c-n)=c by omega]
theorem Dv (I:T.get h.tr id=some (.cells n cs false))(hl:cs.length=n)(hb:off+vs.length≤n):
  wrN h id off vs=some (h.put id (some (.cells n (cs.take off++(vs++cs.drop (off+vs.length))) false))):=by
 grind[wrN,aW,beq_iff,List.drop_eq_nil_of_le]
theorem qx (I:T.get h.tr id=some (.cells n cs st))(hl:cs.length=n)(hb:off+q≤n): rdN h id off q=some ((cs.drop off).take q):=by
 grind[rdN,aW,beq_iff]
def Ny (X:aE)(k:Nat)(v:V)(cs:List V): Prop:=∀m r,X.p m r→qI m k v cs∨qI r k v cs
theorem ji (k:Nat)(v:V)(cs:List V): Ny (.arr k v cs) k v cs:=fun _ _ h=>.inl h
theorem Sat.BU (s:Sat h S)(I:getA S j=some X)(hX:Ny X k v cs): qI (T.get h.tr) k v cs:=by
 obtain⟨m,r,h1,h2,h3⟩:=s.at I
 rcases hX _ _ h3 with q|q
 ·exact q.up h1
 ·exact q.up h2
theorem adg (a:qI (T.get h.tr) k v cs)(hi:i*k+k≤cs.length)(hk:1≤k)(hu:P.underlying t=some (.slice e))(I:bp P e=some k):
  ∃id off,indexAddrV P t v (.int .i64 (i:Int))=some (.ptr id off)∧∀m c t',((cs.drop (i*k)).take k)[m]?=some c→isAggT P t'=some false→loadV P h t' (.ptr id (off+m))=some c:=by
 rcases a.2 with⟨_,rfl⟩|⟨id,n,cap,N,rest,rfl,hg,e1,e2,_⟩
 ·grind
 ·refine⟨id,i*k,?_,fun m c t' hc ht=>D1 ht hg ?_⟩
  ·simp only[indexAddrV,hu,I,gU]
   have:i<n:=by
    have h4:i*k+k=(i+1)*k:=by grind
    rw[h4,e1] at hi
    exact GY (GO hi hk)
   grind
  grind[gF]
theorem Uw (hX:Ny X k w ds)(s:Sat h (.arr k v cs::X::S)){i:TypeInfo}(hu:P.underlying t=some (.slice e))(hi:P.info? e=some i)(hz:zeroT P e=some z)(hk:i.size=k)(hb:i.bytes≤4096)(hl:z.cells.length=k)
 (h1:1≤k)(fJ:cs.length+ds.length≤1073741824):
  ∃v' h',appendV P h #[t,t] v w=some (v',h')∧Sat h' (.arr k v' (cs++ds)::X::S):=by
 have adh:=s.Pp (j:=0) rfl
 have am:=s.BU (j:=1) rfl hX
 have sn:=am.1
 have kj:(cs++ds).all storable=true:=by grind
 -- what is appended
 have Br:∃m,srcV h k w=some (ds,m)∧ds.length=m*k:=by
  rcases am.2 with⟨rfl,rfl⟩|⟨id,n,cap,N,rest,rfl,hg,e1,e2,e3,e4⟩
  ·exact⟨0,rfl,by simp⟩
  ·refine⟨n,?_,e1⟩
   simp only[srcV]
   rw[qx hg (by grind) (by omega)]
   grind
 obtain⟨m,Br,hm⟩:=Br
 have I:∀n:Nat,n*k=cs.length→mA (n+m) i.bytes=true:=fun n hn=>by
  have e2:n+m≤(n+m)*k:=Nat.le_mul_of_pos_right _ h1
  have e3:(n+m)*i.bytes≤(n+m)*4096:=CQ _ hb
  grind[rU]
 have nJ:∀(σ:H) (n:Nat) (T:List aE),Sat σ T→n*k=cs.length→1≤m→Sat (mB σ k cs ds (n+m)).2 (.arr k (mB σ k cs ds (n+m)).1 (cs++ds)::T):=by
  intro σ n T sT hn l8
  refine(sT.new (.cells ((n+m)*k) (cs++ds) false)).dQ fun a r DZ=>⟨kj,.inr ⟨σ.next,n+m,.rest k 0,(n+m)*k,[],rfl,by rw[fe];exact DZ,by grind,by grind,rfl,rfl,rfl,rfl,by omega⟩⟩
 unfold appendV
 simp only[hu,hi,hz,hk,hl,Br]
 rw[show(Nat.ble 1 k&&Nat.ble i.bytes 4096&&Nat.beq k k)=true by simp_all,ah]
 cases vP:Nat.beq m 0 with
 |true =>
  have:m=0:=beq_iff.1 vP
  subst this
  have wW:ds=[]:=ic (by omega)
  subst wW
  obtain⟨m,r,q1,q2,q3⟩:=s.at (k:=0) rfl
  rcases q3.2 with⟨rfl,rfl⟩|⟨id,n,cap,N,rest,rfl,hg,e1,e2,e3,e4⟩
  ·grind
  ·grind
 |false =>
  have l8:1≤m:=by
   grind[rS]
  obtain⟨a,r,q1,q2,q3⟩:=s.at (k:=0) rfl
  rcases q3.2 with⟨rfl,rfl⟩|⟨id,n,cap,N,rest,rfl,hg,e1,e2,e3,e4⟩
  ·have hg:=I 0 (by simp)
   rw[fh] at hg
   simp only[hg,ah]
   have:=nJ h 0 (.arr k .aR []::X::S) s (by simp) l8
   rw[fh] at this
   refine⟨_,_,rfl,?_⟩
   exact(this.r7 [1]).drop
  ·cases cap with
   |exact c =>
    obtain⟨e4,e5⟩:=e4
    simp only[fh]
    have lz:(cs++rest).take cs.length=cs:=gq rfl
    cases hq:Nat.ble (n+m) c with
    |true =>
     have Bh:=aW.1 hq
     have cU:n*k+ds.length≤N:=by rw[hm,←rj,e4];exact pK _ Bh
     rw[Dv (q1 _ _ hg) (by grind) cU]
     obtain⟨m',r',p1,p2,p3,x1,x2,x3,x4,x5,⟨_,x6⟩,x7⟩:=s.ok
     have oX:x1 id=some (.cells N (cs++rest) false):=by
      rcases x6 with⟨x6,_⟩|⟨wI,n',Bt,N',WM,x6,x8,x9,WZ,_⟩
      ·cases x6
      ·injection x6 with y1 y2 y3 y4
       subst y1
       rw[x8]
       have:=p1 _ _ (x4 _ _ x8)
       rw[q1 _ _ hg] at this
       injection this with this
       rw[this]
     have s0:Sat h (pt id (.cells N (cs++rest) false)::X::S):=⟨s.wf,m',r',p1,p2,p3,x1,x2,x3,x4,x5,oX,x7⟩
     have s1:=s0.put (k:=0) (o':=.cells N ((cs++rest).take (n*k)++(ds++(cs++rest).drop (n*k+ds.length))) false) rfl
     refine⟨_,_,rfl,Sat.dQ s1 fun a' r'' ha=>⟨kj,.inr ⟨id,n+m,.exact c,N,rest.drop ds.length,rfl,?_,by grind,by grind,?_,e4,Bh⟩⟩⟩
     ·have ha':a' id=some (.cells N ((cs++rest).take (n*k)++(ds++(cs++rest).drop (n*k+ds.length))) false):=ha
      simp_all[yj]
     ·grind
    |false =>
     rw[aV,I n e1.symm,ah,qx (q1 _ _ hg) (by grind) (by omega)]
     rw[ij,←e1,lz]
     have:=nJ h n _ s e1.symm l8
     exact⟨_,_,rfl,(this.r7 [1]).drop⟩
   |rest e' alt =>
    obtain⟨ek,rfl,rfl,e7⟩:=e4
    have ek:=ek.symm
    subst ek
    simp only[kE,ah,fe,fh] at hg e2 ⊢
    have zU:fU h id 0 k=n:=by
     simp only[fU,q1 _ _ hg]
     grind[Nat.mul_div_cancel]
    rw[zU]
    rw[show Nat.ble (n+m) n=false by
     grind[aW],aV,I n e1.symm,show Nat.ble 2 ((n+m)*k)=true from aW.2 (by
      have:2*1≤(n+m)*k:=vr (by omega) h1
      omega),lN,ah,qx (q1 _ _ hg) (by omega) (by omega),q1 _ _ hg]
    simp only
    obtain⟨m',r',p1,p2,p3,x1,x2,x3,x4,x5,⟨_,x6⟩,x7⟩:=s.ok
    have oX:x1 id=some (.cells N cs false):=by
     grind
    have s0:Sat h (pt id (.cells N cs false)::X::S):=⟨s.wf,m',r',p1,p2,p3,x1,x2,x3,x4,x5,oX,x7⟩
    have:=nJ (h.put id none) n _ s0.kill e1.symm l8
    rw[ij,gT (by omega)]
    exact⟨_,_,rfl,this⟩
theorem h_ (s:Sat h (.arr k v cs::.arr k w ds::S)){i:TypeInfo}(hu:P.underlying t=some (.slice e))(hi:P.info? e=some i)(hz:zeroT P e=some z)(hk:i.size=k)(hb:i.bytes≤4096)(hl:z.cells.length=k)
 (h1:1≤k)(I:cs.length+ds.length≤1073741824):
  ∃v' h',appendV P h #[t,t] v w=some (v',h')∧Sat h' (.arr k v' (cs++ds)::.arr k w ds::S):=Uw (ji _ _ _) s hu hi hz hk hb hl h1 I
def roH (k:Nat)(v:V)(cs:List V): aE:=.xs fun o:Option (Nat×Nat×Cap×Nat×List V)=>match o with
 |none=>.pu (cs.all storable=true∧v=.aR∧cs=[])
 |some (id,n,cap,N,rest)=>.an (.ro id (.cells N (cs++rest) false)) (.pu (cs.all storable=true∧v=.sl id 0 n cap∧cs.length=n*k∧cs.length+rest.length=N∧rest.all storable=true ∧
  (match cap with|.exact c=>N=c*k∧n≤c|.rest e alt=>e=k∧alt=0∧rest=[]∧1≤n)))
theorem FP (k:Nat)(v:V)(cs:List V): Ny (roH k v cs) k v cs:=fun m r h=>by
 obtain⟨_|⟨id,n,cap,N,rest⟩,h⟩:=h
 ·exact .inr ⟨h.1,.inl h.2⟩
 ·exact .inr ⟨h.2.1,.inr ⟨id,n,cap,N,rest,h.2.2.1,h.1,h.2.2.2⟩⟩
theorem Sat.tZ (s:Sat h (.arr k v cs::S)): Sat h (roH k v cs::S):=by
 obtain⟨m,r,h1,h2,h3,a,b,g1,g2,g3,⟨I,g4⟩,g5⟩:=s.ok
 rcases g4 with⟨e1,e2⟩|⟨id,n,cap,N,rest,e,hg,q⟩
 ·exact jv.2 ⟨none,s.drop.gQ ⟨I,e1,e2⟩⟩
 ·have s1:Sat h (pt id (.cells N (cs++rest) false)::S):=⟨s.wf,m,r,h1,h2,h3,a,b,g1,g2,g3,hg,g5⟩
  exact jv.2 ⟨some (id,n,cap,N,rest),s1.freeze.dQ fun a b hq=>⟨hq,I,e,q⟩⟩
end
section
variable {v w x:V}
theorem Sat.gX {l:List V}(s:Sat h S)(hk:getA S j=some (pt id (.cells n cs false)))(hs:bp P t=some n)(hl:l.length=n)(I:l.all storable=true):
  ∃h₁,jR P h t (.ptr id 0) (.agg l)=some h₁∧Sat h₁ (setA S j (pt id (.cells n l false))):=by
 refine⟨h.put id (some (.cells n l false)),?_,s.put hk⟩
 simp only[jR,hs,V.cells,I,hl,kE,lN,ah,wrN,s.row hk]
 grind[aW]
theorem lR (s:Sat h S)(hu:P.underlying t=some (.slice e))(hz:zeroT P e=some z)(hk:bp P e=some k)(hl:z.cells.length=k)(h1:1≤k)(h2:k≤65536)(hx:x.cells.length=k)(I:x.cells.all storable=true):
  ∃v h',buildSliceV P h t 1 [(0,x)]=some (v,h')∧Sat h' (.arr k v x.cells::S):=by
 refine⟨.sl h.next 0 1 (.exact 1),newRow h x.cells,?_,?_⟩
 ·grind[buildSliceV,repeatL,fillV,Nat.beq_refl,aW]
 ·refine(s.new _).dQ fun m r hm=>⟨I,.inr ⟨h.next,1,.exact 1,k,[],rfl,?_,by omega,by omega,rfl,by omega,aI _⟩⟩
  rw[hm,hx,fe]
end
section
variable {v w x:V}
theorem ViewM.slice {m:PM}(hv:ViewM m v l)(l7:a≤b)(hb:b≤l.length): ViewM m (slR v a b) ((l.take b).drop a):=by
 have I:∀x∈(l.take b).drop a,x<256:=fun x hx=>hv.1 x (iV (jh hx))
 have hlen:((l.take b).drop a).length=b-a:=by grind
 obtain⟨hl,Kt⟩:=hv
 rcases Kt with⟨rfl|⟨ea,rfl⟩,rfl⟩|⟨id,off,cap,n,cs,st,rfl,hg,h1,h2,h3,h4⟩
 ·simp at hb
  subst_vars
  exact⟨by simp,.inl ⟨.inl rfl,by simp⟩⟩
 ·simp at hb
  subst_vars
  exact⟨by simp,.inl ⟨.inr ⟨ea,rfl⟩,by simp⟩⟩
 ·have JD:∀o,o=off+a∨b-a=0→(cs.drop o).take (b-a)=ofBytes ((l.take b).drop a):=by
   grind[ofBytes,List.map_take,List.map_drop,List.drop_take,List.drop_drop]
  cases cap with
  |exact c =>
   refine⟨I,.inr ⟨id,_,_,n,cs,st,by rw[hlen];rfl,hg,h1,?_,?_,?_⟩⟩<;>grind[fH]
  |rest e alt =>
   exact⟨I,.inr ⟨id,_,_,n,cs,st,by rw[hlen];rfl,hg,h1,by omega,by grind,rfl⟩⟩
theorem Em (hX:cf X (cy v l))(I:a≤b)(hb:b≤l.length): cf X (cy (slR v a b) ((l.take b).drop a)):=fun m r hm =>
 (hX m r hm).imp (fun h=>ViewM.slice h I hb) (fun h=>ViewM.slice h I hb)
theorem Nz (I:cf X (cy v l))(ha:a≤l.length): cf X (cy (slR v a l.length) (l.drop a)):=by
 grind[Em,List.take_length]
theorem Sat.mJ (s:Sat h S): Sat h (.arr k .aR []::S):=(s.gQ aa).dQ fun _ _ _=>⟨rfl,.inl ⟨rfl,rfl⟩⟩
theorem Sat.t_ (s:Sat h S): Sat h (aU .aR []::S):=(s.gQ aa).dQ fun _ _ _=>⟨by simp,.inl ⟨rfl,rfl⟩⟩
theorem Sat.uY (s:Sat h S): Sat h (oP .aR []::S):=(s.gQ aa).dQ fun _ _ _=>⟨by simp,.inl ⟨.inl rfl,rfl⟩⟩
theorem II (s:Sat h S){i:TypeInfo}(hu:P.underlying t=some (.slice e))(hi:P.info? e=some i)(I:zeroT P e=some z)(hk:i.size=k)(hb:i.bytes≤4096)(hl:z.cells.length=k)
 (h1:1≤k)(hn:n<1073741824):
  ∃id h',makeSliceV P h t (.int .i64 (n:Int)) (.int .i64 (n:Int))=some (.sl id 0 n (.exact n),h')∧Sat h' (pt id (.cells (n*k) (repeatL z.cells n) false)::S):=by
 refine⟨h.next,h.new (.cells (n*k) (repeatL z.cells n) false),?_,s.new _⟩<;>grind[makeSliceV,aW,Nat.beq_refl]
theorem tg {o:Nat}{c:Cap}(I:v=.sl i o n c)(hu:P.underlying t=some (.slice e)): lenV P h t v=some (.int .i64 n):=by subst I;exact Rv hu
theorem Eo (I:v=.aR)(hu:P.underlying t=some (.slice e)): lenV P h t v=some (.int .i64 0):=by subst I;exact Nn hu
theorem Ux {c:Go.Call}{b:Builtin}(I:c.callee=.builtin b)(ha:lookArgs E c.args.toList=some args)(hf:builtinV P h b c.argTypes args=some (r,h')): opE P E h (.call c)=some (r,h'):=by
 simp only[opE,I,ha,hf]
end
def slR3 (v:V)(a b m:Nat): V:=match v with
 |.sl id off _ _=>.sl id (cond (Nat.beq m a) off (off+a*1)) (b-a) (.exact (m-a))
 |v=>v
section
variable {v w x:V}
theorem ViewM.slice3 {m:PM}(hv:ViewM m v l)(l7:a≤b)(hb:b≤c)(hc:c≤l.length)(hl:1≤l.length): ViewM m (slR3 v a b c) ((l.take b).drop a):=by
 have I:∀x∈(l.take b).drop a,x<256:=fun x hx=>hv.1 x (iV (jh hx))
 have hlen:((l.take b).drop a).length=b-a:=by grind
 obtain⟨_,Kt⟩:=hv
 rcases Kt with⟨_,rfl⟩|⟨id,off,cap,n,cs,st,rfl,hg,h1,h2,h3,h4⟩
 ·grind
 ·have JD:∀o,o=off+a∨b-a=0→(cs.drop o).take (b-a)=ofBytes ((l.take b).drop a):=by
   grind[ofBytes,List.map_take,List.map_drop,List.drop_take,List.drop_drop]
  refine⟨I,.inr ⟨id,_,_,n,cs,st,by rw[hlen];rfl,hg,h1,?_,?_,?_⟩⟩<;>grind[fH]
theorem BV (hX:cf X (cy v l))(I:a≤b)(hb:b≤c)(hc:c≤l.length)(hl:1≤l.length): cf X (cy (slR3 v a b c) ((l.take b).drop a)):=fun m r hm =>
 (hX m r hm).imp (fun h=>ViewM.slice3 h I hb hc hl) (fun h=>ViewM.slice3 h I hb hc hl)
theorem tL (hv:View h v l)(l7:a≤b)(hb:b≤c)(hc:c≤l.length)(hl:1≤l.length): sliceV Tryz.prog h 29 v (some a) (some b) (some c)=some (slR3 v a b c):=by
 obtain⟨_,I⟩:=hv
 rcases I with⟨_,rfl⟩|⟨id,off,cap,n,cs,st,rfl,hg,h1,h2,h3,h4⟩
 ·grind
 ·cases cap with
  |exact q =>
   simp only[sliceV,slR3,aK,fB,dD]
   grind[aW]
  |rest e alt =>
   have he:e=1:=h4
   subst he
   simp only[sliceV,slR3,aK,fB,dD,kE]
   grind[Nat.blt,aW]
theorem iE (I:View h v l)(hl:1≤l.length): ∃id off cap,v=.sl id off l.length cap:=by
 rcases I.2 with⟨_,rfl⟩|⟨id,off,cap,_,_,_,rfl,_⟩<;>grind
theorem bT {k:IntKind}{n:Int}(I:0≤n): me (some (V.int k n))=some (some n.toNat):=by
 grind[me,bndV]
end
section
variable {v w x:V} {m:List Nat}
theorem aaC (s:Sat h S)(hj:getA S j=some (.arr q v cs))(hi:i*q+q≤cs.length)(hq:1≤q)(hu:P.underlying t=some (.slice e))(I:bp P e=some q):
  ∃id off,indexAddrV P t v (.int .i64 (i:Int))=some (.ptr id off)∧(isAggT P e=some true→loadV P h e (.ptr id off)=some (.agg ((cs.drop (i*q)).take q))):=by
 obtain⟨m,r,h1,h2,h3⟩:=s.at hj
 rcases h3.2 with⟨_,rfl⟩|⟨id,n,cap,N,rest,rfl,hg,e1,e2,_⟩
 ·grind
 ·refine⟨id,i*q,?_,fun ht => ?_⟩
  ·simp only[indexAddrV,hu,I,gU]
   have:i<n:=by
    have h4:i*q+q=(i+1)*q:=by grind
    rw[h4,e1] at hi
    exact GY (GO hi hq)
   grind
  ·rw[ldN ht I (h1 _ _ hg) (by grind) (by omega)]
   grind
theorem Sat.aaD (s:Sat h (aU v l::X::S))(hX:cf X (cy w m)): ∀i∈rowIds w,i∉rowIds v:=by
 intro i hi fy
 obtain⟨a,r,h1,h2,h3,b,c,g1,g2,g3,g4,d,e,k1,k2,k3,k4,k5⟩:=s.ok
 have hb:=Nl g4 i fy
 have hw:∀q:PM,ViewM q w m→q i≠none:=fun q hq=>by
  rcases hq.2 with⟨rfl|⟨ea,rfl⟩,_⟩|⟨id,off,cap,n,cs,st,rfl,hg,_⟩<;>grind[rowIds]
 rcases hX _ _ k4 with hq|hq
 ·cases hd:d i with
  |none=>grind
  |some o =>
   rcases g1 i with I|I
   ·grind
   ·rw[k2 _ _ hd] at I;cases I
 ·cases hbb:b i with
  |none=>grind
  |some o =>
   rcases h3 i with I|I
   ·rw[g2 _ _ hbb] at I;cases I
   ·grind
end
abbrev jf := List (Int×V×Nat)
def BW (κ:IntKind)(e:Int×V×Nat): V×V×Nat:=(.int κ e.1,e.2)
abbrev RD := BW .i64
def lookE (n:Int): jf→Option V
 |[]=>none
 |e::l=>if e.1=n then some e.2.1 else lookE n l
def qJ (n:Int)(v:V)(c:Nat): jf→jf
 |[]=>[(n,v,c)]
 |e::l=>if e.1=n then(e.1,v,e.2.2)::l else e::qJ n v c l
def th (n:Int): jf→jf
 |[]=>[]
 |e::l=>if e.1=n then l else e::th n l
def clkE (n:Int)(c:Nat)(l:jf): Nat:=match lookE n l with
 |some _=>c
 |none=>c+1
abbrev o5 (κ:IntKind)(id:Nat)(l:jf)(c:Nat): aE:=pt id (.map (l.map (BW κ)) c)
abbrev Kw := o5 .i64
def idxE (n:Int): jf→Nat→Option (Nat×V)
 |[],_=>none
 |e::l,i=>if e.1=n then some (i,e.2.1) else idxE n l (i+1)
theorem sq (a b:Int): intBeq a b=decide (a=b):=by
 grind[wR,tK]
theorem yN {k:IntKind}{n:Int}: ∀(l:jf) (i:Nat),findK (.int k) (.int κ n) (l.map (BW κ)) i=some (idxE n l i):=by
 intro l
 induction l<;>grind[findK,BW,keyBeq,ff,sq,idxE]
theorem ua {n:Int}: ∀(l:jf) (i:Nat),(idxE n l i).map (·.2)=lookE n l:=by
 intro l
 induction l<;>grind[idxE,lookE]
theorem NA {n:Int}: ∀(l:jf) (i j:Nat) (v:V),idxE n l i=some (j,v)→i≤j:=by
 intro l
 induction l<;>grind[idxE]
theorem ab9 {n:Int}{v:V}: ∀(l:jf) (i j:Nat) (u:V),idxE n l i=some (j,u)→setNth (l.map (BW κ)) (j-i) (fun e=>(e.1,v,e.2.2))=(qJ n v c l).map (BW κ):=by
 intro l
 induction l with
 |nil=>intro i j u h;cases h
 |cons e l ih =>
  intro i j u h
  simp only[idxE] at h
  simp only[qJ,ik,setNth]
  by_cases he:e.1=n
  ·rw[ay he] at h;injection h with h;injection h with I h2
   subst I
   rw[ay he,gV]
   rfl
  ·rw[ai he] at h
   have h3:=NA _ _ _ _ h
   grind[fH]
theorem aaE {n:Int}: ∀(l:jf) (i j:Nat) (u:V),idxE n l i=some (j,u)→nF (l.map (BW κ)) (j-i)=(th n l).map (BW κ):=by
 intro l
 induction l with
 |nil=>intro i j u h;cases h
 |cons e l I =>
  intro i j u h
  simp only[idxE] at h
  simp only[th,ik,nF]
  by_cases he:e.1=n
  ·simp_all
  ·rw[ai he] at h
   have h3:=NA _ _ _ _ h
   grind[fH]
theorem Ys {n:Int}{v:V}: ∀(l:jf),lookE n l=none→qJ n v c l=l++[(n,v,c)]:=by
 intro l
 induction l<;>grind[lookE,qJ]
theorem Uy {n:Int}: ∀(l:jf),lookE n l=none→th n l=l:=by
 intro l
 induction l<;>grind[lookE,th]
section
variable {v:V} {k:IntKind} {l:jf} {n:Int}
theorem Sat.ab_ (s:Sat h S)(I:getA S j=some (o5 κ id l c))(hu:P.underlying t=some (.map kt et))(hk:P.underlying kt=some (.int k))(hz:zeroT P et=some z):
  gL P h t (.map id) (.int κ n) true=some (match lookE n l with|some v=>.aT [v,.bool true]|none=>.aT [z,.bool false]):=by
 have hg:=s.row I
 simp only[gL,lookupV,hu,hk,hz,hg,keyBeq,ff,ah,yN]
 rw[←ua l 0]
 cases idxE n l 0<;>grind
theorem Sat.acd (s:Sat h S)(I:getA S j=some (o5 κ id l c))(hu:P.underlying t=some (.map kt et))(hk:P.underlying kt=some (.int k))(hz:zeroT P et=some z):
  gL P h t (.map id) (.int κ n) false=some (match lookE n l with|some v=>v|none=>z):=by
 have hg:=s.row I
 simp only[gL,lookupV,hu,hk,hz,hg,keyBeq,ff,ah,yN]
 rw[←ua l 0]
 cases idxE n l 0<;>grind
theorem Sat.update (s:Sat h S)(hj:getA S j=some (o5 κ id l c))(hu:P.underlying t=some (.map kt et))(hk:P.underlying kt=some (.int k)):
  ∃h',mapUpdateV P h t (.map id) (.int κ n) v=some h'∧Sat h' (setA S j (o5 κ id (qJ n v c l) (clkE n c l))):=by
 have hg:=s.row hj
 refine⟨h.put id (some (.map ((qJ n v c l).map (BW κ)) (clkE n c l))),?_,s.put hj⟩
 simp only[mapUpdateV,hu,hk,hg,keyBeq,ff,ah,yN]
 have hl:=ua (n:=n) l 0
 cases I:idxE n l 0 with
 |none =>
  rw[I] at hl
  have hl:lookE n l=none:=hl.symm
  simp only[clkE,hl,Ys l hl,qY]
  rfl
 |some q =>
  obtain⟨i,u⟩:=q
  rw[I] at hl
  have hl:lookE n l=some u:=hl.symm
  simp only[clkE,hl]
  rw[←ab9 (v:=v) (c:=c) l 0 i u I,iW]
theorem Sat.delete (s:Sat h S)(I:getA S j=some (o5 κ id l c))(hu:P.underlying t=some (.map kt et))(hk:P.underlying kt=some (.int k)):
  ∃h',ry P h t (.map id) (.int κ n)=some h'∧Sat h' (setA S j (o5 κ id (th n l) c)):=by
 have hg:=s.row I
 simp only[ry,hu,hk,hg,keyBeq,ff,ah,yN]
 have hl:=ua (n:=n) l 0
 cases hq:idxE n l 0 with
 |none =>
  rw[hq] at hl
  have hl:lookE n l=none:=hl.symm
  refine⟨h,rfl,?_⟩
  rw[Uy l hl]
  have:∀(S:List aE) (j:Nat) (A:aE),getA S j=some A→setA S j A=S:=by
   intro S
   induction S with
   |nil=>intro j A h;cases h
   |cons B S ih =>
    intro j A h
    cases j<;>grind[getA,setA]
  rw[this S j _ I]
  exact s
 |some q =>
  obtain⟨i,u⟩:=q
  refine⟨_,rfl,?_⟩
  have e:=aaE (κ:=κ) l 0 i u hq
  rw[iW] at e
  rw[e]
  exact s.put I
theorem Sat.adi (s:Sat h S)(I:getA S j=some (o5 κ id l c))(hu:P.underlying t=some (.map kt et)): lenV P h t (.map id)=some (.int .i64 (l.length:Int)):=by
 have hg:=s.row I
 simp_all[lenV]
end
section
variable {o:Oper} {z:Operand} {a b v:V}
theorem OpR.upd (I:∀env,lU env E→evOp C (ev C 0) env h o=(match mapUpdateV C.P h t a b v with|some h'=>some (cP,h')|none=>none))
 (ho:∃h₁,mapUpdateV C.P h t a b v=some h₁∧Sat h₁ S'): OpR C E h o fun _ h₁=>Sat h₁ S':=by
 obtain⟨h₁,e1,e2⟩:=ho
 exact⟨cP,h₁,e2,fun env he=>⟨0,by grind⟩⟩
theorem OpR.mapUpdate (I:o.op=.mapUpdate t x y z)(hx:bC E x=some a)(hy:bC E y=some b)(hz:bC E z=some v)
 (ho:∃h₁,mapUpdateV C.P h t a b v=some h₁∧Sat h₁ S'): OpR C E h o fun _ h₁=>Sat h₁ S':=by
 refine OpR.upd (t:=t) (a:=a) (b:=b) (v:=v) (fun env he => ?_) ho
 simp only[evOp,I,cC he hx,cC he hy,cC he hz,wJ]
 cases mapUpdateV C.P h t a b v<;>rfl
theorem OpR.builtin {bi:Builtin}{R:V→H→Prop}(I:o.op=.call cl)(hc:cl.callee=.builtin bi)(ha:lookArgs E cl.args.toList=some args)(ho:∃v h₁,builtinV C.P h bi cl.argTypes args=some (v,h₁)∧R v h₁): OpR C E h o R:=by
 grind[OpR.of,opE]
theorem OpR.qh {m:List Nat}(hP:C.P=Tryz.prog)(s:Sat h (aU v l::X::S))(hX:cf X (cy u m))(I:o.op=.call cl)(hc:cl.callee=.builtin .append)(yG:cl.argTypes = #[29,29])(ha:lookArgs E cl.args.toList=some [v,u])
 (fJ:l.length+m.length≤140737488355328): OpR C E h o fun v' h₁=>Sat h₁ (aU v' (l++m)::X::S):=by
 grind[Po,OpR.builtin,builtinV]
theorem OpR.uc (hP:C.P=Tryz.prog)(s:Sat h S)(I:o.op=.makeSlice t x y)(ht:t=29)(hx:bC E x=some (.int .i64 0))(hy:bC E y=some (.int .i64 (c:Int)))(hc:c<1073741824): OpR C E h o fun v' h₁=>Sat h₁ (aU v' []::S):=by
 grind[Ry,OpR.of,Dg]
theorem OpR.JJ (hP:C.P=Tryz.prog)(s:Sat h S)(I:o.op=.makeSlice t x y)(ht:t=29)(hx:bC E x=some (.int .i64 (c:Int)))(hy:bC E y=some (.int .i64 (c:Int)))(hc:c<1073741824): OpR C E h o fun v' h₁=>Sat h₁ (aU v' (List.replicate c 0)::S):=by
 grind[Rz,OpR.of,Dg]
theorem OpR.ace {m:List Nat}{p:Nat}(hP:C.P=Tryz.prog)(s:Sat h (aU v l::X::S))(hX:cf X (cy u m))(I:o.op=.call cl)(hc:cl.callee=.builtin .copy)(yG:cl.argTypes = #[29,29])(ha:lookArgs E cl.args.toList=some [slR v p q,u])
 (hpq:p<q)(hq:q≤l.length)(hm:1≤m.length): OpR C E h o fun _ h₁=>Sat h₁ (aU v (az l p (m.take (q-p)))::X::S):=by
 grind[Kv,OpR.builtin,builtinV]
theorem OpR.JK (hP:C.P=Tryz.prog)(s:Sat h S)(I:o.op=.buildSlice t 1 ps)(ht:t=29)(hx:lookParts E ps.toList=some [(0,.int .u8 (n:Int))])(hn:n<256): OpR C E h o fun v' h₁=>Sat h₁ (aU v' [n]::S):=by
 grind[RA,OpR.of,ku]
end
section
def lookL (n:Int): List (Int×α)→Option α
 |[]=>none
 |e::l=>if e.1=n then some e.2 else lookL n l
def cD (n:Int)(a:α): List (Int×α)→List (Int×α)
 |[]=>[(n,a)]
 |e::l=>if e.1=n then(n,a)::l else e::cD n a l
def qi (n:Int): List (Int×α)→List (Int×α)
 |[]=>[]
 |e::l=>if e.1=n then l else e::qi n l
theorem o6 {n k:Int}{a:α}: ∀l:List (Int×α),lookL k (cD n a l)=if n=k then some a else lookL k l:=by
 intro l
 induction l<;>grind[cD,lookL]
theorem uZ {n:Int}: ∀ {l:List (Int×α)},lookL n l=none↔n∉l.map (·.1):=by
 intro l
 induction l<;>grind[lookL]
theorem IJ {n k:Int}: ∀ {l:List (Int×α)},(l.map (·.1)).Nodup→lookL k (qi n l)=if n=k then none else lookL k l:=by
 intro l
 induction l<;>grind[qi,lookL,uZ]
theorem v7 {n:Int}{a:α}: ∀ {l:List (Int×α)} {k:Int},k∈(cD n a l).map (·.1)↔k=n∨k∈l.map (·.1):=by
 intro l
 induction l<;>grind[cD]
theorem n_ {n:Int}{a:α}: ∀ {l:List (Int×α)},(l.map (·.1)).Nodup→((cD n a l).map (·.1)).Nodup:=by
 intro l
 induction l<;>grind[cD,v7]
theorem Uz {n:Int}: ∀ {l:List (Int×α)} {k:Int},k∈(qi n l).map (·.1)→k∈l.map (·.1):=by
 intro l
 induction l<;>grind[qi]
theorem Ac {n:Int}: ∀ {l:List (Int×α)},(l.map (·.1)).Nodup→((qi n l).map (·.1)).Nodup:=by
 intro l
 induction l<;>grind[qi,Uz]
def jq (f:V→α→aE): jf→List (Int×α)→aE
 |[],[]=>.pu True
 |e::l,x::m=>.an (.an (.pu (e.1=x.1)) (f e.2.1 x.2)) (jq f l m)
 |_,_=>.pu False
variable {f:V→α→aE} {a b:PM}
theorem FQ : ∀ {l:jf} {m:List (Int×α)},(jq f l m).p a b→l.map (·.1)=m.map (·.1):=by
 intro l
 induction l with
 |nil=>intro m h;cases m with
  |nil=>rfl
  |cons x m=>exact h.elim
 |cons e l I=>intro m h;cases m with
  |nil=>exact h.elim
  |cons x m=>simp only[ik];rw[h.1.1,I h.2]
theorem u7 {n:Int}: ∀ {l:jf} {m:List (Int×α)},(jq f l m).p a b→(lookE n l=none∧lookL n m=none)∨∃u x,lookE n l=some u∧lookL n m=some x∧(f u x).p a b:=by
 intro l
 induction l with
 |nil=>intro m h;cases m with
  |nil=>exact .inl ⟨rfl,rfl⟩
  |cons x m=>exact h.elim
 |cons e l ih=>intro m h;cases m with
  |nil=>exact h.elim
  |cons x m =>
   obtain⟨⟨I,h2⟩,h3⟩:=h
   have I:e.1=x.1:=I
   grind[lookE,lookL]
theorem RE {n:Int}{x:α}(hu:(f u x).p a b): ∀ {l:jf} {m:List (Int×α)},(jq f l m).p a b→(jq f (qJ n u c l) (cD n x m)).p a b:=by
 intro l
 induction l with
 |nil=>intro m h;cases m with
  |nil=>exact⟨⟨rfl,hu⟩,aa⟩
  |cons x m=>exact h.elim
 |cons e l ih=>intro m h;cases m with
  |nil=>exact h.elim
  |cons y m =>
   obtain⟨⟨I,h2⟩,h3⟩:=h
   have I:e.1=y.1:=I
   simp only[qJ,cD,←I]
   by_cases he:e.1=n
   ·rw[ay he,ay he];exact⟨⟨he,hu⟩,h3⟩
   ·rw[ai he,ai he];exact⟨⟨I,h2⟩,ih h3⟩
theorem RF {n:Int}: ∀ {l:jf} {m:List (Int×α)},(jq f l m).p a b→(jq f (th n l) (qi n m)).p a b:=by
 intro l
 induction l with
 |nil=>intro m h;cases m with
  |nil=>trivial
  |cons x m=>exact h.elim
 |cons e l ih=>intro m h;cases m with
  |nil=>exact h.elim
  |cons y m =>
   obtain⟨⟨I,h2⟩,h3⟩:=h
   have I:e.1=y.1:=I
   simp only[th,qi,←I]
   by_cases he:e.1=n
   ·grind
   ·rw[ai he,ai he];exact⟨⟨I,h2⟩,ih h3⟩
theorem aJ.UA (I:∀u x,aJ (f u x)): ∀(l:jf) (m:List (Int×α)),aJ (jq f l m):=by
 intro l
 induction l with
 |nil=>intro m;cases m<;>exact aJ.pu _
 |cons e l ih=>intro m;cases m with
  |nil=>exact aJ.pu _
  |cons x m=>exact aJ.an (aJ.an (aJ.pu _) (I _ _)) (ih m)
def sr (c:Nat): Nat→jf→Prop
 |_,[]=>True
 |b,e::l=>b≤e.2.2∧e.2.2<c∧sr c (e.2.2+1) l
theorem Pq : ∀ {l:jf} {b b':Nat},b'≤b→sr c b l→sr c b' l:=by
 intro l
 cases l with
 |nil=>intro b b' _ _;trivial
 |cons e l=>intro b b' h I;exact⟨cY h I.1,I.2⟩
theorem RG {k:Int}(hn:n=c): ∀ {l:jf} {b:Nat},b≤c→sr c b l→sr (clkE k c l) b (qJ k u n l):=by
 subst hn
 intro l
 induction l with
 |nil=>intro b hb _;exact⟨hb,vn _,aa⟩
 |cons e l ih =>
  intro b hb h
  have I:=ih (b:=e.2.2+1) (by have:=h.2.1;omega) h.2.2
  by_cases he:e.1=k
  ·simp only[qJ,clkE,lookE,ay he];exact h
  ·simp only[qJ,clkE,lookE,ai he]
   refine⟨h.1,?_,I⟩
   have:=h.2.1
   split<;>omega
theorem RH {k:Int}: ∀ {l:jf} {b:Nat},sr c b l→sr c b (th k l):=by
 intro l
 induction l with
 |nil=>intro b h;exact h
 |cons e l I =>
  intro b h
  simp only[th]
  by_cases he:e.1=k
  ·rw[ay he];exact Pq (by have:=h.1;omega) h.2.2
  ·rw[ai he];exact⟨h.1,h.2.1,I h.2.2⟩
def su (κ:IntKind)(f:V→α→aE)(v:V)(m:List (Int×α)): aE :=
 xs fun id:Nat=>xs fun l:jf=>xs fun c:Nat=>star [.pu (v=.map id∧sr c 0 l∧(m.map (·.1)).Nodup),o5 κ id l c,jq f l m]
abbrev uA {α:Type}(f:V→α→aE)(v:V)(m:List (Int×α)): aE:=su .i64 f v m
section
variable {v:V} {k:IntKind} {m:List (Int×α)} {n:Int} {x:α}
theorem lC : Sat h (su κ f v m::S)↔∃id l c,v=.map id∧sr c 0 l∧(m.map (·.1)).Nodup∧Sat h (o5 κ id l c::jq f l m::S):=by
 simp[su,jv,cK,r8,and_assoc]
theorem wX : Sat h (uA f v m::S)↔∃id l c,v=.map id∧sr c 0 l∧(m.map (·.1)).Nodup∧Sat h (Kw id l c::jq f l m::S):=lC
theorem rH (hf:∀u x,aJ (f u x))(s:Sat h (su κ f v m::S))(hu:P.underlying t=some (.map kt et))(I:P.underlying kt=some (.int k))(hz:zeroT P et=some z):
  (lookL n m=none∧gL P h t v (.int κ n) true=some (.aT [z,.bool false])∧gL P h t v (.int κ n) false=some z) ∨
  ∃u x,lookL n m=some x∧gL P h t v (.int κ n) true=some (.aT [u,.bool true])∧gL P h t v (.int κ n) false=some u∧Sat h (f u x::su κ f v m::S):=by
 obtain⟨id,l,c,rfl,hb,hn,s1⟩:=lC.1 s
 have e2:=s1.ab_ (n:=n) (j:=0) rfl hu I hz
 have e1:=s1.acd (n:=n) (j:=0) rfl hu I hz
 obtain⟨a,b,q1,q2,q3⟩:=s1.at (k:=1) rfl
 rcases u7 (n:=n) q3 with⟨g1,g2⟩|⟨u,x,g1,g2,g3⟩
 ·grind
 ·rw[g1] at e1 e2
  refine .inr ⟨u,x,g2,e2,e1,?_⟩
  have s2:Sat h (jq f l m::o5 κ id l c::S):=s1.r7 [1]
  have s3:=s2.dup (aJ.UA hf l m)
  have s4:Sat h (f u x::jq f l m::o5 κ id l c::S):=s3.dQ fun a' b' h'=>by
   grind[u7]
  have s5:Sat h (o5 κ id l c::jq f l m::f u x::S):=s4.r7 [2,1]
  exact(lC.2 ⟨id,l,c,rfl,hb,hn,s5⟩:Sat h (su κ f (.map id) m::f u x::S)).r7 [1]
theorem qK (I:∀u x,aJ (f u x))(s:Sat h (f u x::su κ f v m::S))(hu:P.underlying t=some (.map kt et))(hk:P.underlying kt=some (.int k)):
  ∃h',mapUpdateV P h t v (.int κ n) u=some h'∧Sat h' (su κ f v (cD n x m)::S):=by
 have s0:Sat h (su κ f v m::f u x::S):=s.r7 [1]
 obtain⟨id,l,c,rfl,hb,hn,s1⟩:=lC.1 s0
 obtain⟨h',e1,e2⟩:=s1.update (n:=n) (v:=u) (j:=0) rfl hu hk
 refine⟨h',e1,?_⟩
 have e3:Sat h' (f u x::jq f l m::o5 κ id (qJ n u c l) (clkE n c l)::S):=e2.r7 [2,1]
 have e4:Sat h' (jq f (qJ n u c l) (cD n x m)::o5 κ id (qJ n u c l) (clkE n c l)::S):=e3.map fun a b h=>by
  obtain⟨p1,p2,d1,d2,d3,d4,p3,p4,d5,d6,d7,d8,d9⟩:=h
  exact⟨fun _=>none,p4,fun _=>.inl rfl,fun _ _ h=>(by cases h),PM.le_trans d7 d3,RE (I _ _ _ _ d4) (aJ.UA I _ _ _ _ d8),d9⟩
 exact lC.2 ⟨id,_,_,rfl,RG rfl (gu _) hb,n_ hn,e4.r7 [1]⟩
theorem UB (s:Sat h (su κ f v m::S))(hu:P.underlying t=some (.map kt et))(I:P.underlying kt=some (.int k)):
  ∃h',ry P h t v (.int κ n)=some h'∧Sat h' (su κ f v (qi n m)::S):=by
 obtain⟨id,l,c,rfl,hb,hn,s1⟩:=lC.1 s
 obtain⟨h',e1,e2⟩:=s1.delete (n:=n) (j:=0) rfl hu I
 refine⟨h',e1,?_⟩
 have e3:Sat h' (jq f l m::o5 κ id (th n l) c::S):=e2.r7 [1]
 have e4:Sat h' (jq f (th n l) (qi n m)::o5 κ id (th n l) c::S):=e3.dQ fun a b h=>RF h
 exact lC.2 ⟨id,_,_,rfl,RH hb,Ac hn,e4.r7 [1]⟩
theorem UC (s:Sat h (su κ f v m::S))(hu:P.underlying t=some (.map kt et)): lenV P h t v=some (.int .i64 (m.length:Int)):=by
 obtain⟨id,l,c,rfl,hb,hn,s1⟩:=lC.1 s
 have e:=s1.adi (j:=0) rfl hu
 obtain⟨a,b,q1,q2,I⟩:=s1.at (k:=1) rfl
 have:=dn List.length (FQ I)
 grind
theorem UD (s:Sat h (pt id (.map [] 0)::S)): Sat h (su κ f (.map id) []::S):=by
 have s1:Sat h (jq f [] []::pt id (.map [] 0)::S):=s.gQ aa
 exact lC.2 ⟨id,[],0,rfl,aa,by simp,s1.r7 [1]⟩
theorem v8 (s:Sat h (pt id (.map [] 0)::S)): Sat h (uA f (.map id) []::S):=UD s
theorem Kx (s:Sat h S)(I:getA S j=some (su κ f v m)): ∃id,v=.map id:=by
 have s1:=s.take j I
 grind[lC]
end
end
theorem OpR.delete {o:Oper}{u:TypeId}{m k:V}(I:o.op=.call cl)(hc:cl.callee=.builtin .delete)(yG:cl.argTypes = #[t,u])(ha:lookArgs E cl.args.toList=some [m,k])
 (ho:∃h₁,ry C.P h t m k=some h₁∧Sat h₁ S'): OpR C E h o fun _ h₁=>Sat h₁ S':=by
 obtain⟨h₁,e1,e2⟩:=ho
 refine OpR.builtin I hc ha ⟨.aT [],h₁,?_,e2⟩<;>grind[builtinV]
end Go.Proofs.YtdonpgpfplgigaaGreat.Am
