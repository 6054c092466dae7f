/- TxBare: a part of its proof; conditions: its statement's. -/
import Derived.Test.YtiojppeahfoiaaaGreatN01
import Derived.Scope
import Derived.Test.YtiojppeahfoiaaaGreatProg
import Derived.KernelRfl
import Derived.Shelf.SlIterI.Sorted
import Derived.Defers
import Derived.Recover
set_option linter.defProp false
namespace Go.Proofs.YtiojppeahfoiaaaGreat.Am
open Go
def aJ:=@Tryz.underlying23
def Dq:=@Tryz.func217
abbrev cJ:=Nat→Option (List V→H→Option (V×H))
variable {ps:Array (Nat×Operand)} {ops:Array Oper} {C:ep} {code:Code} {c₀:Ctx} {env:Env} {Q:Ex→List (Nat×V)→H→Prop} {fn:Func} {f:FuncId} {h h' σ h₁ dz:H} {κ:IntKind} {E E':List (Nat×V)} {R:List (Nat×V)→H→Prop} {d₀:List Deferred} {hs:List H} {eF es l:List Nat} {L rest:List Oper} {args first cap vs cs ds:List V} {a b i c k id n d off j g nE k' q:Nat} {Hs:Nat→H} {early:Nat→Option (Nat×FV)} {Fl:Nat→Prop} {vv:Nat→V} {o':Obj} {o:Oper} {x y:Operand} {P:Program} {φ:Prop} {self:Self} {s s':St} {α:Type} {td:TypeDesc} {t t' e kt et:TypeId} {r u z:V} {zT:V→H→Prop} {w₀:World}
theorem SW {a b:IntKind}(h:ikBeq a b=true): a=b:=by cases a<;>cases b<;>first|rfl|(simp[ikBeq] at h)
theorem vi {a b:Int}(h:intBeq a b=true): a=b:=by
 cases a<;>cases b<;>simp[intBeq] at h<;>rw[h]
theorem Dr : ∀ {a b:List Nat},natsBeq a b=true→a=b
 |[],[],_=>rfl
 |[],_::_,h=>by simp[natsBeq] at h
 |_::_,[],h=>by simp[natsBeq] at h
 |x::a,y::b,h=>by
  simp only[natsBeq] at h
  cases I:Nat.beq x y with
  |false=>grind
  |true=>rw[I,ah] at h;rw[beq_iff.1 I,Dr h]
theorem PG {a b:Cap}(h:a.beq b=true): a=b:=by
 cases a<;>cases b<;>simp[Cap.beq] at h
 ·rw[h]
 ·grind
mutual
theorem Fs : ∀(a b:V),V.beq a b=true→a=b
 |.bool a,b,h=>by cases b<;>simp[V.beq] at h;rw[h]
 |.int j a,b,h=>by
  cases b<;>simp[V.beq] at h
  rw[SW h.1,vi h.2]
 |.str a,b,h=>by cases b<;>simp[V.beq] at h;rw[Dr h]
 |.bq,b,h=>by cases b<;>simp[V.beq] at h;rfl
 |.ptr x y,b,h=>by cases b<;>simp[V.beq] at h;rw[h.1,h.2]
 |.aY,b,h=>by cases b<;>simp[V.beq] at h;rfl
 |.sl x y z u,b,h=>by
  cases b<;>simp[V.beq] at h
  rw[h.1.1.1,h.1.1.2,h.1.2,PG h.2]
 |.j_,b,h=>by cases b<;>simp[V.beq] at h;rfl
 |.map x,b,h=>by cases b<;>simp[V.beq] at h;rw[h]
 |.fn f x y,b,h=>by
  cases f with
  |func k=>cases b with
   |fn g u v=>cases g with
    |func j =>
     simp[V.beq] at h
     rw[h.1.1,uy x u h.1.2,uy y v h.2]
    |_=>simp[V.beq] at h
   |_=>simp[V.beq] at h
  |_=>cases b<;>simp[V.beq] at h
 |.F6,b,h=>by cases b<;>simp[V.beq] at h;rfl
 |.iface t v,b,h=>by
  cases b<;>simp[V.beq] at h
  rw[h.1,Fs v _ h.2]
 |.gO,b,h=>by cases b<;>simp[V.beq] at h;rfl
 |.agg l,b,h=>by cases b<;>simp[V.beq] at h;rw[uy l _ h]
 |.aQ l,b,h=>by cases b<;>simp[V.beq] at h;rw[uy l _ h]
 |.yY _,b,h=>by cases b<;>simp[V.beq] at h
 |.sle a,b,h=>by cases b<;>simp[V.beq] at h;rw[h]
 |.uf k x,b,h=>by
  cases b with
  |uf j y =>
   simp[V.beq] at h
   rw[h.2]
   cases k<;>cases j<;>first|rfl|(simp[fkBeq] at h)
  |_=>simp[V.beq] at h
theorem uy : ∀(a b:List V),V.beqL a b=true→a=b
 |[],b,h=>by cases b<;>simp[V.beqL] at h;rfl
 |x::a,b,h=>by
  cases b with
  |nil=>simp[V.beqL] at h
  |cons y b =>
   simp only[V.beqL] at h
   cases I:V.beq x y with
   |false=>rw[I] at h;cases h
   |true=>rw[I,ah] at h;rw[Fs x y I,uy a b h]
end
theorem Ft {m:Nat}: ∀(es:List Nat),(∀idx p,idx<lC m es→es[idx]?=some p→bit m p=true)∧lC m es≤es.length:=by
 intro es
 induction es<;>grind[lC]
theorem SX {m:Nat}: ∀(es:List Nat),qo m es=true→∀(I J p q:Nat),I≤J→es[I]?=some p→es[J]?=some q→bit m q=true→bit m p=true:=by
 intro es
 induction es<;>grind[qo]
theorem LO : ∀(es:List Nat),oE eF i es≤es.length∧∀p,es[oE eF i es]?=some p→bit ((nth eF p).getD 0) i=true:=by
 intro es
 induction es<;>grind[oE]
section
theorem PI {x:Env×V}: ∀(l:List H),sameIn C self L o x l=true→wantedV L x.1 o=true→∀h∈l,∃h',evOp C self x.1 h o=some (x.2,h'):=by
 intro l
 induction l with
 |nil=>simp
 |cons y l I =>
  intro hs hw h hm
  simp only[sameIn,hw,ah] at hs
  cases he:evOp C self x.1 y o with
  |none=>grind
  |some r =>
   grind[Fs]
theorem Gd : ∀(l:List Oper) (tr:List (Env×V)) (k:Nat),stayOk C self L eF es hs l tr k=true →
  ∀j o x,l[j]?=some o→tr[j]?=some x→isEff C o.op=false →
   qo ((nth eF (k+j)).getD 0) es=true∧(lC ((nth eF (k+j)).getD 0) es=oE eF (k+j) es ∨
    sameIn C self L o x ((hs.drop (lC ((nth eF (k+j)).getD 0) es)).take (oE eF (k+j) es+1-lC ((nth eF (k+j)).getD 0) es))=true):=by
 intro l
 induction l with
 |nil=>simp
 |cons y l I =>
  intro tr k h j o x ho J he
  cases tr with
  |nil=>grind
  |cons z tr =>
   simp only[stayOk] at h
   cases j<;>grind[beq_iff]
theorem W3 {ops:List Oper}: ∀(l:List Oper) (tr:List (Env×V)),allW ops l tr=true→∀(i:Nat) (o:Oper) (x:Env×V),l[i]?=some o→tr[i]?=some x→isAlloc true o=true→wantedV ops x.1 o=true:=by
 intro l
 induction l with
 |nil=>simp
 |cons y l I =>
  intro tr h i o x ho J ha
  cases tr<;>grind[allW]
theorem Ht (h:isAlloc false o=true): isAlloc true o=true∧o.guard=none:=by
 grind[isAlloc]
set_option maxHeartbeats 1000000 in
theorem SY {z:St}(hr:qp C self L s=some z):
    ∃Fl st vv Hs,ir C self Fl L s st vv (eH C L 0) Hs∧st L.length=z∧L.all (fun o => !HZ o.op)=true:=by
  unfold qp at hr
  cases htr:trace C self L L s [s.h] with
  |none=>grind
  |some q =>
      obtain⟨tr,hs,z'⟩:=q
      simp only[htr] at hr
      cases J:stayOk C self L (ancs L []) (eH C L 0) hs L tr 0 with
      |false=>grind
      |true =>
        rw[J,ah] at hr
        obtain⟨fl,fo,hW,hr⟩:∃fl,o6 C fl L=true∧(∀(i:Nat) (o:Oper) (x:Env×V),L[i]?=some o→tr[i]?=some x→isAlloc fl o=true→isAlloc true o=true∧wantedV L x.1 o=true)∧z'=z:=by
          cases h0:o6 C false L with
          |true =>
            rw[h0,ah] at hr
            refine⟨false,h0,fun i o x _ _ ha => ?_,cg hr⟩<;>grind[Ht,wantedV]
          |false =>
            grind[W3]
        subst hr
        simp only[o6,bH] at fo
        obtain⟨⟨⟨s1,s2⟩,s3⟩,s4⟩:=fo
        obtain⟨st,t1,t2,t3,t4,t5⟩:=SU L 0 s [s.h] tr hs z' htr
        simp only[fy] at t2 t5
        have Vp:∀i o,L[i]?=some o→∀e∈o.after,gG e=true→e.on<i:=fun i o ho e he hb=>by
          have:=Il L 0 s1 i o ho e he hb;omega
        have aep:∀i o,L[i]?=some o→∀j,bit ((nth (ancs L []) i).getD 0) j=true→j<i:=fun i o ho j hj =>
          (Ik Vp (fun _=>True) i o ho (fun _ _ _ _ _ _ _ _=>trivial) (fun _ _ _=>trivial) j hj).2
        have I:=(zQ (C:=C) L 0).1
        have LI:∀p,p∈eH C L 0↔∃o,L[p]?=some o∧isEff C o.op=true:=fun p=>by
          grind[Pz]
        have hHs:∀k p,(eH C L 0)[k]?=some p→hs[k+1]?=some (st (p+1)).h:=fun k p hp=>by
          grind
        have hH0:hs[0]?=some s.h:=by grind
        have aee:hs.length=(eH C L 0).length+1:=by grind
        have va:∀i o,L[i]?=some o→∃h,(st i).put o.dst (((tr[i]?).map (·.2)).getD cq) h=some (st (i+1)) ∧
            (wantedV L (st i).env o=true→evOp C self (st i).env (st i).h o=some (((tr[i]?).map (·.2)).getD cq,h))∧(wantedV L (st i).env o=false→((tr[i]?).map (·.2)).getD cq=cq∧h=(st i).h):=fun i o ho=>by
          grind
        -- all but 'same'; it is wanted for 'heapAt'
        have aeq:(∀i o,L[i]?=some o→isEff C o.op=false→∀k,k≤(eH C L 0).length→(∀idx p,idx<k→(eH C L 0)[idx]?=some p→bit ((nth (ancs L []) p).getD 0) i=false) →
              (∀idx p,k≤idx→(eH C L 0)[idx]?=some p→bit ((nth (ancs L []) i).getD 0) p=false) →
              wantedV L (st i).env o=true→∃h',evOp C self (st i).env ((hs[k]?).getD s.h) o=some (((tr[i]?).map (·.2)).getD cq,h')) →
            ir C self (fun i=>∃o,L[i]?=some o∧isAlloc fl o=true) L s st (fun i=>((tr[i]?).map (·.2)).getD cq) (eH C L 0) (fun k=>(hs[k]?).getD s.h):=fun Ni =>
          { back:=Vp
            Nt:=fun j o ho i x hi hx=>by
              have:=Nr L 0 s2 j o ho i x (by omega) hx
              grind
            Bn:=fun i o ho ⟨o',Ga,ha⟩=>by
              grind
            PB:=fun i o ho ⟨o',Ga,ha⟩ j u hu cH=>by
              rw[ho] at Ga
              obtain rfl:=cg Ga
              rcases KM L 0 s3 i o ho ha j u hu (by omega) with h|h<;>grind[PA]
            sr:=LI
            sorted:=I
            start:=t1
            step:=va
            Nu:=by grind
            Dm:=fun k p hp=>by grind
            gap:=fun i o ho he=>by
              obtain⟨v,h,e1,_⟩:=t5 i o ho
              have:=(Gd L tr 0 J i o _ ho e1 he).1
              grind[SX]
            same:=Ni }
        refine⟨_,st,_,_,aeq ?_,t2,s4⟩
        intro i o ho he k hk h1 h2 hw
        obtain⟨v,h,e1,e2,e3,e4⟩:=t5 i o ho
        obtain⟨g1,g2⟩:=Gd L tr 0 J i o _ ho e1 he
        simp only[fy] at g1 g2
        have acr:lC ((nth (ancs L []) i).getD 0) (eH C L 0)≤k:=wm fun cH=>by
          obtain⟨p,hp⟩:∃p,(eH C L 0)[k]?=some p:=⟨_,bw (by have:=(Ft (m:=(nth (ancs L []) i).getD 0) (eH C L 0)).2;omega)⟩<;>grind[Ft]
        have aer:k≤oE (ancs L []) i (eH C L 0):=wm fun cH=>by
          grind[LO]
        have SI:((tr[i]?).map (·.2)).getD cq=v:=by grind
        rw[SI]
        rcases g2 with g2|g2
        · -- its place is known
          have C_:(st i).h=(hs[k]?).getD s.h:=by
            have vb:k=oE (ancs L []) i (eH C L 0):=by omega
            have cH:∀idx p,idx<k→(eH C L 0)[idx]?=some p→p<i:=fun idx p cH hp=>by
              grind[Ft]
            have hge:∀idx p,k≤idx→(eH C L 0)[idx]?=some p→i≤p:=fun idx p hle hp=>by
              obtain⟨q,hq⟩:∃q,(eH C L 0)[k]?=some q:=⟨_,bw (by grind)⟩
              have hb:=(LO (eF:=ancs L []) (i:=i) (eH C L 0)).2 q (by grind)
              obtain⟨x,hx,_⟩:=(LI q).1 (bK hq)<;>grind[List.pairwise_iff_getElem]
            exact Dn (Hs:=fun k=>(hs[k]?).getD s.h) va (fun p=>LI p) I t1 (by grind) (fun k p hp=>by grind) i k (by grind) hk cH hge
          rw[←C_]
          exact⟨h,e3 hw⟩
        · have hm:(hs[k]?).getD s.h∈(hs.drop (lC ((nth (ancs L []) i).getD 0) (eH C L 0))).take (oE (ancs L []) i (eH C L 0)+1-lC ((nth (ancs L []) i).getD 0) (eH C L 0)):=by
            have acs:k<hs.length:=by omega
            refine bK (i:=k-lC ((nth (ancs L []) i).getD 0) (eH C L 0)) ?_
            rw[wj,aC (by omega),EU,Nat.add_sub_cancel' acr,bw acs]
            simp
          exact PI _ g2 hw _ hm
theorem W4 {S:Nat→Prop}(hb:∀i o,L[i]?=some o→∀e∈o.after,gG e=true→e.on<i)(I:∀i o,¬ lV L S i o): ∀i,i<L.length→S i:=by
 intro i
 induction i using Nat.strongRecOn with
 |_ i ih =>
  intro hi
  refine EM fun J => ?_
  refine I i L[i] ⟨bw hi,J,fun e he Ge => ?_⟩<;>grind
theorem gX.done {st:Nat→St}{c:Ctx}{w:World}{S:Nat→Prop}{a:Act}
 (D:ir C self Fl L s st vv es Hs)(I:gX C self Fl L s st vv es Hs c₀ w₀ d₀ S early k c a w)(kC:∀p,es[k]?=some p→¬ S p)(rq:∀i,i<L.length→S i):
  Rel c (st L.length).h w∧dG c (st L.length).env (st L.length).ax a:=by
 have cH:∀p∈es,p<L.length:=fun p J=>by
  obtain⟨o,ho,_⟩:=(D.sr p).1 J<;>grind
 have adW:∀p,early p=none:=fun p=>by
  cases h:early p with
  |none=>rfl
  |some b =>
   obtain⟨_,idx,h1,h2⟩:=I.tT p b h<;>grind
 refine⟨?_,?_⟩
 ·rw[D.Im L.length k (aV _) I.LK (fun idx p _ J=>cH p (bK J)) (fun idx p hle J=>by grind)]
  exact I.rel
 ·have hv:∀t,a.tmps.getD t undef=conc c ((st L.length).env.v t)∧wf c ((st L.length).env.v t):=fun t=>by
   rcases I.tmp t with⟨i,o,g1,g2,g3,g4,g5⟩|⟨g1,g2,g3⟩
   ·have:(st L.length).env.v t=vv i:=by
     rcases D.HE t L.length (aV _) with⟨j,oj,h1,h2,h3,h4,h5⟩|⟨h1,_⟩<;>grind
    rcases g5 with⟨b,e1,_⟩|⟨_,e2,e3⟩
    ·grind
    ·grind
   ·have:(st L.length).env.v t=s.env.v t:=by
     rcases D.HE t L.length (aV _) with⟨j,oj,h1,h2,h3,h4,h5⟩|⟨_,h⟩<;>grind
    rw[this];exact⟨g2,g3⟩
  exact⟨by rw[I.size,D.ax L.length (aV _)],fun t=>(hv t).1,fun t=>(hv t).2⟩
theorem gX.congr {st:Nat→St}{c:Ctx}{w:World}{S S':Nat→Prop}{a:Act}
 (I:gX C self Fl L s st vv es Hs c₀ w₀ d₀ S early k c a w)(h:∀j,S j↔S' j): gX C self Fl L s st vv es Hs c₀ w₀ d₀ S' early k c a w:=by
 have:S=S':=funext fun j=>propext (h j)
 rw[←this];exact I
theorem SZ (hS:iX C.P self)(hT:eM C){r:Option Nat}(hL:ops.toList=L){Q:Exit→Act→World→Prop}{st:Nat→St}(D:ir C self Fl L s st vv es Hs)
 (hQ:∀c a w,Rel c (st L.length).h w→dG c (st L.length).env (st L.length).ax a→cC c₀ w₀ c w→a.defers=d₀→Q .normal a w):
  ∀(fuel:Nat) (J:Array Bool) (early:Nat→Option (Nat×FV)) (k:Nat) (c:Ctx) (a:Act) (w:World),J.size=L.length→J.count false≤fuel →
   gX C self Fl L s st vv es Hs c₀ w₀ d₀ (fun j=>J.getD j false=true) early k c a w→wpAnyIn (Fr r) 0 C.P .any ops Q fuel J a w:=by
 intro fuel
 induction fuel with
 |zero =>
  intro J early k c a w eL acu I
  have rq:∀i,i<L.length→J.getD i false=true:=fun i hi=>by
   have h0:J.count false=0:=by omega
   have:false∉J:=Array.count_eq_zero.1 h0
   rw[vX,EN (by omega)]
   grind
  obtain⟨nD,k',c',I',kC⟩:=gX.Gc D (es.length-k) k early c rfl I
  obtain⟨r1,r2⟩:=I'.done D kC rq
  refine⟨?_,hQ c' a w r1 r2 I'.LL I'.defers⟩
  refine List.eq_nil_iff_forall_not_mem.2 fun j hj => ?_
  obtain⟨h1,o,h2,_⟩:=mem_ready.1 hj
  have cH:j<L.length:=by grind
  have h3:=rq j cH
  rw[vX,EN (by omega)] at h1 h3
  simp at h1 h3
  rw[h1] at h3;cases h3
 |succ fuel ih =>
  intro J early k c a w eL acu I
  obtain⟨nD,k',c',I',kC⟩:=gX.Gc D (es.length-k) k early c rfl I
  have Y4:∀j,j∈Region.ready .any ops J↔∃o,lV L (fun j=>J.getD j false=true) j o:=fun j=>by
   rw[mem_ready]
   constructor
   ·rintro⟨h1,o,h2,h3⟩
    refine⟨o,by grind,fun h4 => ?_,fun e he hb=>h3 e he ?_⟩
    ·grind
    ·rw[←hb];cases e;rename_i on g;cases g<;>rfl
   ·rintro⟨o,R⟩
    have h2:=R.at_
    rw[←hL,lX] at h2
    refine⟨?_,o,h2,fun e he hb=>R.Nx e he ?_⟩
    ·have cH:j<J.size:=by grind
     have h4:=R.not
     grind
    ·rw[←hb];cases e;rename_i on g;cases g<;>rfl
  refine⟨fun zI => ?_,fun i hi => ?_⟩
  ·have rq:=W4 (S:=fun j=>J.getD j false=true) D.back (fun i o R=>by
    grind)
   obtain⟨r1,r2⟩:=I'.done D kC rq
   exact hQ c' a w r1 r2 I'.LL I'.defers
  ·obtain⟨o,R⟩:=(Y4 i).1 hi
   have cH:i<J.size:=by rw[eL];exact(List.getElem?_eq_some_iff.1 R.at_).1
   have adX:J[i]=false:=by
    have:=R.not
    rw[vX,EN cH] at this
    simpa using this
   refine I'.Y2 hS hT hL D kC R ?_
   intro W6 k'' sW yO zP I''
   refine ih (J.setIfInBounds i true) W6 k'' sW yO zP (by grind) ?_ (I''.congr fun j => ?_)
   ·grind
   ·by_cases yP:j=i
    ·subst yP
     simp[vX,cH]
    simp_all[l9]
theorem PJ (hS:iX C.P self)(hT:eM C)(hm:C.P.follows .mixedOrders=true){r:Option Nat}(hr:qp C self ops.toList s=some s'){Q:Exit→Act→World→Prop}{c:Ctx}{a:Act}{w:World}(h:Rel c s.h w)(he:dG c s.env s.ax a)
 (hQ:∀c' J w',Rel c' s'.h w'→dG c' s'.env s'.ax J→cC c w c' w'→J.defers=a.defers→Q .normal J w'):
  (Code.region id ops true).wpIn (Fr r) 0 C.P Q a w:=by
 obtain⟨Fl,st,vv,Hs,D,hz,_⟩:=SY hr
 refine wpIn_region_any hm ?_
 have acv:cC c w c { w with drawn:=w.drawn+1 }:=cC.drew c w
 have qq:Rel c s.h { w with drawn:=w.drawn+1 }:=h.drew
 refine SZ hS hT rfl D (c₀:=c) (w₀:=w) (d₀:=a.defers) (fun c' J w' r1 r2 r3 r4=>hQ c' J w' (by grind) (by grind) r3 r4)
  ops.size (Array.replicate ops.size false) (fun _=>none) 0 c a _ (by simp) (by simp) ?_
 have I:∀j,¬ (Array.replicate ops.size false).getD j false=true:=fun j=>by
  rw[vX,Array.getElem?_replicate];split<;>simp
 refine⟨fun i o hi=>absurd hi (I i),fun idx p h=>by omega,ew _,fun idx p _ _ hp=>absurd hp (I p),(fun p b h=>by cases h),(by rw[D.Nu];exact qq),he.size,
  fun t=>.inr ⟨fun j o hj=>absurd hj (I j),he.val t,he.sg t⟩,(fun p b h=>by cases h),(fun p q b b' h=>by cases h),acv,rfl⟩
end
end Go.Proofs.YtiojppeahfoiaaaGreat.Am
namespace Go.Proofs.YtiojppeahfoiaaaGreat.Am
open Go
variable {ps:Array (Nat×Operand)} {ops:Array Oper} {C:ep} {code:Code} {c₀:Ctx} {env:Env} {Q:Ex→List (Nat×V)→H→Prop} {fn:Func} {f:FuncId} {h h' σ h₁ dz:H} {κ:IntKind} {E E':List (Nat×V)} {R:List (Nat×V)→H→Prop} {d₀:List Deferred} {hs:List H} {eF es l:List Nat} {L rest:List Oper} {args first cap vs cs ds:List V} {a b i c k id n d off j g nE k' q:Nat} {Hs:Nat→H} {early:Nat→Option (Nat×FV)} {Fl:Nat→Prop} {vv:Nat→V} {o':Obj} {o:Oper} {x y:Operand} {P:Program} {φ:Prop} {self:Self} {s s':St} {α:Type} {td:TypeDesc} {t t' e kt et:TypeId} {r u z:V} {zT:V→H→Prop} {w₀:World}
section
variable {b:Frame} {a:Act} {k:List Item} {cs:List Frame} {w:World}
theorem oM {c:Code}: step P (lone (b.atR a (.code (.scope c)::k)) cs w)=.next (lone (b.atR a (.code c::.inScope c::k)) cs w) :=
 by rfl
theorem Hu {c:Code}: step P (lone (b.atR a (.inScope c::k)) cs w)=.next (lone (b.atR a k) cs w) :=
 by rfl
end
theorem Ny {r:Option Nat}{c:Code}{Q:Exit→Act→World→Prop}{a:Act}{w:World}(h:c.wpIn (Fr r) 0 P (Exit.noGoto Q) a w): (Code.scope c).wpIn (Fr r) 0 P Q a w:=by
 intro b k cs Y5 hb hr
 obtain⟨e,J,sn,hq,I⟩:=h b (.inScope c::k) cs Y5 hb hr
 cases e with
 |normal=>exact⟨.normal,J,sn,hq,.of_steps (.one (fenced_calm hb hr rfl) oM) (StepsIn.trans I (.one (fenced_calm hb hr rfl) Hu))⟩
 |exit id=>exact⟨.exit id,J,sn,hq,.of_steps (.one (fenced_calm hb hr rfl) oM) ⟨fun k' hk=>I.1 k' (by simpa[exitTo] using hk),fun hr hk=>I.2 hr (by simpa[exitTo] using hk)⟩⟩
 |goto l=>exact hq.elim
 |ret=>exact⟨_,J,sn,hq,.of_steps (.one (fenced_calm hb hr rfl) oM) I⟩
 |panic ch=>exact⟨_,J,sn,hq,.of_steps (.one (fenced_calm hb hr rfl) oM) I⟩
 |outgrown=>exact⟨_,J,sn,hq,.of_steps (.one (fenced_calm hb hr rfl) oM) I⟩
def Ds (P:Program)(self:Self)(m:Nat): Prop:=∀(b:Code) (s:St) (ex:Ex) (s':St),self (.loop b) s=some (ex,s') →
 ∀(r:Option Nat) (c:Ctx) (a:Act) (w:World) (Q:Exit→Act→World→Prop),Rel c s.h w→dG c s.env s.ax a →
  (∀e I w',(e=exOf ex∧I.defers=a.defers∧∃c',Rel c' s'.h w'∧dG c' s'.env s'.ax I∧cC c w c' w')→Q e I w')→Code.roundsIn (Fr r) 0 P b Q m a w
section
theorem B_ {m:Nat}(hS:iX C.P self)(hL:Ds C.P self m): Ds C.P (evStep C self) (m+1):=by
 intro b s ex s' hr r c a w Q h he hQ
 unfold evStep at hr
 simp only at hr
 cases hb:self b s with
 |none=>grind
 |some q =>
  obtain⟨I,J⟩:=q
  rw[hb] at hr
  refine wpIn_mono (hS b s I J hb r c a w h he) ?_
  rintro e BW sn ⟨rfl,q2,c₁,q3,q4,q5⟩
  cases I with
  |normal =>
   refine hL b J ex s' hr r c₁ BW sn Q q3 q4 ?_
   rintro Di Hr YQ ⟨p1,p2,c₂,p3,p4,p5⟩
   exact hQ _ _ _ ⟨p1,by grind,c₂,p3,p4,q5.trans p5⟩
  |exit i =>
   obtain⟨rfl,rfl⟩:=hr
   exact hQ _ _ _ ⟨rfl,q2,c₁,q3,q4,q5⟩
  |ret =>
   obtain⟨rfl,rfl⟩:=hr
   exact hQ _ _ _ ⟨rfl,q2,c₁,q3,q4,q5⟩
theorem PK {m:Nat}(hm:C.P.follows .mixedOrders=true)(hT:eM C)(hS:iX C.P self)(hL:Ds C.P self m): iX C.P (evStep C self):=by
 intro code s ex s' I r c a w h he
 have same:∀ {ex:Ex} {s':St},(Ex.normal,s)=(ex,s')→exOf ex=.normal∧s'=s:=fun e=>by cases e;exact⟨rfl,rfl⟩
 cases code with
 |skip =>
  simp only[evStep,aB,bC] at I
  obtain⟨rfl,rfl⟩:=I
  exact wpIn_skip ⟨rfl,rfl,c,h,he,cC.refl c w⟩
 |label l =>
  simp only[evStep,aB,bC] at I
  obtain⟨rfl,rfl⟩:=I
  exact wpIn_label ⟨rfl,rfl,c,h,he,cC.refl c w⟩
 |region id ops draw =>
  unfold evStep at I
  simp only at I
  cases draw with
  |true =>
   rw[ah] at I
   cases hd:qp C self ops.toList s with
   |none=>simp[hd] at I
   |some J =>
    simp only[hd,aB,bC] at I
    obtain⟨rfl,rfl⟩:=I
    exact PJ hS hT hm hd h he fun c' a' w' r1 r2 r3 r4=>⟨rfl,r4,c',r1,r2,r3⟩
  |false =>
   rw[aX] at I
   cases hd:evOps C self ops.toList ops.toList s with
   |none=>simp[hd] at I
   |some J =>
    simp only[hd,aB,bC] at I
    obtain⟨rfl,rfl⟩:=I
    refine wpIn_region ?_
    rw[ER,←A6]
    exact SP hS hT ops.toList 0 s J c a w (fun j=>by rw[fy,lX]) hd h he fun c' a' w' r1 r2 r3 r4=>⟨rfl,r4,c',r1,r2,r3⟩
 |seq x y =>
  unfold evStep at I
  simp only at I
  cases hx:self x s with
  |none=>rw[hx] at I;simp at I
  |some r =>
   obtain⟨Gf,J⟩:=r
   rw[hx] at I
   refine wpIn_seq (wpIn_mono (hS x s Gf J hx r c a w h he) ?_)
   rintro e BW sn ⟨rfl,q2,c₁,q3,q4,q5⟩
   cases Gf with
   |normal =>
    simp only at I
    refine wpIn_mono (hS y J ex s' I r c₁ BW sn q3 q4) ?_
    rintro e Hr YQ ⟨rfl,p2,c₂,p3,p4,p5⟩
    exact⟨rfl,by rw[p2,q2],c₂,p3,p4,q5.trans p5⟩
   |exit i =>
    simp only[aB,bC] at I
    obtain⟨rfl,rfl⟩:=I
    exact⟨rfl,q2,c₁,q3,q4,q5⟩
   |ret =>
    simp only[aB,bC] at I
    obtain⟨rfl,rfl⟩:=I
    exact⟨rfl,q2,c₁,q3,q4,q5⟩
 |cond x y z =>
  unfold evStep at I
  simp only at I
  split at I
  ·rename_i t hx
   obtain⟨e1,_⟩:=wF he hx
   refine wpIn_cond (t:=t) (by rw[e1];rfl) ?_
   have:=hS (cond t y z) s ex s' I r c a w h he
   cases t<;>simpa using this
  ·cases I
 |block id b =>
  unfold evStep at I
  simp only at I
  cases hb:self b s with
  |none=>rw[hb] at I;simp at I
  |some r =>
   obtain⟨Gf,J⟩:=r
   rw[hb] at I
   refine wpIn_block (wpIn_mono (hS b s Gf J hb r c a w h he) ?_)
   rintro e BW sn ⟨rfl,q2,c₁,q3,q4,q5⟩
   cases Gf with
   |normal =>
    simp only[aB,bC] at I
    obtain⟨rfl,rfl⟩:=I
    simp only[exOf,Exit.inBlock]
    exact⟨aa,q2,c₁,q3,q4,q5⟩
   |exit i =>
    simp only at I
    by_cases hi:i=id
    ·rw[sO hi,ah] at I
     simp only[aB,bC] at I
     obtain⟨rfl,rfl⟩:=I
     simp only[exOf,Exit.inBlock,hi,cQ]
     exact⟨aa,q2,c₁,q3,q4,q5⟩
    ·rw[fF hi,aX] at I
     simp only[aB,bC] at I
     obtain⟨rfl,rfl⟩:=I
     simp only[exOf,Exit.inBlock,hi,fA]
     exact⟨aa,q2,c₁,q3,q4,q5⟩
   |ret =>
    simp only[aB,bC] at I
    obtain⟨rfl,rfl⟩:=I
    simp only[exOf,Exit.inBlock]
    exact⟨aa,q2,c₁,q3,q4,q5⟩
 |loop b =>
  exact wpIn_loop_rounds (m+1) (B_ hS hL b s ex s' I r c a w _ h he (fun _ _ _ hq=>hq))
 |exit id =>
  simp only[evStep,aB,bC] at I
  obtain⟨rfl,rfl⟩:=I
  exact wpIn_exit ⟨rfl,rfl,c,h,he,cC.refl c w⟩
 |scope b =>
  unfold evStep at I
  simp only at I
  refine Ny (wpIn_mono (hS b s ex s' I r c a w h he) ?_)
  rintro e BW sn ⟨rfl,q2,c₁,q3,q4,q5⟩
  cases ex<;>exact⟨rfl,q2,c₁,q3,q4,q5⟩
 |ret =>
  simp only[evStep,aB,bC] at I
  obtain⟨rfl,rfl⟩:=I
  exact wpIn_ret ⟨rfl,rfl,c,h,he,cC.refl c w⟩
 |_=>simp[evStep] at I
theorem zU (hm:C.P.follows .mixedOrders=true)(J:eM C): ∀n,iX C.P (ev C n)∧Ds C.P (ev C n) n:=by
 intro n
 induction n with
 |zero=>exact⟨fun _ _ _ _ h=>by simp[ev] at h,fun _ _ _ _ h=>by simp[ev] at h⟩
 |succ n I=>exact⟨PK hm J I.1 I.2,B_ I.1 I.2⟩
theorem xJ (hm:C.P.follows .mixedOrders=true)(I:eM C)(n:Nat): Ie C.P (ev C n)∧True:=⟨(zU hm I n).1.wide,aa⟩
theorem Iq (hm:C.P.follows .mixedOrders=true)(J:eM C){v:V}(hr:run C n f args h=some (v,h')){c:Ctx}{w:World}
 (I:Rel c h w)(hw:∀x∈args,wf c x): fe C.P f args c w v h' :=
 (callF_ok (xJ hm J n).1 J hr I hw).1
theorem Rel.empty (w:World): Rel ⟨fun _=>(0,0),fun _=>0,0,fun _=>false⟩ ⟨0,.lf⟩ w :=
 ⟨rfl,fun id o h=>by simp[T.ug] at h,fun id h=>absurd h (E6 _),fun id h=>absurd h (E6 _),fun i j o o' h=>by simp[T.ug] at h,fun id o h=>by simp[T.ug] at h,fun id cs st h=>by simp,fun id o h=>by simp⟩
end
def leftC : Code→Code
 |.seq a _=>a
 |c=>c
def cS : Code→Code
 |.seq _ b=>b
 |c=>c
def mR (f g:Self): Prop:=∀c s r,f c s=some r→g c s=some r
section
variable {f g:Self}
theorem mH (h : mR f g) {r : V × H} (I : callF C f k args σ = some r) : callF C g k args σ = some r := by
 unfold callF at I ⊢
 cases J : C.told k with
 | some t => grind
 | none =>
  simp only [J] at I ⊢
  cases hf : C.P.funcs[k]? with
  | none => grind
  | some fn =>
   simp only [hf] at I ⊢
   cases hb : fn.body with
   | none => grind
   | some c =>
    simp only [hb] at I ⊢
    cases hq : (fn.name == "runtime.NumGoroutine" || Nat.blt fn.ntmps args.length) with
    | true => grind
    | false =>
     simp only [hq, aX] at I ⊢
     cases hs : f c ⟨bindArgs args 0 .lf, fn.ntmps, σ⟩ with
     | none => grind
     | some q => rw [h _ _ _ hs]; rw [hs] at I; exact I
theorem KN (h:mR f g){r:V×H}(J:roundV f id args σ=some r): roundV g id args σ=some r:=by
 unfold roundV at J ⊢
 cases ho:σ.tr.get id with
 |none=>grind
 |some o =>
  simp only[ho] at J ⊢
  cases o with
  |loop busy ax env ps eF bd =>
   cases busy with
   |true=>cases J
   |false =>
    cases he:bindPs ax ps args env with
    |none=>grind
    |some e =>
     simp only[he] at J ⊢
     cases h1:f eF ⟨e,ax,σ⟩ with
     |none=>grind
     |some q =>
      rw[h eF _ _ h1]
      simp only[h1] at J
      split at J
      ·rename_i SJ hq
       split at J
       ·split at J
        ·rename_i Nn I
         rw[h bd _ _ I]
         exact J
        ·rename_i Nn I
         rw[h bd _ _ I]
         exact J
        ·grind
       ·cases J
      ·cases J
  |_=>cases J
theorem mE (h:mR f g){r:V×H}(I:evOp C f env σ o=some r): evOp C g env σ o=some r:=by
 unfold evOp at I ⊢
 cases J:o.op<;>simp only[J] at I ⊢<;>try exact I
 rename_i cl
 unfold evCall at I ⊢
 cases ha:evArgs env cl.args.toList with
 |none=>grind
 |some args =>
  cases hc:cl.callee with
  |builtin b=>grind
  |value x =>
   cases hx:evO env x with
   |none=>grind
   |some fv =>
    unfold callV at I ⊢
    grind[mH,KN]
  |invoke x m =>
   grind[mH]
theorem qt (h:mR f g): ∀(l:List Oper) (s s':St),evOps C f L l s=some s'→evOps C g L l s=some s':=by
 intro l
 induction l with
 |nil=>intro s s' I;exact I
 |cons o l J =>
  intro s s' I
  simp only[evOps] at I ⊢
  cases hw:wantedV L s.env o with
  |true =>
   cases ho:evOp C f s.env s.h o with
   |none=>grind
   |some q =>
    grind[mE]
  |false =>
   grind
theorem xK (h:mR f g): ∀(l:List Oper) (s:St) (hs:List H) (r:List (Env×V)×List H×St),trace C f L l s hs=some r→trace C g L l s hs=some r:=by
 intro l
 induction l with
 |nil=>intro s hs r I;exact I
 |cons o l J =>
  intro s hs r I
  simp only[trace] at I ⊢
  have key:∀q,cond (wantedV L s.env o) (evOp C f s.env s.h o) (some (cq,s.h))=some q→cond (wantedV L s.env o) (evOp C g s.env s.h o) (some (cq,s.h))=some q:=by
   grind[mE]
  cases hc:cond (wantedV L s.env o) (evOp C f s.env s.h o) (some (cq,s.h)) with
  |none=>grind
  |some q =>
   grind
theorem KO (h:mR f g){x:Env×V}: ∀(l:List H),sameIn C f L o x l=true→sameIn C g L o x l=true:=by
 intro l
 induction l with
 |nil=>intro I;exact I
 |cons y l J =>
  intro I
  simp only[sameIn] at I ⊢
  cases hw:wantedV L x.1 o with
  |false=>simp
  |true =>
   cases ho:evOp C f x.1 y o with
   |none=>grind
   |some q =>
    grind[mE]
theorem KP (h:mR f g): ∀(l:List Oper) (tr:List (Env×V)) (i:Nat),stayOk C f L eF es hs l tr i=true→stayOk C g L eF es hs l tr i=true:=by
 intro l
 induction l with
 |nil=>intro tr i I;cases tr<;>exact I
 |cons o l J =>
  intro tr i I
  cases tr<;>grind[stayOk,KO]
theorem KQ (h:mR f g)(I:qp C f L s=some s'): qp C g L s=some s':=by
 grind[qp,xK,KP]
theorem KR (h:mR f g): mR (evStep C f) (evStep C g):=by
 intro c s r I
 cases c with
 |region id ops draw =>
  grind[evStep,KQ,qt]
 |seq a b =>
  simp only[evStep] at I ⊢
  cases J:f a s with
  |none=>grind
  |some q =>
   obtain⟨ex,s1⟩:=q
   rw[h _ _ _ J]
   rw[J] at I
   cases ex with
   |normal=>exact h _ _ _ I
   |exit i=>exact I
   |ret=>exact I
 |cond x a b =>
  simp only[evStep] at I ⊢
  split at I
  ·exact h _ _ _ I
  ·cases I
 |block id b =>
  simp only[evStep] at I ⊢
  cases J:f b s with
  |none=>grind
  |some q=>rw[h _ _ _ J];rw[J] at I;exact I
 |loop b =>
  simp only[evStep] at I ⊢
  cases J:f b s with
  |none=>grind
  |some q =>
   obtain⟨ex,s1⟩:=q
   rw[h _ _ _ J]
   rw[J] at I
   cases ex with
   |normal=>exact h _ _ _ I
   |exit i=>exact I
   |ret=>exact I
 |scope b=>exact h _ _ _ I
 |_=>exact I
theorem Nz : ∀n,mR (ev C n) (ev C (n+1)):=by
 intro n
 induction n with
 |zero=>intro c s r I;cases I
 |succ n J=>exact KR J
theorem dO {m:Nat}(hle:n≤m): mR (ev C n) (ev C m):=by
 induction hle with
 |refl=>intro c s r I;exact I
 |step _ J=>intro c s r I;exact Nz _ c s r (J c s r I)
end
def look : List (Nat×V)→Nat→Option V
 |[],_=>none
 |x::E,k=>cond (Nat.beq x.1 k) (some x.2) (look E k)
def iM (env:Env)(E:List (Nat×V)): Prop:=∀t v,look E t=some v→T.get env t=some v
theorem iM.set (h:iM env E)(d:Nat)(v:V): iM (env.set d (some v)) ((d,v)::E):=by
 intro t u I
 simp only[look] at I
 rw[bh]
 by_cases hd:d=t
 ·simp_all
 ·rw[fF hd,aX] at I
  rw[ak (fun e=>hd e.symm)]
  exact h t u I
theorem iM.sub (h:iM env E)(hs:∀t v,look E' t=some v→look E t=some v): iM env E':=fun t v I=>h t v (hs t v I)
def bj (E:List (Nat×V)): Operand→Option V
 |.tmp t=>look E t
 |.const c=>ofValue c
 |.global _=>none
 |.func f=>some (.fn (.func f) [] [])
theorem bM (h:iM env E){v:V}(I:bj E x=some v): evO env x=some v:=by
 cases x with
 |tmp t=>simp only[evO,Env.v,h t v I]
 |const c=>exact I
 |global g=>cases I
 |func f=>exact I
def lookArgs (E:List (Nat×V)): List Operand→Option (List V)
 |[]=>some []
 |x::l=>match bj E x with
  |none=>none
  |some v=>match lookArgs E l with
   |none=>none
   |some m=>some (v::m)
theorem lE (h:iM env E): ∀ {l:List Operand} {m:List V},lookArgs E l=some m→evArgs env l=some m:=by
 intro l
 induction l<;>grind[lookArgs,evArgs,bM]
def lookParts (E:List (Nat×V)): List (Nat×Operand)→Option (List (Nat×V))
 |[]=>some []
 |x::l=>match bj E x.2 with
  |none=>none
  |some v=>match lookParts E l with
   |none=>none
   |some m=>some ((x.1,v)::m)
theorem zV (h:iM env E): ∀ {l:List (Nat×Operand)} {m:List (Nat×V)},lookParts E l=some m→evParts env l=some m:=by
 intro l
 induction l<;>grind[lookParts,evParts,bM]
def lookOpt (E:List (Nat×V)): Option Operand→Option (Option V)
 |none=>some none
 |some x=>match bj E x with
  |some v=>some (some v)
  |none=>none
theorem xL (h:iM env E){x:Option Operand}{v:Option V}(I:lookOpt E x=some v): optV env x=some v:=by
 cases x<;>grind[lookOpt,optV,bM]
section
variable (P:Program)
def jA (E:List (Nat×V))(x:Operand)(g:V→Option (V×H)): Option (V×H):=match bj E x with
 |some v=>g v
 |none=>none
def vj (E:List (Nat×V))(x y:Operand)(g:V→V→Option (V×H)): Option (V×H):=match bj E x with
 |some v=>match bj E y with
  |some u=>g v u
  |none=>none
 |none=>none
noncomputable def opE (E:List (Nat×V))(h:H)(o:Op): Option (V×H):=match o with
 |.move x|.assign x=>jA E x fun v=>some (v,h)
 |.pick c a b=>jA E c fun v=>match v with
  |.bool t=>jA E (cond t a b) fun v=>some (v,h)
  |_=>none
 |.alloc t=>match zeroT P t with
  |some z=>some (.ptr h.next 0,newRow h z.cells)
  |none=>none
 |.box _ x=>jA E x fun v=>cond (v.cells.all storable) (some (.ptr h.next 0,newRow h v.cells)) none
 |.build t ps=>match lookParts E ps.toList with
  |some l=>bF (buildV P t l) h
  |none=>none
 |.buildSlice t n ps=>match lookParts E ps.toList with
  |some l=>buildSliceV P h t n l
  |none=>none
 |.load t a=>jA E a fun v=>bF (loadV P h t v) h
 |.store t a x=>vj E a x fun p v=>sZ (f_ P h t p v)
 |.nilCheck x=>jA E x fun v=>match v with
  |.ptr a b=>some (.ptr a b,h)
  |_=>none
 |.binOp op t x y _=>vj E x y fun a b=>bF (binV P h op t x y a b) h
 |.unOp op _ x=>jA E x fun a=>bF (unV op a) h
 |.convert s d x=>jA E x fun a=>match convV P h s d a with
   |some r=>some r
   |none=>convB P h s d a
 |.sliceToArrayPointer d x=>jA E x fun a=>bF (arrPtrV P d a) h
 |.makeInterface t x=>jA E x fun a=>bF (makeIfaceV P t a) h
 |.makeFunc f a b=>match lookArgs E a.toList with
  |some x=>match lookArgs E b.toList with
   |some y=>some (.fn f x y,h)
   |none=>none
  |none=>none
 |.makeMap _ r=>match r with
  |none=>some (.map h.next,h.new (.map [] 0))
  |some _=>none
 |.makeSlice t l c=>vj E l c fun a b=>makeSliceV P h t a b
 |.slice t x lo hi mx=>jA E x fun v=>match lookOpt E lo with
  |some a=>match lookOpt E hi with
   |some b=>match lookOpt E mx with
    |some c=>match iK a with
     |some a=>match iK b with
      |some b=>match iK c with
       |some c=>bF (sliceV P h t v a b c) h
       |none=>none
      |none=>none
     |none=>none
    |none=>none
   |none=>none
  |none=>none
 |.fieldAddr t x i=>jA E x fun v=>bF (fieldAddrV P t v i) h
 |.field t x i=>jA E x fun v=>bF (r8 P t v i) h
 |.indexAddr t x i=>vj E x i fun v j=>bF (indexAddrV P t v j) h
 |.index t x i=>vj E x i fun v j=>bF (indexV P t v j) h
 |.lookup t x k ok=>vj E x k fun m j=>bF (dX P h t m j ok) h
 |.extract t i=>jA E t fun v=>match v with
  |.aQ l=>bF (nth l i) h
  |_=>none
 |.typeAssert x _ a ok=>jA E x fun v=>bF (assertV P v a ok) h
 |.call c=>match c.callee with
  |.builtin b=>match lookArgs E c.args.toList with
   |some args=>builtinV P h b c.argTypes args
   |none=>none
  |_=>none
 |_=>none
end
theorem iY {g:V→Option (V×H)}{r:V×H}(h:jA E x g=some r): ∃v,bj E x=some v∧g v=some r:=by
 grind[jA]
theorem tU {g:V→V→Option (V×H)}{r:V×H}(h:vj E x y g=some r): ∃v u,bj E x=some v∧bj E y=some u∧g v u=some r:=by
 grind[vj]
set_option maxHeartbeats 1000000 in
theorem Dt {r:V×H}(hE:iM env E)(hr:opE C.P E h o.op=some r): evOp C self env h o=some r:=by
 unfold opE at hr
 unfold evOp
 split at hr
 ·rename_i x I;obtain⟨v,h1,J⟩:=iY hr;simp only[I,bM hE h1,bF];exact J
 ·rename_i x I;obtain⟨v,h1,J⟩:=iY hr;simp only[I,bM hE h1,bF];exact J
 ·rename_i c a b I
  obtain⟨v,h1,J⟩:=iY hr
  split at J
  ·rename_i t
   obtain⟨u,h3,h4⟩:=iY J
   simp only[I,bM hE h1,bM hE h3,bF];exact h4
  ·cases J
 ·rename_i t I;simp only[I];exact hr
 ·rename_i t x I;obtain⟨v,h1,J⟩:=iY hr;simp only[I,bM hE h1];exact J
 ·rename_i t ps I
  cases hp:lookParts E ps.toList with
  |none=>simp[hp] at hr
  |some l=>simp only[hp] at hr;simp only[I,zV hE hp];exact hr
 ·rename_i t n ps I
  cases hp:lookParts E ps.toList with
  |none=>simp[hp] at hr
  |some l=>simp only[hp] at hr;simp only[I,zV hE hp];exact hr
 ·rename_i t a I;obtain⟨v,h1,J⟩:=iY hr;simp only[I,bM hE h1];exact J
 ·rename_i t a x I;obtain⟨v,u,h1,J,h3⟩:=tU hr;simp only[I,bM hE h1,bM hE J];exact h3
 ·rename_i x I
  obtain⟨v,h1,J⟩:=iY hr
  split at J
  ·simp only[I,bM hE h1];exact J
  ·cases J
 ·rename_i op t x y u I;obtain⟨v,u,h1,J,h3⟩:=tU hr;simp only[I,bM hE h1,bM hE J];exact h3
 ·rename_i op t x I;obtain⟨v,h1,J⟩:=iY hr;simp only[I,bM hE h1];exact J
 ·rename_i s d x I;obtain⟨v,h1,J⟩:=iY hr;simp only[I,bM hE h1];exact J
 ·rename_i d x I;obtain⟨v,h1,J⟩:=iY hr;simp only[I,bM hE h1];exact J
 ·rename_i t x I;obtain⟨v,h1,J⟩:=iY hr;simp only[I,bM hE h1];exact J
 ·rename_i f a b I
  cases ha:lookArgs E a.toList with
  |none=>simp[ha] at hr
  |some x =>
   cases hb:lookArgs E b.toList with
   |none=>simp[ha,hb] at hr
   |some y=>simp only[ha,hb] at hr;simp only[I,lE hE ha,lE hE hb];exact hr
 ·rename_i t r I
  simp only[I]
  exact hr
 ·rename_i t l c I;obtain⟨v,u,h1,J,h3⟩:=tU hr;simp only[I,bM hE h1,bM hE J];exact h3
 ·rename_i t x lo hi mx I
  obtain⟨v,h1,J⟩:=iY hr
  cases ha:lookOpt E lo with
  |none=>simp[ha] at J
  |some a =>
   cases hb:lookOpt E hi with
   |none=>simp[ha,hb] at J
   |some b =>
    cases hc:lookOpt E mx with
    |none=>simp[ha,hb,hc] at J
    |some c =>
     simp only[ha,hb,hc] at J
     simp only[I,bM hE h1,xL hE ha,xL hE hb,xL hE hc]
     cases pa:iK a with
     |none=>simp[pa] at J
     |some a =>
      cases pb:iK b with
      |none=>simp[pa,pb] at J
      |some b =>
       cases pc:iK c with
       |none=>simp[pa,pb,pc] at J
       |some c=>simp only[pa,pb,pc] at J ⊢;exact J
 ·rename_i t x i I;obtain⟨v,h1,J⟩:=iY hr;simp only[I,bM hE h1];exact J
 ·rename_i t x i I;obtain⟨v,h1,J⟩:=iY hr;simp only[I,bM hE h1];exact J
 ·rename_i t x i I;obtain⟨v,u,h1,J,h3⟩:=tU hr;simp only[I,bM hE h1,bM hE J];exact h3
 ·rename_i t x i I;obtain⟨v,u,h1,J,h3⟩:=tU hr;simp only[I,bM hE h1,bM hE J];exact h3
 ·rename_i t x k ok I;obtain⟨v,u,h1,J,h3⟩:=tU hr;simp only[I,bM hE h1,bM hE J];exact h3
 ·rename_i t i I
  obtain⟨v,h1,J⟩:=iY hr
  split at J
  ·simp only[I,bM hE h1];exact J
  ·cases J
 ·rename_i x t a ok I;obtain⟨v,h1,J⟩:=iY hr;simp only[I,bM hE h1];exact J
 ·rename_i cl I
  split at hr
  ·rename_i b hc
   cases ha:lookArgs E cl.args.toList with
   |none=>simp[ha] at hr
   |some args=>simp only[ha] at hr;simp only[I,evCall,hc,lE hE ha];exact hr
  ·cases hr
 ·cases hr
def gJ (C:ep)(f:FuncId)(args:List V)(h:H)(v:V)(h':H): Prop:=∃N,callF C (ev C N) f args h=some (v,h')
def Call (C:ep)(f:FuncId)(args:List V)(h:H)(R:V→H→Prop): Prop:=∃v h',gJ C f args h v h'∧R v h'
variable {cl:Go.Call}
theorem Call.mono {R I:V→H→Prop}(J:Call C f args h R)(hr:∀v h',R v h'→I v h'): Call C f args h I:=by
 obtain⟨v,h',h1,h2⟩:=J
 exact⟨v,h',h1,hr v h' h2⟩
theorem gJ.told {g:List V→H→Option (V×H)}{v:V}(I:C.told f=some g)(J:C.P.funcs[f]?=some fn)(hb:fn.body.isSome=true)(hr:g args h=some (v,h')): gJ C f args h v h':=by
 refine⟨0,?_⟩<;>grind[callF,hasBody]
theorem gJ.body {v:V}(hd:gJ C f args h v h'): hasBody C.P f=true:=by
 obtain⟨N,I⟩:=hd<;>grind[callF,hasBody]
theorem je (C:ep)(n:Nat)(c:Code)(s:St): ev C (n+1) c s=evStep C (ev C n) c s:=rfl
def WP (C:ep)(ax:Nat)(code:Code)(E:List (Nat×V))(h:H)(Q:Ex→List (Nat×V)→H→Prop): Prop :=
 ∀env,iM env E→∃N ex I h' E',ev C N code ⟨env,ax,h⟩=some (ex,⟨I,ax,h'⟩)∧iM I E'∧Q ex E' h'
def au (C:ep)(ax:Nat)(L l:List Oper)(E:List (Nat×V))(h:H)(Q:List (Nat×V)→H→Prop): Prop :=
 ∀env,iM env E→∃N I h' E',evOps C (ev C N) L l ⟨env,ax,h⟩=some ⟨I,ax,h'⟩∧iM I E'∧Q E' h'
section
variable {ax:Nat} {l:List Oper}
theorem WP.sub {I:List (Nat×V)}(hs:∀t v,look I t=some v→look E t=some v)(hw:WP C ax code I h Q): WP C ax code E h Q:=fun env J=>hw env (J.sub hs)
theorem WP.skip (I:Q .normal E h): WP C ax .skip E h Q:=fun env J=>⟨1,.normal,env,h,E,rfl,J,I⟩
theorem WP.ret (I:Q .ret E h): WP C ax .ret E h Q:=fun env J=>⟨1,.ret,env,h,E,rfl,J,I⟩
theorem WP.exit (I:Q (.exit i) E h): WP C ax (.exit i) E h Q:=fun env J=>⟨1,.exit i,env,h,E,rfl,J,I⟩
theorem WP.region (hl:ops.toList=l)(hw:au C ax l l E h fun E' h'=>Q .normal E' h'): WP C ax (.region id ops false) E h Q:=by
 intro env J
 obtain⟨N,I,h',E',h1,h2,h3⟩:=hw env J
 refine⟨N+1,.normal,I,h',E',?_,h2,h3⟩<;>grind[je,evStep]
theorem WP.seq {a b:Code}(hw:WP C ax a E h fun ex E' h'=>match ex with
  |.normal=>WP C ax b E' h' Q
  |ex=>Q ex E' h'): WP C ax (.seq a b) E h Q:=by
 intro env hE
 obtain⟨N,ex,I,h',E',h1,h2,h3⟩:=hw env hE
 cases ex with
 |normal =>
  obtain⟨M,su,J,PL,E2,g1,g2,g3⟩:=h3 I h2
  refine⟨Nat.max N M+1,su,J,PL,E2,?_,g2,g3⟩
  rw[je]
  simp only[evStep,dO (nZ N M) _ _ _ h1]
  exact dO (nY N M) _ _ _ g1
 |exit i =>
  refine⟨N+1,.exit i,I,h',E',?_,h2,h3⟩<;>grind[je,evStep]
 |ret =>
  refine⟨N+1,.ret,I,h',E',?_,h2,h3⟩<;>grind[je,evStep]
theorem WP.cond {a b:Code}{t:Bool}(hx:bj E x=some (.bool t))(hw:WP C ax (_root_.cond t a b) E h Q): WP C ax (.cond x a b) E h Q:=by
 intro env J
 obtain⟨N,ex,I,h',E',h1,h2,h3⟩:=hw env J
 refine⟨N+1,ex,I,h',E',?_,h2,h3⟩<;>grind[je,evStep,bM]
theorem WP.block {b:Code}(hw:WP C ax b E h fun ex E' h'=>match ex with
  |.exit j=>_root_.cond (Nat.beq j i) (Q .normal E' h') (Q (.exit j) E' h')
  |ex=>Q ex E' h'): WP C ax (.block i b) E h Q:=by
 intro env hE
 obtain⟨N,ex,I,h',E',h1,h2,J⟩:=hw env hE
 cases ex with
 |exit j =>
  cases hj:Nat.beq j i with
  |true =>
   simp only[hj,ah] at J
   refine⟨N+1,.normal,I,h',E',?_,h2,J⟩<;>grind[je,evStep]
  |false =>
   simp only[hj,aX] at J
   refine⟨N+1,.exit j,I,h',E',?_,h2,J⟩<;>grind[je,evStep]
 |normal =>
  refine⟨N+1,.normal,I,h',E',?_,h2,J⟩<;>grind[je,evStep]
 |ret =>
  refine⟨N+1,.ret,I,h',E',?_,h2,J⟩<;>grind[je,evStep]
theorem WP.scope {b:Code}(hw:WP C ax b E h Q): WP C ax (.scope b) E h Q:=by
 intro env J
 obtain⟨N,ex,I,h',E',h1,h2,h3⟩:=hw env J
 exact⟨N+1,ex,I,h',E',h1,h2,h3⟩
theorem WP.loop {b:Code}(hw:WP C ax b E h fun ex E' h'=>match ex with
  |.normal=>WP C ax (.loop b) E' h' Q
  |ex=>Q ex E' h'): WP C ax (.loop b) E h Q:=by
 intro env hE
 obtain⟨N,ex,I,h',E',h1,h2,h3⟩:=hw env hE
 cases ex with
 |normal =>
  obtain⟨M,su,J,PL,E2,g1,g2,g3⟩:=h3 I h2
  refine⟨Nat.max N M+1,su,J,PL,E2,?_,g2,g3⟩
  rw[je]
  simp only[evStep,dO (nZ N M) _ _ _ h1]
  exact dO (nY N M) _ _ _ g1
 |exit i =>
  refine⟨N+1,.exit i,I,h',E',?_,h2,h3⟩<;>grind[je,evStep]
 |ret =>
  refine⟨N+1,.ret,I,h',E',?_,h2,h3⟩<;>grind[je,evStep]
theorem au.nil (I:R E h): au C ax L [] E h R:=fun env J=>⟨0,env,h,E,rfl,J,I⟩
def wantE (L:List Oper)(E:List (Nat×V))(g:Option (Nat×Bool)): Option Bool:=match g with
 |none=>some true
 |some (j,want)=>match (nth L j).bind (·.dst) with
  |some d=>match look E d with
   |some (.bool b)=>some (b == want)
   |some _=>some false
   |none=>none
  |none=>none
theorem ke {b:Bool}(J:iM env E)(hw:wantE L E o.guard=some b): wantedV L env o=b:=by
 unfold wantE at hw
 unfold wantedV
 split at hw
 ·grind
 ·rename_i j want hg
  simp only[hg]
  split at hw
  ·rename_i d hd
   simp only[hd]
   split at hw
   ·rename_i b' I
    simp only[Env.v,J d _ I]
    simpa using hw
   ·rename_i v mP I
    simp only[Env.v,J d _ I]
    grind
   ·cases hw
  ·cases hw
theorem au.op {v:V}(hg:wantE L E o.guard=some true)(hd:o.dst=some d)(hn:Nat.blt d ax=true)(ho:opE C.P E h o.op=some (v,h₁))
 (hw:au C ax L rest ((d,v)::E) h₁ R): au C ax L (o::rest) E h R:=by
 intro env J
 obtain⟨N,I,h',E',h1,h2,h3⟩:=hw (env.set d (some v)) (J.set d v)<;>grind[evOps,ke,Dt,St.put]
theorem au.Vq {v:V}(hg:wantE L E o.guard=some true)(hd:o.dst=none)(ho:opE C.P E h o.op=some (v,h₁))
 (hw:au C ax L rest E h₁ R): au C ax L (o::rest) E h R:=by
 intro env J
 obtain⟨N,I,h',E',h1,h2,h3⟩:=hw env J<;>grind[evOps,ke,Dt,St.put]
theorem au.no (hg:wantE L E o.guard=some false)(hd:o.dst=some d)(hn:Nat.blt d ax=true)
 (hw:au C ax L rest ((d,cq)::E) h R): au C ax L (o::rest) E h R:=by
 intro env J
 obtain⟨N,I,h',E',h1,h2,h3⟩:=hw (env.set d (some cq)) (J.set d cq)<;>grind[evOps,ke,St.put]
theorem Gg {k:FuncId}{v:V}(hE:iM env E)(J:o.op=.call cl)(hc:cl.callee=.value x)
 (hx:bj E x=some (.fn (.func k) first cap))(ha:lookArgs E cl.args.toList=some args)(I:gJ C k (first++(args++cap)) h v h₁):
  ∃N,evOp C (ev C N) env h o=some (v,h₁):=by
 have hb:=I.body
 obtain⟨N,hN⟩:=I
 refine⟨N,?_⟩
 simp only[evOp,J,evCall,lE hE ha,hc,bM hE hx,callV,hb,ah]
 exact hN
theorem au.call {k:FuncId}(hg:wantE L E o.guard=some true)(hd:o.dst=some d)(hn:Nat.blt d ax=true)
 (Gh:o.op=.call cl)(hc:cl.callee=.value x)(hx:bj E x=some (.fn (.func k) first cap))(ha:lookArgs E cl.args.toList=some args)
 (I:Call C k (first++(args++cap)) h zT)(hw:∀v h₁,zT v h₁→au C ax L rest ((d,v)::E) h₁ R): au C ax L (o::rest) E h R:=by
 intro env hE
 obtain⟨v,h₁,Du,hr⟩:=I
 obtain⟨N,hN⟩:=Gg hE Gh hc hx ha Du
 obtain⟨M,J,h',E',h1,h2,h3⟩:=hw v h₁ hr (env.set d (some v)) (hE.set d v)
 refine⟨Nat.max N M,J,h',E',?_,h2,h3⟩
 simp only[evOps,ke hE hg,ah,mE (dO (nZ N M)) hN,St.put,hd,hn]
 exact qt (dO (nY N M)) _ _ _ h1
end
def Has (E:List (Nat×V)): List (Nat×V)→Prop
 |[]=>True
 |p::F=>look E p.1=some p.2∧Has E F
theorem Has.sub : ∀ {F:List (Nat×V)},Has E F→∀t v,look F t=some v→look E t=some v:=by
 intro F
 induction F with
 |nil=>intro _ t v h;cases h
 |cons p F ih =>
  intro I t v h
  simp only[look] at h
  by_cases J:p.1=t
  ·subst J
   rw[sO rfl,ah] at h
   rw[I.1];exact h
  ·rw[fF J,aX] at h
   exact ih I.2 t v h
theorem WP.has {ax:Nat}{F:List (Nat×V)}(I:Has E F)(hw:WP C ax code F h Q): WP C ax code E h Q:=WP.sub I.sub hw
theorem aaY (I:iM s.env E){t:Nat}{v:V}(h:look E t=some v): resV P s (.tmp t)=some v:=by
 simp only[resV,Env.v,I t v h]
noncomputable def resE (P:Program)(E:List (Nat×V))(h:H): ResultVar→Option V
 |.tmp t=>look E t
 |.cell a t=>match look E a with
  |some p=>loadV P h t p
  |none=>none
theorem W7 (J:iM s.env E){x:ResultVar}{v:V}(I:resE P E s.h x=some v): resV P s x=some v:=by
 cases x with
 |tmp t=>exact aaY J I
 |cell a t =>
  simp only[resE] at I
  cases ha:look E a with
  |none=>grind
  |some p=>simp only[ha] at I;simp only[resV,Env.v,J a p ha];exact I
noncomputable def resLE (P:Program)(E:List (Nat×V))(h:H)(rs:List ResultVar): Option V:=match mapO (resE P E h) rs with
 |some [v]=>some v
 |some vs=>some (.aQ vs)
 |none=>none
theorem wR (I:iM s.env E): ∀ {rs:List ResultVar} {vs:List V},mapO (resE P E s.h) rs=some vs→mapO (resV P s) rs=some vs:=by
 intro rs
 induction rs<;>grind[mapO,W7]
def argE : List V→Nat→List (Nat×V)
 |[],_=>[]
 |v::l,k=>(k,v)::argE l (k+1)
theorem PN : ∀(l:List V) (k t:Nat),look (argE l k) t=if k≤t∧t<k+l.length then l[t-k]? else none:=by
 intro l
 induction l with
 |nil=>simp[argE,look]
 |cons v l I =>
  intro k t
  simp only[argE,look]
  by_cases h:k=t
  ·simp_all
  grind[fF]
theorem tV (l:List V): iM (bindArgs l 0 .lf) (argE l 0):=by
 intro t v h
 grind[PN,um]
theorem Call.of_wp {R : V → H → Prop} (ht : C.told f = none) (hf : C.P.funcs[f]? = some fn) (hb : fn.body = some code)
  (hq : (fn.name == "runtime.NumGoroutine" || Nat.blt fn.ntmps args.length) = false)
  (hw : WP C fn.ntmps code (argE args 0) h fun ex E' h' => (match ex with | .exit _ => False | _ => True) ∧ ∃ v, resLE C.P E' h' fn.results.toList = some v ∧ R v h') : Call C f args h R := by
 obtain ⟨N, ex, I, h', E', h1, J, h3, v, h4, h5⟩ := hw _ (tV args)
 refine ⟨v, h', ⟨N, ?_⟩, h5⟩
 unfold callF
 unfold resLE at h4
 cases hm : mapO (resE C.P E' h') fn.results.toList with
 | none => grind
 | some vs =>
  have Gi := wR (P := C.P) (s := ⟨I, fn.ntmps, h'⟩) J hm
  cases ex with
  | exit i => grind
  | normal =>
   grind
  | ret =>
   grind
noncomputable section
end
def crcStep : Nat→Nat→Nat
 |r,0=>r
 |r,k+1=>crcStep (cond (Nat.beq (r%2) 1) (Nat.xor (r/2) 3988292384) (r/2)) k
def crcL : Nat→List Nat→Nat
 |r,[]=>r
 |r,b::l=>crcL (crcStep (Nat.xor r b) 8) l
def bytesIn : List V→Option (List Nat)
 |[]=>some []
 |.int .u8 n::l=>cond (decide (0≤n)&&decide (n<256)) (match bytesIn l with
  |some m=>some (n.toNat::m)
  |none=>none) none
 |_=>none
def wS (s:Int)(l:List Nat): V:=.int .u32 ((Nat.xor (crcL (Nat.xor s.toNat 4294967295) l) 4294967295:Nat):Int)
noncomputable def toldMore : List V→H→Option (V×H)
 |[.int .u32 s,.sl id off len _],h=>cond (decide (0≤s)&&decide (s<4294967296)&&Nat.ble len 4611686018427387904) (match rdN h id off len with
  |some cs=>match bytesIn cs with
   |some l=>some (wS s l,h)
   |none=>none
  |none=>none) none
 |[.int .u32 s,.aY],h=>cond (decide (0≤s)&&decide (s<4294967296)) (some (wS s [],h)) none
 |[.int .u32 s,.sle _],h=>cond (decide (0≤s)&&decide (s<4294967296)) (some (wS s [],h)) none
 |_,_=>none
theorem wrap_u32 (h:n<4294967296): IntKind.wrap .u32 (n:Int)=(n:Int):=by
 grind[IntKind.wrap,IntKind.bits,IntKind.signed]
theorem Gj (h:n<4294967296): ((n:Int)%(2^(IntKind.u32).bits:Int)).toNat=n:=by
 grind[IntKind.bits]
theorem oN (I:a<4294967296)(J:b<4294967296): Nat.xor a b<4294967296:=Nat.xor_lt_two_pow (n:=32) I J
theorem xM (I:a<4294967296)(J:b<4294967296): intV .xor .u32 (a:Int) (b:Int)=some (.int .u32 ((Nat.xor a b:Nat):Int)):=by
 grind[intV,bitsV,Gj,wrap_u32,oN]
theorem PO (I:a<4294967296): intV .and .u32 (a:Int) 1=some (.int .u32 ((a%2:Nat):Int)):=by
 have J:((1:Int)%(2^(IntKind.u32).bits:Int)).toNat=1:=by rfl
 simp only[intV,bitsV]
 rw[Gj I,J]
 have:Nat.land a 1=a%2:=Nat.and_one_is_mod a
 rw[this,wrap_u32 (by omega)]
theorem Dv : shiftV .shr .u32 (a:Int) 1=some (.int .u32 ((a/2:Nat):Int)):=by
 grind[shiftV,IntKind.bits]
theorem W8 {c:Ctx}{w:World}(h:Rel c σ w)(I:rdN σ id off k=some vs): vs.length=k∧∀j,j<k→yZ σ id (off+j)=vs[j]?:=by
 unfold rdN at I
 split at I
 ·rename_i n cs st J
  have hn:n=cs.length:=(h.obj id _ J).1
  grind[aL,beq_iff,yZ,gH]
 ·cases I
def unblk : Code→Code
 |.block _ c=>c
 |c=>c
def unloop : Code→Code
 |.loop c=>c
 |c=>c
noncomputable def jS : Code:=(Tryz.f217.body).getD .skip
noncomputable def jP : Code:=unloop (unblk (cS (leftC (cS (cS jS)))))
noncomputable def oc : Code:=unblk (leftC (cS (cS jP)))
noncomputable def oO : Code:=unloop (unblk (cS (cS (cS oc))))
theorem ij (C:ep)(n:Nat)(c:Code)(s:St): ev C (n+1) c s=evStep C (ev C n) c s:=rfl
theorem wrap_i64 (h:n<9223372036854775808): IntKind.wrap .i64 (n:Int)=(n:Int):=by
 grind[IntKind.bits,IntKind.wrap]
theorem zW (h:n<9223372036854775807): intV .add .i64 (n:Int) 1=some (.int .i64 ((n+1:Nat):Int)):=by
 have:((n:Int)+1)=((n+1:Nat):Int):=by omega
 simp only[intV,this,wrap_i64 (show n+1<9223372036854775808 by omega)]
section
theorem b_ (J:o.guard=none)(hd:o.dst=some d)(I:Nat.blt d n=true):
  evOps C self L (o::rest) ⟨env,n,h⟩=(evOp C self env h o).bind fun r=>evOps C self L rest ⟨env.set d (some r.1),n,r.2⟩:=by
 grind[evOps,wantedV,St.put]
end
noncomputable def Y6 : Code:=leftC oO
noncomputable def vk : Code:=cS (cS oO)
noncomputable def Y7 : Code:=leftC (unblk (leftC vk))
noncomputable def Y8 : Code:=cS (unblk (leftC vk))
noncomputable def S0 : Code:=cS vk
section
variable (n:Nat) (env:Env) (h:H)
theorem PR (I:T.get env 20=some (.int .i64 j)): ev C (n+1) Y6 ⟨env,34,h⟩=some (.normal,⟨env.set 21 (some (.bool (decide ((j:Int)<8)))),34,h⟩):=by
 simp only[Y6,oO,oc,jP,jS,Tryz.f217,iB,leftC,cS,unblk,unloop,ij,evStep,aX]
 rw[b_ rfl rfl rfl]
 simp only[evOp,evO,Env.v,I,ofValue,ofScalar,binV,ikBeq,ah,intV,bF,dw,evOps]
theorem Y9 {x:Nat}(J:x<4294967296)(h5:T.get env 5=some (.int .u32 x)):
  ∃I,ev C (n+1) Y7 ⟨env,34,h⟩=some (.normal,⟨I,34,h⟩)∧T.get I 24=some (.bool (Nat.beq (x%2) 1))∧∀t,t≠22→t≠23→t≠24→T.get I t=T.get env t:=by
 refine⟨((env.set 22 (some (.int .u32 x))).set 23 (some (.int .u32 ((x%2:Nat):Int)))).set 24 (some (.bool (Nat.beq (x%2) 1))),?_,by simp[bh],fun t h1 h2 h3=>by simp[bh,h1,h2,h3]⟩
 simp only[Y7,vk,oO,oc,jP,jS,Tryz.f217,iB,leftC,cS,unblk,unloop,ij,evStep,aX]
 rw[b_ rfl rfl rfl]
 simp only[evOp,evO,Env.v,h5,bF,dw]
 rw[b_ rfl rfl rfl]
 simp only[evOp,evO,Env.v,bh,cQ,ofValue,ofScalar,binV,ikBeq,ah,PO J,bF,dw]
 rw[b_ rfl rfl rfl]
 simp only[evOp,evO,Env.v,bh,cQ,ofValue,ofScalar,binV,ikBeq,ah,intV,bF,dw,evOps]
 rfl
theorem PS {x:Nat}(I:x<4294967296): Nat.xor (x/2) 3988292384<4294967296:=oN (by omega) (by omega)
theorem Y_ {x:Nat}{b:Bool}(hx:x<4294967296)(h5:T.get env 5=some (.int .u32 x))(I:T.get env 24=some (.bool b)):
  ∃J,ev C (n+2) Y8 ⟨env,34,h⟩=some (.normal,⟨J,34,h⟩)∧T.get J 5=some (.int .u32 ((cond b (Nat.xor (x/2) 3988292384) (x/2):Nat):Int))∧∀t,t<25→t≠5→T.get J t=T.get env t:=by
 simp only[Y8,vk,oO,oc,jP,jS,Tryz.f217,iB,leftC,cS,unblk,unloop,ij,evStep,evO,Env.v,I]
 cases b with
 |true =>
  refine⟨(((env.set 25 (some (.int .u32 x))).set 26 (some (.int .u32 ((x/2:Nat):Int)))).set 27 (some (.int .u32 ((Nat.xor (x/2) 3988292384:Nat):Int)))).set 5 (some (.int .u32 ((Nat.xor (x/2) 3988292384:Nat):Int))),?_,by simp[bh],fun t h1 h2 => ?_⟩
  ·simp only[ah,aX]
   rw[b_ rfl rfl rfl]
   simp only[evOp,evO,Env.v,h5,bF,dw]
   rw[b_ rfl rfl rfl]
   simp only[evOp,evO,Env.v,bh,cQ,ofValue,ofScalar,binV,Dv,bF,dw]
   rw[b_ rfl rfl rfl]
   have:=xM (a:=x/2) (b:=3988292384) (by omega) (by omega)
   rw[show((3988292384:Nat):Int)=3988292384 from rfl] at this
   simp only[evOp,evO,Env.v,bh,cQ,ofValue,ofScalar,binV,ikBeq,ah,this,bF,dw]
   rw[b_ rfl rfl rfl]
   simp only[evOp,evO,Env.v,bh,cQ,bF,dw,evOps]
  grind[bh]
 |false =>
  refine⟨((env.set 28 (some (.int .u32 x))).set 29 (some (.int .u32 ((x/2:Nat):Int)))).set 5 (some (.int .u32 ((x/2:Nat):Int))),?_,by simp[bh],fun t h1 h2 => ?_⟩
  ·simp only[aX]
   rw[b_ rfl rfl rfl]
   simp only[evOp,evO,Env.v,h5,bF,dw]
   rw[b_ rfl rfl rfl]
   simp only[evOp,evO,Env.v,bh,cQ,ofValue,ofScalar,binV,Dv,bF,dw]
   rw[b_ rfl rfl rfl]
   simp only[evOp,evO,Env.v,bh,cQ,bF,dw,evOps]
  grind[bh]
theorem W9 (hj:j<8)(I:T.get env 20=some (.int .i64 j)):
  ∃J,ev C (n+1) S0 ⟨env,34,h⟩=some (.normal,⟨J,34,h⟩)∧T.get J 20=some (.int .i64 ((j+1:Nat):Int))∧∀t,t≠20→t≠30→T.get J t=T.get env t:=by
 refine⟨(env.set 30 (some (.int .i64 ((j+1:Nat):Int)))).set 20 (some (.int .i64 ((j+1:Nat):Int))),?_,by simp[bh],fun t h1 h2=>by simp[bh,h1,h2]⟩
 simp only[S0,vk,oO,oc,jP,jS,Tryz.f217,iB,leftC,cS,unblk,unloop,ij,evStep,aX]
 rw[b_ rfl rfl rfl]
 simp only[evOp,evO,Env.v,I,ofValue,ofScalar,binV,ikBeq,ah,zW (show j<9223372036854775807 by omega),bF,dw]
 rw[b_ rfl rfl rfl]
 simp only[evOp,evO,Env.v,bh,cQ,bF,dw,evOps]
section
variable {n:Nat}
theorem kf {a b:Code}(I:ev C n a s=some (.normal,s')): ev C (n+1) (.seq a b) s=ev C n b s':=by grind[ij,evStep]
theorem vN {a b:Code}(I:ev C n a s=some (.exit i,s')): ev C (n+1) (.seq a b) s=some (.exit i,s'):=by grind[ij,evStep]
theorem wT {a b:Code}{t:Bool}(I:evO s.env x=some (.bool t)): ev C (n+1) (.cond x a b) s=ev C n (cond t a b) s:=by grind[ij,evStep]
theorem Ir {c:Code}(h:ev C n c s=some (.normal,s')): ev C (n+1) (.block i c) s=some (.normal,s'):=by grind[ij,evStep]
theorem yQ {c:Code}(h:ev C n c s=some (.exit i,s')): ev C (n+1) (.block i c) s=some (.normal,s'):=by simp_all[ij,evStep]
theorem LP {b:Code}(h:ev C n b s=some (.normal,s')): ev C (n+1) (.loop b) s=ev C n (.loop b) s':=by grind[ij,evStep]
theorem uz {b:Code}(h:ev C n b s=some (.exit i,s')): ev C (n+1) (.loop b) s=some (.exit i,s'):=by grind[ij,evStep]
end
theorem Gk : oO=.seq Y6 (.seq (.cond (.tmp 21) .skip (.exit 2)) vk):=rfl
theorem S1 : vk=.seq (.block 3 (.seq Y7 Y8)) S0:=rfl
theorem NA {x:Nat}(hx:x<4294967296)(hj:j<8)(h5:T.get env 5=some (.int .u32 x))(h20:T.get env 20=some (.int .i64 j)):
  ∃J,ev C (n+9) oO ⟨env,34,h⟩=some (.normal,⟨J,34,h⟩)∧T.get J 5=some (.int .u32 ((crcStep x 1:Nat):Int))∧T.get J 20=some (.int .i64 ((j+1:Nat):Int)) ∧
   ∀t,t<20→t≠5→T.get J t=T.get env t:=by
 have cH:decide ((j:Int)<8)=true:=by grind
 have q7:=PR (C:=C) (n+7) env h h20
 rw[cH] at q7
 have g5:T.get (env.set 21 (some (.bool true))) 5=some (.int .u32 x):=by simp[bh,h5]
 obtain⟨e8,q8,q8a,q8b⟩:=Y9 (C:=C) (n+3) (env.set 21 (some (.bool true))) h hx g5
 have g5':T.get e8 5=some (.int .u32 x):=by grind
 obtain⟨e9,q9,q9a,q9b⟩:=Y_ (C:=C) (n+2) e8 h hx g5' q8a
 have g20:T.get e9 20=some (.int .i64 j):=by
  grind[bh]
 obtain⟨Za,q11,I,aes⟩:=W9 (C:=C) (n+5) e9 h hj g20
 refine⟨Za,?_,?_,I,fun t h1 h2 => ?_⟩
 ·rw[Gk,kf q7,kf (s':=⟨env.set 21 (some (.bool true)),34,h⟩) (by rw[wT (t:=true) (by simp[evO,Env.v,bh])];rfl),S1,
   kf (Ir (by rw[kf q8];exact q9)),q11]
 ·grind[crcStep]
 ·grind[bh]
theorem NB : ∀(k n:Nat) (env:Env) (x:Nat),k≤8→x<4294967296→T.get env 5=some (.int .u32 x)→T.get env 20=some (.int .i64 ((8-k:Nat):Int)) →
  ∃J,ev C (n+10+k) (.loop oO) ⟨env,34,h⟩=some (.exit 2,⟨J,34,h⟩)∧T.get J 5=some (.int .u32 ((crcStep x k:Nat):Int))∧∀t,t<20→t≠5→T.get J t=T.get env t:=by
 intro k
 induction k with
 |zero =>
  intro n env x _ hx h5 I
  have q7:=PR (C:=C) (n+7) env h I
  refine⟨env.set 21 (some (.bool false)),?_,by simp[bh,h5,crcStep],fun t h1 h2 => ?_⟩
  ·refine uz ?_
   rw[Gk,kf q7]
   exact vN (by rw[wT (t:=false) (by simp[evO,Env.v,bh])];rfl)
  grind[bh]
 |succ k ih =>
  intro n env x hk hx h5 I
  obtain⟨e1,q1,q2,q3,q4⟩:=NA (C:=C) (n+1+k) env h hx (show 8-(k+1)<8 by omega) h5 I
  have h8:8-(k+1)+1=8-k:=by omega
  rw[h8] at q3
  have Gm:crcStep x 1<4294967296:=by
   grind[crcStep,PS]
  obtain⟨e2,p1,p2,p3⟩:=ih n e1 (crcStep x 1) (by omega) Gm q2 q3
  refine⟨e2,?_,?_,fun t h1 h2=>by grind⟩
  ·grind[LP]
  ·rw[p2];simp only[crcStep]
end
noncomputable def Zb : Code:=leftC jP
noncomputable def HF : Code:=cS (cS jP)
noncomputable def S2 : Code:=cS HF
noncomputable def Zc : Code:=leftC oc
noncomputable def Zd : Code:=leftC (cS oc)
noncomputable def mR6 : Code:=leftC (cS (cS oc))
theorem S3 : oc=.seq Zc (.seq Zd (.seq mR6 (.block 2 (.loop oO)))):=rfl
theorem zX : jP=.seq Zb (.seq (.cond (.tmp 13) .skip (.exit 0)) HF):=rfl
theorem S4 : HF=.seq (.block 1 oc) S2:=rfl
theorem eA : bB Tryz.prog 5=some 1:=by kernel_rfl
theorem LQ : isAggT Tryz.prog 5=some false:=by kernel_rfl
section
variable {told:cJ} (n:Nat) (env:Env) (h:H)
theorem Is {len:Nat}(I:T.get env 12=some (.int .i64 i))(J:T.get env 11=some (.int .i64 len)):
  ev ⟨Tryz.prog,told⟩ (n+1) Zb ⟨env,34,h⟩=some (.normal,⟨env.set 13 (some (.bool (decide ((i:Int)<(len:Int))))),34,h⟩):=by
 simp only[Zb,jP,jS,Tryz.f217,iB,leftC,cS,unblk,unloop,ij,evStep,aX]
 rw[b_ rfl rfl rfl]
 simp_all[evOp,evO,Env.v,binV,ikBeq,intV,bF,evOps]
theorem Ze {len:Nat}{cap:Cap}(hi:i<len)(I:T.get env 12=some (.int .i64 i))(J:T.get env 10=some (.sl id off len cap))(hb:yZ h id (off+i)=some (.int .u8 b)):
  ∃e',ev ⟨Tryz.prog,told⟩ (n+1) Zc ⟨env,34,h⟩=some (.normal,⟨e',34,h⟩)∧T.get e' 7=some (.int .u8 b)∧∀t,t≠7→t≠14→t≠15→T.get e' t=T.get env t:=by
 refine⟨((env.set 14 (some (.ptr id (off+i)))).set 15 (some (.int .u8 b))).set 7 (some (.int .u8 b)),?_,by simp[bh],fun t h1 h2 h3=>by simp[bh,h1,h2,h3]⟩
 simp only[Zc,oc,jP,jS,Tryz.f217,iB,leftC,cS,unblk,unloop,ij,evStep,aX]
 rw[b_ rfl rfl rfl]
 have d1:decide ((0:Int)≤(i:Int))=true:=by simp
 have d2:decide ((i:Int)<(len:Int))=true:=by grind
 simp only[evOp,evO,Env.v,J,I,indexAddrV,aJ,eA,d1,d2,iT,ah,cL,iV,bF,dw]
 rw[b_ rfl rfl rfl]
 simp only[evOp,evO,Env.v,bh,cQ,loadV,LQ,hb,bF,dw]
 rw[b_ rfl rfl rfl]
 simp only[evOp,evO,Env.v,bh,cQ,bF,dw,evOps]
theorem Zf {x:Nat}(hx:x<4294967296)(hb:b<256)(h5:T.get env 5=some (.int .u32 x))(h7:T.get env 7=some (.int .u8 b)):
  ∃I,ev ⟨Tryz.prog,told⟩ (n+1) Zd ⟨env,34,h⟩=some (.normal,⟨I,34,h⟩)∧T.get I 5=some (.int .u32 ((Nat.xor x b:Nat):Int))∧∀t,t<16→t≠5→T.get I t=T.get env t:=by
 refine⟨((((env.set 16 (some (.int .u32 x))).set 17 (some (.int .u8 b))).set 18 (some (.int .u32 b))).set 19 (some (.int .u32 ((Nat.xor x b:Nat):Int)))).set 5 (some (.int .u32 ((Nat.xor x b:Nat):Int))),?_,by simp[bh],fun t h1 h2 => ?_⟩
 ·simp only[Zd,oc,jP,jS,Tryz.f217,iB,leftC,cS,unblk,unloop,ij,evStep,aX]
  rw[b_ rfl rfl rfl]
  simp only[evOp,evO,Env.v,h5,bF,dw]
  rw[b_ rfl rfl rfl]
  have g7:T.get (env.set 16 (some (.int .u32 x))) 7=some (.int .u8 b):=by simp[bh,h7]
  simp only[evOp,evO,Env.v,g7,bF,dw]
  rw[b_ rfl rfl rfl]
  simp only[evOp,evO,Env.v,bh,cQ,convV,Tryz.underlying5,Tryz.underlying285,wrap_u32 (show b<4294967296 by omega),dw]
  rw[b_ rfl rfl rfl]
  have J:T.get (((env.set 16 (some (.int .u32 x))).set 17 (some (.int .u8 b))).set 18 (some (.int .u32 b))) 16=some (.int .u32 x):=by simp[bh]
  have g18:T.get (((env.set 16 (some (.int .u32 x))).set 17 (some (.int .u8 b))).set 18 (some (.int .u32 b))) 18=some (.int .u32 b):=by simp[bh]
  simp only[evOp,evO,Env.v,J,g18,binV,ikBeq,ah,xM hx (show b<4294967296 by omega),bF,dw]
  rw[b_ rfl rfl rfl]
  simp only[evOp,evO,Env.v,bh,cQ,bF,dw,evOps]
 grind[bh]
theorem Zg : ev ⟨Tryz.prog,told⟩ (n+1) mR6 ⟨env,34,h⟩=some (.normal,⟨env.set 20 (some (.int .i64 0)),34,h⟩):=by
 rfl
theorem W_ (hi:i<9223372036854775807)(I:T.get env 12=some (.int .i64 i)):
  ∃J,ev ⟨Tryz.prog,told⟩ (n+1) S2 ⟨env,34,h⟩=some (.normal,⟨J,34,h⟩)∧T.get J 12=some (.int .i64 ((i+1:Nat):Int))∧∀t,t≠12→t≠31→T.get J t=T.get env t:=by
 refine⟨(env.set 31 (some (.int .i64 ((i+1:Nat):Int)))).set 12 (some (.int .i64 ((i+1:Nat):Int))),?_,by simp[bh],fun t h1 h2=>by simp[bh,h1,h2]⟩
 simp only[S2,HF,jP,jS,Tryz.f217,iB,leftC,cS,unblk,unloop,ij,evStep,aX]
 rw[b_ rfl rfl rfl]
 simp only[evOp,evO,Env.v,I,ofValue,ofScalar,binV,ikBeq,ah,zW hi,bF,dw]
 rw[b_ rfl rfl rfl]
 simp only[evOp,evO,Env.v,bh,cQ,bF,dw,evOps]
theorem Dw : ∀(k x:Nat),x<4294967296→crcStep x k<4294967296:=by
 intro k
 induction k<;>grind[crcStep,PS]
theorem S5 {x len:Nat}{cap:Cap}(hx:x<4294967296)(hb:b<256)(hi:i<len)(h5:T.get env 5=some (.int .u32 x))(I:T.get env 12=some (.int .i64 i))(J:T.get env 10=some (.sl id off len cap))
 (hr:yZ h id (off+i)=some (.int .u8 b)):
  ∃e',ev ⟨Tryz.prog,told⟩ (n+22) oc ⟨env,34,h⟩=some (.normal,⟨e',34,h⟩)∧T.get e' 5=some (.int .u32 ((crcStep (Nat.xor x b) 8:Nat):Int))∧∀t,t=10∨t=11∨t=12→T.get e' t=T.get env t:=by
 obtain⟨e4,q4,Zh,q4b⟩:=Ze (told:=told) (n+20) env h hi I J hr
 obtain⟨e5,q5,q5a,q5b⟩:=Zf (told:=told) (n+19) e4 h hx hb (by grind) Zh
 have q6:=Zg (told:=told) (n+18) e5 h
 obtain⟨e2,q2,Vr,Vs⟩:=NB (C:=⟨Tryz.prog,told⟩) h 8 n (e5.set 20 (some (.int .i64 0))) (Nat.xor x b) (by omega) (oN hx (by omega)) (by simp[bh,q5a]) (by simp[bh])<;>simp_all[bh,S3,kf,yQ]
theorem NC {len:Nat}{cap:Cap}(hlen:len<9223372036854775807): ∀(l:List Nat) (i n:Nat) (env:Env) (x:Nat),i+l.length=len→x<4294967296→(∀b∈l,b<256) →
  (∀j b:Nat,l[j]?=some b→yZ h id (off+(i+j))=some (.int .u8 (b:Int)))→T.get env 5=some (.int .u32 x)→T.get env 12=some (.int .i64 i)→T.get env 10=some (.sl id off len cap)→T.get env 11=some (.int .i64 len) →
  ∃e',ev ⟨Tryz.prog,told⟩ (n+30+l.length) (.loop jP) ⟨env,34,h⟩=some (.exit 0,⟨e',34,h⟩)∧T.get e' 5=some (.int .u32 ((crcL x l:Nat):Int)):=by
 intro l
 induction l with
 |nil =>
  intro i n env x hi hx _ _ h5 I h10 Zi
  have q3:=Is (told:=told) (n+27) env h I Zi
  have hd:decide ((i:Int)<(len:Int))=false:=by grind
  rw[hd] at q3
  refine⟨env.set 13 (some (.bool false)),?_,by simp[bh,h5,crcL]⟩
  refine uz ?_
  rw[zX,kf q3]
  exact vN (by rw[wT (t:=false) (by simp[evO,Env.v,bh])];rfl)
 |cons b l ih =>
  intro i n env x hi hx Gn lQ h5 I h10 Zi
  simp only[bz] at hi
  have q3:=Is (told:=told) (n+l.length+28) env h I Zi
  have hd:decide ((i:Int)<(len:Int))=true:=by grind
  rw[hd] at q3
  have hb:b<256:=Gn b (by simp)
  have hr:=lQ 0 b (by simp)
  rw[l8] at hr
  obtain⟨e1,q1,q1a,q1b⟩:=S5 (told:=told) (cap:=cap) (n+l.length+4) (env.set 13 (some (.bool true))) h hx hb (show i<len by omega) (by simp[bh,h5]) (by simp[bh,I]) (by simp[bh,h10]) hr
  obtain⟨e2,q2,Vr,Vs⟩:=W_ (told:=told) (n+l.length+26) e1 h (show i<9223372036854775807 by omega) (by grind[bh])
  have mQ:crcStep (Nat.xor x b) 8<4294967296:=Dw 8 _ (oN hx (by omega))
  obtain⟨e3,q3',Zj⟩:=ih (i+1) n e2 (crcStep (Nat.xor x b) 8) (by omega) mQ (fun c hc=>Gn c (by grind)) (fun j c hj=>by
   have:=lQ (j+1) c (by grind)
   rwa [show i+(j+1)=i+1+j from by omega] at this) (by grind) Vr (by grind[bh]) (by grind[bh])
  refine⟨e3,?_,by rw[Zj];simp only[crcL]⟩
  have J:ev ⟨Tryz.prog,told⟩ (n+l.length+30) jP ⟨env,34,h⟩=some (.normal,⟨e2,34,h⟩):=by
   rw[zX,kf q3,kf (s':=⟨env.set 13 (some (.bool true)),34,h⟩) (by rw[wT (t:=true) (by simp[evO,Env.v,bh])];rfl),S4,
    kf (Ir q1),q2]
  rw[bz,show n+30+(l.length+1)=(n+l.length+30)+1 from by omega,LP J,show n+l.length+30=n+30+l.length from by omega]
  exact q3'
noncomputable def mR0 : Code:=leftC jS
noncomputable def Zk : Code:=leftC (cS jS)
noncomputable def Zl : Code:=leftC (leftC (cS (cS jS)))
noncomputable def S6 : Code:=cS (cS (cS jS))
theorem S7 : jS=.seq mR0 (.seq Zk (.seq (.seq Zl (.block 0 (.loop jP))) S6)):=rfl
theorem Zm : ev ⟨Tryz.prog,told⟩ (n+1) mR0 ⟨env,34,h⟩=some (.normal,⟨env.set 4 (some (.int .u32 0)),34,h⟩):=by
 rfl
theorem Zn {x:Nat}(J:x<4294967296)(h0:T.get env 0=some (.int .u32 x)):
  ∃I,ev ⟨Tryz.prog,told⟩ (n+1) Zk ⟨env,34,h⟩=some (.normal,⟨I,34,h⟩)∧T.get I 5=some (.int .u32 ((Nat.xor x 4294967295:Nat):Int))∧∀t,t≠5→t≠8→t≠9→T.get I t=T.get env t:=by
 refine⟨((env.set 8 (some (.int .u32 x))).set 9 (some (.int .u32 ((Nat.xor x 4294967295:Nat):Int)))).set 5 (some (.int .u32 ((Nat.xor x 4294967295:Nat):Int))),?_,by simp[bh],fun t h1 h2 h3=>by simp[bh,h1,h2,h3]⟩
 simp only[Zk,jS,Tryz.f217,iB,leftC,cS,ij,evStep,aX]
 rw[b_ rfl rfl rfl]
 simp only[evOp,evO,Env.v,h0,bF,dw]
 rw[b_ rfl rfl rfl]
 have:=xM (a:=x) (b:=4294967295) J (by omega)
 rw[show((4294967295:Nat):Int)=4294967295 from rfl] at this
 simp only[evOp,evO,Env.v,bh,cQ,ofValue,ofScalar,binV,ikBeq,ah,this,bF,dw]
 rw[b_ rfl rfl rfl]
 simp only[evOp,evO,Env.v,bh,cQ,bF,dw,evOps]
theorem Zo {x:V}{len:Nat}(J:T.get env 1=some x)(hl:lenV Tryz.prog h 23 x=some (.int .i64 len)):
  ∃I,ev ⟨Tryz.prog,told⟩ (n+1) Zl ⟨env,34,h⟩=some (.normal,⟨I,34,h⟩)∧T.get I 10=some x∧T.get I 11=some (.int .i64 len)∧T.get I 12=some (.int .i64 ((0:Nat):Int))∧T.get I 5=T.get env 5:=by
 refine⟨((env.set 10 (some x)).set 11 (some (.int .i64 len))).set 12 (some (.int .i64 0)),?_,by simp[bh],by simp[bh],by simp[bh],by simp[bh]⟩
 simp only[Zl,jS,Tryz.f217,iB,leftC,cS,ij,evStep,aX]
 rw[b_ rfl rfl rfl]
 simp only[evOp,evO,Env.v,J,bF,dw]
 rw[b_ rfl rfl rfl]
 simp only[evOp,evCall,evArgs,evO,Env.v,bh,cQ,builtinV,hl,lY,dw]
 rw[b_ rfl rfl rfl]
 simp only[evOp,evO,ofValue,ofScalar,bF,dw,evOps]
theorem Xa {x:Nat}(J:x<4294967296)(h5:T.get env 5=some (.int .u32 x)):
  ∃I,ev ⟨Tryz.prog,told⟩ (n+2) S6 ⟨env,34,h⟩=some (.ret,⟨I,34,h⟩)∧T.get I 4=some (.int .u32 ((Nat.xor x 4294967295:Nat):Int)):=by
 refine⟨((env.set 32 (some (.int .u32 x))).set 33 (some (.int .u32 ((Nat.xor x 4294967295:Nat):Int)))).set 4 (some (.int .u32 ((Nat.xor x 4294967295:Nat):Int))),?_,by simp[bh]⟩
 simp only[S6,jS,Tryz.f217,iB,cS,ij,evStep,aX]
 rw[b_ rfl rfl rfl]
 simp only[evOp,evO,Env.v,h5,bF,dw]
 rw[b_ rfl rfl rfl]
 have:=xM (a:=x) (b:=4294967295) J (by omega)
 rw[show((4294967295:Nat):Int)=4294967295 from rfl] at this
 simp only[evOp,evO,Env.v,bh,cQ,ofValue,ofScalar,binV,ikBeq,ah,this,bF,dw]
 rw[b_ rfl rfl rfl]
 simp only[evOp,evO,Env.v,bh,cQ,bF,dw,evOps]
end
theorem ND : ∀(cs:List V) (l:List Nat),bytesIn cs=some l→cs=l.map (fun(b:Nat)=>V.int .u8 (b:Int))∧∀b∈l,b<256:=by
 intro cs
 induction cs with
 |nil=>grind[bytesIn]
 |cons v cs I =>
  intro l h
  unfold bytesIn at h
  grind
theorem Fu : ∀(l:List Nat) (x:Nat),x<4294967296→(∀b∈l,b<256)→crcL x l<4294967296:=by
 intro l
 induction l with
 |nil=>intro x I _;exact I
 |cons b l ih =>
  intro x I J
  have h1:=J b (by simp)
  exact ih _ (Dw 8 _ (oN I (by omega))) (fun c hc=>J c (by grind))
theorem CD {s : Int} {x : V} {len : Nat} (hs0 : 0 ≤ s) (g_ : s < 4294967296) (hl : lenV Tryz.prog σ 23 x = some (.int .i64 len)) (hlen : len = l.length) (kC : len < 9223372036854775807)
  (hb : ∀ b ∈ l, b < 256) (hx : l = [] ∨ ∃ id off cap, x = .sl id off len cap ∧ ∀ j b : Nat, l[j]? = some b → yZ σ id (off + (0 + j)) = some (.int .u8 (b : Int))) :
  run ⟨Tryz.prog, fun _ => none⟩ (l.length + 40) 217 [.int .u32 s, x] σ = some (wS s l, σ) := by
 obtain ⟨u, rfl⟩ : ∃ u : Nat, s = (u : Int) := ⟨s.toNat, by omega⟩
 have hu : u < 4294967296 := by omega
 have q0 := Zm (told := fun _ => none) (l.length + 38) (bindArgs [.int .u32 u, x] 0 .lf) σ
 obtain ⟨e1, q1, q1a, q1b⟩ := Zn (told := fun _ => none) (l.length + 37) ((bindArgs [.int .u32 u, x] 0 .lf).set 4 (some (.int .u32 0))) σ hu (by rfl)
 obtain ⟨e2, q2, Vr, Vs, q2c, q2d⟩ := Zo (told := fun _ => none) (l.length + 35) e1 σ (x := x) (by grind [bh, bindArgs]) hl
 have I : Nat.xor u 4294967295 < 4294967296 := oN hu (by omega)
 have J : ∃ e', ev ⟨Tryz.prog, fun _ => none⟩ (5 + 30 + l.length) (.loop jP) ⟨e2, 34, σ⟩ = some (.exit 0, ⟨e', 34, σ⟩) ∧ T.get e' 5 = some (.int .u32 ((crcL (Nat.xor u 4294967295) l : Nat) : Int)) := by
  rcases hx with rfl | ⟨id, off, cap, rfl, lQ⟩
  ·have q3 := Is (told := fun _ => none) 32 e2 σ q2c Vs
   have hd : decide ((((0 : Nat) : Int)) < (len : Int)) = false := by grind
   rw [hd] at q3
   refine ⟨e2.set 13 (some (.bool false)), ?_, by simp [bh, q2d, q1a, crcL]⟩
   refine uz ?_
   rw [zX, kf q3]
   exact vN (by rw [wT (t := false) (by simp [evO, Env.v, bh])]; rfl)
  ·exact NC σ kC l 0 5 e2 _ (by omega) I hb lQ (by grind) q2c Vr Vs
 obtain ⟨e3, q3, Zj⟩ := J
 obtain ⟨e4, q4, Zh⟩ := Xa (told := fun _ => none) (l.length + 35) e3 σ (Fu l _ I hb) Zj
 have aaZ : ev ⟨Tryz.prog, fun _ => none⟩ (l.length + 40) jS ⟨bindArgs [.int .u32 u, x] 0 .lf, 34, σ⟩ = some (.ret, ⟨e4, 34, σ⟩) := by
  rw [S7, kf q0, kf q1, kf (s' := ⟨e3, 34, σ⟩) (by
   rw [kf q2]
   grind [yQ]), q4]
 unfold run callF
 simp only [Dq]
 rw [show Tryz.f217.body = some jS from rfl]
 rw [show (Tryz.f217.name == "runtime.NumGoroutine" || Nat.blt Tryz.f217.ntmps [V.int .u32 (u : Int), x].length) = false from rfl]
 simp only [aX]
 rw [show Tryz.f217.ntmps = 34 from rfl, aaZ]
 simp only
 rw [show Tryz.f217.results = #[.tmp 4] from rfl]
 simp only [mapO, resV, Env.v, Zh, wS, cL]
section
variable {c:Ctx} {w:World}
theorem KS (hP:C.P=Tryz.prog)(hm:C.P.follows .mixedOrders=true){v:V}(I:toldMore args σ=some (v,dz))(h:Rel c σ w)(hw:∀x∈args,wf c x):
  fe C.P 217 args c w v dz:=by
 rw[hP] at hm ⊢
 have hT:eM ⟨Tryz.prog,fun _=>none⟩:=fun f g hg=>by cases hg
 unfold toldMore at I
 split at I
 ·rename_i s id off len cap
  cases J:(decide (0≤s)&&decide (s<4294967296)&&Nat.ble len 4611686018427387904) with
  |false=>grind
  |true =>
   rw[J,ah] at I
   simp only[bH,ie,aL] at J
   obtain⟨hd,kC⟩:=J
   cases lQ:rdN σ id off len with
   |none=>grind
   |some cs =>
    simp only[lQ] at I
    cases hb:bytesIn cs with
    |none=>grind
    |some l =>
     simp only[hb,aB,bC] at I
     obtain⟨rfl,rfl⟩:=I
     obtain⟨b1,b2⟩:=ND cs l hb
     obtain⟨d1,d2⟩:=W8 h lQ
     have hl:len=l.length:=by grind
     refine Iq (C:=⟨Tryz.prog,fun _=>none⟩) hm hT (CD hd.1 hd.2 (len:=len) (by simp[lenV,aJ]) hl (by omega) b2 (.inr ⟨id,off,cap,rfl,fun j b hj => ?_⟩)) h hw
     ·grind
 ·rename_i s
  cases hd:(decide (0≤s)&&decide (s<4294967296)) with
  |false=>grind
  |true =>
   rw[hd,ah] at I
   simp only[bH,ie] at hd
   obtain⟨rfl,rfl⟩:=I
   exact Iq (C:=⟨Tryz.prog,fun _=>none⟩) hm hT (CD hd.1 hd.2 (len:=0) (l:=[]) (by simp[lenV,aJ]) rfl (by omega) (by simp) (.inl rfl)) h hw
 ·rename_i s _
  cases hd:(decide (0≤s)&&decide (s<4294967296)) with
  |false=>grind
  |true =>
   rw[hd,ah] at I
   simp only[bH,ie] at hd
   obtain⟨rfl,rfl⟩:=I
   exact Iq (C:=⟨Tryz.prog,fun _=>none⟩) hm hT (CD hd.1 hd.2 (len:=0) (l:=[]) (by simp[lenV,aJ]) rfl (by omega) (by simp) (.inl rfl)) h hw
 ·cases I
end
end Go.Proofs.YtiojppeahfoiaaaGreat.Am
namespace Go.Proofs.YtiojppeahfoiaaaGreat.Am
open Go Go.Maps Go.RowKit
variable {ps:Array (Nat×Operand)} {ops:Array Oper} {C:ep} {code:Code} {c₀:Ctx} {env:Env} {Q:Ex→List (Nat×V)→H→Prop} {fn:Func} {f:FuncId} {cl:Go.Call} {h h' σ h₁ dz:H} {κ:IntKind} {E E':List (Nat×V)} {R:List (Nat×V)→H→Prop} {d₀:List Deferred} {hs:List H} {eF es l:List Nat} {L rest:List Oper} {args first cap vs cs ds:List V} {a b i c k id n d off j g nE k' q:Nat} {Hs:Nat→H} {early:Nat→Option (Nat×FV)} {Fl:Nat→Prop} {vv:Nat→V} {o':Obj} {o:Oper} {x y:Operand} {P:Program} {φ:Prop} {self:Self} {s s':St} {α:Type} {td:TypeDesc} {t t' e kt et:TypeId} {r u z:V} {zT:V→H→Prop} {w₀:World}
def keyInts : List (V×V×Nat)→Option (List Int)
 |[]=>some []
 |(.int .i64 n,_,_)::l=>cond (Lit.int .i64 n).wf (match keyInts l with
  |some m=>some (n::m)
  |none=>none) none
 |_=>none
def bornUp (clock:Nat): Nat→List (V×V×Nat)→Bool
 |_,[]=>true
 |b,(_,_,x)::l=>cond (Nat.ble b x&&Nat.blt x clock) (bornUp clock (x+1) l) false
def insI (x:Int): List Int→List Int
 |[]=>[x]
 |y::l=>cond (decide (x≤y)) (x::y::l) (y::insI x l)
def nc : List Int→List Int
 |[]=>[]
 |x::l=>insI x (nc l)
def sx : List Int→Bool
 |[]=>true
 |x::l=>l.all (fun y=>decide (x<y))&&sx l
def dY (l:List Int): List V:=l.map (V.int .i64)
noncomputable def toldSorted (gs:List Nat): List V→H→Option (V×H)
 |[.fn (.func g) [] [.ptr b 0]],h=>match h.tr.get b with
  |some (.cells n [.map id] false)=>match h.tr.get id with
   |some (.map es clock)=>cond (Nat.beq n 1&&xw gs g&&bornUp clock 0 es&&Nat.ble es.length 1048576) (match keyInts es with
    |some ks=>cond (sx (nc ks)) (match ks with
     |[]=>some (.aY,h)
     |_=>some (.sl h.next 0 ks.length (.rest 1 0),newRow h (dY (nc ks)))) none
    |none=>none) none
   |_=>none
  |_=>none
 |_,_=>none
theorem zZ (x:Int): ∀l:List Int,(insI x l).Perm (x::l)
 |[]=>.refl _
 |y::l=>by
  simp only[insI]
  cases decide (x≤y) with
  |true=>rfl
  |false=>exact((zZ x l).cons y).trans (.swap x y l)
theorem eR : ∀l:List Int,(nc l).Perm l
 |[]=>.refl _
 |x::l=>(zZ x _).trans ((eR l).cons x)
theorem Gp : ∀l:List Int,sx l=true→l.Pairwise (· < ·)
 |[],_=>.nil
 |x::l,h=>by
  simp only[sx,bH,tK,ie] at h
  exact List.pairwise_cons.2 ⟨h.1,Gp l h.2⟩
theorem wU : ∀ {l m:List Int},l.Perm m→l.Pairwise (· ≤ ·)→m.Pairwise (· ≤ ·)→l=m
 |[],m,I,_,_=>I.nil_eq
 |a::r,[],I,_,_=>absurd I.symm.nil_eq (by simp)
 |a::r,b::s,I,h1,h2=>by
  obtain⟨a1,a2⟩:=List.pairwise_cons.1 h1
  obtain⟨b1,b2⟩:=List.pairwise_cons.1 h2
  have J:a=b:=by
   have ha:a∈b::s:=I.mem_iff.1 (by simp)
   have hb:b∈a::r:=I.mem_iff.2 (by simp)
   grind
  subst J
  rw[wU (List.Perm.cons_inv I) a2 b2]
theorem Gq {clock:Nat}: ∀(l:List (V×V×Nat)) (b:Nat),bornUp clock b l=true→(∀x∈l,b≤x.2.2∧x.2.2<clock)∧(l.map (·.2.2)).Nodup
 |[],_,_=>⟨by simp,by simp⟩
 |(k,v,x)::l,b,h=>by
  simp only[bornUp] at h
  cases I:(Nat.ble b x&&Nat.blt x clock) with
  |false=>grind
  |true =>
   rw[I,ah] at h
   simp only[bH,aL,ig] at I
   obtain⟨i1,i2⟩:=Gq l (x+1) h<;>grind
theorem Dx {c:Ctx}: ∀(l:List (V×V×Nat)) (ks:List Int),keyInts l=some ks→l.map (fun x=>conc c x.1)=ks.map (Value.int .i64)∧∀n∈ks,(Lit.int .i64 n).wf=true
 |[],ks,h=>by grind[keyInts]
 |(k,v,b)::l,ks,h=>by
  unfold keyInts at h
  split at h
  ·grind
  ·rename_i n v' I J he
   obtain⟨⟨rfl,rfl,rfl⟩,rfl⟩:=he
   cases hw:(Lit.int .i64 n).wf with
   |false=>grind
   |true =>
    cases hm:keyInts l with
    |none=>grind
    |some m =>
     simp[hw,hm] at h
     obtain⟨i1,i2⟩:=Dx (c:=c) l m hm<;>grind[conc]
  ·cases h
section
variable {c:Ctx} {w w':World}
theorem Rel.below (h:Rel c σ w)(I:Below w.heap.size w w'): Rel c σ w'∧cC c w c w':=by
 have rows:∀b,b<w.heap.size→rowSize w' b=rowSize w b:=fun b J=>by unfold rowSize;rw[I.block b J]
 refine⟨⟨h.next,h.live,fun id hi=>gQ (h.lP id hi) I.size,fun id hi=>by rw[rows _ (h.lP id hi)];exact h.zz id hi,h.inj,
  fun id o ho=>(h.obj id o ho).later (Ext.refl c) (h.live id o ho) (I.block _ (h.lP id (h.live id o ho))),h.one,h.fx⟩,
  ⟨Ext.refl c,I.size,rows,fun b J _=>I.block b J,fun id h1 h2=>by omega,I.os,I.output⟩⟩
theorem Rel.take {C:Array Value}{T:TypeId}(h:Rel c σ w)(hb:b<w.heap.size)(hr:∀id,id<c.N→(c.ρ id).1≠b)(J:∀v∈cs,wf c v∧storable v=true)
 (hg:w.heap[b]?=some (.cells C T (0,0)))(hC:C.toList.take cs.length=cs.map (conc c)): Rel (c.grow b 0 C.size) (Am.newRow σ cs) w:=by
 have e:=rR hr 0 C.size
 have hN:(c.grow b 0 C.size).N=c.N+1:=rfl
 have hle:cs.length≤C.size:=by
  have:=iW List.length hC
  simp at this
  omega
 have key:∀i o,(Am.newRow σ cs).tr.get i=some o→(i=c.N∧o=.cells cs.length cs false)∨(i<c.N∧σ.tr.get i=some o):=by
  intro i o hi
  rw[Am.newRow,gT,h.next] at hi
  by_cases h1:i=c.N
  ·grind
  ·simp[h1] at hi;exact .inr ⟨h.live i o hi,hi⟩
 refine⟨by simp[Am.newRow,H.new,Ctx.grow,h.next],fun i o hi => ?_,fun i hi => ?_,fun i hi => ?_,fun i j o o' hi hj he => ?_,fun i o hi => ?_,fun i yF nu hi hx => ?_,fun i o hi hx => ?_⟩
 ·grind
 ·by_cases h1:i=c.N
  ·grind[bG]
  ·rw[dH c _ _ _ (by omega)];exact h.lP i (by omega)
 ·by_cases h1:i=c.N
  ·grind[Ctx.grow,rowSize]
  ·rw[dH c _ _ _ (by omega),←h.zz i (by omega)];simp[Ctx.grow,hr i (by omega)]
 ·rcases key i o hi with⟨I,_⟩|⟨I,a2⟩<;>rcases key j o' hj with⟨b1,_⟩|⟨b1,b2⟩
  ·omega
  ·grind[bG,dH]
  ·grind[bG,dH]
  ·rw[dH c _ _ _ I,dH c _ _ _ b1] at he;rw[gy c _ _ _ I,gy c _ _ _ b1];exact h.inj i j _ _ a2 b2 he
 ·rcases key i o hi with⟨rfl,rfl⟩|⟨I,a2⟩
  ·refine⟨rfl,fun v hv=>⟨(cu e v (J v hv).1).2,(J v hv).2⟩,C,T,(0,0),by rw[bG];exact hg,by grind[bG],fun j v hj => ?_,rfl⟩
   rw[bG,(cu e v (J v (bK hj)).1).1]
   have h1:(C.toList.take cs.length)[j]?=some (conc c v):=by grind
   grind
  ·exact(h.obj i o a2).later e I rfl
 ·rcases key i _ hi with⟨rfl,_⟩|⟨I,a2⟩
  ·rw[bG]
  ·rw[gy c _ _ _ I] at hx
   rw[dH c _ _ _ I];exact h.one i yF nu a2 hx
 ·rcases key i o hi with⟨rfl,_⟩|⟨I,a2⟩
  ·grind[xA]
  ·rw[gy c _ _ _ I] at hx;exact h.fx i o a2 hx
def oP (_:Value): Option (DataW Unit×List MemPlace):=some (.nil,[])
def Gr (P:Program)(f K:Nat)(gs:List Nat): Prop:=∀g∈gs,∀(Bm b nn:Nat) (I:DataW Unit) (w:World),Bm<w.heap.size→w.cell? ⟨Bm,0,none⟩=some (.map (some b)) →
 w.ownsMap P K oP b nn I→Maps.size I≤maxLen→Maps.size I*8≤140737488355328 →
 Calls P f #[.func (.func g) #[] #[.pointer (some ⟨Bm,0,none⟩)]] w fun e w'=>∃(v:Value) (J:List Int),e=.returned v∧J.Perm (intKeys I) ∧
  w'.ownsRow w.heap.size K 1 v J.length ((J.mergeSort (fun x y=>decide (x≤y))).map encZ)∧(v=.slice none 0 0↔J=[])∧Below w.heap.size w w'
set_option maxHeartbeats 1000000 in
theorem Hv {f K:Nat}{gs:List Nat}(hK:P.underlying K=some (.int .i64))(hS:Gr P f K gs){v:V}(I:toldSorted gs args σ=some (v,dz))
 (h:Rel c σ w): fe P f args c w v dz:=by
 unfold toldSorted at I
 split at I
 ·rename_i g b
  split at I
  ·rename_i n id Vt
   split at I
   ·rename_i es clock hgm
    cases hq:(Nat.beq n 1&&xw gs g&&bornUp clock 0 es&&Nat.ble es.length 1048576) with
    |false=>grind
    |true =>
     rw[hq,ah] at I
     simp only[bH,beq_iff,aL,CC] at hq
     obtain⟨⟨⟨q1,q2⟩,q3⟩,q4⟩:=hq
     subst q1
     cases hk:keyInts es with
     |none=>grind
     |some ks =>
      simp only[hk] at I
      cases J:sx (nc ks) with
      |false=>grind
      |true =>
       simp only[J,ah] at I
       obtain⟨k1,k2⟩:=Dx (c:=c) es ks hk
       obtain⟨b1,b2⟩:=Gq es 0 q3
       have cH:=Gp _ J
       have ju:ks.Nodup:=(eR ks).nodup_iff.1 (cH.imp fun {a b} oL=>by omega)
       have xN:=h.one b _ _ Vt (h.Fe Vt (by simp))
       have xz:=cell_of h Vt (j:=0) (v:=.map id) rfl
       have acw:g8 c b 0=⟨(c.ρ b).1,0,none⟩:=by simp[g8,xN]
       rw[acw] at xz
       have Zp:w.cell? ⟨(c.ρ b).1,0,none⟩=some (.map (some (c.ρ id).1)):=by simpa[conc] using xz
       obtain⟨m1,m2⟩:=h.obj id _ hgm
       have HG:∀x∈es,∃n,n∈ks∧(cR c x).key=.int .i64 n:=fun x hx=>by
        have:conc c x.1∈ks.map (Value.int .i64):=by grind
        obtain⟨n,hn,he⟩:=List.mem_map.1 this
        exact⟨n,hn,he.symm⟩
       have lQ:∀x∈es,∀n,(cR c x).key=.int .i64 n→n∈ks→WideElems.rd P K oP (cR c x)=some (.int .i64 n,.nil):=fun x hx n hn hm=>by
        grind[WideElems.rd,Maps.keyOf_int_mk,oP]
       have acy:w.ownsMap P K oP (c.ρ id).1 es.length (.map (((es.map (cR c)).toArray.toList.map (WideElems.rg P K oP)).foldr DataW.insert [])):=by
        refine⟨(es.map (cR c)).toArray,clock,m2,⟨by simp[maxLen];omega,⟨fun x hx => ?_,?_,?_⟩,fun x hx => ?_⟩,by simp,rfl⟩
        ·simp only[List.mem_map] at hx
         obtain⟨y,hy,rfl⟩:=hx
         exact(b1 y hy).2
        ·grind[cR]
        ·have:(es.map (cR c)).toArray.toList.map (·.key)=ks.map (Value.int .i64):=by simp_all[cR,Function.comp_def]
         grind
        grind
       have eL:Maps.size (H:=Unit) (.map (((es.map (cR c)).toArray.toList.map (WideElems.rg P K oP)).foldr DataW.insert []))=es.length:=by
        rw[Maps.size_eq,(WideShapes.sorted_perm _).length_eq];simp
       have NF:(intKeys (H:=Unit) (.map (((es.map (cR c)).toArray.toList.map (WideElems.rg P K oP)).foldr DataW.insert []))).Perm ks:=by
        refine((WideShapes.sorted_perm _).map _).trans ?_
        have:(((es.map (cR c)).toArray.toList.map (WideElems.rg P K oP)).map fun p=>intOf p.1)=ks:=by
         have Vu:∀x∈es,Value.int .i64 (intOf (WideElems.rg P K oP (cR c x)).1)=conc c x.1:=fun x hx=>by
          obtain⟨n,hn,he⟩:=HG x hx
          rw[WideElems.rg_of (lQ x hx n he hn)]
          exact he.symm
         have h1:((((es.map (cR c)).toArray.toList.map (WideElems.rg P K oP)).map fun p=>intOf p.1).map (Value.int .i64))=ks.map (Value.int .i64):=by
          grind[List.map_congr_left]
         grind[List.map_inj_right]
        rw[this]
       have NG:=hS g q2 (c.ρ b).1 (c.ρ id).1 es.length _ w (h.lP b (h.live b _ Vt)) Zp acy (by rw[eL];simp[maxLen];omega) (by omega)
       have Bp:([V.fn (.func g) [] [.ptr b 0]].map (conc c)).toArray = #[.func (.func g) #[] #[.pointer (some ⟨(c.ρ b).1,0,none⟩)]]:=by simp[conc,concL,xN]
       unfold fe
       rw[Bp]
       refine NG.mono ?_
       rintro e w' ⟨rv,ss,rfl,s1,s2,s3,s4⟩
       obtain⟨g1,g2⟩:=h.below s4
       have hss:ss.Perm ks:=s1.trans NF
       have hms:ss.mergeSort (fun x y=>decide (x≤y))=nc ks:=by
        refine wU (((List.mergeSort_perm ss _).trans hss).trans (eR ks).symm) ?_ (cH.imp fun {a b} oL=>by omega)<;>grind[List.pairwise_mergeSort]
       rw[hms] at s2
       split at I
       ·-- no key
        have zI:ss=[]:=by simp_all
        grind[conc,wf]
       ·obtain⟨rfl,rfl⟩:=I
        have aet:ss≠[]:=fun e=>by
         simp_all
        have kx:ss.length=ks.length:=hss.length_eq
        rcases s2.2 with⟨e1,_⟩|⟨gb,cap,cur,rfl,l1,l2,l3,l4,l5,l6⟩
        ·grind
        have acz:gb<w'.heap.size:=(Array.getElem?_eq_some_iff.1 l2).1
        have yI:∀i,i<c.N→(c.ρ i).1≠gb:=fun i hi e=>by have:=h.lP i hi;omega
        have ox:∀x∈dY (nc ks),wf c x∧storable x=true:=fun x hx=>by
         obtain⟨n,_,rfl⟩:=List.mem_map.1 hx<;>grind[wf,storable]
        have LS:(dY (nc ks)).length=ks.length:=by simp[dY,(eR ks).length_eq]
        have aa0:cur.toList.take (dY (nc ks)).length=(dY (nc ks)).map (conc c):=by
         simp_all[dY,conc]
        have R:=g1.take acz yI ox l2 aa0
        have vc:(c.grow gb 0 cur.size).room σ.next 0 1=cap:=by
         simp only[Ctx.room,h.next,Ctx.grow,cQ]
         simp[l5]
        refine⟨c.grow gb 0 cur.size,?_,?_,R,g2.HD yI l1⟩
        ·simp only[conc,vc]
         simp[h.next,Ctx.grow,kx]
        ·exact⟨by rw[h.next];simp[Ctx.grow],aV _,by omega⟩
   ·cases I
  ·cases I
 ·cases I
end
end Go.Proofs.YtiojppeahfoiaaaGreat.Am
namespace Go.Proofs.YtiojppeahfoiaaaGreat.Am
open Go
variable {ps:Array (Nat×Operand)} {ops:Array Oper} {C:ep} {code:Code} {c₀:Ctx} {env:Env} {Q:Ex→List (Nat×V)→H→Prop} {fn:Func} {f:FuncId} {cl:Go.Call} {h h' σ h₁ dz:H} {κ:IntKind} {E E':List (Nat×V)} {R:List (Nat×V)→H→Prop} {d₀:List Deferred} {hs:List H} {eF es l:List Nat} {L rest:List Oper} {args first cap vs cs ds:List V} {a b i c k id n d off j g nE k' q:Nat} {Hs:Nat→H} {early:Nat→Option (Nat×FV)} {Fl:Nat→Prop} {vv:Nat→V} {o':Obj} {o:Oper} {x y:Operand} {P:Program} {φ:Prop} {self:Self} {s s':St} {α:Type} {td:TypeDesc} {t t' e kt et:TypeId} {r u z:V} {zT:V→H→Prop} {w₀:World}
abbrev sy := List (Nat×List V×List V)
noncomputable def resOf (P:Program)(s:St)(rs:List ResultVar): Option V:=match mapO (resV P s) rs with
 |some [v]=>some v
 |some vs=>some (.aQ vs)
 |none=>none
noncomputable def evOpsD (C:ep)(self:Self)(L:List Oper): List Oper→St→sy→Option (St×sy)
 |[],s,d=>some (s,d)
 |o::rest,s,d=>match o.op with
  |.defer cl=>match o.guard,o.dst,cl.callee,evArgs s.env cl.args.toList with
   |none,none,.value x,some args=>match evO s.env x with
    |some (.fn (.func g) first cap)=>evOpsD C self L rest s ((g,first++args,cap)::d)
    |_=>none
   |_,_,_,_=>none
  |_=>cond (wantedV L s.env o)
   (match evOp C self s.env s.h o with
    |some (v,h)=>match s.put o.dst v h with
     |some s'=>evOpsD C self L rest s' d
     |none=>none
    |none=>none)
   (match s.put o.dst cq s.h with
    |some s'=>evOpsD C self L rest s' d
    |none=>none)
noncomputable def evTop (C:ep)(n:Nat): Nat→Code→St→sy→Option (Ex×St×sy)
 |0,_,_,_=>none
 |m+1,c,s,d=>match c with
  |.seq a b=>match evTop C n m a s d with
   |some (.normal,s',I)=>evTop C n m b s' I
   |r=>r
  |.region _ ops false=>match evOpsD C (ev C n) ops.toList ops.toList s d with
   |some (s',I)=>some (.normal,s',I)
   |none=>none
  |c=>match ev C n c s with
   |some (ex,s')=>some (ex,s',d)
   |none=>none
def quietParts : Code→Option (Nat×Nat×Code)
 |.seq (.region _ ops false) rest=>match ops.toList with
  |[I,J]=>match I.op,I.guard,I.dst,J.op,J.guard,J.dst with
   |.call cl,none,some nE,.assign (.tmp t),none,some Fv=>match cl.callee,cl.args.toList with
    |.builtin .recover,[]=>cond (Nat.beq t nE) (some (nE,Fv,rest)) none
    |_,_=>none
   |_,_,_,_,_,_=>none
  |_=>none
 |_=>none
noncomputable def defCall (C : ep) (n : Nat) (g : Nat) (args : List V) (h : H) : Option H := match C.P.funcs[g]? with
 | none => none
 | some fn => match fn.body with
  | none => none
  | some code => match quietParts code with
   | some (nE, I, rest) => cond (Nat.blt nE fn.ntmps && Nat.blt I fn.ntmps && Nat.ble args.length fn.ntmps && !(fn.name == "runtime.NumGoroutine"))
    (match ev C n rest ⟨((bindArgs args 0 .lf).set nE (some .gO)).set I (some .gO), fn.ntmps, h⟩ with
     | some (.normal, s) | some (.ret, s) => match resOf C.P s fn.results.toList with
      | some _ => some s.h
      | none => none
     | _ => none) none
   | none => match callF C (ev C n) g args h with
    | some (_, h') => some h'
    | none => none
noncomputable def runDefs (C:ep)(n:Nat): sy→H→Option H
 |[],h=>some h
 |(g,args,cap)::d,h=>match C.told g with
  |some _=>none
  |none=>match defCall C n g (args++cap) h with
   |some h'=>runDefs C n d h'
   |none=>none
noncomputable def toldDefer (C:ep)(n f:Nat)(args:List V)(h:H): Option (V×H):=match C.P.funcs[f]? with
 |none=>none
 |some fn=>match fn.body with
  |none=>none
  |some c=>cond (Nat.blt fn.ntmps args.length) none (match evTop C n 1000 c ⟨bindArgs args 0 .lf,fn.ntmps,h⟩ [] with
   |some (.exit _,_,_)=>none
   |some (_,s,d)=>match runDefs C n d s.h with
    |some h'=>match resOf C.P ⟨s.env,s.ax,h'⟩ fn.results.toList with
     |some v=>some (v,h')
     |none=>none
    |none=>none
   |none=>none)
section
variable {c:Ctx} {w:World}
theorem CE {a:Act}{v:V}(h:Rel c s.h w)(he:dG c s.env s.ax a)(J:resOf P s fn.results.toList=some v):
  (results fn a.tmps).run P w=.ok (conc c v) w∧wf c v:=by
 unfold resOf at J
 cases I:mapO (resV P s) fn.results.toList with
 |none=>grind
 |some vs =>
  obtain⟨q1,q2⟩:=ob h he I
  rw[q1]
  rcases vs with _|⟨v0,_|⟨v1,vs⟩⟩<;>grind[conc,wf,fK,iC]
structure rS (c:Ctx)(d:sy)(ds:List Deferred): Prop where
 eq:ds=d.map fun x=>{ target:=.fn (.func x.1) (x.2.2.map (conc c)).toArray,args:=(x.2.1.map (conc c)).toArray }
 Gs:∀x∈d,(∀v∈x.2.1,wf c v)∧∀v∈x.2.2,wf c v
theorem rS.ext {c':Ctx}{d:sy}{ds:List Deferred}(h:rS c d ds)(e:Ext c c'): rS c' d ds where
 eq:=by
  rw[h.eq]
  refine A5 fun x I => ?_
  rw[(mc e (h.Gs x I).1).1,(mc e (h.Gs x I).2).1]
 Gs:=fun x I=>⟨(mc e (h.Gs x I).1).2,(mc e (h.Gs x I).2).2⟩
theorem PT {a:Act}(he:dG c env n a): ∀(l:List Operand) (vs:List V),evArgs env l=some vs→l.map a.eval=vs.map (conc c)∧∀v∈vs,wf c v:=by
 intro l
 induction l<;>grind[evArgs,wF]
theorem PU (hS:iX C.P self)(hT:eM C){Q:Exit→Act→World→Prop}: ∀(l:List Oper) (k:Nat) (s s':St) (d d':sy) (c:Ctx) (a:Act) (w:World),
  (∀j,l[j]?=ops[k+j]?)→evOpsD C self ops.toList l s d=some (s',d')→Rel c s.h w→dG c s.env s.ax a→rS c d a.defers →
  (∀c' a' w',Rel c' s'.h w'→dG c' s'.env s'.ax a'→cC c w c' w'→rS c' d' a'.defers→Q .normal a' w') →
  wpOpsIn (Fr none) 0 C.P ops Q (List.range' k l.length) a w:=by
 intro l
 induction l with
 |nil =>
  grind[evOpsD,wpOpsIn,cC.refl]
 |cons o l ih =>
  intro k s s' d d' c a w hl I h he hd hQ
  have h0:ops[k]?=some o:=by simpa using(hl 0).symm
  have yN:∀j,l[j]?=ops[k+1+j]?:=fun j=>by have:=hl (j+1);grind
  simp only[bz,A8,wpOpsIn,h0]
  rw[xI he]
  have common:(cond (wantedV ops.toList s.env o)
    (match evOp C self s.env s.h o with
     |some (v,h)=>match s.put o.dst v h with
      |some s'=>evOpsD C self ops.toList l s' d
      |none=>none
     |none=>none)
    (match s.put o.dst cq s.h with
     |some s'=>evOpsD C self ops.toList l s' d
     |none=>none))=some (s',d') →
    (if wantedV ops.toList s.env o=true then o.wpIn (Fr none) 0 C.P a w (wpOpsIn (Fr none) 0 C.P ops Q (List.range' (k+1) l.length)) Q else(∀f,o.about C.P w a.eval=some f→(Fr none).fn f)∧wpOpsIn (Fr none) 0 C.P ops Q (List.range' (k+1) l.length) (a.put o.dst undef) w):=by
   intro I
   cases hw:wantedV ops.toList s.env o with
   |true =>
    rw[hw,ah] at I
    cases ho:evOp C self s.env s.h o with
    |none=>grind
    |some r =>
     obtain⟨v,dz⟩:=r
     simp only[ho] at I
     cases hp:s.put o.dst v dz with
     |none=>grind
     |some J =>
      simp only[hp] at I
      refine(wP hS hT h (he.Dh o) ho).wpIn (mj ho) ?_
      intro c' w' r1 r2 r3
      obtain⟨p1,p2,p3⟩:=St.wE (he.ext r2.ext) r3 hp
      refine ih (k+1) J s' d d' c' _ w' yN I (by grind) p1 (by rw[put_defers];exact hd.ext r2.ext) ?_
      intro sW yO zP q1 q2 q3 q4
      exact hQ sW yO zP q1 q2 (r2.trans q3) q4
   |false =>
    refine⟨fun _ _=>trivial,?_⟩
    cases hp:s.put o.dst cq s.h with
    |none=>grind
    |some J =>
     obtain⟨p1,p2,p3⟩:=St.wE he (show wf c cq by simp[cq,wf,fL]) hp<;>grind[s_,put_defers]
  unfold evOpsD at I
  split at I
  ·rename_i cl jO
   split at I
   ·rename_i x args hg SF adQ Bp
    split at I
    ·rename_i g first cap hfv
     have aa1:wantedV ops.toList s.env o=true:=by simp[wantedV,hg]
     simp only[aa1,cQ]
     obtain⟨e1,e2⟩:=PT he _ _ Bp
     obtain⟨f1,f2⟩:=wF he hfv
     have fw:(∀x∈first,wf c x)∧(∀x∈cap,wf c x):=by
      grind[wf,iC]
     have uk:(execOp a.eval o).run C.P w=.ok (.defer { target:=.fn (.func g) (cap.map (conc c)).toArray,args:=((first++args).map (conc c)).toArray }) w:=by
      simp_all[conc,fK,execOp,resolve,Deferred.ofValue]
     refine⟨fun _ _=>trivial,?_⟩
     rw[show(Fr none).round=none from rfl,Oper.semAt_none,uk]
     simp only[Oper.uponIn,SF,Act.put]
     refine ih (k+1) s s' ((g,first++args,cap)::d) d' c _ w yN I h ⟨he.size,he.val,he.sg⟩ ⟨by simp[hd.eq],fun x hx => ?_⟩ ?_
     ·rcases List.mem_cons.1 hx with rfl|hx
      ·grind
      ·exact hd.Gs x hx
     ·omega
    ·cases I
   ·cases I
  ·grind
theorem S8 (hm:C.P.follows .mixedOrders=true)(hT:eM C): ∀(m:Nat) (code:Code) (s:St) (d:sy) (ex:Ex) (s':St) (d':sy),evTop C n m code s d=some (ex,s',d') →
  ∀(c:Ctx) (a:Act) (w:World),Rel c s.h w→dG c s.env s.ax a→rS c d a.defers →
   code.wp C.P (fun e a' w'=>e=exOf ex∧∃c',Rel c' s'.h w'∧dG c' s'.env s'.ax a'∧cC c w c' w'∧rS c' d' a'.defers) a w:=by
 have hS:=(xJ (C:=C) hm hT n).1
 intro m
 induction m with
 |zero=>grind[evTop]
 |succ m ih =>
  intro code s d ex s' d' J c a w h he hd
  have rest:(match ev C n code s with
    |some (ex,s')=>some (ex,s',d)
    |none=>none)=some (ex,s',d')→code.wp C.P (fun e a' w'=>e=exOf ex∧∃c',Rel c' s'.h w'∧dG c' s'.env s'.ax a'∧cC c w c' w'∧rS c' d' a'.defers) a w:=by
   intro J
   cases ni:ev C n code s with
   |none=>grind
   |some r =>
    rw[ni] at J
    obtain⟨rfl,rfl,rfl⟩:=J
    refine Code.wp_mono ?_ (hS _ _ _ _ ni c a w h he)
    rintro e a' w' ⟨rfl,q2,c',q3,q4,q5⟩
    exact⟨rfl,c',q3,q4,q5,by rw[q2];exact hd.ext q5.ext⟩
  unfold evTop at J
  split at J
  ·rename_i x y
   cases hx:evTop C n m x s d with
   |none=>grind
   |some r =>
    obtain⟨Gf,I,nE⟩:=r
    rw[hx] at J
    refine wp_seq (Code.wp_mono ?_ (ih x s d Gf I nE hx c a w h he hd))
    rintro e BW sn ⟨rfl,c₁,q3,q4,q5,q6⟩
    cases Gf with
    |normal =>
     refine Code.wp_mono ?_ (ih y I nE ex s' d' J c₁ BW sn q3 q4 q6)
     rintro e Hr YQ ⟨rfl,c₂,p3,p4,p5,p6⟩
     exact⟨rfl,c₂,p3,p4,q5.trans p5,p6⟩
    |exit i =>
     obtain⟨rfl,rfl,rfl⟩:=J
     exact⟨rfl,c₁,q3,q4,q5,q6⟩
    |ret =>
     obtain⟨rfl,rfl,rfl⟩:=J
     exact⟨rfl,c₁,q3,q4,q5,q6⟩
  ·rename_i id ops
   cases hx:evOpsD C (ev C n) ops.toList ops.toList s d with
   |none=>grind
   |some r =>
    obtain⟨I,nE⟩:=r
    rw[hx] at J
    simp only[aB,bC] at J
    obtain⟨rfl,rfl,rfl⟩:=J
    refine wpIn_wide.1 (show(Code.region id ops false).wpIn (Fr none) 0 C.P _ a w from wpIn_region ?_)
    rw[ER,←A6]
    exact PU (zU (C:=C) hm hT n).1 hT ops.toList 0 s I d nE c a w (fun j=>by simp) hx h he hd fun c' a' w' r1 r2 r3 r4=>⟨rfl,c',r1,r2,r3,r4⟩
  ·grind
theorem S9 (hm : C.P.follows .mixedOrders = true) (hT : eM C) {v : V} (hg : C.told g = none) (I : callF C (ev C n) g args σ = some (v, dz)) (h : Rel c σ w) (hw : ∀ x ∈ args, wf c x) :
  CallsD C.P g (args.map (conc c)).toArray .returning w (fun e u' w' => u' = .returning ∧ (∃ x, e = .returned x) ∧ ∃ c', Rel c' dz w' ∧ cC c w c' w') ∧ ∀ (x : Array Value) (w : World), (callFunc g x).run C.P w = .ok (.enter g x) w := by
 have hS := (xJ (C := C) hm hT n).1
 have hen := (callF_ok hS hT I h hw).2
 unfold callF at I
 rw [hg] at I
 simp only at I
 cases hf : C.P.funcs[g]? with
 | none => grind
 | some fn =>
  simp only [hf] at I
  cases hb : fn.body with
  | none => grind
  | some code =>
   simp only [hb] at I
   cases hq : (fn.name == "runtime.NumGoroutine" || Nat.blt fn.ntmps args.length) with
   | true => grind
   | false =>
    simp only [Bool.or_eq_false_iff] at hq
    have hle : args.length ≤ fn.ntmps := by
     grind [ig]
    have J := jt (c := c) hle hw
    have done : ∀ ex s, ev C n code ⟨bindArgs args 0 .lf, fn.ntmps, σ⟩ = some (ex, s) → (ex = .normal ∨ ex = .ret) →
      (match mapO (resV C.P s) fn.results.toList with
       | some [v] => some (v, s.h)
       | some vs => some (.aQ vs, s.h)
       | none => none) = some (v, dz) →
      CallsD C.P g (args.map (conc c)).toArray .returning w (fun e u' w' => u' = .returning ∧ (∃ x, e = .returned x) ∧ ∃ c', Rel c' dz w' ∧ cC c w c' w') := by
     intro ex s hs hex hmr
     have Pk := hS code _ ex s hs c _ w h J
     have CF : resOf C.P s fn.results.toList = some v ∧ s.h = dz := by
      grind [resOf]
     have pS := callsD_of_wp (u := .returning) (R := fun e w' => (∃ x, e = .returned x) ∧ ∃ c', Rel c' dz w' ∧ cC c w c' w') hf hb (Code.wp_mono (Q' := bodyPost C.P fn fun e w' => (∃ x, e = .returned x) ∧ ∃ c', Rel c' dz w' ∧ cC c w c' w') ?_ Pk)
     ·omega
     ·rintro e a' w' ⟨rfl, hd, c', r1, r2, r3⟩
      have HC : a'.defers = [] ∧ ∃ x, (results fn a'.tmps).run C.P w' = .ok x w' ∧ (∃ y, Ending.returned x = .returned y) ∧ ∃ c', Rel c' dz w' ∧ cC c w c' w' :=
       ⟨hd, _, (CE r1 r2 CF.1).1, ⟨_, rfl⟩, c', by grind, r3⟩
      grind [bodyPost, exOf]
    split at I
    ·grind
    ·grind
    ·grind
theorem Hw {ρ:Operand→Value}(ho:o.op=.call cl)(I:cl.callee=.builtin .recover)(J:cl.args.toList=[])(w:World): (execOp ρ o).run P w=.ok .recover w:=by
 simp_all[execOp,resolve,invoke,builtin]
theorem Gt (hm:C.P.follows .mixedOrders=true)(hT:eM C){Fv:Nat}{rest:Code}{ex:Ex}{I:St}{v:V}(hf:C.P.funcs[g]?=some fn)(hb:fn.body=some code)
 (J:quietParts code=some (nE,Fv,rest))(h1:nE<fn.ntmps)(h2:Fv<fn.ntmps)(hle:args.length≤fn.ntmps)
 (Dy:ev C n rest ⟨((bindArgs args 0 .lf).set nE (some .gO)).set Fv (some .gO),fn.ntmps,σ⟩=some (ex,I))(hex:ex=.normal∨ex=.ret)(CF:resOf C.P I fn.results.toList=some v)
 (h:Rel c σ w)(hw:∀x∈args,wf c x):
  CallsD C.P g (args.map (conc c)).toArray .returning w (fun e u' w'=>u'=.returning∧(∃x,e=.returned x)∧∃c',Rel c' I.h w'∧cC c w c' w'):=by
 have hS:=(xJ (C:=C) hm hT n).1
 unfold quietParts at J
 split at J
 ·rename_i id ops aa2
  split at J
  ·rename_i Na KB aeu
   split at J
   ·rename_i cl adY t adZ q6 q2 q4 q9 q3 q5
    split at J
    ·rename_i q7 q8
     cases ht:Nat.beq t adY with
     |false=>grind
     |true =>
      rw[ht,ah] at J
      simp only[aB,bC] at J
      obtain⟨rfl,rfl,rfl⟩:=J
      have:=beq_iff.1 ht
      subst this
      have aa3:ops = #[Na,KB]:=by grind
      subst aa3
      refine callsD_of_wpS hf hb fun c₀ cs hu=>(wpS_seq ?_)
      have Yv:=jt (c:=c) hle hw
      generalize hA:({ tmps:=(args.map (conc c)).toArray++Array.replicate (fn.ntmps-(args.map (conc c)).toArray.size) undef,defers:=[] }:Act)=A at Yv ⊢
      have Zq:A.defers=[]:=by grind
      have uq:=(Yv.put (d:=t) (v:=.gO) h1 (by simp[wf])).put (d:=adZ) (v:=.gO) h2 (by simp[wf])
      have uk:=hS _ _ _ _ Dy c _ w h uq
      rw[show conc c .gO=.nilIface from by rfl] at uk
      have S_:recoverD (c₀::cs)=none:=by simp[recoverD,hu]
      have h5:(A.put (some t) .nilIface).eval (.tmp t)=.nilIface:=by
       have:=(Yv.put (d:=t) (v:=.gO) h1 (by simp[wf])).val t
       grind[conc,Act.eval,Env.v,bh]
      refine wpS_region ?_
      rw[show List.range (#[Na,KB]:Array Oper).size=[0,1] from rfl]
      simp only[wpOpsS,mX,mW,nV,Region.wanted,q2,q3,cQ]
      rw[Hw q6 q7 q8]
      simp only[S_,q4]
      have acA:(execOp (A.put (some t) .nilIface).eval KB).run C.P w=.ok (.value .nilIface) w:=by simp[execOp,q9,h5]
      rw[acA]
      simp only[Oper.upon,q5,Exit.thenS]
      refine wpS_of_wp (Code.wp_mono ?_ uk)
      rintro e a' w' ⟨rfl,dd,c',r1,e2,p1⟩
      have HC:a'.defers=[]∧∃u',c₀::cs={ c₀ with mode:=u' }::cs∧∃v,(results fn a'.tmps).run C.P w'=.ok v w'∧(u'=.returning∧(∃x,Ending.returned v=.returned x)∧∃c',Rel c' I.h w'∧cC c w c' w') :=
       ⟨dd.trans Zq,.returning,by rw[←hu],_,(CE r1 e2 CF).1,rfl,⟨_,rfl⟩,c',r1,p1⟩
      rcases hex with rfl|rfl
      ·exact HC
      ·exact HC
    ·cases J
   ·cases J
  ·cases J
 ·cases J
theorem NH (hm : C.P.follows .mixedOrders = true) (hT : eM C) (hg : C.told g = none) (I : defCall C n g args σ = some dz) (h : Rel c σ w) (hw : ∀ x ∈ args, wf c x) :
  CallsD C.P g (args.map (conc c)).toArray .returning w (fun e u' w' => u' = .returning ∧ (∃ x, e = .returned x) ∧ ∃ c', Rel c' dz w' ∧ cC c w c' w') ∧ ∀ (x : Array Value) (w : World), (callFunc g x).run C.P w = .ok (.enter g x) w := by
 unfold defCall at I
 cases hf : C.P.funcs[g]? with
 | none => grind
 | some fn =>
  simp only [hf] at I
  cases hb : fn.body with
  | none => grind
  | some code =>
   simp only [hb] at I
   split at I
   ·rename_i nE J rest hq
    cases hc : (Nat.blt nE fn.ntmps && Nat.blt J fn.ntmps && Nat.ble args.length fn.ntmps && !(fn.name == "runtime.NumGoroutine")) with
    | false => grind
    | true =>
     rw [hc, ah] at I
     simp only [bH, ig, aL, Bool.not_eq_true'] at hc
     refine ⟨?_, fun x w => by simp_all [callFunc]⟩
     split at I
     ·grind [Gt]
     ·grind [Gt]
     ·cases I
   grind [S9]
theorem PV (hm:C.P.follows .mixedOrders=true)(hT:eM C){v:V}(CF:resOf C.P ⟨s.env,s.ax,h'⟩ fn.results.toList=some v):
  ∀(d:sy) (h:H) (c:Ctx) (a:Act) (ds:List Deferred) (w:World),runDefs C n d h=some h'→Rel c h w→dG c s.env s.ax a→rS c d ds→cC c₀ w₀ c w →
   Leaves C.P fn a.tmps (fun e w'=>∃c',e=.returned (conc c' v)∧wf c' v∧Rel c' h' w'∧cC c₀ w₀ c' w') ds .returning w:=by
 intro d
 induction d with
 |nil =>
  intro h c a ds w J I he hd hs
  simp only[runDefs,aB] at J
  subst J
  have:ds=[]:=by rw[hd.eq];rfl
  subst this
  obtain⟨q1,q2⟩:=CE (s:=⟨s.env,s.ax,h⟩) I he CF
  exact⟨_,q1,c,rfl,q2,I,hs⟩
 |cons x d ih =>
  intro h c a ds w J I he hd hs
  obtain⟨g,args,cap⟩:=x
  simp only[runDefs] at J
  cases ht:C.told g with
  |some t=>grind
  |none =>
   rw[ht] at J
   cases hc:defCall C n g (args++cap) h with
   |none=>grind
   |some h₁ =>
    rw[hc] at J
    have mD:=hd.Gs (g,args,cap) (by simp)
    obtain⟨k1,k2⟩:=NH hm hT ht hc I (fun x hx=>by
     grind)
    have hds:ds={ target:=.fn (.func g) (cap.map (conc c)).toArray,args:=(args.map (conc c)).toArray }::d.map fun x=>{ target:=.fn (.func x.1) (x.2.2.map (conc c)).toArray,args:=(x.2.1.map (conc c)).toArray }:=by rw[hd.eq];rfl
    rw[hds]
    refine leaves_cons (f:=g) (args:=((args++cap).map (conc c)).toArray) (by simp) ?_ ?_
    ·grind[invoke]
    ·refine k1.mono ?_
     rintro e u' sn ⟨rfl,⟨y,rfl⟩,c₁,r1,r2⟩
     have Vv:rS c d (d.map fun x=>{ target:=.fn (.func x.1) (x.2.2.map (conc c)).toArray,args:=(x.2.1.map (conc c)).toArray }):=⟨rfl,fun z hz=>hd.Gs z (by grind)⟩
     exact ih h₁ c₁ a _ sn J r1 (he.ext r2.ext) (Vv.ext r2.ext) (hs.trans r2)
theorem z6 (hm:C.P.follows .mixedOrders=true)(hT:eM C){f:Nat}{v:V}(J:toldDefer C n f args σ=some (v,dz))(h:Rel c σ w)(hw:∀x∈args,wf c x):
  fe C.P f args c w v dz:=by
 unfold toldDefer at J
 cases hf:C.P.funcs[f]? with
 |none=>grind
 |some fn =>
  simp only[hf] at J
  cases hb:fn.body with
  |none=>grind
  |some code =>
   simp only[hb] at J
   cases hq:Nat.blt fn.ntmps args.length with
   |true=>grind
   |false =>
    rw[hq,aX] at J
    have hle:args.length≤fn.ntmps:=by
     grind[ig]
    have uo:=jt (c:=c) hle hw
    refine calls_of_wp_defers hf hb ?_
    have done:∀ex s d,evTop C n 1000 code ⟨bindArgs args 0 .lf,fn.ntmps,σ⟩ []=some (ex,s,d)→(ex=.normal∨ex=.ret) →
      (match runDefs C n d s.h with
       |some h'=>match resOf C.P ⟨s.env,s.ax,h'⟩ fn.results.toList with
        |some v=>some (v,h')
        |none=>none
       |none=>none)=some (v,dz) →
      code.wp C.P (bodyPostD C.P fn fun e w'=>∃c',e=.returned (conc c' v)∧wf c' v∧Rel c' dz w'∧cC c w c' w')
       { tmps:=(args.map (conc c)).toArray++Array.replicate (fn.ntmps-(args.map (conc c)).toArray.size) undef,defers:=[] } w:=by
     intro ex s d hs hex I
     refine Code.wp_mono ?_ (S8 hm hT 1000 code _ [] ex s d hs c _ w h uo ⟨rfl,fun x hx=>by cases hx⟩)
     rintro e a' w' ⟨rfl,c',r1,r2,r3,r4⟩
     cases lQ:runDefs C n d s.h with
     |none=>grind
     |some h' =>
      rw[lQ] at I
      simp only at I
      cases Y5:resOf C.P ⟨s.env,s.ax,h'⟩ fn.results.toList with
      |none=>grind
      |some v' =>
       rw[Y5] at I
       obtain⟨rfl,rfl⟩:=I<;>grind[PV,bodyPostD,exOf]
    split at J
    ·cases J
    ·rename_i ex s d mP hs
     cases ex<;>grind
    ·cases J
end

/- Heaps compared. -/
def noIter : Option Obj→Option Obj
 |some (.iter _ _ _ _)=>none
 |v=>v
def flatM {α β:Type}(f:α→Option (List β)): List α→Option (List β)
 |[]=>some []
 |x::l=>match f x with
  |none=>none
  |some a=>match flatM f l with
   |none=>none
   |some b=>some (a++b)
theorem PW {β:Type}{f:α→Option (List β)}: ∀(l:List α) (R:List β),flatM f l=some R→∀x∈l,∃r,f x=some r∧∀y∈r,y∈R:=by
 intro l
 induction l<;>grind[flatM]
section
variable (C:ep) (self:Self)
noncomputable def opAll (env:Env)(h:H)(o:Oper): Option (List (V×H)):=match o.op with
 |.next it false=>match evO env it with
  |some (.ptr r off)=>cond (Nat.beq off 0) (nextAll h r) none
  |_=>none
 |_=>match evOp C self env h o with
  |some q=>some [q]
  |none=>none
noncomputable def opsAll (ops:List Oper): List Oper→St→Option (List St)
 |[],s=>some [s]
 |o::l,s=>cond (wantedV ops s.env o)
  (match opAll C self s.env s.h o with
   |some I=>flatM (fun q=>match s.put o.dst q.1 q.2 with
    |some s'=>opsAll ops l s'
    |none=>none) I
   |none=>none)
  (match s.put o.dst cq s.h with
   |some s'=>opsAll ops l s'
   |none=>none)
end
section
theorem Ta (hS:iX C.P self)(hT:eM C){c:Ctx}{w:World}{a:Act}{qs:List (V×H)}(h:Rel c σ w)(he:Bk c env a o)(I:opAll C self env σ o=some qs):
  (∃q∈qs,xH C.P o a c w q.1 q.2)∧∀d,o.op≠.defer d:=by
 unfold opAll at I
 split at I
 ·rename_i it ho
  refine⟨?_,fun d hd=>by grind⟩
  split at I
  ·rename_i r off hx
   cases hq:Nat.beq off 0 with
   |false=>grind
   |true =>
    have:=beq_iff.1 hq
    subst this
    obtain⟨f1,f2⟩:=he it (by simp[ho,Op.operands]) _ hx
    obtain⟨q,J,hg⟩:=B8 (P:=C.P) h I o.type
    exact⟨q,J,fD (s:=Instr.next (conc c (.ptr r 0)) false o.type) (by simp only[execOp,ho,f1]) hg⟩
  ·cases I
 ·cases ni:evOp C self env σ o with
  |none=>grind
  |some q =>
   grind[wP,mj]
theorem PX (hS:iX C.P self)(hT:eM C){Q:Exit→Act→World→Prop}: ∀(l:List Oper) (k:Nat) (s:St) (L:List St) (c:Ctx) (a:Act) (w:World),
  (∀j,l[j]?=ops[k+j]?)→opsAll C self ops.toList l s=some L→Rel c s.h w→dG c s.env s.ax a →
  (∀s'∈L,∀c' a' w',Rel c' s'.h w'→dG c' s'.env s'.ax a'→cC c w c' w'→a'.defers=a.defers→Q .normal a' w') →
  wpOpsIn (Fr none) 0 C.P ops Q (List.range' k l.length) a w:=by
 intro l
 induction l with
 |nil =>
  grind[opsAll,wpOpsIn,cC.refl]
 |cons o l ih =>
  intro k s L c a w hl J h he hQ
  have h0:ops[k]?=some o:=by simpa using(hl 0).symm
  have yN:∀j,l[j]?=ops[k+1+j]?:=fun j=>by have:=hl (j+1);grind
  simp only[bz,A8,wpOpsIn,h0]
  rw[xI he]
  simp only[opsAll] at J
  cases hw:wantedV ops.toList s.env o with
  |true =>
   rw[hw,ah] at J
   cases ho:opAll C self s.env s.h o with
   |none=>grind
   |some qs =>
    simp only[ho] at J
    obtain⟨⟨q,hq,Gh⟩,ju⟩:=Ta hS hT h (he.Dh o) ho
    obtain⟨r,oQ,LU⟩:=PW qs L J q hq
    refine Gh.wpIn ju ?_
    intro c' w' r1 r2 r3
    cases hp:s.put o.dst q.1 q.2 with
    |none=>grind
    |some I =>
     simp only[hp] at oQ
     obtain⟨p1,p2,p3⟩:=St.wE (he.ext r2.ext) r3 hp
     refine ih (k+1) I r c' _ w' yN oQ (by grind) p1 ?_
     intro s' Ca sW yO zP q1 q2 q3 q4
     exact hQ s' (LU s' Ca) sW yO zP q1 q2 (r2.trans q3) (by rw[q4];cases o.dst<;>rfl)
  |false =>
   rw[hw,aX] at J
   refine⟨fun _ _=>trivial,?_⟩
   cases hp:s.put o.dst cq s.h with
   |none=>grind
   |some I =>
    simp only[hp] at J
    obtain⟨p1,p2,p3⟩:=St.wE he (show wf c cq by simp[cq,wf,fL]) hp
    refine ih (k+1) I L c _ w yN J (by grind) p1 ?_
    intro s' Ca sW yO zP q1 q2 q3 q4
    exact hQ s' Ca sW yO zP q1 q2 q3 (by rw[q4];cases o.dst<;>rfl)
end
theorem Rel.aa4 {c:Ctx}{w:World}(h:Rel c σ w)(I:dz.next=σ.next)(hs:∀id o,T.get dz.tr id=some o→T.get σ.tr id=some o): Rel c dz w :=
 ⟨I.trans h.next,fun id o ho=>h.live id o (hs id o ho),h.lP,h.zz,fun i j o o' hi J he=>h.inj i j o o' (hs i o hi) (hs j o' J) he,
  fun id o ho=>h.obj id o (hs id o ho),fun id cs st ho=>h.one id cs st (hs id _ ho),fun id o ho=>h.fx id o (hs id o ho)⟩
def kS (h:H): Prop:=∀id o,T.get h.tr id=some o→id<h.next
theorem kS.new (hw:kS h)(o:Obj): kS (h.new o):=by
 intro id q I
 rw[gT] at I
 show id<h.next+1
 split at I
 ·omega
 ·exact Nat.lt_succ_of_lt (hw id q I)
theorem kS.put (hw:kS h)(J:id<h.next)(o:Option Obj): kS (h.put id o):=by
 intro j q I
 rw[dN] at I
 show j<h.next
 split at I
 ·omega
 ·exact hw j q I
structure dW (k:Nat)(S:List Nat)(h h':H): Prop where
 wf:kS h'
 le:h.next≤h'.next
 bd:h'.next≤h.next+k
 get:∀id,id<h.next→id∉S→T.get h'.tr id=T.get h.tr id
theorem dW.refl (hw:kS h)(S:List Nat): dW 0 S h h:=⟨hw,aV _,aV _,fun _ _ _=>rfl⟩
theorem dW.trans {S S':List Nat}{I:H}(a:dW k S h h')(b:dW k' S' h' I)(hs:∀i∈S',i∈S∨h.next≤i): dW (k+k') S h I:=by
 refine⟨b.wf,cM a.le b.le,by have:=a.bd;have:=b.bd;omega,fun id J hn => ?_⟩
 rw[b.get id (gQ J a.le) (fun hm => ?_),a.get id J hn]
 rcases hs id hm with h1|h1
 ·exact hn h1
 ·omega
theorem dW.mono {S S':List Nat}(a:dW k S h h')(J:k≤k')(hs:∀i∈S,i∈S'): dW k' S' h h' :=
 ⟨a.wf,a.le,cM a.bd (we J _),fun id I hn=>a.get id I (fun hm=>hn (hs id hm))⟩
theorem dW.row {S:List Nat}(a:dW k S h h')(hw:kS h){o:Obj}(I:T.get h.tr id=some o)(J:id∉S): T.get h'.tr id=some o:=by
 rw[a.get id (hw id o I) J];exact I
theorem dW.Bq (hw:kS h)(o:Obj): dW 1 [] h (h.new o) :=
 ⟨hw.new o,tP _,aV _,fun id I _=>by rw[gT,ak (by omega)]⟩
theorem dW.HH (hw:kS h)(I:id<h.next)(o:Option Obj): dW 0 [id] h (h.put id o) :=
 ⟨hw.put I o,aV _,aV _,fun j _ J=>by rw[dN,ak (fun e=>J (by simp[e]))]⟩
theorem dR (l:List Nat): (ofBytes l).length=l.length:=by simp[ofBytes]
theorem rT (l m:List Nat): ofBytes (l++m)=ofBytes l++ofBytes m:=by simp[ofBytes]
def View (h:H)(v:V)(l:List Nat): Prop:=(∀b∈l,b<256)∧(((v=.aY∨∃a,v=.sle a)∧l=[]) ∨
 ∃id off cap n cs st,v=.sl id off l.length cap∧T.get h.tr id=some (.cells n cs st)∧cs.length=n∧off+l.length≤n∧(cs.drop off).take l.length=ofBytes l ∧
  (match cap with|.exact c=>l.length≤c|.rest e _=>e=1))
def jB (h:H)(v:V)(l:List Nat): Prop:=(∀b∈l,b<256)∧((v=.aY∧l=[]) ∨
 (∃id cs c,v=.sl id 0 l.length (.exact c)∧T.get h.tr id=some (.cells c (ofBytes l++cs) false)∧l.length+cs.length=c) ∨
 (∃id,v=.sl id 0 l.length (.rest 1 0)∧T.get h.tr id=some (.cells l.length (ofBytes l) false)∧1≤l.length))
def rowIds : V→List Nat
 |.sl id _ _ _=>[id]
 |_=>[]
theorem jB.view {v:V}(I:jB h v l): View h v l:=by
 obtain⟨hl,I⟩:=I
 refine⟨hl,?_⟩
 rcases I with I|⟨id,cs,c,rfl,J,hc⟩|⟨id,rfl,J,h1⟩
 ·exact .inl ⟨.inl I.1,I.2⟩
 ·refine .inr ⟨id,0,.exact c,c,_,false,rfl,J,by simp[dR,hc],by omega,?_,by show l.length≤c;omega⟩
  rw[gS,mZ (dR l)]
 ·refine .inr ⟨id,0,.rest 1 0,_,_,false,rfl,J,dR l,by omega,?_,rfl⟩
  rw[gS]
  exact gB (by rw[dR];exact aV _)
theorem View.lD {S:List Nat}{v:V}(I:View h v l)(hw:kS h)(J:dW k S h h')(hn:∀i∈rowIds v,i∉S): View h' v l:=by
 obtain⟨hl,I⟩:=I
 refine⟨hl,?_⟩
 rcases I with I|⟨id,off,cap,n,cs,st,rfl,hg,h1,h2,h3,h4⟩
 ·exact .inl I
 ·exact .inr ⟨id,off,cap,n,cs,st,rfl,J.row hw hg (hn id (by simp[rowIds])),h1,h2,h3,h4⟩
theorem jB.lD {S:List Nat}{v:V}(I:jB h v l)(hw:kS h)(hk:dW k S h h')(hn:∀i∈rowIds v,i∉S): jB h' v l:=by
 obtain⟨hl,I⟩:=I
 refine⟨hl,?_⟩
 rcases I with I|⟨id,cs,c,rfl,J,hc⟩|⟨id,rfl,J,h1⟩
 ·exact .inl I
 ·exact .inr (.inl ⟨id,cs,c,rfl,hk.row hw J (hn id (by simp[rowIds])),hc⟩)
 ·exact .inr (.inr ⟨id,rfl,hk.row hw J (hn id (by simp[rowIds])),h1⟩)
theorem View.len {v:V}(I:View h v l): lenV Tryz.prog h 23 v=some (.int .i64 l.length):=by
 obtain⟨_,I⟩:=I
 rcases I with⟨rfl|⟨J,rfl⟩,rfl⟩|⟨id,off,cap,n,cs,st,rfl,_⟩<;>simp[lenV,aJ]
theorem View.rdN {len:Nat}{cap:Cap}(J:View h (.sl id off len cap) l): len=l.length∧rdN h id off len=some (ofBytes l):=by
 obtain⟨_,J⟩:=J
 rcases J with⟨I,_⟩|⟨Dg,off',Nj,n,cs,st,I,hg,h1,h2,h3,h4⟩
 ·rcases I with I|⟨_,I⟩<;>cases I
 ·injection I with e1 e2 e3 e4
  subst e1;subst e2;subst e3
  refine⟨rfl,?_⟩
  unfold Am.rdN
  simp only[hg]
  rw[aL.2 h2,ah]
  cases hc:(Nat.beq off 0&&Nat.beq l.length n) with
  |true =>
   simp only[bH,beq_iff] at hc
   obtain⟨rfl,hn⟩:=hc
   rw[ah,←h3,gS,gB (by omega)]
  |false=>rw[aX,h3]
theorem wV : ∃i,Tryz.prog.info? 5=some i∧i.size=1∧i.bytes=1:=by
 refine⟨_,(show Tryz.prog.info? 5=some ((Tryz.prog.info? 5).getD default) by kernel_rfl),by kernel_rfl,by kernel_rfl⟩
theorem o7 : zeroT Tryz.prog 5=some (.int .u8 0):=by kernel_rfl
theorem Dz {x:V}{m:List Nat}(J:View h x m): srcV h 1 x=some (ofBytes m,m.length):=by
 obtain⟨hl,I⟩:=J
 rcases I with⟨rfl|⟨ea,rfl⟩,rfl⟩|⟨id,off,cap,n,cs,st,rfl,hg,h1,h2,h3,h4⟩
 ·rfl
 ·rfl
 ·simp only[srcV,iV]
  rw[(View.rdN (l:=m) ⟨hl,.inr ⟨id,off,cap,n,cs,st,rfl,hg,h1,h2,h3,h4⟩⟩).2]
  rfl
theorem z7 {s x:V}{m:List Nat}(hw:kS h)(hs:jB h s l)(hx:View h x m)(eL:l.length+m.length≤140737488355328):
  ∃v' h',appendV Tryz.prog h #[23,23] s x=some (v',h')∧jB h' v' (l++m)∧dW 1 (rowIds s) h h'∧(∀i∈rowIds v',i∈rowIds s∨h.next≤i):=by
 obtain⟨i,hi,i1,i2⟩:=wV
 have J:∀b∈l++m,b<256:=fun b hb=>by
  rcases List.mem_append.1 hb with hb|hb
  ·exact hs.1 b hb
  ·exact hx.1 b hb
 have Vw:mN (l.length+m.length) 1=true:=xF.2 ⟨eL,by omega⟩
 unfold appendV
 simp only[aJ,hi,o7,i1,i2,V.cells,bz,cG,Dz hx]
 rw[show(Nat.ble 1 1&&Nat.ble 1 4096&&Nat.beq (0+1) 1)=true from rfl,ah]
 cases hm:Nat.beq m.length 0 with
 |true =>
  have F8:m=[]:=nT (beq_iff.1 hm)
  subst F8
  rw[ah,eZ]
  have I:=hs
  obtain⟨_,I⟩:=I
  rcases I with⟨rfl,rfl⟩|⟨id,cs,c,rfl,hg,hc⟩|⟨id,rfl,hg,h1⟩
  ·exact⟨_,_,rfl,hs,(dW.refl hw _).mono (ew _) (fun _ h=>h),fun i hi=>.inl hi⟩
  ·exact⟨_,_,rfl,hs,(dW.refl hw _).mono (ew _) (fun _ h=>h),fun i hi=>.inl hi⟩
  ·exact⟨_,_,rfl,hs,(dW.refl hw _).mono (ew _) (fun _ h=>h),fun i hi=>.inl hi⟩
 |false =>
  have F8:1≤m.length:=by
   rcases wg m.length with h0|h0
   ·rw[sO h0] at hm;cases hm
   ·exact h0
  rw[aX]
  have xG:∀(σ:H) (old:List Nat),kS σ→1≤(old++m).length→(∀b∈old++m,b<256)→jB (n_ σ 1 (ofBytes old) (ofBytes m) (old.length+m.length)).2 (n_ σ 1 (ofBytes old) (ofBytes m) (old.length+m.length)).1 (old++m):=by
   intro σ old _ h1 h2
   refine⟨h2,.inr (.inr ⟨σ.next,?_,?_,h1⟩)⟩
   ·simp only[n_,b7]
   ·simp only[n_]
    rw[gT,aC rfl,iV,b7,rT]
  have I:=hs
  obtain⟨_,I⟩:=I
  rcases I with⟨rfl,rfl⟩|⟨id,cs,c,rfl,hg,hc⟩|⟨id,rfl,hg,h1⟩
  ·simp only
   have acB:mN m.length 1=true:=by simpa using Vw
   rw[acB,ah]
   have:=xG h [] hw (by simpa using F8) (by simpa using hx.1)
   simp only[cG,fy,dU] at this
   exact⟨_,_,rfl,by rw[dU];exact this,(dW.Bq hw _).mono (aV _) (fun i hi=>by simp at hi),fun i hi=>.inr (by simp[rowIds] at hi;omega)⟩
  ·simp only[iV,fy]
   have hv:=jB.view hs
   cases hq:Nat.ble (l.length+m.length) c with
   |true =>
    have BZ:=aL.1 hq
    rw[ah]
    unfold wrN
    simp only[hg,dR]
    rw[hq,ah]
    simp only
    have xO:(cond (Nat.beq l.length 0&&Nat.beq m.length c) (ofBytes m) ((ofBytes l++cs).take l.length++(ofBytes m++(ofBytes l++cs).drop (l.length+m.length))))=ofBytes (l++m)++cs.drop m.length:=by
     have e1:(ofBytes l++cs).take l.length=ofBytes l:=mZ (dR l)
     have e2:(ofBytes l++cs).drop (l.length+m.length)=cs.drop m.length:=by
      rw[A_,dR,show l.length+m.length-l.length=m.length from by omega,lW (by rw[dR];omega),dU]
     cases hz:(Nat.beq l.length 0&&Nat.beq m.length c) with
     |true =>
      simp only[bH,beq_iff] at hz
      have B4:l=[]:=nT hz.1
      subst B4
      have ox:cs.drop m.length=[]:=lW (by simp at hc;omega)
      simp[ox]
     |false=>rw[aX,e1,e2,rT,cT]
    rw[xO]
    refine⟨_,_,rfl,⟨J,.inr (.inl ⟨id,cs.drop m.length,c,by simp,?_,by simp;omega⟩)⟩,(dW.HH hw (hw id _ hg) _).mono (ew _) (fun i hi=>by simpa[rowIds] using hi),fun i hi=>.inl (by simpa[rowIds] using hi)⟩
    rw[dN,aC rfl]
   |false =>
    rw[aX,Vw,ah,hv.rdN.2]
    simp only
    exact⟨_,_,rfl,xG h l hw (by simp;omega) J,(dW.Bq hw _).mono (aV _) (fun i hi=>by simp at hi),fun i hi=>.inr (by simp[rowIds] at hi;omega)⟩
  ·simp only[fJ,ah,iV,fy]
   have hv:=jB.view hs
   have CA:mM h id 0 1=l.length:=by simp[mM,hg]
   have hf:Nat.ble (l.length+m.length) l.length=false:=by
    cases hq:Nat.ble (l.length+m.length) l.length with
    |true=>have:=aL.1 hq;omega
    |false=>rfl
   rw[CA,hf,aX,Vw,show Nat.ble 2 (l.length+m.length)=true from aL.2 (by omega),iT,ah,hv.rdN.2,hg]
   simp only
   have uA:kS (h.put id none):=hw.put (hw id _ hg) _
   refine⟨_,_,rfl,xG (h.put id none) l uA (by simp;omega) J,?_,fun i hi=>.inr (by simp[rowIds,H.put] at hi;omega)⟩
   refine((dW.HH hw (hw id _ hg) none).trans (S':=[]) (dW.Bq uA _) (fun i hi=>by simp at hi)).mono (aV _) (fun i hi=>by simpa[rowIds] using hi)
section
variable {a b:Operand} {v:V}
theorem bn (I:bj E x=some v): opE P E h (.move x)=some (v,h):=by simp only[opE,jA,I]
theorem fq (I:bj E x=some v): opE P E h (.assign x)=some (v,h):=by simp only[opE,jA,I]
theorem ru (I:bj E x=some (.bool true))(J:bj E a=some v): opE P E h (.pick x a b)=some (v,h):=by simp only[opE,jA,I,ah,J]
theorem mo (I:bj E x=some (.bool false))(J:bj E b=some v): opE P E h (.pick x a b)=some (v,h):=by simp only[opE,jA,I,aX,J]
theorem kT {o:Nat}(I:bj E x=some (.ptr i o)): opE P E h (.nilCheck x)=some (.ptr i o,h):=by simp only[opE,jA,I]
theorem jH {t:Nat}(I:bj E x=some v)(J:fieldAddrV P t v i=some r): opE P E h (.fieldAddr t x i)=some (r,h):=by simp only[opE,jA,I,J,bF]
theorem o_load (I:bj E x=some v)(J:loadV P h t v=some r): opE P E h (.load t x)=some (r,h):=by simp only[opE,jA,I,J,bF]
theorem wW (I:bj E x=some v)(J:bj E y=some u)(hf:f_ P h t v u=some h₁): opE P E h (.store t x y)=some (cq,h₁):=by simp only[opE,vj,I,J,hf,sZ]
theorem ay {op:BinOp}(I:bj E x=some v)(J:bj E y=some u)(hf:binV P h op t x y v u=some r): opE P E h (.binOp op t x y t')=some (r,h):=by simp only[opE,vj,I,J,hf,bF]
theorem eU {op:UnOp}(I:bj E x=some v)(J:unV op v=some r): opE P E h (.unOp op t x)=some (r,h):=by simp only[opE,jA,I,J,bF]
theorem bT {s d:TypeId}(I:bj E x=some v)(J:convV P h s d v=some (r,h₁)): opE P E h (.convert s d x)=some (r,h₁):=by simp only[opE,jA,I,J]
theorem c8 (I:bj E x=some v)(J:bj E y=some u)(hf:indexAddrV P t v u=some r): opE P E h (.indexAddr t x y)=some (r,h):=by simp only[opE,vj,I,J,hf,bF]
theorem xP (I:bj E x=some v)(J:bj E y=some u)(hf:indexV P t v u=some r): opE P E h (.index t x y)=some (r,h):=by simp only[opE,vj,I,J,hf,bF]
theorem bY {l:List V}(I:bj E x=some (.aQ l))(J:nth l i=some r): opE P E h (.extract x i)=some (r,h):=by simp only[opE,jA,I,J,bF]
theorem cj {l:List (Nat×V)}(I:lookParts E ps.toList=some l)(J:buildV P t l=some r): opE P E h (.build t ps)=some (r,h):=by simp only[opE,I,J,bF]
theorem dB (I:bj E x=some v)(hs:v.cells.all storable=true): opE P E h (.box t x)=some (.ptr h.next 0,newRow h v.cells):=by simp only[opE,jA,I,hs,ah]
theorem bI (I:zeroT P t=some v): opE P E h (.alloc t)=some (.ptr h.next 0,newRow h v.cells):=by simp only[opE,I]
theorem rU (I:bj E x=some v)(J:makeIfaceV P t v=some r): opE P E h (.makeInterface t x)=some (r,h):=by simp only[opE,jA,I,J,bF]
theorem xQ {f:Fn}{p q:Array Operand}{l m:List V}(I:lookArgs E p.toList=some l)(J:lookArgs E q.toList=some m): opE P E h (.makeFunc f p q)=some (.fn f l m,h):=by simp only[opE,I,J]
theorem aP {c:Go.Call}(I:c.callee=.builtin .len)(J:lookArgs E c.args.toList=some [v])(ht:c.argTypes.toList=[t])(hf:lenV P h t v=some r): opE P E h (.call c)=some (r,h):=by
 simp only[opE,I,J,builtinV,ht,hf,lY]
theorem mI {c:Go.Call}(I:c.callee=.builtin .append)(J:lookArgs E c.args.toList=some [v,u])(hf:appendV P h c.argTypes v u=some (r,h₁)): opE P E h (.call c)=some (r,h₁):=by
 simp only[opE,I,J,builtinV,hf]
theorem tu (I:bj E x=some v)(J:bj E y=some u)(hf:makeSliceV P h t v u=some (r,h₁)): opE P E h (.makeSlice t x y)=some (r,h₁):=by simp only[opE,vj,I,J,hf]
theorem oF {t:Nat}{l:List (Nat×V)}(I:lookParts E ps.toList=some l)(J:buildSliceV P h t n l=some (r,h₁)): opE P E h (.buildSlice t n ps)=some (r,h₁):=by simp only[opE,I,J]
theorem bU {lo hi mx:Option Operand}{p q m:Option V}{p' q' m':Option Nat}(I:bj E x=some v)(J:lookOpt E lo=some p)(h2:lookOpt E hi=some q)(h3:lookOpt E mx=some m)
 (g1:iK p=some p')(g2:iK q=some q')(g3:iK m=some m')(hf:sliceV P h t v p' q' m'=some r): opE P E h (.slice t x lo hi mx)=some (r,h):=by simp only[opE,jA,I,J,h2,h3,g1,g2,g3,hf,bF]
theorem Tb {s:TypeId}{ok:Bool}(I:bj E x=some v)(J:assertV P v s ok=some r): opE P E h (.typeAssert x t s ok)=some (r,h):=by simp only[opE,jA,I,J,bF]
theorem Vx {st:Bool}(I:isAggT P t=some false)(J:T.get h.tr id=some (.cells n cs st))(hn:nth cs off=some v): loadV P h t (.ptr id off)=some v:=by
 simp only[loadV,I,yZ,J,hn]
theorem cV {st:Bool}(I:isAggT P t=some true)(hs:bB P t=some n)(J:T.get h.tr id=some (.cells n cs st)): loadV P h t (.ptr id 0)=some (.agg cs):=by
 simp only[loadV,I,hs,rdN,J,fy]
 rw[aL.2 (aV n),ah,fJ,fJ]
 rfl
theorem dK (hw:kS h)(hs:bB P t=some 1)(J:T.get h.tr id=some (.cells n cs false))(hl:cs.length=n)(ho:off<n)(hv:v.cells=[v])(I:storable v=true):
  ∃h₁,f_ P h t (.ptr id off) v=some h₁∧dW 0 [id] h h₁∧T.get h₁.tr id=some (.cells n (cs.set off v) false):=by
 refine⟨h.put id (some (.cells n (cs.set off v) false)),?_,dW.HH hw (hw _ _ J) _,by rw[dN,aC rfl]⟩
 simp only[f_,hs,hv,bz,cG,iU,jd,I,wz]
 rw[show Nat.beq (0+1) 1=true from rfl,ah]
 simp only[wrN,J,bz,cG]
 rw[aL.2 (show off+(0+1)≤n by omega),ah]
 congr 3
 rw[EJ,aC (by omega)]
 cases hc:(Nat.beq off 0&&Nat.beq (0+1) n) with
 |true =>
  simp only[bH,beq_iff] at hc
  obtain⟨rfl,rfl⟩:=hc
  rw[ah]
  have:cs.drop (0+1)=[]:=lW (by omega)
  simp[this]
 |false=>rw[aX];rfl
theorem eS {l:List V}(hw:kS h)(hs:bB P t=some n)(J:T.get h.tr id=some (.cells n cs false))(hl:l.length=n)(I:l.all storable=true):
  ∃h₁,f_ P h t (.ptr id 0) (.agg l)=some h₁∧dW 0 [id] h h₁∧T.get h₁.tr id=some (.cells n l false):=by
 refine⟨h.put id (some (.cells n l false)),?_,dW.HH hw (hw _ _ J) _,by rw[dN,aC rfl]⟩
 simp only[f_,hs,V.cells,hl,I]
 rw[fJ,iT,ah]
 simp only[wrN,J,hl,fy]
 rw[aL.2 (aV n),ah,fJ,fJ]
 rfl
end
section
variable {ax:Nat}
theorem Gu (hw:kS h)(I:b<256):
  ∃v h₁,buildSliceV Tryz.prog h 23 1 [(0,.int .u8 b)]=some (v,h₁)∧jB h₁ v [b]∧dW 1 [] h h₁∧∀i∈rowIds v,h.next≤i:=by
 refine⟨.sl h.next 0 1 (.exact 1),newRow h [.int .u8 b],?_,⟨by simpa using I,.inr (.inl ⟨h.next,[],1,rfl,?_,rfl⟩)⟩,dW.Bq hw _,fun i hi=>by simp[rowIds] at hi;omega⟩
 ·simp only[buildSliceV,aJ,eA,o7,V.cells]
  rfl
 ·rw[newRow,gT,aC rfl];rfl
theorem au.NI (J:C.P=Tryz.prog)(hw:kS h)(hg:wantE L E o.guard=some true)(hd:o.dst=some d)(hn:Nat.blt d ax=true)(I:o.op=.buildSlice t 1 ps)(ht:t=23)
 (hx:lookParts E ps.toList=some [(0,.int .u8 (b:Int))])(hb:b<256)
 (hr:∀v h₁,jB h₁ v [b]→dW 1 [] h h₁→(∀i∈rowIds v,h.next≤i)→au C ax L rest ((d,v)::E) h₁ R): au C ax L (o::rest) E h R:=by
 obtain⟨v,h₁,e1,e2,e3,e4⟩:=Gu hw hb
 refine au.op hg hd hn (v:=v) (h₁:=h₁) ?_ (hr v h₁ e2 e3 e4)
 rw[I,ht,J]
 exact oF hx e1
theorem au.app {c:Go.Call}{s x:V}{m:List Nat}(hP:C.P=Tryz.prog)(hw:kS h)(hg:wantE L E o.guard=some true)(hd:o.dst=some d)(hn:Nat.blt d ax=true)(I:o.op=.call c)(hc:c.callee=.builtin .append)
 (J:c.argTypes = #[23,23])(ha:lookArgs E c.args.toList=some [s,x])(hs:jB h s l)(hx:View h x m)(eL:l.length+m.length≤140737488355328)
 (hr:∀v h₁,jB h₁ v (l++m)→dW 1 (rowIds s) h h₁→(∀i∈rowIds v,i∈rowIds s∨h.next≤i)→au C ax L rest ((d,v)::E) h₁ R): au C ax L (o::rest) E h R:=by
 obtain⟨v,h₁,e1,e2,e3,e4⟩:=z7 hw hs hx eL
 refine au.op hg hd hn (v:=v) (h₁:=h₁) ?_ (hr v h₁ e2 e3 e4)
 rw[I,hP]
 exact mI hc ha (by rw[J];exact e1)
theorem DB (hw:kS h)(J:c<1073741824):
  ∃v h₁,makeSliceV Tryz.prog h 23 (.int .i64 0) (.int .i64 (c:Int))=some (v,h₁)∧jB h₁ v []∧dW 1 [] h h₁∧∀i∈rowIds v,h.next≤i:=by
 obtain⟨i,hi,i1,i2⟩:=wV
 refine⟨.sl h.next 0 0 (.exact c),h.new (.cells c (repeatL [.int .u8 0] c) false),?_,⟨by simp,.inr (.inl ⟨h.next,repeatL [.int .u8 0] c,c,rfl,?_,?_⟩)⟩,dW.Bq hw _,fun i hi=>by simp[rowIds] at hi;omega⟩
 ·simp only[makeSliceV,aJ,hi,o7,i1,i2,V.cells,bz,cG,cL,iV]
  rw[show(decide ((0:Int)≤0)&&decide ((0:Int)≤(c:Int))&&decide ((c:Int)<1073741824)&&Nat.ble 1 4096&&Nat.beq (0+1) 1&&Nat.ble 1 1)=true by simp;omega,ah]
  rfl
 ·rw[gT,aC rfl];rfl
 ·have:∀n,(repeatL [V.int .u8 0] n).length=n:=fun n=>by
   induction n with
   |zero=>rfl
   |succ n I=>simp[repeatL,I]
  simp[this]
end
section
variable {ax:Nat} {v:V} {a b:Operand}
theorem zm (e:(o.op,wantE L E o.guard,o.dst,Nat.blt d ax,bj E x)=(Op.move x,some true,some d,true,some v))(hw:au C ax L rest ((d,v)::E) h R): au C ax L (o::rest) E h R:=by
  simp only[bC] at e;exact au.op e.2.1 e.2.2.1 e.2.2.2.1 (by rw[e.1];exact bn e.2.2.2.2) hw
theorem za (e:(o.op,wantE L E o.guard,o.dst,Nat.blt d ax,bj E x)=(Op.assign x,some true,some d,true,some v))(hw:au C ax L rest ((d,v)::E) h R): au C ax L (o::rest) E h R:=by
  simp only[bC] at e;exact au.op e.2.1 e.2.2.1 e.2.2.2.1 (by rw[e.1];exact fq e.2.2.2.2) hw
theorem zn (e:(o.op,wantE L E o.guard,o.dst,Nat.blt d ax,bj E x)=(Op.nilCheck x,some true,some d,true,some (V.ptr j k)))(hw:au C ax L rest ((d,.ptr j k)::E) h R): au C ax L (o::rest) E h R:=by
  simp only[bC] at e;exact au.op e.2.1 e.2.2.1 e.2.2.2.1 (by rw[e.1];exact kT e.2.2.2.2) hw
theorem zf (e:(o.op,wantE L E o.guard,o.dst,Nat.blt d ax,bj E x)=(Op.fieldAddr t x i,some true,some d,true,some v))(I:fieldAddrV C.P t v i=some r)(hw:au C ax L rest ((d,r)::E) h R): au C ax L (o::rest) E h R:=by
  simp only[bC] at e;exact au.op e.2.1 e.2.2.1 e.2.2.2.1 (by rw[e.1];exact jH e.2.2.2.2 I) hw
theorem zl (e:(o.op,wantE L E o.guard,o.dst,Nat.blt d ax,bj E x)=(Op.load t x,some true,some d,true,some v))(I:loadV C.P h t v=some r)(hw:au C ax L rest ((d,r)::E) h R): au C ax L (o::rest) E h R:=by
  simp only[bC] at e;exact au.op e.2.1 e.2.2.1 e.2.2.2.1 (by rw[e.1];exact o_load e.2.2.2.2 I) hw
theorem ze {l:List V}(e:(o.op,wantE L E o.guard,o.dst,Nat.blt d ax,bj E x,nth l i)=(Op.extract x i,some true,some d,true,some (V.aQ l),some r))(hw:au C ax L rest ((d,r)::E) h R): au C ax L (o::rest) E h R:=by
  simp only[bC] at e;exact au.op e.2.1 e.2.2.1 e.2.2.2.1 (by rw[e.1];exact bY e.2.2.2.2.1 e.2.2.2.2.2) hw
theorem zp (e:(o.op,wantE L E o.guard,o.dst,Nat.blt d ax,bj E x,bj E b)=(Op.pick x a b,some true,some d,true,some (V.bool false),some v))(hw:au C ax L rest ((d,v)::E) h R): au C ax L (o::rest) E h R:=by
  simp only[bC] at e;exact au.op e.2.1 e.2.2.1 e.2.2.2.1 (by rw[e.1];exact mo e.2.2.2.2.1 e.2.2.2.2.2) hw
theorem zq (e:(o.op,wantE L E o.guard,o.dst,Nat.blt d ax,bj E x,bj E a)=(Op.pick x a b,some true,some d,true,some (V.bool true),some v))(hw:au C ax L rest ((d,v)::E) h R): au C ax L (o::rest) E h R:=by
  simp only[bC] at e;exact au.op e.2.1 e.2.2.1 e.2.2.2.1 (by rw[e.1];exact ru e.2.2.2.2.1 e.2.2.2.2.2) hw
theorem zb {op:BinOp}(e:(o.op,wantE L E o.guard,o.dst,Nat.blt d ax,bj E x,bj E y)=(Op.binOp op t x y t',some true,some d,true,some v,some u))(I:binV C.P h op t x y v u=some r)(hw:au C ax L rest ((d,r)::E) h R): au C ax L (o::rest) E h R:=by
  simp only[bC] at e;exact au.op e.2.1 e.2.2.1 e.2.2.2.1 (by rw[e.1];exact ay e.2.2.2.2.1 e.2.2.2.2.2 I) hw
theorem zx (e:(wantE L E o.guard,o.dst,Nat.blt d ax)=(some false,some d,true))(hw:au C ax L rest ((d,cq)::E) h R): au C ax L (o::rest) E h R:=by
  simp only[bC] at e;exact au.no e.1 e.2.1 e.2.2 hw
theorem zo (e:(wantE L E o.guard,o.dst,Nat.blt d ax)=(some true,some d,true))(ho:opE C.P E h o.op=some (v,h₁))(hw:au C ax L rest ((d,v)::E) h₁ R): au C ax L (o::rest) E h R:=by
  simp only[bC] at e;exact au.op e.1 e.2.1 e.2.2 ho hw
theorem zv (I:R E h): au C ax L [] E h R:=au.nil I
variable {c f:Code}
theorem zw (hw:WP C ax c E h fun ex E' h'=>match ex with
    |.normal=>WP C ax f E' h' Q
    |ex=>Q ex E' h'): WP C ax (.seq c f) E h Q:=WP.seq hw
theorem zr (I:ops.toList=L)(hw:au C ax L L E h fun E' h'=>Q .normal E' h'): WP C ax (.region k ops false) E h Q:=WP.region I hw
theorem zg (I:ops.toList=L)(hw:au C ax L L E h fun E' h'=>WP C ax f E' h' Q): WP C ax (.seq (.region k ops false) f) E h Q:=WP.seq (WP.region I hw)
theorem zi (I:bj E x=some (.bool true))(hw:WP C ax c E h Q): WP C ax (.cond x c f) E h Q:=WP.cond I hw
theorem zj (I:bj E x=some (.bool false))(hw:WP C ax f E h Q): WP C ax (.cond x c f) E h Q:=WP.cond I hw
end
inductive Md where
  |c (c:Code)
  |o (L l:List Oper)
def DC (C:ep)(ax:Nat)(Q:Ex→List (Nat×V)→H→Prop): List Code→Ex→List (Nat×V)→H→Prop
  |[]=>Q
  |b::K=>fun ex E' h'=>match ex with
    |.normal=>WP C ax b E' h' (DC C ax Q K)
    |ex=>DC C ax Q K ex E' h'
def Vy : List (Nat×V)→Nat→Option V
  |[],_=>none
  |(d,v)::E,k=>cond (Nat.beq d k) (some v) (Vy E k)
theorem PY : ∀(E:List (Nat×V)) (k:Nat),Vy E k=look E k
  |[],_=>rfl
  |(d,v)::E,k=>by simp only[Vy,look,PY E k]
def DD (E:List (Nat×V)): Operand→Option V
  |.tmp t=>Vy E t
  |.const c=>ofValue c
  |.global _=>none
  |.func f=>some (.fn (.func f) [] [])
theorem PZ (E:List (Nat×V))(x:Operand): DD E x=bj E x:=by cases x<;>first|rfl|exact PY _ _
def Zr (E:List (Nat×V)): Op→Option V
  |.move x=>DD E x
  |.assign x=>DD E x
  |.nilCheck x=>match DD E x with
    |some (.ptr j k)=>some (.ptr j k)
    |_=>none
  |.extract x i=>match DD E x with
    |some (.aQ l)=>nth l i
    |_=>none
  |.pick x a b=>match DD E x with
    |some (.bool true)=>DD E a
    |some (.bool false)=>DD E b
    |_=>none
  |_=>none
def runM (ax:Nat): Nat→Md→List (Nat×V)→List Code→Option (Md×List (Nat×V)×List Code)
  |0,m,E,K=>some (m,E,K)
  |n+1,.o _ [],E,b::K=>runM ax n (.c b) E K
  |n+1,.o L (o::l),E,K=>match wantE L E o.guard,o.dst with
    |some false,some d=>cond (Nat.blt d ax) (runM ax n (.o L l) ((d,cq)::E) K) none
    |some true,some d=>match Zr E o.op with
      |some v=>cond (Nat.blt d ax) (runM ax n (.o L l) ((d,v)::E) K) none
      |none=>none
    |_,_=>none
  |n+1,.c (.seq a b),E,K=>runM ax n (.c a) E (b::K)
  |n+1,.c (.region _ ops false),E,K=>runM ax n (.o ops.toList ops.toList) E K
  |n+1,.c (.cond x a b),E,K=>match DD E x with
    |some (.bool true)=>runM ax n (.c a) E K
    |some (.bool false)=>runM ax n (.c b) E K
    |_=>none
  |n+1,.c .skip,E,b::K=>runM ax n (.c b) E K
  |_+1,_,_,_=>none
abbrev Gl (C:ep)(ax:Nat)(h:H)(Q:Ex→List (Nat×V)→H→Prop)(m:Md)(E:List (Nat×V))(K:List Code): Prop:=match m with
  |.c c=>WP C ax c E h (DC C ax Q K)
  |.o L l=>au C ax L l E h fun E' h'=>DC C ax Q K .normal E' h'
class It (C:ep)(ax:Nat)(R:List (Nat×V)→H→Prop)(Q:outParam (Ex→List (Nat×V)→H→Prop))where
  K:List Code
  eq:R=fun E' h'=>DC C ax Q K .normal E' h'
class Vz (C:ep)(ax:Nat)(R:Ex→List (Nat×V)→H→Prop)(Q:outParam (Ex→List (Nat×V)→H→Prop))where
  K:List Code
  eq:R=DC C ax Q K
instance (priority:=50) (C:ep) (ax:Nat) (R:List (Nat×V)→H→Prop):It C ax R (fun _=>R):=⟨[],rfl⟩
instance (priority:=60) (C:ep) (ax:Nat) (Q:Ex→List (Nat×V)→H→Prop):It C ax (fun E' h'=>Q .normal E' h') Q:=⟨[],rfl⟩
instance (priority:=70) (C:ep) (ax:Nat) (f:Code) (Q:Ex→List (Nat×V)→H→Prop) (K:List Code):It C ax (fun E' h'=>WP C ax f E' h' (DC C ax Q K)) Q:=⟨f::K,rfl⟩
instance (priority:=65) (C:ep) (ax:Nat) (f:Code) (Q:Ex→List (Nat×V)→H→Prop):It C ax (fun E' h'=>WP C ax f E' h' Q) Q:=⟨[f],rfl⟩
instance (priority:=80) (C:ep) (ax:Nat) (K:List Code) (Q:Ex→List (Nat×V)→H→Prop):It C ax (fun E' h'=>DC C ax Q K .normal E' h') Q:=⟨K,rfl⟩
instance (priority:=50) (C:ep) (ax:Nat) (Q:Ex→List (Nat×V)→H→Prop):Vz C ax Q Q:=⟨[],rfl⟩
instance (priority:=80) (C:ep) (ax:Nat) (K:List Code) (Q:Ex→List (Nat×V)→H→Prop):Vz C ax (DC C ax Q K) Q:=⟨K,rfl⟩
section
variable {ax:Nat} {l:List Oper} {m m':Md} {K K':List Code} {f:Code}
theorem Zs {o:Op}{v:V}(e:Zr E o=some v): opE C.P E h o=some (v,h):=by
  unfold Zr at e
  simp only[PZ] at e
  split at e
  · exact bn e
  · exact fq e
  · split at e
    · rename_i I
      cases e;exact kT I
    · cases e
  · split at e
    · rename_i I
      exact bY I e
    · cases e
  · split at e
    · rename_i I;exact ru I e
    · rename_i I;exact mo I e
    · cases e
  · cases e
theorem LV : ∀(n:Nat) (m:Md) (E:List (Nat×V)) (K:List Code),runM ax n m E K=some (m',E',K')→Gl C ax h Q m' E' K'→Gl C ax h Q m E K:=by
  intro n
  induction n with
  |zero=>intro m E K e hw;simp only[runM,aB,bC] at e;obtain⟨rfl,rfl,rfl⟩:=e;exact hw
  |succ n I =>
    intro m E K e hw
    unfold runM at e
    split at e
    · rename_i he;cases he
    · rename_i he;cases he
      exact au.nil (I _ _ _ e hw)
    · rename_i he;cases he
      split at e
      · rename_i d hg hd
        cases J:Nat.blt d ax with
        |false=>rw[J] at e;cases e
        |true=>rw[J] at e;exact au.no hg hd J (I _ _ _ e hw)
      · rename_i d hg hd
        split at e
        · rename_i v hv
          cases J:Nat.blt d ax with
          |false=>rw[J] at e;cases e
          |true=>rw[J] at e;exact au.op hg hd J (Zs hv) (I _ _ _ e hw)
        · cases e
      · cases e
    · rename_i he;cases he
      exact WP.seq (I _ _ _ e hw)
    · rename_i he;cases he
      exact WP.region rfl (I _ _ _ e hw)
    · rename_i he;cases he
      rw[PZ] at e
      split at e
      · rename_i hx;exact WP.cond hx (I _ _ _ e hw)
      · rename_i hx;exact WP.cond hx (I _ _ _ e hw)
      · cases e
    · rename_i he;cases he
      exact WP.skip (I _ _ _ e hw)
    · cases e
theorem zk (n:Nat)[a:It C ax R Q](e:runM ax n (.o L l) E (It.K C ax R)=some (m',E',K'))(hw:Gl C ax h Q m' E' K'): au C ax L l E h R:=by
  rw[a.eq];exact LV n (.o L l) E _ e hw
theorem zK {I:Ex→List (Nat×V)→H→Prop}(n:Nat)[a:Vz C ax I Q](e:runM ax n (.c f) E (Vz.K C ax I)=some (m',E',K'))(hw:Gl C ax h Q m' E' K'): WP C ax f E h I:=by
  rw[a.eq];exact LV n (.c f) E _ e hw
end
section
variable {ax:Nat} {l:List Oper}
def OpR (C:ep)(E:List (Nat×V))(h:H)(o:Oper)(R:V→H→Prop): Prop:=∃v h₁,R v h₁∧∀env,iM env E→∃N,evOp C (ev C N) env h o=some (v,h₁)
theorem OpR.call {k:FuncId}{R:V→H→Prop}(J:o.op=.call cl)(hc:cl.callee=.value x)(hx:bj E x=some (.fn (.func k) first cap))
 (ha:lookArgs E cl.args.toList=some args)(I:Am.Call C k (first++(args++cap)) h R): OpR C E h o R:=by
 obtain⟨v,h₁,Du,hr⟩:=I
 exact⟨v,h₁,hr,fun env hE=>Gg hE J hc hx ha Du⟩
theorem OpR.of {v:V}{R:V→H→Prop}(ho:opE C.P E h o.op=some (v,h₁))(I:R v h₁): OpR C E h o R:=⟨v,h₁,I,fun _ J=>⟨0,Dt J ho⟩⟩
theorem au.any (hg:wantE L E o.guard=some true)(hd:o.dst=some d)(hn:Nat.blt d ax=true)(ho:OpR C E h o zT)
 (hw:∀v h₁,zT v h₁→au C ax L rest ((d,v)::E) h₁ R): au C ax L (o::rest) E h R:=by
 intro env J
 obtain⟨v,h₁,hr,ni⟩:=ho
 obtain⟨N,hN⟩:=ni env J
 obtain⟨M,I,h',E',h1,h2,h3⟩:=hw v h₁ hr (env.set d (some v)) (J.set d v)
 refine⟨Nat.max N M,I,h',E',?_,h2,h3⟩
 simp only[evOps,ke J hg,ah,mE (dO (nZ N M)) hN,St.put,hd,hn]
 exact qt (dO (nY N M)) _ _ _ h1
def NJ : List (Env×V)→List (List (Nat×V)×V)→Prop
 |[],[]=>True
 |x::l,y::m=>iM x.1 y.1∧x.2=y.2∧NJ l m
 |_,_=>False
def az (C:ep)(ax:Nat)(L l:List Oper)(E:List (Nat×V))(h:H)(hs:List H)(Q:List (Nat×V)→H→List (List (Nat×V)×V)→List H→Prop): Prop :=
 ∀env,iM env E→∃N I h' E' tr ts J,trace C (ev C N) L l ⟨env,ax,h⟩ hs=some (tr,J,⟨I,ax,h'⟩)∧iM I E'∧NJ tr ts∧Q E' h' ts J
variable {Q:List (Nat×V)→H→List (List (Nat×V)×V)→List H→Prop}
theorem az.nil (I:Q E h [] hs): az C ax L [] E h hs Q:=fun env J=>⟨0,env,h,E,[],[],hs,rfl,J,aa,I⟩
theorem az.any {e:Bool}(hg:wantE L E o.guard=some true)(hd:o.dst=some d)(hn:Nat.blt d ax=true)(he:isEff C o.op=e)(ho:OpR C E h o zT)
 (hw:∀v h₁,zT v h₁→az C ax L rest ((d,v)::E) h₁ (cond e (hs++[h₁]) hs) fun E' h' ts I=>Q E' h' ((E,v)::ts) I): az C ax L (o::rest) E h hs Q:=by
 intro env hE
 obtain⟨v,h₁,hr,ni⟩:=ho
 obtain⟨N,hN⟩:=ni env hE
 obtain⟨M,J,h',E',tr,ts,I,h1,h2,h3,h4⟩:=hw v h₁ hr (env.set d (some v)) (hE.set d v)
 refine⟨Nat.max N M,J,h',E',(env,v)::tr,(E,v)::ts,I,?_,h2,⟨hE,rfl,h3⟩,h4⟩
 simp only[trace,ke hE hg,ah,mE (dO (nZ N M)) hN,St.put,hd,hn,he]
 rw[xK (dO (nY N M)) _ _ _ _ h1]
theorem az.gh {e:Bool}(hg:wantE L E o.guard=some true)(hd:o.dst=none)(he:isEff C o.op=e)(ho:OpR C E h o zT)
 (hw:∀v h₁,zT v h₁→az C ax L rest E h₁ (cond e (hs++[h₁]) hs) fun E' h' ts I=>Q E' h' ((E,v)::ts) I): az C ax L (o::rest) E h hs Q:=by
 intro env hE
 obtain⟨v,h₁,hr,ni⟩:=ho
 obtain⟨N,hN⟩:=ni env hE
 obtain⟨M,J,h',E',tr,ts,I,h1,h2,h3,h4⟩:=hw v h₁ hr env hE
 refine⟨Nat.max N M,J,h',E',(env,v)::tr,(E,v)::ts,I,?_,h2,⟨hE,rfl,h3⟩,h4⟩
 simp only[trace,ke hE hg,ah,mE (dO (nZ N M)) hN,St.put,hd,he]
 rw[xK (dO (nY N M)) _ _ _ _ h1]
theorem az.op {v:V}(J:wantE L E o.guard=some true)(hd:o.dst=some d)(hn:Nat.blt d ax=true)(he:isEff C o.op=false)(ho:opE C.P E h o.op=some (v,h))
 (hw:az C ax L rest ((d,v)::E) h hs fun E' h' ts I=>Q E' h' ((E,v)::ts) I): az C ax L (o::rest) E h hs Q :=
 az.any J hd hn he (OpR.of (R:=fun v' h'=>v'=v∧h'=h) ho ⟨rfl,rfl⟩) (fun v' h' hr=>by obtain⟨rfl,rfl⟩:=hr;exact hw)
theorem az.no {e:Bool}(hg:wantE L E o.guard=some false)(hd:o.dst=some d)(hn:Nat.blt d ax=true)(he:isEff C o.op=e)
 (hw:az C ax L rest ((d,cq)::E) h (cond e (hs++[h]) hs) fun E' h' ts I=>Q E' h' ((E,cq)::ts) I): az C ax L (o::rest) E h hs Q:=by
 intro env hE
 obtain⟨M,J,h',E',tr,ts,I,h1,h2,h3,h4⟩:=hw (env.set d (some cq)) (hE.set d cq)
 refine⟨M,J,h',E',(env,cq)::tr,(E,cq)::ts,I,?_,h2,⟨hE,rfl,h3⟩,h4⟩
 simp only[trace,ke hE hg,aX,St.put,hd,hn,ah,he]
 rw[h1]
def Iu (C:ep)(L:List Oper)(o:Oper)(x:List (Nat×V)×V)(h:H): Prop :=
 wantE L x.1 o.guard=some false∨(wantE L x.1 o.guard=some true∧(∃h',opE C.P x.1 h o.op=some (x.2,h'))∧x.2.beq x.2=true)
def HI (C:ep)(L:List Oper)(an es:List Nat)(hs:List H): List Oper→List (List (Nat×V)×V)→Nat→Prop
 |o::l,x::tr,i=>(isEff C o.op=true∨(qo ((nth an i).getD 0) es&&Nat.beq (lC ((nth an i).getD 0) es) (oE an i es))=true ∨
   (qo ((nth an i).getD 0) es=true∧∀h∈(hs.drop (lC ((nth an i).getD 0) es)).take (oE an i es+1-lC ((nth an i).getD 0) es),Iu C L o x h))∧HI C L an es hs l tr (i+1)
 |[],[],_=>True
 |_,_,_=>False
theorem P0 {x:Env×V}{y:List (Nat×V)×V}(J:iM x.1 y.1)(hv:x.2=y.2): ∀(hs:List H),(∀h∈hs,Iu C L o y h)→sameIn C self L o x hs=true:=by
 intro hs
 induction hs with
 |nil=>intro _;rfl
 |cons h hs ih =>
  intro I
  simp only[sameIn]
  rcases I h bX with hg|⟨hg,⟨h',ho⟩,hb⟩
  ·rw[ke J hg,aX]
  ·rw[ke J hg,ah,Dt J ho]
   simp only
   rw[hv,hb,ah]
   exact ih (fun h hh=>I h (bW _ hh))
theorem P3 {an:List Nat}: ∀(l:List Oper) (tr:List (Env×V)) (ts:List (List (Nat×V)×V)) (i:Nat),NJ tr ts→HI C L an es hs l ts i→stayOk C self L an es hs l tr i=true:=by
 intro l
 induction l with
 |nil=>intro tr ts i hn J;cases tr<;>cases ts<;>first|rfl|(exact J.elim)|(exact hn.elim)
 |cons o l ih =>
  intro tr ts i hn J
  cases tr with
  |nil=>cases ts with
   |nil=>exact J.elim
   |cons y ts=>exact hn.elim
  |cons x tr =>
   cases ts with
   |nil=>exact hn.elim
   |cons y ts =>
    obtain⟨n1,n2,n3⟩:=hn
    obtain⟨s1,s2⟩:=J
    simp only[stayOk]
    have I:=ih tr ts (i+1) n3 s2
    cases he:isEff C o.op with
    |true=>rw[ah];exact I
    |false =>
     rw[aX]
     rcases s1 with s1|s1|⟨s1,s3⟩
     ·rw[he] at s1;cases s1
     ·rw[s1,ah];exact I
     ·cases hq:(qo ((nth an i).getD 0) es&&Nat.beq (lC ((nth an i).getD 0) es) (oE an i es)) with
      |true=>rw[ah];exact I
      |false=>rw[aX,s1,P0 n1 n2 _ s3,iT,ah];exact I
theorem WP.draw {Q:Ex→List (Nat×V)→H→Prop}(hl:ops.toList=L)(J:o6 C false L=true)
 (hw:az C ax L L E h [h] fun E' h' ts hs=>HI C L (ancs L []) (eH C L 0) hs L ts 0∧Q .normal E' h'): WP C ax (.region id ops true) E h Q:=by
 intro env hE
 obtain⟨N,I,h',E',tr,ts,Ca,h1,h2,h3,h4,h5⟩:=hw env hE
 refine⟨N+1,.normal,I,h',E',?_,h2,h5⟩
 subst hl
 rw[je]
 simp only[evStep,ah,qp,J,h1,P3 _ _ _ _ h3 h4]
end
def planOk (C:ep)(an es:List Nat): List Oper→List (Option (Nat×Nat))→Nat→Bool
 |[],[],_=>true
 |o::l,p::ps,i=>(match p with
   |none=>isEff C o.op||(qo ((nth an i).getD 0) es&&Nat.beq (lC ((nth an i).getD 0) es) (oE an i es))
   |some (lo,n)=>qo ((nth an i).getD 0) es&&Nat.beq lo (lC ((nth an i).getD 0) es)&&Nat.beq n (oE an i es+1-lC ((nth an i).getD 0) es))&&planOk C an es l ps (i+1)
 |_,_,_=>false
def DE (C:ep)(L:List Oper)(hs:List H): List Oper→List (List (Nat×V)×V)→List (Option (Nat×Nat))→Prop
 |o::l,x::tr,p::ps=>(match p with
   |none=>True
   |some (lo,n)=>∀h∈(hs.drop lo).take n,Iu C L o x h)∧DE C L hs l tr ps
 |[],[],_=>True
 |_,_,_=>False
theorem DE.stay {an:List Nat}: ∀(l:List Oper) (ts:List (List (Nat×V)×V)) (ps:List (Option (Nat×Nat))) (i:Nat),planOk C an es l ps i=true→DE C L hs l ts ps→HI C L an es hs l ts i:=by
 intro l
 induction l with
 |nil=>intro ts ps i h1 J;cases ts with
  |nil=>trivial
  |cons x ts=>exact J.elim
 |cons o l ih =>
  intro ts ps i h1 J
  cases ts with
  |nil=>cases ps<;>exact J.elim
  |cons x ts =>
   cases ps with
   |nil=>exact J.elim
   |cons p ps =>
    simp only[planOk,bH] at h1
    obtain⟨I,a2⟩:=h1
    obtain⟨b1,b2⟩:=J
    refine⟨?_,ih ts ps (i+1) a2 b2⟩
    cases p with
    |none =>
     simp only[E5] at I
     rcases I with I|I
     ·exact .inl I
     ·exact .inr (.inl I)
    |some q =>
     obtain⟨lo,n⟩:=q
     simp only[bH,beq_iff] at I
     obtain⟨⟨c1,c2⟩,c3⟩:=I
     refine .inr (.inr ⟨c1,?_⟩)
     subst c2
     subst c3
     exact b1
theorem WP.drawn {ax:Nat}(ps:List (Option (Nat×Nat)))(hl:ops.toList=L)(J:o6 C false L=true)
 (hp:planOk C (ancs L []) (eH C L 0) L ps 0=true)
 (hw:az C ax L L E h [h] fun E' h' ts hs=>DE C L hs L ts ps∧Q .normal E' h'): WP C ax (.region id ops true) E h Q:=by
 refine WP.draw hl J ?_
 intro env hE
 obtain⟨N,I,h',E',tr,ts,Ca,h1,h2,h3,h4,h5⟩:=hw env hE
 exact⟨N,I,h',E',tr,ts,Ca,h1,h2,h3,DE.stay _ _ _ _ hp h4,h5⟩
theorem dZ {a b:H}{l:List H}{p:H→Prop}(J:p a)(hb:p b): ∀x∈((a::b::l).drop 0).take 2,p x:=by
 intro x I
 simp only[gS,List.take_succ_cons,Bc,jz,kF,n4] at I
 rcases I with rfl|rfl
 ·exact J
 ·exact hb
theorem sA {a b c:H}{l:List H}{p:H→Prop}(J:p a)(hb:p b)(hc:p c): ∀x∈((a::b::c::l).drop 0).take 3,p x:=by
 intro x I
 simp only[gS,List.take_succ_cons,Bc,jz,kF,n4] at I
 rcases I with rfl|rfl|rfl
 ·exact J
 ·exact hb
 ·exact hc
theorem d_ (k:IntKind): ikBeq k k=true:=by cases k<;>rfl
theorem lF (n:Int): intBeq n n=true:=by cases n<;>simp[intBeq]
theorem Cb (c:Cap): c.beq c=true:=by cases c<;>simp[Cap.beq]
theorem HJ (a b c:Nat)(d:Cap): (V.sl a b c d).beq (.sl a b c d)=true:=by simp[V.beq,Cb]
theorem cX {v:V}(I:View h v l): v.beq v=true:=by
 obtain⟨_,I⟩:=I
 rcases I with⟨rfl|⟨J,rfl⟩,_⟩|⟨id,off,cap,n,cs,st,rfl,_⟩
 ·simp[V.beq]
 ·simp[V.beq]
 ·exact HJ _ _ _ _
section
variable {ax:Nat} {Q:List (Nat×V)→H→List (List (Nat×V)×V)→List H→Prop} {v:V} {a b:Operand}
theorem zM (e:(o.op,wantE L E o.guard,o.dst,Nat.blt d ax,isEff C o.op,bj E x)=(Op.move x,some true,some d,true,false,some v))(hw:az C ax L rest ((d,v)::E) h hs fun E' h' ts I=>Q E' h' ((E,v)::ts) I): az C ax L (o::rest) E h hs Q:=by
  simp only[bC] at e;exact az.op e.2.1 e.2.2.1 e.2.2.2.1 e.2.2.2.2.1 (by rw[e.1];exact bn e.2.2.2.2.2) hw
theorem zA (e:(o.op,wantE L E o.guard,o.dst,Nat.blt d ax,isEff C o.op,bj E x)=(Op.assign x,some true,some d,true,false,some v))(hw:az C ax L rest ((d,v)::E) h hs fun E' h' ts I=>Q E' h' ((E,v)::ts) I): az C ax L (o::rest) E h hs Q:=by
  simp only[bC] at e;exact az.op e.2.1 e.2.2.1 e.2.2.2.1 e.2.2.2.2.1 (by rw[e.1];exact fq e.2.2.2.2.2) hw
theorem zN (e:(o.op,wantE L E o.guard,o.dst,Nat.blt d ax,isEff C o.op,bj E x)=(Op.nilCheck x,some true,some d,true,false,some (V.ptr j k)))(hw:az C ax L rest ((d,.ptr j k)::E) h hs fun E' h' ts I=>Q E' h' ((E,.ptr j k)::ts) I): az C ax L (o::rest) E h hs Q:=by
  simp only[bC] at e;exact az.op e.2.1 e.2.2.1 e.2.2.2.1 e.2.2.2.2.1 (by rw[e.1];exact kT e.2.2.2.2.2) hw
theorem zF (e:(o.op,wantE L E o.guard,o.dst,Nat.blt d ax,isEff C o.op,bj E x)=(Op.fieldAddr t x i,some true,some d,true,false,some v))(J:fieldAddrV C.P t v i=some r)(hw:az C ax L rest ((d,r)::E) h hs fun E' h' ts I=>Q E' h' ((E,r)::ts) I): az C ax L (o::rest) E h hs Q:=by
  simp only[bC] at e;exact az.op e.2.1 e.2.2.1 e.2.2.2.1 e.2.2.2.2.1 (by rw[e.1];exact jH e.2.2.2.2.2 J) hw
theorem zL (e:(o.op,wantE L E o.guard,o.dst,Nat.blt d ax,isEff C o.op,bj E x)=(Op.load t x,some true,some d,true,false,some v))(J:loadV C.P h t v=some r)(hw:az C ax L rest ((d,r)::E) h hs fun E' h' ts I=>Q E' h' ((E,r)::ts) I): az C ax L (o::rest) E h hs Q:=by
  simp only[bC] at e;exact az.op e.2.1 e.2.2.1 e.2.2.2.1 e.2.2.2.2.1 (by rw[e.1];exact o_load e.2.2.2.2.2 J) hw
theorem zO (e:(wantE L E o.guard,o.dst,Nat.blt d ax,isEff C o.op)=(some true,some d,true,false))(ho:opE C.P E h o.op=some (v,h))(hw:az C ax L rest ((d,v)::E) h hs fun E' h' ts I=>Q E' h' ((E,v)::ts) I): az C ax L (o::rest) E h hs Q:=by
  simp only[bC] at e;exact az.op e.1 e.2.1 e.2.2.1 e.2.2.2 ho hw
end
abbrev PM := Nat→Option Obj
variable {m':PM}
def PM.le (a b:PM): Prop:=∀i o,a i=some o→b i=some o
def PM.dj (a b:PM): Prop:=∀i,a i=none∨b i=none
def PM.upd (m:PM)(id:Nat)(o:Option Obj): PM:=fun i=>if i=id then o else m i
def PM.un (a b:PM): PM:=fun i=>(a i).orElse fun _=>b i
theorem PM.le_refl (a:PM): a.le a:=fun _ _ h=>h
theorem PM.le_trans {a b c:PM}(x:a.le b)(y:b.le c): a.le c:=fun i o h=>y i o (x i o h)
theorem PM.nF {a b I J:PM}(hd:a.dj b)(ha:I.le a)(hb:J.le b): I.dj J:=by
 intro i
 rcases hd i with h|h
 ·left
  cases h1:I i with
  |none=>rfl
  |some o=>rw[ha i o h1] at h;cases h
 ·right
  cases h1:J i with
  |none=>rfl
  |some o=>rw[hb i o h1] at h;cases h
theorem PM.pT {a b:PM}(h:a.dj b): b.dj a:=fun i=>(h i).symm
theorem PM.Iv (a b:PM): a.le (a.un b):=fun i o h=>by simp[PM.un,h]
theorem PM.Iw {a b:PM}(hd:a.dj b): b.le (a.un b):=fun i o h=>by
 rcases hd i with I|I<;>grind[PM.un]
theorem PM.DF {a b c:PM}(J:a.le c)(hb:b.le c): (a.un b).le c:=fun i o h=>by
 simp only[PM.un] at h
 cases I:a i with
 |none=>rw[I] at h;exact hb i o h
 |some x=>rw[I] at h;injection h with h;subst h;exact J i _ I
theorem PM.DG {a b c:PM}(I:a.dj c)(J:b.dj c): (a.un b).dj c:=fun i=>by
 rcases I i with h|h
 ·rcases J i with h2|h2<;>grind[PM.un]
 ·grind
def ViewM (m:PM)(v:V)(l:List Nat): Prop:=(∀b∈l,b<256)∧(((v=.aY∨∃a,v=.sle a)∧l=[]) ∨
 ∃id off cap n cs st,v=.sl id off l.length cap∧m id=some (.cells n cs st)∧cs.length=n∧off+l.length≤n∧(cs.drop off).take l.length=ofBytes l ∧
  (match cap with|.exact c=>l.length≤c|.rest e _=>e=1))
def sP (m:PM)(v:V)(l:List Nat): Prop:=(∀b∈l,b<256)∧((v=.aY∧l=[]) ∨
 (∃id cs c,v=.sl id 0 l.length (.exact c)∧m id=some (.cells c (ofBytes l++cs) false)∧l.length+cs.length=c) ∨
 (∃id,v=.sl id 0 l.length (.rest 1 0)∧m id=some (.cells l.length (ofBytes l) false)∧1≤l.length))
theorem ViewM.up {m:PM}{v:V}(h:ViewM m v l)(hm:PM.le m m'): ViewM m' v l:=by
 obtain⟨J,I⟩:=h
 refine⟨J,?_⟩
 rcases I with I|⟨id,off,cap,n,cs,st,e,hg,h3⟩
 ·grind
 ·exact .inr ⟨id,off,cap,n,cs,st,e,hm _ _ hg,h3⟩
theorem sP.up {m:PM}{v:V}(h:sP m v l)(hm:PM.le m m'): sP m' v l:=by
 obtain⟨h1,h2⟩:=h
 refine⟨h1,?_⟩
 rcases h2 with h2|⟨id,cs,c,e,I,J⟩|⟨id,e,I,J⟩
 ·grind
 ·exact .inr (.inl ⟨id,cs,c,e,hm _ _ I,J⟩)
 ·exact .inr (.inr ⟨id,e,hm _ _ I,J⟩)
theorem sP.view {m:PM}{v:V}(I:sP m v l): ViewM m v l:=by
 obtain⟨J,I⟩:=I
 refine⟨J,?_⟩<;>grind[dR]
def uB (m:PM)(k:Nat)(v:V)(cs:List V): Prop:=cs.all storable=true∧((v=.aY∧cs=[]) ∨
 ∃id n cap N rest,v=.sl id 0 n cap∧m id=some (.cells N (cs++rest) false)∧cs.length=n*k∧cs.length+rest.length=N∧rest.all storable=true ∧
  (match cap with|.exact c=>N=c*k∧n≤c|.rest e alt=>e=k∧alt=0∧rest=[]∧1≤n))
theorem uB.up {m:PM}{v:V}(h:uB m k v cs)(hm:PM.le m m'): uB m' k v cs:=by
 obtain⟨J,I⟩:=h
 refine⟨J,?_⟩
 rcases I with I|⟨id,n,cap,N,rest,e,hg,h3⟩
 ·grind
 ·exact .inr ⟨id,n,cap,N,rest,e,hm _ _ hg,h3⟩
inductive aI : Type 1 where
 |pt (id:Nat) (o:Obj)
 |ro (id:Nat) (o:Obj)
 |pu (φ:Prop)
 |buf (v:V) (l:List Nat)
 |cD (v:V) (l:List Nat)
 |Zt (v:V) (l:List Nat)
 |arr (k:Nat) (v:V) (cs:List V)
 |an (A B:aI)
 |xs {α:Type} (f:α→aI)
 |all {α:Type} (f:α→aI)
 |se (A B:aI)
variable {A B X:aI} {S S':List aI}
abbrev pt := aI.pt
abbrev ro := aI.ro
abbrev pu := aI.pu
abbrev xs {α:Type}(f:α→aI): aI:=aI.xs f
abbrev aZ := aI.buf
abbrev Cc := aI.cD
abbrev cP := aI.Zt
def aI.p : aI→PM→PM→Prop
 |.pt id o,m,_=>m id=some o
 |.ro id o,_,r=>r id=some o
 |.pu φ,_,_=>φ
 |.buf v l,m,_=>sP m v l
 |.cD v l,_,r=>ViewM r v l
 |.Zt v l,m,r=>ViewM m v l∨ViewM r v l
 |.arr k v cs,m,_=>uB m k v cs
 |.an A B,m,r=>A.p m r∧B.p m r
 |.xs f,m,r=>∃x,(f x).p m r
 |.all f,m,r=>∀x,(f x).p m r
 |.se A B,m,r=>∃a b,PM.dj a b∧PM.le a m∧PM.le b m∧A.p a r∧B.p b r
theorem aI.mono : ∀(A:aI) (m m' r J:PM),PM.le m m'→PM.le r J→A.p m r→A.p m' J:=by
 intro A
 induction A with
 |pt id o=>intro m m' r J hm I h;exact hm _ _ h
 |ro id o=>intro m m' r J hm I h;exact I _ _ h
 |pu φ=>intro m m' r J hm I h;exact h
 |buf v l=>intro m m' r J hm I h;exact sP.up h hm
 |cD v l=>intro m m' r J hm I h;exact ViewM.up h I
 |Zt v l =>
  intro m m' r J hm I h
  rcases h with h|h
  ·exact .inl (ViewM.up h hm)
  ·exact .inr (ViewM.up h I)
 |arr k v cs=>intro m m' r J hm I h;exact uB.up h hm
 |an A B ia ib=>intro m m' r J hm I h;exact⟨ia _ _ _ _ hm I h.1,ib _ _ _ _ hm I h.2⟩
 |xs f ih=>intro m m' r J hm I h;obtain⟨x,hx⟩:=h;exact⟨x,ih x _ _ _ _ hm I hx⟩
 |all f ih=>intro m m' r J hm I h x;exact ih x _ _ _ _ hm I (h x)
 |se A B ia ib =>
  intro m m' r J hm I h
  obtain⟨a,b,h1,h2,h3,h4,h5⟩:=h
  exact⟨a,b,h1,PM.le_trans h2 hm,PM.le_trans h3 hm,ia _ _ _ _ (PM.le_refl _) I h4,ib _ _ _ _ (PM.le_refl _) I h5⟩
def star : List aI→aI
 |[]=>.pu True
 |A::L=>.se A (star L)
theorem aI.up {m r I:PM}(h:A.p m r)(hm:m.le m')(J:r.le I): A.p m' I:=A.mono m m' r I hm J h
def cN (A B:aI): Prop:=∀m r,A.p m r→B.p m r
def bg (A:aI): Prop:=∀m r,A.p m r→A.p (fun _=>none) r
theorem bg.ro (id:Nat)(o:Obj): bg (.ro id o):=fun _ _ h=>h
theorem bg.pu (φ:Prop): bg (.pu φ):=fun _ _ h=>h
theorem bg.an (I:bg A)(J:bg B): bg (.an A B):=fun m r h=>⟨I m r h.1,J m r h.2⟩
def getA : List aI→Nat→Option aI
 |[],_=>none
 |A::_,0=>some A
 |_::L,k+1=>getA L k
theorem m6 (I:getA S k=some X): getA (A::S) (k+1)=some X:=I
def setA : List aI→Nat→aI→List aI
 |[],_,_=>[]
 |_::L,0,B=>B::L
 |A::L,k+1,B=>A::setA L k B
def aE : List aI→Nat→List aI
 |[],_=>[]
 |_::L,0=>L
 |A::L,k+1=>A::aE L k
def bringA (S:List aI): List Nat→List aI
 |[]=>S
 |k::ks=>match getA S k with
  |some A=>A::bringA (aE S k) ks
  |none=>[]
def NK (k:Nat): List Nat→Nat
 |[]=>0
 |x::l=>cond (Nat.blt x k) (NK k l+1) (NK k l)
def Zu : List Nat→List Nat→List Nat
 |_,[]=>[]
 |seen,k::ks=>(k-NK k seen)::Zu (k::seen) ks
theorem P4 {L:List aI}{m r:PM}(h:(star (A::B::L)).p m r): (star (B::A::L)).p m r:=by
 obtain⟨a,b,h1,h2,h3,h4,c,d,g1,g2,g3,g4,g5⟩:=h
 have J:a.dj c:=PM.nF h1 (PM.le_refl _) g2
 have I:a.dj d:=PM.nF h1 (PM.le_refl _) g3
 exact⟨c,a.un d,PM.pT (PM.DG J (PM.pT g1)),PM.le_trans g2 h3,PM.DF h2 (PM.le_trans g3 h3),g4,a,d,I,PM.Iv _ _,PM.Iw I,h4,g5⟩
theorem z8 {L I:List aI}(h:∀m r,(star L).p m r→(star I).p m r){m r:PM}(hs:(star (A::L)).p m r): (star (A::I)).p m r:=by
 obtain⟨a,b,J,h2,h3,h4,h5⟩:=hs
 exact⟨a,b,J,h2,h3,h4,h _ _ h5⟩
theorem z_ : ∀ {S:List aI} {k:Nat} {A:aI},getA S k=some A→∀m r,(star S).p m r→(star (A::aE S k)).p m r:=by
 intro S
 induction S with
 |nil=>intro k A h;cases h
 |cons B S I =>
  intro k A h m r hs
  cases k with
  |zero=>injection h with h;subst h;exact hs
  |succ k =>
   exact P4 (z8 (I h) hs)
theorem Aa {L:List aI}{m r:PM}(h:(star (A::L)).p m r): (star L).p m r:=by
 obtain⟨a,b,I,J,h3,h4,h5⟩:=h<;>grind[aI.up,PM.le_refl]
theorem P5 {L:List aI}{m r:PM}(h:(star (A::L)).p m r): A.p m r:=by
 obtain⟨a,b,I,J,h3,h4,h5⟩:=h<;>grind[aI.up,PM.le_refl]
theorem DH : ∀(ks:List Nat) (S:List aI) (m r:PM),(star S).p m r→(bringA S ks=[]∨True)→(star (bringA S ks)).p m r:=by
 intro ks
 induction ks with
 |nil=>intro S m r h _;exact h
 |cons k ks I =>
  intro S m r h _
  simp only[bringA]
  cases J:getA S k with
  |none=>trivial
  |some A=>exact z8 (fun m r h=>I _ m r h (.inr aa)) (z_ J m r h)
theorem Iy {L:List aI}: ∀m r,(star (star L::S)).p m r↔(star (L++S)).p m r:=by
 induction L with
 |nil =>
  intro m r
  constructor
  ·intro h;exact Aa h
  ·intro h;exact⟨fun _=>none,m,fun _=>.inl rfl,fun _ _ h=>(by cases h),PM.le_refl _,aa,h⟩
 |cons A L ih =>
  intro m r
  constructor
  ·rintro⟨a,b,J,h2,h3,⟨c,d,g1,g2,g3,g4,g5⟩,h5⟩
   have I:c.dj b:=PM.nF J g2 (PM.le_refl _)
   have Gv:d.dj b:=PM.nF J g3 (PM.le_refl _)
   exact⟨c,d.un b,PM.pT (PM.DG (PM.pT g1) (PM.pT I)),PM.le_trans g2 h2,PM.DF (PM.le_trans g3 h2) h3,g4,(ih _ _).1 ⟨d,b,Gv,PM.Iv _ _,PM.Iw Gv,g5,h5⟩⟩
  ·rintro⟨c,e,J,h2,h3,h4,h5⟩
   obtain⟨d,b,g1,g2,g3,g4,g5⟩:=(ih _ _).2 h5
   have pS:c.dj d:=PM.nF J (PM.le_refl _) g2
   have I:c.dj b:=PM.nF J (PM.le_refl _) g3
   exact⟨c.un d,b,PM.DG I g1,PM.DF h2 (PM.le_trans g2 h3),PM.le_trans g3 h3,⟨c,d,pS,PM.Iv _ _,PM.Iw pS,h4,g4⟩,g5⟩
structure Sat (h:H)(S:List aI): Prop where
 wf:kS h
 ok:∃m r,PM.le m (T.get h.tr)∧PM.le r (T.get h.tr)∧PM.dj m r∧(star S).p m r
section
theorem Sat.map (s:Sat h S)(I:∀m r,(star S).p m r→(star S').p m r): Sat h S':=by
 obtain⟨m,r,J,h2,h3,h4⟩:=s.ok
 exact⟨s.wf,m,r,J,h2,h3,I _ _ h4⟩
theorem Sat.at (s:Sat h S)(I:getA S k=some A): ∃m r,PM.le m (T.get h.tr)∧PM.le r (T.get h.tr)∧A.p m r:=by
 obtain⟨m,r,J,h2,h3,h4⟩:=s.ok
 exact⟨m,r,J,h2,P5 (z_ I m r h4)⟩
theorem Sat.take (k:Nat)(s:Sat h S)(I:getA S k=some A): Sat h (A::aE S k):=s.map (z_ I)
theorem Sat.qu (ks:List Nat)(s:Sat h S): Sat h (bringA S (Zu [] ks)):=s.map fun m r h=>DH _ S m r h (.inr aa)
theorem Sat.ae (ks:List Nat)(s:Sat h S): Sat h (bringA S ks):=s.map fun m r h=>DH _ S m r h (.inr aa)
theorem Sat.drop (s:Sat h (A::S)): Sat h S:=s.map fun _ _ h=>Aa h
theorem Tc : ∀(S:List aI) (k:Nat) (m r:PM),(star S).p m r→(star (aE S k)).p m r:=by
 intro S
 induction S with
 |nil=>intro k m r h;exact h
 |cons B S I =>
  intro k m r h
  cases k with
  |zero=>exact Aa h
  |succ k=>exact z8 (I k) h
theorem Sat.del (k:Nat)(s:Sat h S): Sat h (aE S k):=s.map (Tc S k)
theorem Sat.iu (s:Sat h (A::S))(he:cN A B): Sat h (B::S):=s.map fun m r ⟨a,b,I,J,h3,h4,h5⟩=>⟨a,b,I,J,h3,he _ _ h4,h5⟩
theorem Sat.dup (s:Sat h (A::S))(J:bg A): Sat h (A::A::S):=s.map fun m r hs=>by
 obtain⟨a,b,h1,h2,h3,I,h5⟩:=hs
 exact⟨fun _=>none,m,fun _=>.inl rfl,fun _ _ h=>(by cases h),PM.le_refl _,J _ _ I,a,b,h1,h2,h3,I,h5⟩
theorem Sat.fB (s:Sat h S)(I:φ): Sat h (pu φ::S):=s.map fun m _ hs=>⟨fun _=>none,m,fun _=>.inl rfl,fun _ _ h=>(by cases h),PM.le_refl _,I,hs⟩
theorem Sat.two {C:aI}(s:Sat h (A::B::S))(I:bg A)(J:bg B)(hC:∀m r,A.p m r→B.p m r→C.p m r): Sat h (C::S):=s.map fun m r hs=>by
 obtain⟨a,b,h1,h2,h3,h4,c,d,g1,g2,g3,g4,g5⟩:=hs
 exact⟨fun _=>none,d,fun _=>.inl rfl,fun _ _ h=>(by cases h),PM.le_trans g3 h3,hC _ _ (I _ _ h4) (J _ _ g4),g5⟩
theorem gK {f:α→aI}: Sat h (xs f::S)↔∃x,Sat h (f x::S):=by
 constructor
 ·intro s
  obtain⟨m,r,I,J,h3,a,b,g1,g2,g3,⟨x,g4⟩,g5⟩:=s.ok
  exact⟨x,s.wf,m,r,I,J,h3,a,b,g1,g2,g3,g4,g5⟩
 ·rintro⟨x,s⟩
  exact s.iu fun m r h=>⟨x,h⟩
theorem ej : Sat h (pu φ::S)↔φ∧Sat h S:=by
 constructor
 ·intro s
  obtain⟨m,r,I,h2,h3,a,b,g1,g2,g3,J,g5⟩:=s.ok
  exact⟨J,s.drop⟩
 ·rintro⟨I,s⟩;exact s.fB I
theorem aM {L:List aI}: Sat h (star L::S)↔Sat h (L++S) :=
 ⟨fun s=>s.map fun m r hs=>(Iy m r).1 hs,fun s=>s.map fun m r hs=>(Iy m r).2 hs⟩
theorem Sat.row {o:Obj}(s:Sat h S)(I:getA S k=some (pt id o)): T.get h.tr id=some o:=by
 obtain⟨m,r,J,h2,h3⟩:=s.at I
 exact J _ _ h3
theorem Sat.ne {o:Obj}(s:Sat h (pt i o::pt j o'::S)): i≠j:=by
 rintro rfl
 obtain⟨m,r,h1,h2,h3,a,b,I,g2,g3,J,c,d,k1,k2,k3,k4,k5⟩:=s.ok
 have e1:a i=some o:=J
 have e2:b i=some o':=k2 _ _ k4
 rcases I i with e|e
 ·grind
 ·grind
theorem Zv {m:PM}{t:T Obj}{o:Option Obj}(hm:m.le (T.get t)): (m.upd id o).le (T.get (t.set id o)):=by
 intro i x I
 rw[bh]
 simp only[PM.upd] at I
 split
 ·grind
 ·rename_i e;rw[ak e] at I;exact hm i x I
theorem Iz {m:PM}{o:Option Obj}(hm:m.le (T.get h.tr))(J:m id=none): m.le (T.get (h.put id o).tr):=by
 intro i x I
 rw[dN]
 split
 ·grind
 ·exact hm i x I
theorem Td : ∀ {S:List aI} {k id:Nat} {o o':Obj},getA S k=some (pt id o)→∀m r,(star S).p m r→m id=some o∧(star (setA S k (pt id o'))).p (m.upd id (some o')) r:=by
 intro S
 induction S with
 |nil=>intro k id o o' h;cases h
 |cons B S ih =>
  intro k id o o' J m r hs
  obtain⟨a,b,h1,h2,h3,h4,h5⟩:=hs
  cases k with
  |zero =>
   injection J with J
   subst J
   have ha:a id=some o:=h4
   have hb:b id=none:=by
    rcases h1 id with e|e
    ·grind
    ·exact e
   refine⟨h2 _ _ ha,a.upd id (some o'),b,fun i => ?_,fun i x I => ?_,fun i x I => ?_,?_,h5⟩
   ·by_cases e:i=id
    ·grind
    ·simp only[PM.upd,ak e];exact h1 i
   ·simp only[PM.upd] at I ⊢
    split
    ·grind
    ·rename_i e;rw[ak e] at I;exact h2 i x I
   ·simp only[PM.upd]
    split
    ·grind
    ·exact h3 i x I
   ·show(a.upd id (some o')) id=some o'
    simp[PM.upd]
  |succ k =>
   obtain⟨g1,g2⟩:=ih (o':=o') J b r h5
   have ha:a id=none:=by
    rcases h1 id with e|e
    ·exact e
    ·grind
   refine⟨h3 _ _ g1,a,b.upd id (some o'),fun i => ?_,fun i x I => ?_,fun i x I => ?_,h4,g2⟩
   ·by_cases e:i=id
    ·grind
    ·simp only[PM.upd,ak e];exact h1 i
   ·simp only[PM.upd]
    split
    ·grind
    ·exact h2 i x I
   ·simp only[PM.upd] at I ⊢
    split
    ·grind
    ·rename_i e;rw[ak e] at I;exact h3 i x I
theorem Sat.put {o:Obj}(s:Sat h S)(hk:getA S k=some (pt id o)): Sat (h.put id (some o')) (setA S k (pt id o')):=by
 obtain⟨m,r,I,h2,J,h4⟩:=s.ok
 obtain⟨g1,g2⟩:=Td (o':=o') hk m r h4
 have hr:r id=none:=by
  rcases J id with e|e
  ·grind
  ·exact e
 refine⟨s.wf.put (s.wf _ _ (I _ _ g1)) _,m.upd id (some o'),r,Zv I,Iz h2 hr,fun i => ?_,g2⟩
 by_cases e:i=id
 ·grind
 ·simp only[PM.upd,ak e];exact J i
theorem Sat.new (s:Sat h S)(o:Obj): Sat (h.new o) (pt h.next o::S):=by
 obtain⟨m,r,h1,h2,h3,h4⟩:=s.ok
 have hm:m h.next=none:=by
  cases e:m h.next with
  |none=>rfl
  |some x=>exact absurd (s.wf _ _ (h1 _ _ e)) (Nat.lt_irrefl _)
 have hr:r h.next=none:=by
  cases e:r h.next with
  |none=>rfl
  |some x=>exact absurd (s.wf _ _ (h2 _ _ e)) (Nat.lt_irrefl _)
 have J:∀(q:PM),q.le (T.get h.tr)→q h.next=none→q.le (T.get (h.new o).tr):=fun q hq hn i x I=>by
  rw[gT]
  split
  ·grind
  ·exact hq i x I
 refine⟨s.wf.new o,m.upd h.next (some o),r,fun i x I => ?_,J r h2 hr,fun i => ?_,fun i=>if i=h.next then some o else none,m,fun i => ?_,fun i x I => ?_,fun i x I => ?_,?_,h4⟩
 ·rw[gT]
  simp only[PM.upd] at I
  split
  ·grind
  ·rename_i e;rw[ak e] at I;exact h1 i x I
 ·by_cases e:i=h.next
  ·grind
  ·simp only[PM.upd,ak e];exact h3 i
 ·grind
 ·grind[PM.upd]
 ·grind[PM.upd]
 ·show(if h.next=h.next then some o else none)=some o
  simp
theorem Sat.kill {o:Obj}(s:Sat h (pt id o::S)): Sat (h.put id none) S:=by
 obtain⟨m,r,I,h2,J,a,b,g1,g2,g3,g4,g5⟩:=s.ok
 have ha:a id=some o:=g4
 have hb:b id=none:=by
  rcases g1 id with e|e
  ·grind
  ·exact e
 have hr:r id=none:=by
  rcases J id with e|e
  ·rw[g2 _ _ ha] at e;cases e
  ·exact e
 exact⟨s.wf.put (s.wf _ _ (I _ _ (g2 _ _ ha))) _,b,r,Iz (PM.le_trans g3 I) hb,Iz h2 hr,PM.nF J g3 (PM.le_refl _),g5⟩
theorem Sat.freeze {o:Obj}(s:Sat h (pt id o::S)): Sat h (ro id o::S):=by
 obtain⟨m,r,J,h2,h3,a,b,g1,g2,g3,g4,g5⟩:=s.ok
 have ha:a id=some o:=g4
 have hb:b id=none:=by
  rcases g1 id with e|e
  ·grind
  ·exact e
 have hr:r id=none:=by
  rcases h3 id with e|e
  ·rw[g2 _ _ ha] at e;cases e
  ·exact e
 have hle:r.le (r.upd id (some o)):=fun i x I=>by
  grind[PM.upd]
 refine⟨s.wf,b,r.upd id (some o),PM.le_trans g3 J,fun i x I => ?_,fun i => ?_,fun _=>none,b,fun _=>.inl rfl,fun _ _ h=>(by cases h),PM.le_refl _,?_,aI.up g5 (PM.le_refl _) hle⟩
 ·simp only[PM.upd] at I
  split at I
  ·rename_i e;subst e;injection I with I;subst I;exact J _ _ (g2 _ _ ha)
  ·exact h2 i x I
 ·by_cases e:i=id
  ·grind
  ·simp only[PM.upd,ak e];exact PM.nF h3 g3 (PM.le_refl _) i
 ·show(r.upd id (some o)) id=some o
  simp[PM.upd]
theorem Sat.lD (s:Sat h S)(J:dW k [] h h'): Sat h' S:=by
 obtain⟨m,r,h1,h2,h3,h4⟩:=s.ok
 have I:∀(q:PM),q.le (T.get h.tr)→q.le (T.get h'.tr):=fun q hq i x hx=>by
  rw[J.get i (s.wf _ _ (hq _ _ hx)) kF]
  exact hq _ _ hx
 exact⟨J.wf,m,r,I m h1,I r h2,h3,h4⟩
theorem Sat.Zw {X:List Nat}{m₀:PM}(s:Sat h (A::S))(hk:dW k X h h')(hX:∀m r,PM.le m (T.get h.tr)→PM.le r (T.get h.tr)→A.p m r→∀i∈X,m i≠none)
 (hm:PM.le m₀ (T.get h'.tr))(hB:∀r,B.p m₀ r)(hn:∀i,m₀ i≠none→i∈X∨h.next≤i): Sat h' (B::S):=by
 obtain⟨m,r,h1,h2,h3,a,b,g1,g2,g3,g4,g5⟩:=s.ok
 have hXa:∀i∈X,a i≠none:=hX a r (PM.le_trans g2 h1) h2 g4
 have hXb:∀i∈X,b i=none:=fun i hi=>by
  rcases g1 i with e|e<;>grind
 have hXr:∀i∈X,r i=none:=fun i hi=>by
  cases e:a i with
  |none=>grind
  |some o =>
   rcases h3 i with J|J
   ·rw[g2 _ _ e] at J;cases J
   ·exact J
 have hup:∀(q:PM),q.le (T.get h.tr)→(∀i∈X,q i=none)→q.le (T.get h'.tr):=fun q hq hz i x hx=>by
  rw[hk.get i (s.wf _ _ (hq _ _ hx)) (fun hi=>by grind)]
  exact hq _ _ hx
 have I:∀(q:PM),q.le (T.get h.tr)→(∀i∈X,q i=none)→m₀.dj q:=fun q hq hz i=>by
  cases e:m₀ i with
  |none=>simp
  |some x =>
   right
   rcases hn i (by grind) with hi|hi
   ·grind
   ·cases J:q i with
    |none=>rfl
    |some y=>exact absurd (s.wf _ _ (hq _ _ J)) (Nat.not_lt.2 hi)
 have pQ:=hup b (PM.le_trans g3 h1) hXb
 have hd:=I b (PM.le_trans g3 h1) hXb
 exact⟨hk.wf,m₀.un b,r,PM.DF hm pQ,hup r h2 hXr,PM.DG (I r h2 hXr) (PM.nF h3 g3 (PM.le_refl _)),m₀,b,hd,PM.Iv _ _,PM.Iw hd,hB r,g5⟩
end
theorem aN (v:V)(l:List Nat): cN (aZ v l) (cP v l):=fun _ _ h=>.inl (sP.view h)
theorem dy (v:V)(l:List Nat): cN (Cc v l) (cP v l):=fun _ _ h=>.inr h
theorem bg.cD (v:V)(l:List Nat): bg (.cD v l):=fun _ _ h=>h
section
variable {v:V}
theorem Sat.aG (s:Sat h S)(J:getA S k=some X)(hX:cN X (cP v l)): View h v l:=by
 obtain⟨m,r,h1,h2,h3⟩:=s.at J
 rcases hX _ _ h3 with I|I
 ·exact ViewM.up I h1
 ·exact ViewM.up I h2
theorem Sat.buf (s:Sat h S)(I:getA S k=some (aZ v l)): jB h v l:=by
 obtain⟨m,r,J,h2,h3⟩:=s.at I
 exact sP.up (l:=l) h3 J
theorem LW {m:PM}(I:sP m v l): ∀i∈rowIds v,m i≠none:=by
 obtain⟨_,J⟩:=I<;>grind[rowIds]
theorem LX (I:jB h v l): sP (fun i=>if i∈rowIds v then T.get h.tr i else none) v l:=by
 obtain⟨J,h2⟩:=I
 refine⟨J,?_⟩<;>grind[rowIds]
theorem P6 (L:List Nat): PM.le (fun i=>if i∈L then T.get h.tr i else none) (T.get h.tr):=fun i x I=>by
 grind
theorem Sat.IA (s:Sat h S)(I:dW k [] h h')(J:jB h' v l)(hn:∀i∈rowIds v,h.next≤i): Sat h' (aZ v l::S):=by
 have s':Sat h (pu True::S):=s.fB aa
 refine s'.Zw (B:=aZ v l) (m₀:=fun i=>if i∈rowIds v then T.get h'.tr i else none) I (fun _ _ _ _ _ i hi=>by cases hi) (P6 _) (fun _=>LX J) (fun i hi=>.inr ?_)<;>grind
theorem Sat.Br {v':V}{I:List Nat}(s:Sat h (aZ v l::S))(J:dW k (rowIds v) h h')(hb:jB h' v' I)(hn:∀i∈rowIds v',i∈rowIds v∨h.next≤i): Sat h' (aZ v' I::S):=by
 refine s.Zw (B:=aZ v' I) (m₀:=fun i=>if i∈rowIds v' then T.get h'.tr i else none) J (fun _ _ _ _ h=>LW h) (P6 _) (fun _=>LX hb) (fun i hi => ?_)<;>grind
theorem Sat.gu (s:Sat h (aZ v l::S)): Sat h (Cc v l::S):=by
 obtain⟨m,r,J,h2,h3,a,b,g1,g2,g3,g4,g5⟩:=s.ok
 have I:r.dj a:=PM.pT (PM.nF h3 g2 (PM.le_refl _))
 refine⟨s.wf,b,r.un a,PM.le_trans g3 J,PM.DF h2 (PM.le_trans g2 J),PM.pT (PM.DG (PM.pT (PM.nF h3 g3 (PM.le_refl _))) g1),fun _=>none,b,fun _=>.inl rfl,fun _ _ h=>(by cases h),PM.le_refl _,?_,aI.up g5 (PM.le_refl _) (PM.Iv _ _)⟩
 exact(sP.view g4).up (PM.Iw I)
end
theorem Zx {a b c d:H}{l:List H}{p:H→Prop}(I:p a)(J:p b)(hc:p c)(hd:p d): ∀x∈((a::b::c::d::l).drop 0).take 4,p x:=by
 grind
section
variable {st:Bool} {v:V}
theorem Sat.ld (s:Sat h S)(I:getA S k=some (pt id (.cells n cs st)))(J:isAggT P t=some false)(hn:nth cs off=some v): loadV P h t (.ptr id off)=some v:=Vx J (s.row I) hn
theorem Sat.cV (s:Sat h S)(I:getA S k=some (pt id (.cells n cs st)))(J:isAggT P t=some true)(hs:bB P t=some n): loadV P h t (.ptr id 0)=some (.agg cs):=Am.cV J hs (s.row I)
theorem Sat.dK (s:Sat h S)(J:getA S k=some (pt id (.cells n cs false)))(hs:bB P t=some 1)(hl:cs.length=n)(ho:off<n)(hv:v.cells=[v])(I:storable v=true):
  ∃h₁,f_ P h t (.ptr id off) v=some h₁∧Sat h₁ (setA S k (pt id (.cells n (cs.set off v) false))):=by
 refine⟨h.put id (some (.cells n (cs.set off v) false)),?_,s.put J⟩
 simp only[f_,hs,hv,bz,cG,iU,jd,I,wz]
 rw[show Nat.beq (0+1) 1=true from rfl,ah]
 simp only[wrN,s.row J,bz,cG]
 rw[aL.2 (show off+(0+1)≤n by omega),ah]
 congr 3
 rw[EJ,aC (by omega)]
 cases hc:(Nat.beq off 0&&Nat.beq (0+1) n) with
 |true =>
  simp only[bH,beq_iff] at hc
  obtain⟨rfl,rfl⟩:=hc
  rw[ah]
  have:cs.drop (0+1)=[]:=lW (by omega)
  simp[this]
 |false=>rw[aX];rfl
theorem Sat.stN {l:List V}(s:Sat h S)(J:getA S k=some (pt id (.cells n cs false)))(hs:bB P t=some l.length)(hl:cs.length=n)(ho:off+l.length≤n)(I:l.all storable=true):
  ∃h₁,f_ P h t (.ptr id off) (.agg l)=some h₁∧Sat h₁ (setA S k (pt id (.cells n (cs.take off++(l++cs.drop (off+l.length))) false))):=by
 refine⟨h.put id (some (.cells n (cs.take off++(l++cs.drop (off+l.length))) false)),?_,s.put J⟩
 simp only[f_,hs,V.cells,I,fJ,iT,ah,wrN,s.row J]
 grind[aL,beq_iff,List.drop_eq_nil_of_le]
end
section
variable {ax:Nat}
theorem au.bD (s:Sat h S)(I:wantE L E o.guard=some true)(hd:o.dst=some d)(J:Nat.blt d ax=true)(ho:opE C.P E h o.op=some (.ptr h.next 0,newRow h cs))
 (hr:∀id h₁,Sat h₁ (pt id (.cells cs.length cs false)::S)→au C ax L rest ((d,.ptr id 0)::E) h₁ R): au C ax L (o::rest) E h R :=
 au.op I hd J ho (hr _ _ (s.new _))
theorem au.fM {v:V}(J:wantE L E o.guard=some true)(hd:o.dst=none)(I:o.op=.store t x y)(hx:bj E x=some v)(hy:bj E y=some u)
 (ho:∃h₁,f_ C.P h t v u=some h₁∧Sat h₁ S')(hr:∀h₁,Sat h₁ S'→au C ax L rest E h₁ R): au C ax L (o::rest) E h R:=by
 obtain⟨h₁,e1,e2⟩:=ho
 exact au.Vq J hd (by rw[I];exact wW hx hy e1) (hr h₁ e2)
theorem WP.label {l:Nat}(I:Q .normal E h): WP C ax (.label l) E h Q:=fun env J=>⟨1,.normal,env,h,E,rfl,J,I⟩
theorem WP.split {a b:Code}{t:Bool}(I:bj E x=some (.bool t))(J:t=true→WP C ax a E h Q)(h2:t=false→WP C ax b E h Q): WP C ax (.cond x a b) E h Q:=by
 grind[WP.cond]
theorem WP.NL {a b:Code}{t:Bool}(I:bj E x=some (.bool t))(J:t=true)(h1:WP C ax a E h Q): WP C ax (.cond x a b) E h Q:=by
 subst J;exact WP.cond I h1
theorem WP.VA {a b:Code}{t:Bool}(I:bj E x=some (.bool t))(J:t=false)(h1:WP C ax b E h Q): WP C ax (.cond x a b) E h Q:=by
 subst J;exact WP.cond I h1
end
section
variable {a b:Operand} {v:V}
theorem aa5 {t:Nat}(I:bj E x=some v)(J:r8 P t v i=some r): opE P E h (.field t x i)=some (r,h):=by grind[opE,jA,bF]
theorem aa6 : opE P E h (.makeMap t none)=some (.map h.next,h.new (.map [] 0)):=rfl
theorem fQ {ok:Bool}(I:bj E x=some v)(J:bj E y=some u)(hf:dX P h t v u ok=some r): opE P E h (.lookup t x y ok)=some (r,h):=by grind[opE,vj,bF]
theorem aa7 {t:Nat}(I:r8 P t (.agg cs) i=nth cs off)(J:nth cs off=some r): r8 P t (.agg cs) i=some r:=by grind
theorem gL {s d:TypeId}{k k':IntKind}{n:Int}(hs:P.underlying s=some td)(hd:P.underlying d=some (.int k'))(I:k'.wrap n=n): convV P h s d (.int k n)=some (.int k' n,h):=by simp only[convV,hs,hd,I]
theorem IB {o:Nat}{c:Cap}(hu:P.underlying t=some (.slice e)): lenV P h t (.sl i o n c)=some (.int .i64 n):=by simp only[lenV,hu]
theorem LY (hu:P.underlying t=some (.slice e)): lenV P h t .aY=some (.int .i64 0):=by simp only[lenV,hu]
theorem aW (hu:P.underlying t=some (.slice e))(I:View h v l): lenV P h t v=some (.int .i64 l.length):=by
 obtain⟨_,I⟩:=I
 rcases I with⟨rfl|⟨J,rfl⟩,rfl⟩|⟨id,off,cap,n,cs,st,rfl,_⟩<;>simp[lenV,hu]
theorem mki_of (hu:P.underlying t=some td)(I:(match td with|.interface _=>false|_=>true)=true): makeIfaceV P t v=some (.iface t v):=by
 grind[makeIfaceV]
end
section
theorem aA {n:Int}(I : -9223372036854775808≤n)(J:n<9223372036854775808): IntKind.wrap .i64 n=n:=by
 grind[IntKind.bits,IntKind.wrap,IntKind.signed]
theorem eP {n:Int}(I:0≤n)(J:n<18446744073709551616): IntKind.wrap .u64 n=n:=by
 grind[IntKind.wrap,IntKind.bits,IntKind.signed]
theorem Xb {n:Int}(I:0≤n)(J:n<4294967296): IntKind.wrap .u32 n=n:=by
 grind[IntKind.wrap,IntKind.bits,IntKind.signed]
theorem uC {n:Int}(I:0≤n)(J:n<256): IntKind.wrap .u8 n=n:=by
 grind[IntKind.wrap,IntKind.bits,IntKind.signed]
variable {a b:Int}
theorem bf {k:IntKind}(hw:k.wrap (a+b)=a+b): binV P h .add t x y (.int k a) (.int k b)=some (.int k (a+b)):=by
 simp_all[binV,d_,intV]
theorem jI {k:IntKind}(hw:k.wrap (a-b)=a-b): binV P h .sub t x y (.int k a) (.int k b)=some (.int k (a-b)):=by
 simp_all[binV,d_,intV]
theorem jf {k:IntKind}(hw:k.wrap (a*b)=a*b): binV P h .mul t x y (.int k a) (.int k b)=some (.int k (a*b)):=by
 simp_all[binV,d_,intV]
theorem dm {k:IntKind}: binV P h .eql t x y (.int k a) (.int k b)=some (.bool (decide (a=b))):=by
 simp only[binV,d_,ah,intV]
 cases I:intBeq a b with
 |true=>simp[vi I]
 |false =>
  by_cases he:a=b
  ·grind[lF]
  ·grind
theorem aD {k:IntKind}: binV P h .neq t x y (.int k a) (.int k b)=some (.bool (!decide (a=b))):=by
 simp only[binV,d_,ah,intV]
 cases I:intBeq a b with
 |true=>simp[vi I]
 |false =>
  by_cases he:a=b
  ·grind[lF]
  ·grind
theorem aT {k:IntKind}: binV P h .lss t x y (.int k a) (.int k b)=some (.bool (decide (a<b))):=by simp[binV,d_,intV]
theorem CG {k:IntKind}: binV P h .leq t x y (.int k a) (.int k b)=some (.bool (decide (a≤b))):=by simp[binV,d_,intV]
theorem fN {k:IntKind}: binV P h .gtr t x y (.int k a) (.int k b)=some (.bool (decide (a>b))):=by simp[binV,d_,intV]
theorem jg {k:IntKind}: binV P h .geq t x y (.int k a) (.int k b)=some (.bool (decide (a≥b))):=by simp[binV,d_,intV]
theorem Cd : ∀ {l m:List Nat},natsBeq l m=decide (l=m):=by
 intro l
 induction l with
 |nil=>grind[natsBeq]
 |cons a l I =>
  intro m
  cases m<;>grind[natsBeq,Nat.beq_refl,fF]
theorem VB {m:List Nat}: binV P h .eql t x y (.str l) (.str m)=some (.bool (decide (l=m))):=by simp[binV,strV,Cd]
end
section
variable {ax:Nat} {p:Bool}
theorem au.vl (I:wantE L E o.guard=some true)(hd:o.dst=some d)(J:Nat.blt d ax=true)(ho:opE C.P E h o.op=some (.bool p,h))(hp:p=true)(hw:au C ax L rest ((d,.bool true)::E) h R): au C ax L (o::rest) E h R:=by
 grind[au.op]
theorem au.kU (I:wantE L E o.guard=some true)(hd:o.dst=some d)(J:Nat.blt d ax=true)(ho:opE C.P E h o.op=some (.bool p,h))(hp:p=false)(hw:au C ax L rest ((d,.bool false)::E) h R): au C ax L (o::rest) E h R:=by
 grind[au.op]
theorem au.Zy (I:wantE L E o.guard=some true)(hd:o.dst=some d)(J:Nat.blt d ax=true)(ho:opE C.P E h o.op=some (.bool p,h))(ht:p=true→au C ax L rest ((d,.bool true)::E) h R)(hf:p=false→au C ax L rest ((d,.bool false)::E) h R): au C ax L (o::rest) E h R:=by
 cases p<;>grind[au.op]
theorem au.sQ (s:Sat h S)(J:wantE L E o.guard=some true)(hd:o.dst=some d)(hn:Nat.blt d ax=true)(I:o.op=.makeMap t none)
 (hr:∀id h₁,Sat h₁ (pt id (.map [] 0)::S)→au C ax L rest ((d,.map id)::E) h₁ R): au C ax L (o::rest) E h R :=
 au.op J hd hn (by rw[I];exact aa6) (hr _ _ (s.new _))
theorem au.gh (hg:wantE L E o.guard=some true)(hd:o.dst=none)(ho:OpR C E h o zT)
 (hw:∀v h₁,zT v h₁→au C ax L rest E h₁ R): au C ax L (o::rest) E h R:=by
 intro env J
 obtain⟨v,h₁,hr,ni⟩:=ho
 obtain⟨N,hN⟩:=ni env J
 obtain⟨M,I,h',E',h1,h2,h3⟩:=hw v h₁ hr env J
 refine⟨Nat.max N M,I,h',E',?_,h2,h3⟩
 simp only[evOps,ke J hg,ah,mE (dO (nZ N M)) hN,St.put,hd]
 exact qt (dO (nY N M)) _ _ _ h1
variable {Q:List (Nat×V)→H→List (List (Nat×V)×V)→List H→Prop}
theorem az.vl (J:wantE L E o.guard=some true)(hd:o.dst=some d)(hn:Nat.blt d ax=true)(he:isEff C o.op=false)(ho:opE C.P E h o.op=some (.bool p,h))(hp:p=true)
 (hw:az C ax L rest ((d,.bool true)::E) h hs fun E' h' ts I=>Q E' h' ((E,.bool true)::ts) I): az C ax L (o::rest) E h hs Q:=by
 grind[az.op]
theorem az.kU (J:wantE L E o.guard=some true)(hd:o.dst=some d)(hn:Nat.blt d ax=true)(he:isEff C o.op=false)(ho:opE C.P E h o.op=some (.bool p,h))(hp:p=false)
 (hw:az C ax L rest ((d,.bool false)::E) h hs fun E' h' ts I=>Q E' h' ((E,.bool false)::ts) I): az C ax L (o::rest) E h hs Q:=by
 grind[az.op]
theorem az.Zy (J:wantE L E o.guard=some true)(hd:o.dst=some d)(hn:Nat.blt d ax=true)(he:isEff C o.op=false)(ho:opE C.P E h o.op=some (.bool p,h))
 (ht:p=true→az C ax L rest ((d,.bool true)::E) h hs fun E' h' ts I=>Q E' h' ((E,.bool true)::ts) I)
 (hf:p=false→az C ax L rest ((d,.bool false)::E) h hs fun E' h' ts I=>Q E' h' ((E,.bool false)::ts) I): az C ax L (o::rest) E h hs Q:=by
 cases p<;>grind[az.op]
theorem OpR.fM {v:V}(I:o.op=.store t x y)(hx:bj E x=some v)(hy:bj E y=some u)
 (ho:∃h₁,f_ C.P h t v u=some h₁∧Sat h₁ S'): OpR C E h o fun w h₁=>w=cq∧Sat h₁ S':=by
 obtain⟨h₁,e1,J⟩:=ho
 exact OpR.of (by grind[wW]) ⟨rfl,J⟩
theorem OpR.bD (s:Sat h S)(ho:opE C.P E h o.op=some (.ptr h.next 0,newRow h cs)):
  OpR C E h o fun v h₁=>∃id,v=.ptr id 0∧Sat h₁ (pt id (.cells cs.length cs false)::S) :=
 OpR.of ho ⟨_,rfl,s.new _⟩
end
theorem HK {t:Nat}{p v w:V}(I:look E a=some p)(hd:loadV P h t p=some v)(J:look E b=some w): resLE P E h [.cell a t,.tmp b]=some (.aQ [v,w]):=by grind[resLE,mapO,resE]
theorem nG {t:Nat}{v:V}(I:look E t=some v): resLE P E h [.tmp t]=some v:=by grind[resLE,mapO,resE]
def acD : Code→Nat→Code
 |.seq a _,0=>a
 |.seq _ b,_=>b
 |.cond _ a _,0=>a
 |.cond _ _ b,_=>b
 |.block _ a,_=>a
 |.loop a,_=>a
 |.scope a,_=>a
 |c,_=>c
def cU : List Nat→Code→Code
 |[],c=>c
 |k::ks,c=>cU ks (acD c k)
section
variable {ax:Nat} {v:V} {p:Bool}
theorem zc {k:FuncId}(e:(wantE L E o.guard,o.dst,Nat.blt d ax,o.op,cl.callee,bj E x,lookArgs E cl.args.toList)=(some true,some d,true,Op.call cl,Callee.value x,some (.fn (.func k) first cap),some args))
 (I:Call C k (first++(args++cap)) h zT)(hw:∀v h₁,zT v h₁→au C ax L rest ((d,v)::E) h₁ R): au C ax L (o::rest) E h R:=by
  simp only[bC] at e;exact au.call e.1 e.2.1 e.2.2.1 e.2.2.2.1 e.2.2.2.2.1 e.2.2.2.2.2.1 e.2.2.2.2.2.2 I hw
theorem zt (e:(wantE L E o.guard,o.dst,Nat.blt d ax)=(some true,some d,true))(ho:opE C.P E h o.op=some (.bool p,h))(I:p=true)(hw:au C ax L rest ((d,.bool true)::E) h R): au C ax L (o::rest) E h R:=by
  simp only[bC] at e;exact au.vl e.1 e.2.1 e.2.2 ho I hw
theorem zh (e:(wantE L E o.guard,o.dst,Nat.blt d ax)=(some true,some d,true))(ho:opE C.P E h o.op=some (.bool p,h))(I:p=false)(hw:au C ax L rest ((d,.bool false)::E) h R): au C ax L (o::rest) E h R:=by
  simp only[bC] at e;exact au.kU e.1 e.2.1 e.2.2 ho I hw
theorem zd (e:(wantE L E o.guard,o.dst,Nat.blt d ax)=(some true,some d,true))(ho:opE C.P E h o.op=some (.bool p,h))(I:p=true→au C ax L rest ((d,.bool true)::E) h R)(J:p=false→au C ax L rest ((d,.bool false)::E) h R): au C ax L (o::rest) E h R:=by
  simp only[bC] at e;exact au.Zy e.1 e.2.1 e.2.2 ho I J
theorem zB {op:BinOp}(e:(o.op,wantE L E o.guard,o.dst,Nat.blt d ax,bj E x,bj E y)=(Op.binOp op t x y t',some true,some d,true,some v,some u))(I:binV C.P h op t x y v u=some (.bool p))(J:p=true)(hw:au C ax L rest ((d,.bool true)::E) h R): au C ax L (o::rest) E h R:=by
  simp only[bC] at e;exact au.vl e.2.1 e.2.2.1 e.2.2.2.1 (by rw[e.1];exact ay e.2.2.2.2.1 e.2.2.2.2.2 I) J hw
theorem zC {op:BinOp}(e:(o.op,wantE L E o.guard,o.dst,Nat.blt d ax,bj E x,bj E y)=(Op.binOp op t x y t',some true,some d,true,some v,some u))(I:binV C.P h op t x y v u=some (.bool p))(J:p=false)(hw:au C ax L rest ((d,.bool false)::E) h R): au C ax L (o::rest) E h R:=by
  simp only[bC] at e;exact au.kU e.2.1 e.2.2.1 e.2.2.2.1 (by rw[e.1];exact ay e.2.2.2.2.1 e.2.2.2.2.2 I) J hw
theorem zy {st:Bool}(s:Sat h S)(k:Nat)(I:isAggT C.P t=some false)(e:(o.op,wantE L E o.guard,o.dst,Nat.blt d ax,bj E x,getA S k,nth cs off)=(Op.load t x,some true,some d,true,some (V.ptr id off),some (pt id (.cells n cs st)),some v))(hw:au C ax L rest ((d,v)::E) h R): au C ax L (o::rest) E h R:=by
  simp only[bC] at e;exact au.op e.2.1 e.2.2.1 e.2.2.2.1 (by rw[e.1];exact o_load e.2.2.2.2.1 (s.ld e.2.2.2.2.2.1 I e.2.2.2.2.2.2)) hw
theorem zY {I:Oper}{J:Operand}{ad0:TypeId}{st:Bool}(s:Sat h S)(k:Nat)(hf:∀a b:Nat,fieldAddrV C.P ad0 (.ptr a b) i=some (.ptr a (b+j)))(ha:isAggT C.P t=some false)
 (e:(I.op,wantE L E I.guard,I.dst,Nat.blt nE ax,bj E J,o.op,wantE L ((nE,.ptr a (b+j))::E) o.guard,o.dst,Nat.blt d ax,bj ((nE,.ptr a (b+j))::E) x,getA S k,nth cs (b+j))=(Op.fieldAddr ad0 J i,some true,some nE,true,some (V.ptr a b),Op.load t x,some true,some d,true,some (V.ptr a (b+j)),some (pt a (.cells n cs st)),some v))
 (hw:au C ax L rest ((d,v)::(nE,.ptr a (b+j))::E) h R): au C ax L (I::o::rest) E h R:=by
  simp only[bC] at e
  obtain⟨e1,e2,e3,e4,e5,e6,e7,e8,e9,Zz,Za,e12⟩:=e
  exact au.op e2 e3 e4 (by rw[e1];exact jH e5 (hf a b)) (au.op e7 e8 e9 (by rw[e6];exact o_load Zz (s.ld Za ha e12)) hw)
theorem zS (e:(wantE L E o.guard,o.dst,o.op,bj E x,bj E y)=(some true,none,Op.store t x y,some v,some u))(ho:∃h₁,f_ C.P h t v u=some h₁∧Sat h₁ S')(I:∀h₁,Sat h₁ S'→au C ax L rest E h₁ R): au C ax L (o::rest) E h R:=by
  simp only[bC] at e;exact au.fM e.1 e.2.1 e.2.2.1 e.2.2.2.1 e.2.2.2.2 ho I
end
theorem lR : bB Tryz.prog 3=some 1:=by kernel_rfl
theorem dJ : isAggT Tryz.prog 3=some false:=by kernel_rfl
theorem P7 : zeroT Tryz.prog 3=some (.int .i64 0):=by kernel_rfl
theorem yR : bB Tryz.prog 4=some 1:=by kernel_rfl
theorem kV : isAggT Tryz.prog 4=some false:=by kernel_rfl
theorem zt4 : zeroT Tryz.prog 4=some (.bool false):=by kernel_rfl
theorem sz5 : bB Tryz.prog 5=some 1:=by kernel_rfl
theorem gY : bB Tryz.prog 23=some 1:=by kernel_rfl
theorem bJ : isAggT Tryz.prog 23=some false:=by kernel_rfl
theorem o8 : zeroT Tryz.prog 23=some .aY:=by kernel_rfl
theorem qv : isAggT Tryz.prog 25=some false:=by kernel_rfl
theorem o9 : isAggT Tryz.prog 26=some false:=by kernel_rfl
theorem kD : bB Tryz.prog 32=some 1:=by kernel_rfl
theorem dL : isAggT Tryz.prog 32=some false:=by kernel_rfl
theorem Ab : zeroT Tryz.prog 32=some (.int .u64 0):=by kernel_rfl
theorem acE : bB Tryz.prog 33=some 1:=by kernel_rfl
theorem Te : isAggT Tryz.prog 33=some false:=by kernel_rfl
theorem acF : zeroT Tryz.prog 34=some (.int .i64 0):=by kernel_rfl
theorem qw : isAggT Tryz.prog 40=some false:=by kernel_rfl
theorem acG : bB Tryz.prog 54=some 1:=by kernel_rfl
theorem ry : isAggT Tryz.prog 54=some false:=by kernel_rfl
theorem acH : bB Tryz.prog 59=some 4:=by kernel_rfl
theorem acI : isAggT Tryz.prog 59=some true:=by kernel_rfl
theorem IC (a b:Nat): fieldAddrV Tryz.prog 59 (.ptr a b) 0=some (.ptr a (b+0)):=by kernel_rfl
theorem ZA (a b:Nat): fieldAddrV Tryz.prog 59 (.ptr a b) 2=some (.ptr a (b+2)):=by kernel_rfl
theorem acJ : bB Tryz.prog 77=some 8:=by kernel_rfl
theorem acK : zeroT Tryz.prog 77=some (.agg [(.int .i64 0),(.int .i64 0),(.int .i64 0),(.int .i64 0),(.int .i64 0),(.int .i64 0),(.int .i64 0),(.int .i64 0)]):=by kernel_rfl
theorem acL (ps:List (Nat×V)): buildV Tryz.prog 77 ps=(fillV (fun i=>some (i*1,1)) ((.agg [(.int .i64 0),(.int .i64 0),(.int .i64 0),(.int .i64 0),(.int .i64 0),(.int .i64 0),(.int .i64 0),(.int .i64 0)]):V).cells ps).map .agg:=by kernel_rfl
theorem ZB : bB Tryz.prog 78=some 1:=by kernel_rfl
theorem NM : isAggT Tryz.prog 78=some false:=by kernel_rfl
theorem Bt : bB Tryz.prog 102=some 1:=by kernel_rfl
theorem o5 : isAggT Tryz.prog 102=some false:=by kernel_rfl
theorem dD : bB Tryz.prog 104=some 6:=by kernel_rfl
theorem iJ : isAggT Tryz.prog 104=some true:=by kernel_rfl
theorem jC : zeroT Tryz.prog 104=some (.agg [(.int .i64 0),(.int .u64 0),(.int .u64 0),(.int .u64 0),.aY,.aY]):=by kernel_rfl
theorem jh (a b:Nat): fieldAddrV Tryz.prog 104 (.ptr a b) 0=some (.ptr a (b+0)):=by kernel_rfl
theorem kH (a b:Nat): fieldAddrV Tryz.prog 104 (.ptr a b) 1=some (.ptr a (b+1)):=by kernel_rfl
theorem Fw (a b:Nat): fieldAddrV Tryz.prog 104 (.ptr a b) 2=some (.ptr a (b+2)):=by kernel_rfl
theorem LZ (a b:Nat): fieldAddrV Tryz.prog 104 (.ptr a b) 3=some (.ptr a (b+3)):=by kernel_rfl
theorem tW (a b:Nat): fieldAddrV Tryz.prog 104 (.ptr a b) 4=some (.ptr a (b+4)):=by kernel_rfl
theorem ji (a b:Nat): fieldAddrV Tryz.prog 104 (.ptr a b) 5=some (.ptr a (b+5)):=by kernel_rfl
theorem rV (ps:List (Nat×V)): buildV Tryz.prog 104 ps=(fillV (nth [(0,1),(1,1),(2,1),(3,1),(4,1),(5,1)]) ((.agg [(.int .i64 0),(.int .u64 0),(.int .u64 0),(.int .u64 0),.aY,.aY]):V).cells ps).map .agg:=by kernel_rfl
theorem rW : isAggT Tryz.prog 106=some false:=by kernel_rfl
theorem VC (a b l:Nat)(c:Cap)(k:IntKind)(n:Int): indexAddrV Tryz.prog 106 (.sl a b l c) (.int k n)=cond (decide (0≤n)&&decide (n<(l:Int))) (some (.ptr a (b+n.toNat*1))) none:=by kernel_rfl
theorem VD : bB Tryz.prog 107=some 1:=by kernel_rfl
theorem DI : isAggT Tryz.prog 107=some false:=by kernel_rfl
theorem jD : isAggT Tryz.prog 108=some false:=by kernel_rfl
theorem aa8 : bB Tryz.prog 109=some 1:=by kernel_rfl
theorem HL : isAggT Tryz.prog 109=some false:=by kernel_rfl
theorem Fx (a b:Nat): fieldAddrV Tryz.prog 111 (.ptr a b) 0=some (.ptr a (b+0)):=by kernel_rfl
theorem m7 (a b:Nat): fieldAddrV Tryz.prog 111 (.ptr a b) 1=some (.ptr a (b+1)):=by kernel_rfl
theorem tX (a b:Nat): fieldAddrV Tryz.prog 111 (.ptr a b) 2=some (.ptr a (b+2)):=by kernel_rfl
theorem Bu (a b:Nat): fieldAddrV Tryz.prog 111 (.ptr a b) 3=some (.ptr a (b+3)):=by kernel_rfl
theorem j7 (a b:Nat): fieldAddrV Tryz.prog 111 (.ptr a b) 4=some (.ptr a (b+4)):=by kernel_rfl
theorem tY (a b:Nat): fieldAddrV Tryz.prog 111 (.ptr a b) 5=some (.ptr a (b+5)):=by kernel_rfl
theorem Fy (a b:Nat): fieldAddrV Tryz.prog 111 (.ptr a b) 6=some (.ptr a (b+6)):=by kernel_rfl
theorem Bv (a b:Nat): fieldAddrV Tryz.prog 111 (.ptr a b) 7=some (.ptr a (b+7)):=by kernel_rfl
theorem Bw (a b:Nat): fieldAddrV Tryz.prog 111 (.ptr a b) 8=some (.ptr a (b+8)):=by kernel_rfl
theorem j8 (a b:Nat): fieldAddrV Tryz.prog 111 (.ptr a b) 9=some (.ptr a (b+9)):=by kernel_rfl
theorem uD (a b:Nat): fieldAddrV Tryz.prog 111 (.ptr a b) 10=some (.ptr a (b+10)):=by kernel_rfl
theorem CH (a b:Nat): fieldAddrV Tryz.prog 111 (.ptr a b) 11=some (.ptr a (b+11)):=by kernel_rfl
theorem aa9 (ps:List (Nat×V)): buildV Tryz.prog 111 ps=(fillV (nth [(0,1),(1,1),(2,1),(3,1),(4,1),(5,1),(6,1),(7,1),(8,1),(9,1),(10,1),(11,1)]) ((.agg [(.int .i64 0),.aY,.aY,.j_,.aY,(.int .i64 0),.aY,(.int .i64 0),(.int .i64 0),(.bool false),.bq,.aY]):V).cells ps).map .agg:=by kernel_rfl
theorem Bx : isAggT Tryz.prog 115=some false:=by kernel_rfl
theorem aa_ : bB Tryz.prog 121=some 6:=by kernel_rfl
theorem pU (a b:Nat): fieldAddrV Tryz.prog 121 (.ptr a b) 0=some (.ptr a (b+0)):=by kernel_rfl
theorem m8 (a b:Nat): fieldAddrV Tryz.prog 121 (.ptr a b) 1=some (.ptr a (b+1)):=by kernel_rfl
theorem tZ (a b:Nat): fieldAddrV Tryz.prog 121 (.ptr a b) 2=some (.ptr a (b+2)):=by kernel_rfl
theorem t_ (a b:Nat): fieldAddrV Tryz.prog 121 (.ptr a b) 3=some (.ptr a (b+3)):=by kernel_rfl
theorem L0 (a b:Nat): fieldAddrV Tryz.prog 121 (.ptr a b) 4=some (.ptr a (b+4)):=by kernel_rfl
theorem Fz (a b:Nat): fieldAddrV Tryz.prog 121 (.ptr a b) 5=some (.ptr a (b+5)):=by kernel_rfl
theorem VE (ps:List (Nat×V)): buildV Tryz.prog 121 ps=(fillV (nth [(0,1),(1,1),(2,1),(3,1),(4,1),(5,1)]) ((.agg [.bq,.bq,.bq,.bq,.aY,(.int .u64 0)]):V).cells ps).map .agg:=by kernel_rfl
theorem VF : bB Tryz.prog 122=some 1:=by kernel_rfl
theorem vm : isAggT Tryz.prog 122=some false:=by kernel_rfl
theorem L1 (a b:Nat): fieldAddrV Tryz.prog 124 (.ptr a b) 0=some (.ptr a (b+0)):=by kernel_rfl
theorem mq (a b:Nat): fieldAddrV Tryz.prog 124 (.ptr a b) 1=some (.ptr a (b+1)):=by kernel_rfl
theorem e_ (a b:Nat): fieldAddrV Tryz.prog 124 (.ptr a b) 2=some (.ptr a (b+2)):=by kernel_rfl
theorem od (a b:Nat): fieldAddrV Tryz.prog 124 (.ptr a b) 3=some (.ptr a (b+3)):=by kernel_rfl
theorem wX (a b:Nat): fieldAddrV Tryz.prog 124 (.ptr a b) 4=some (.ptr a (b+4)):=by kernel_rfl
theorem L2 (a b:Nat): fieldAddrV Tryz.prog 124 (.ptr a b) 5=some (.ptr a (b+5)):=by kernel_rfl
theorem VG (ps:List (Nat×V)): buildV Tryz.prog 124 ps=(fillV (nth [(0,1),(1,1),(2,1),(3,1),(4,1),(5,1)]) ((.agg [.bq,(.int .u64 0),.aY,.aY,(.int .i64 0),(.int .u64 0)]):V).cells ps).map .agg:=by kernel_rfl
theorem DJ : bB Tryz.prog 128=some 2:=by kernel_rfl
theorem VH : isAggT Tryz.prog 128=some true:=by kernel_rfl
theorem HM : zeroT Tryz.prog 128=some (.agg [(.int .i64 0),.aY]):=by kernel_rfl
theorem FA (a b:Nat): fieldAddrV Tryz.prog 128 (.ptr a b) 0=some (.ptr a (b+0)):=by kernel_rfl
theorem FB (a b:Nat): fieldAddrV Tryz.prog 128 (.ptr a b) 1=some (.ptr a (b+1)):=by kernel_rfl
theorem aba (ps:List (Nat×V)): buildV Tryz.prog 128 ps=(fillV (nth [(0,1),(1,1)]) ((.agg [(.int .i64 0),.aY]):V).cells ps).map .agg:=by kernel_rfl
theorem rz (a b:Nat): fieldAddrV Tryz.prog 139 (.ptr a b) 0=some (.ptr a (b+0)):=by kernel_rfl
theorem wY (a b:Nat): fieldAddrV Tryz.prog 139 (.ptr a b) 1=some (.ptr a (b+1)):=by kernel_rfl
theorem abb (ps:List (Nat×V)): buildV Tryz.prog 139 ps=(fillV (nth [(0,1),(1,1)]) ((.agg [.bq,(.int .i64 0)]):V).cells ps).map .agg:=by kernel_rfl
theorem kr : isAggT Tryz.prog 142=some false:=by kernel_rfl
theorem rC (a b:Nat): fieldAddrV Tryz.prog 144 (.ptr a b) 0=some (.ptr a (b+0)):=by kernel_rfl
theorem iZ (a b:Nat): fieldAddrV Tryz.prog 144 (.ptr a b) 2=some (.ptr a (b+2)):=by kernel_rfl
theorem rD (a b:Nat): fieldAddrV Tryz.prog 144 (.ptr a b) 3=some (.ptr a (b+3)):=by kernel_rfl
theorem VI (ps:List (Nat×V)): buildV Tryz.prog 144 ps=(fillV (nth [(0,1),(1,1),(2,1),(3,1)]) ((.agg [.bq,.gO,.j_,(.int .u64 0)]):V).cells ps).map .agg:=by kernel_rfl
theorem tv : isAggT Tryz.prog 145=some false:=by kernel_rfl
theorem HN : zeroT Tryz.prog 145=some .bq:=by kernel_rfl
theorem NN : isAggT Tryz.prog 146=some false:=by kernel_rfl
theorem VJ : bB Tryz.prog 147=some 1:=by kernel_rfl
theorem DL : isAggT Tryz.prog 147=some false:=by kernel_rfl
theorem L3 (a b:Nat): fieldAddrV Tryz.prog 149 (.ptr a b) 0=some (.ptr a (b+0)):=by kernel_rfl
theorem L4 (a b:Nat): fieldAddrV Tryz.prog 149 (.ptr a b) 1=some (.ptr a (b+1)):=by kernel_rfl
theorem wZ (a b:Nat): fieldAddrV Tryz.prog 149 (.ptr a b) 2=some (.ptr a (b+2)):=by kernel_rfl
theorem pV (a b:Nat): fieldAddrV Tryz.prog 149 (.ptr a b) 3=some (.ptr a (b+3)):=by kernel_rfl
theorem rE (a b:Nat): fieldAddrV Tryz.prog 149 (.ptr a b) 5=some (.ptr a (b+5)):=by kernel_rfl
theorem FC (a b:Nat): fieldAddrV Tryz.prog 149 (.ptr a b) 6=some (.ptr a (b+6)):=by kernel_rfl
theorem VK (ps:List (Nat×V)): buildV Tryz.prog 149 ps=(fillV (nth [(0,1),(1,1),(2,1),(3,1),(4,1),(5,1),(6,1)]) ((.agg [(.int .u64 0),(.int .u64 0),(.int .u64 0),(.int .u64 0),.aY,.aY,.j_]):V).cells ps).map .agg:=by kernel_rfl
theorem abc (ps:List (Nat×V)): buildV Tryz.prog 161 ps=(fillV (nth [(0,1)]) ((.agg [.bq]):V).cells ps).map .agg:=by kernel_rfl
theorem VL : isAggT Tryz.prog 164=some false:=by kernel_rfl
theorem VM : zeroT Tryz.prog 164=some .aY:=by kernel_rfl
theorem abd : bB Tryz.prog 174=some 3:=by kernel_rfl
theorem pW (a b:Nat): fieldAddrV Tryz.prog 174 (.ptr a b) 0=some (.ptr a (b+0)):=by kernel_rfl
theorem rF (a b:Nat): fieldAddrV Tryz.prog 174 (.ptr a b) 1=some (.ptr a (b+1)):=by kernel_rfl
theorem By (a b:Nat): fieldAddrV Tryz.prog 174 (.ptr a b) 2=some (.ptr a (b+2)):=by kernel_rfl
theorem abe (ps:List (Nat×V)): buildV Tryz.prog 174 ps=(fillV (nth [(0,1),(1,1),(2,1)]) ((.agg [.bq,.j_,(.bool false)]):V).cells ps).map .agg:=by kernel_rfl
theorem bN : bB Tryz.prog 176=some 1:=by kernel_rfl
theorem cK : isAggT Tryz.prog 176=some true:=by kernel_rfl
theorem jT : zeroT Tryz.prog 176=some (.agg [.aY]):=by kernel_rfl
theorem ik (a b:Nat): fieldAddrV Tryz.prog 176 (.ptr a b) 0=some (.ptr a (b+0)):=by kernel_rfl
theorem Bz (ps:List (Nat×V)): buildV Tryz.prog 176 ps=(fillV (nth [(0,1)]) ((.agg [.aY]):V).cells ps).map .agg:=by kernel_rfl
theorem abf : bB Tryz.prog 182=some 0:=by kernel_rfl
theorem VN : zeroT Tryz.prog 182=some (.agg []):=by kernel_rfl
theorem abg (ps:List (Nat×V)): buildV Tryz.prog 182 ps=(fillV (nth []) ((.agg []):V).cells ps).map .agg:=by kernel_rfl
theorem tw : bB Tryz.prog 185=some 2:=by kernel_rfl
theorem HO : isAggT Tryz.prog 185=some true:=by kernel_rfl
theorem DM : zeroT Tryz.prog 185=some (.agg [(.int .u64 0),(.int .i64 0)]):=by kernel_rfl
theorem Xc (a b:Nat): fieldAddrV Tryz.prog 185 (.ptr a b) 0=some (.ptr a (b+0)):=by kernel_rfl
theorem Xd (a b:Nat): fieldAddrV Tryz.prog 185 (.ptr a b) 1=some (.ptr a (b+1)):=by kernel_rfl
theorem abh (ps:List (Nat×V)): buildV Tryz.prog 185 ps=(fillV (nth [(0,1),(1,1)]) ((.agg [(.int .u64 0),(.int .i64 0)]):V).cells ps).map .agg:=by kernel_rfl
theorem DN : isAggT Tryz.prog 213=some false:=by kernel_rfl
theorem qx : isAggT Tryz.prog 214=some false:=by kernel_rfl
theorem abi (a b l:Nat)(c:Cap)(k:IntKind)(n:Int): indexAddrV Tryz.prog 214 (.sl a b l c) (.int k n)=cond (decide (0≤n)&&decide (n<(l:Int))) (some (.ptr a (b+n.toNat*5))) none:=by kernel_rfl
theorem BA : isAggT Tryz.prog 215=some false:=by kernel_rfl
theorem BB (a b:Nat): fieldAddrV Tryz.prog 217 (.ptr a b) 0=some (.ptr a (b+0)):=by kernel_rfl
theorem Xe (a b:Nat): fieldAddrV Tryz.prog 217 (.ptr a b) 1=some (.ptr a (b+1)):=by kernel_rfl
theorem mu (a b:Nat): fieldAddrV Tryz.prog 217 (.ptr a b) 2=some (.ptr a (b+2)):=by kernel_rfl
theorem w6 (a b:Nat): fieldAddrV Tryz.prog 217 (.ptr a b) 3=some (.ptr a (b+3)):=by kernel_rfl
theorem ua (a b:Nat): fieldAddrV Tryz.prog 217 (.ptr a b) 4=some (.ptr a (b+4)):=by kernel_rfl
theorem FD (a b:Nat): fieldAddrV Tryz.prog 217 (.ptr a b) 5=some (.ptr a (b+5)):=by kernel_rfl
theorem abj (ps:List (Nat×V)): buildV Tryz.prog 217 ps=(fillV (nth [(0,1),(1,1),(2,1),(3,1),(4,1),(5,1)]) ((.agg [.bq,.bq,.aY,.j_,.j_,(.int .i64 0)]):V).cells ps).map .agg:=by kernel_rfl
theorem BC : bB Tryz.prog 220=some 2:=by kernel_rfl
theorem VO : isAggT Tryz.prog 220=some true:=by kernel_rfl
theorem BD : zeroT Tryz.prog 220=some (.agg [(.int .u64 0),(.bool false)]):=by kernel_rfl
theorem FE (a b:Nat): fieldAddrV Tryz.prog 220 (.ptr a b) 0=some (.ptr a (b+0)):=by kernel_rfl
theorem Xf (cs:List V): r8 Tryz.prog 220 (.agg cs) 0=nth cs 0:=by kernel_rfl
theorem L5 (a b:Nat): fieldAddrV Tryz.prog 220 (.ptr a b) 1=some (.ptr a (b+1)):=by kernel_rfl
theorem abk (ps:List (Nat×V)): buildV Tryz.prog 220 ps=(fillV (nth [(0,1),(1,1)]) ((.agg [(.int .u64 0),(.bool false)]):V).cells ps).map .agg:=by kernel_rfl
theorem DO : bB Tryz.prog 230=some 5:=by kernel_rfl
theorem abl : isAggT Tryz.prog 230=some true:=by kernel_rfl
theorem abm : zeroT Tryz.prog 230=some (.agg [(.int .i64 0),.aY,(.int .i64 0),(.bool false),(.bool false)]):=by kernel_rfl
theorem pX (a b:Nat): fieldAddrV Tryz.prog 230 (.ptr a b) 0=some (.ptr a (b+0)):=by kernel_rfl
theorem BE (a b:Nat): fieldAddrV Tryz.prog 230 (.ptr a b) 1=some (.ptr a (b+1)):=by kernel_rfl
theorem rG (a b:Nat): fieldAddrV Tryz.prog 230 (.ptr a b) 2=some (.ptr a (b+2)):=by kernel_rfl
theorem FF (a b:Nat): fieldAddrV Tryz.prog 230 (.ptr a b) 3=some (.ptr a (b+3)):=by kernel_rfl
theorem FG (a b:Nat): fieldAddrV Tryz.prog 230 (.ptr a b) 4=some (.ptr a (b+4)):=by kernel_rfl
theorem HP (ps:List (Nat×V)): buildV Tryz.prog 230 ps=(fillV (nth [(0,1),(1,1),(2,1),(3,1),(4,1)]) ((.agg [(.int .i64 0),.aY,(.int .i64 0),(.bool false),(.bool false)]):V).cells ps).map .agg:=by kernel_rfl
theorem VQ : isAggT Tryz.prog 232=some false:=by kernel_rfl
theorem pY (a b:Nat): fieldAddrV Tryz.prog 234 (.ptr a b) 0=some (.ptr a (b+0)):=by kernel_rfl
theorem L6 (a b:Nat): fieldAddrV Tryz.prog 234 (.ptr a b) 1=some (.ptr a (b+1)):=by kernel_rfl
theorem VR (ps:List (Nat×V)): buildV Tryz.prog 234 ps=(fillV (nth [(0,1),(1,1)]) ((.agg [.j_,.j_]):V).cells ps).map .agg:=by kernel_rfl
theorem og : bB Tryz.prog 237=some 4:=by kernel_rfl
theorem HQ : isAggT Tryz.prog 237=some true:=by kernel_rfl
theorem nj : zeroT Tryz.prog 237=some (.agg [(.int .i64 0),(.int .i64 0),(.bool false),.aY]):=by kernel_rfl
theorem oh (a b:Nat): fieldAddrV Tryz.prog 237 (.ptr a b) 0=some (.ptr a (b+0)):=by kernel_rfl
theorem pZ (a b:Nat): fieldAddrV Tryz.prog 237 (.ptr a b) 1=some (.ptr a (b+1)):=by kernel_rfl
theorem uc (a b:Nat): fieldAddrV Tryz.prog 237 (.ptr a b) 2=some (.ptr a (b+2)):=by kernel_rfl
theorem mw (a b:Nat): fieldAddrV Tryz.prog 237 (.ptr a b) 3=some (.ptr a (b+3)):=by kernel_rfl
theorem NO (ps:List (Nat×V)): buildV Tryz.prog 237 ps=(fillV (nth [(0,1),(1,1),(2,1),(3,1)]) ((.agg [(.int .i64 0),(.int .i64 0),(.bool false),.aY]):V).cells ps).map .agg:=by kernel_rfl
theorem VS (a b:Nat)(k:IntKind)(n:Int): indexAddrV Tryz.prog 264 (.ptr a b) (.int k n)=cond (decide (0≤n)&&decide (n<(512:Nat))) (some (.ptr a (b+n.toNat*1))) none:=by kernel_rfl
theorem abn : bB Tryz.prog 281=some 512:=by kernel_rfl
theorem abo : isAggT Tryz.prog 281=some true:=by kernel_rfl
theorem my (a b:Nat): fieldAddrV Tryz.prog 320 (.ptr a b) 0=some (.ptr a (b+0)):=by kernel_rfl
theorem abp (ps:List (Nat×V)): buildV Tryz.prog 320 ps=(fillV (nth [(0,1)]) ((.agg [.aY]):V).cells ps).map .agg:=by kernel_rfl
theorem abq (ps:List (Nat×V)): buildV Tryz.prog 334 ps=(fillV (fun i=>some (i*1,1)) ((.agg [(.int .u64 0),(.int .u64 0),(.int .u64 0)]):V).cells ps).map .agg:=by kernel_rfl
theorem NP : bB Tryz.prog 344=some 1:=by kernel_rfl
theorem NQ : isAggT Tryz.prog 344=some false:=by kernel_rfl
theorem abr (ps:List (Nat×V)): buildV Tryz.prog 345 ps=(fillV (fun i=>some (i*1,1)) ((.agg [.bq,.bq,.bq]):V).cells ps).map .agg:=by kernel_rfl
def slR (v:V)(a b:Nat): V:=match v with
 |.sl id off _ (.exact c)=>.sl id (cond (Nat.beq c a) off (off+a*1)) (b-a) (.exact (c-a))
 |.sl id off _ (.rest _ alt)=>.sl id (off+a*1) (b-a) (.rest 1 (cond (Nat.beq a 0) alt (cond (Nat.blt a b) (off+a*1) off)))
 |v=>v
theorem dc {v:V}(hv:View h v l)(oL:a≤b)(hb:b≤l.length):
  sliceV Tryz.prog h 23 v (some a) (some b) none=some (slR v a b)∧View h (slR v a b) ((l.take b).drop a)∧∀i∈rowIds (slR v a b),i∈rowIds v:=by
 have I:∀x∈(l.take b).drop a,x<256:=fun x hx=>hv.1 x (kE (nW hx))
 have hlen:((l.take b).drop a).length=b-a:=by grind
 obtain⟨hl,J⟩:=hv
 rcases J with⟨rfl|⟨ea,rfl⟩,rfl⟩|⟨id,off,cap,n,cs,st,rfl,hg,h1,h2,h3,h4⟩
 ·simp only[cG] at hb
  have:b=0:=by omega
  have:a=0:=by omega
  subst_vars
  refine⟨?_,⟨by simp,.inl ⟨.inl rfl,by simp⟩⟩,fun i hi=>hi⟩
  simp only[sliceV,aJ,eA]
  rfl
 ·simp only[cG] at hb
  have:b=0:=by omega
  have:a=0:=by omega
  subst_vars
  refine⟨?_,⟨by simp,.inl ⟨.inr ⟨ea,rfl⟩,by simp⟩⟩,fun i hi=>hi⟩
  simp only[sliceV,aJ,eA]
  rfl
 ·have HG:∀o,o=off+a∨b-a=0→(cs.drop o).take (b-a)=ofBytes ((l.take b).drop a):=by
   grind[ofBytes,List.map_drop,List.map_take,List.drop_take,List.drop_drop]
  cases cap with
  |exact c =>
   refine⟨?_,⟨I,.inr ⟨id,_,_,n,cs,st,by rw[hlen];rfl,hg,h1,?_,?_,?_⟩⟩,fun i hi=>by simpa[rowIds,slR] using hi⟩
   ·simp only[sliceV,slR,aJ,eA,iB]
    grind[aL]
   ·grind
   ·grind[fF]
   ·omega
  |rest e alt =>
   have he:e=1:=h4
   subst he
   refine⟨?_,⟨I,.inr ⟨id,_,_,n,cs,st,by rw[hlen];rfl,hg,h1,by omega,by grind,rfl⟩⟩,fun i hi=>by simpa[rowIds,slR] using hi⟩
   simp only[sliceV,slR,aJ,eA,iB,fJ]
   grind[aL]
theorem ff {v:V}(J:View h v l)(ha:a≤l.length):
  sliceV Tryz.prog h 23 v (some a) none none=some (slR v a l.length)∧View h (slR v a l.length) (l.drop a)∧∀i∈rowIds (slR v a l.length),i∈rowIds v:=by
 obtain⟨h1,h2,h3⟩:=dc J ha (aV _)
 refine⟨?_,by grind,h3⟩
 obtain⟨_,I⟩:=J
 rcases I with⟨rfl|⟨ea,rfl⟩,rfl⟩|⟨id,off,cap,n,cs,st,rfl,hg,g1,g2,g3,g4⟩
 ·simpa[sliceV,aJ,eA] using h1
 ·simpa[sliceV,aJ,eA] using h1
 ·simp_all[sliceV]
theorem iy {v:V}(J:View h v l)(hb:b≤l.length):
  sliceV Tryz.prog h 23 v none (some b) none=some (slR v 0 b)∧View h (slR v 0 b) (l.take b)∧∀i∈rowIds (slR v 0 b),i∈rowIds v:=by
 obtain⟨h1,h2,h3⟩:=dc J (ew b) hb
 refine⟨?_,by grind,h3⟩
 obtain⟨_,I⟩:=J
 rcases I with⟨rfl|⟨ea,rfl⟩,rfl⟩|⟨id,off,cap,n,cs,st,rfl,hg,g1,g2,g3,g4⟩
 ·simpa[sliceV,aJ,eA] using h1
 ·simpa[sliceV,aJ,eA] using h1
 ·simp_all[sliceV]
theorem fg {v:V}(J:View h v l)(hi:l[i]?=some b):
  ∃id off,indexAddrV Tryz.prog 23 v (.int .i64 (i:Int))=some (.ptr id off)∧loadV Tryz.prog h 5 (.ptr id off)=some (.int .u8 (b:Int)):=by
 obtain⟨hl,I⟩:=J
 rcases I with⟨_,rfl⟩|⟨id,off,cap,n,cs,st,rfl,hg,h1,h2,h3,h4⟩
 ·grind
 ·refine⟨id,off+i*1,?_,?_⟩
  ·simp only[indexAddrV,aJ,eA,cL]
   grind
  ·simp only[loadV,LQ,yZ,hg,gH,iV]
   have e:=iW (fun q=>q[i]?) h3
   grind[ofBytes]
theorem View.cells {v:V}(I:View h v l): v.cells=[v]∧Am.storable v=true:=by
 obtain⟨_,I⟩:=I
 rcases I with⟨rfl|⟨J,rfl⟩,_⟩|⟨id,off,cap,n,cs,st,rfl,_⟩<;>exact⟨rfl,rfl⟩
def plain1 : V→Bool
 |.bool _|.int _ _|.str _|.bq|.ptr _ _|.aY|.sl _ _ _ _|.j_|.map _|.F6|.gO|.uf _ _=>true
 |.fn (.func _) [] []=>true
 |_=>false
def ZC : V→Bool
 |.agg l=>l.all plain1
 |.aQ l=>l.all plain1
 |.iface _ v=>plain1 v
 |v=>plain1 v
theorem NR (k:FloatKind): fkBeq k k=true:=by cases k<;>rfl
theorem ID : ∀l:List Nat,natsBeq l l=true:=by grind[Cd]
theorem Tf (v:V)(h:plain1 v=true): v.beq v=true:=by
 cases v<;>simp[plain1,V.beq,d_,lF,Cb,ID,NR] at h ⊢
 rename_i f a b
 cases f<;>cases a<;>cases b<;>simp[plain1,V.beq,V.beqL] at h ⊢
theorem VT : ∀(l:List V),l.all plain1=true→V.beqL l l=true:=by
 intro l
 induction l<;>grind[V.beqL,Tf]
theorem aS (v:V)(h:ZC v=true): v.beq v=true:=by
 cases v with
 |agg l=>exact VT l h
 |aQ l=>exact VT l h
 |iface t v=>simp only[V.beq,fJ,Bool.true_and];exact Tf v h
 |_=>exact Tf _ h
section
variable {v w:V} {m:List Nat}
theorem DP (s:Sat h (aZ v l::X::S))(J:cN X (cP w m))(I:l.length+m.length≤140737488355328):
  ∃v' h',appendV Tryz.prog h #[23,23] v w=some (v',h')∧Sat h' (aZ v' (l++m)::X::S):=by
 obtain⟨v',h',e1,e2,e3,e4⟩:=z7 s.wf (s.buf (k:=0) rfl) (s.aG (k:=1) rfl J) I
 exact⟨v',h',e1,s.Br e3 e2 e4⟩
theorem Gw (s:Sat h S)(I:c<1073741824):
  ∃v h',makeSliceV Tryz.prog h 23 (.int .i64 0) (.int .i64 (c:Int))=some (v,h')∧Sat h' (aZ v []::S):=by
 obtain⟨v,h',J,e2,e3,e4⟩:=DB s.wf I
 exact⟨v,h',J,s.IA e3 e2 e4⟩
theorem Xg : ∀n:Nat,repeatL [V.int .u8 0] n=ofBytes (List.replicate n 0):=by
 intro n
 induction n<;>grind[repeatL,ofBytes]
theorem P8 (s:Sat h S)(J:c<1073741824):
  ∃v h',makeSliceV Tryz.prog h 23 (.int .i64 (c:Int)) (.int .i64 (c:Int))=some (v,h')∧Sat h' (aZ v (List.replicate c 0)::S):=by
 obtain⟨i,hi,i1,i2⟩:=wV
 have I:jB (h.new (.cells c (repeatL [.int .u8 0] c) false)) (.sl h.next 0 c (.exact c)) (List.replicate c 0):=by
  refine⟨fun b I=>by grind,.inr (.inl ⟨h.next,[],c,by simp,?_,by simp⟩)⟩<;>grind[gT,Xg]
 refine⟨.sl h.next 0 c (.exact c),h.new (.cells c (repeatL [.int .u8 0] c) false),?_,s.IA (dW.Bq s.wf _) I fun i hi=>by simp[rowIds] at hi;omega⟩
 grind[makeSliceV,Tryz.underlying23,o7,V.cells,Nat.ble,Nat.beq]
theorem P9 (s:Sat h S)(I:b<256): ∃v h',buildSliceV Tryz.prog h 23 1 [(0,.int .u8 b)]=some (v,h')∧Sat h' (aZ v [b]::S):=by
 obtain⟨v,h',J,e2,e3,e4⟩:=Gu s.wf I
 exact⟨v,h',J,s.IA e3 e2 e4⟩
theorem Sat.fU (s:Sat h (aZ v l::S))(hl:1≤l.length): ∃id c cap rest,v=.sl id 0 l.length cap∧Sat h (pt id (.cells c (ofBytes l++rest) false)::S)∧l.length+rest.length=c ∧
  (∀(h':H) (I:List Nat),I.length=l.length→(∀b∈I,b<256)→Sat h' (pt id (.cells c (ofBytes I++rest) false)::S)→Sat h' (aZ v I::S)):=by
 obtain⟨m,r,h1,h2,h3,a,b,g1,g2,g3,⟨gl,g4⟩,g5⟩:=s.ok
 rcases g4 with⟨rfl,rfl⟩|⟨id,cs,c,rfl,J,hc⟩|⟨id,rfl,J,h5⟩
 ·grind
 ·refine⟨id,c,_,cs,rfl,⟨s.wf,m,r,h1,h2,h3,a,b,g1,g2,g3,J,g5⟩,hc,fun h' I e1 e2 s'=>s'.iu ?_⟩
  intro m' r' hm
  exact⟨e2,.inr (.inl ⟨id,cs,c,by rw[e1],hm,by omega⟩)⟩
 ·refine⟨id,l.length,_,[],rfl,⟨s.wf,m,r,h1,h2,h3,a,b,g1,g2,g3,by rw[eZ];exact J,g5⟩,by simp,fun h' I e1 e2 s'=>s'.iu ?_⟩
  intro m' r' hm
  have Gi:m' id=some (.cells l.length (ofBytes I++[]) false):=hm
  exact⟨e2,.inr (.inr ⟨id,by rw[e1],by grind,by omega⟩)⟩
theorem KT (l:List Nat)(i b:Nat): (ofBytes l).set i (.int .u8 (b:Int))=ofBytes (l.set i b):=by simp[ofBytes,List.map_set]
theorem Ac (l:List Nat)(n:Nat): (ofBytes l).take n=ofBytes (l.take n):=by simp[ofBytes,List.map_take]
theorem IE (l:List Nat)(n:Nat): (ofBytes l).drop n=ofBytes (l.drop n):=by simp[ofBytes,List.map_drop]
theorem oR (s:Sat h (aZ v l::S))(hi:i<l.length)(hb:b<256):
  ∃id off,indexAddrV Tryz.prog 23 v (.int .i64 (i:Int))=some (.ptr id off)∧∃h',f_ Tryz.prog h 5 (.ptr id off) (.int .u8 (b:Int))=some h'∧Sat h' (aZ v (l.set i b)::S):=by
 have hv:=(s.buf (k:=0) rfl).1
 obtain⟨id,c,cap,rest,rfl,s1,hc,J⟩:=s.fU (by omega)
 refine⟨id,i,?_,?_⟩
 ·simp_all[indexAddrV,eA]
 ·obtain⟨h',e1,I⟩:=s1.dK (t:=5) (P:=Tryz.prog) (v:=.int .u8 (b:Int)) (k:=0) (off:=i) rfl eA (by simp[dR];omega) (by omega) rfl rfl
  refine⟨h',e1,J h' (l.set i b) (by simp) (fun x hx => ?_) ?_⟩
  ·grind
  ·have e3:(ofBytes l++rest).set i (.int .u8 (b:Int))=ofBytes (l.set i b)++rest:=by
    grind[dR,KT]
   rw[e3] at I
   exact I
def a_ (l:List Nat)(a:Nat)(m:List Nat): List Nat:=l.take a++(m++l.drop (a+m.length))
theorem cI (h:a+m.length≤l.length): (a_ l a m).length=l.length:=by simp[a_];omega
theorem Ad (I:∀b∈l,b<256)(hm:∀b∈m,b<256): ∀b∈a_ l a m,b<256:=by grind[a_]
theorem CI (s:Sat h (aZ v l::X::S))(hX:cN X (cP w m))(oL:a<b)(hb:b≤l.length)(hm:1≤m.length):
  ∃h',copyV Tryz.prog h 23 (slR v a b) w=some (.int .i64 (min m.length (b-a):Nat),h')∧Sat h' (aZ v (a_ l a (m.take (b-a)))::X::S):=by
 have hw:=s.aG (k:=1) rfl hX
 have L7:=hw.1
 have hv:=(s.buf (k:=0) rfl).1
 obtain⟨id,c,cap,rest,rfl,s1,hc,hf⟩:=s.fU (by omega)
 have kx:∃J,slR (.sl id 0 l.length cap) a b=.sl id a (b-a) J:=by
  cases cap with
  |exact c =>
   refine⟨.exact (c-a),?_⟩
   simp only[slR]
   by_cases hca:c=a
   ·obtain⟨m',r,h1,h2,h3⟩:=s.at (k:=0) rfl
    rcases h3.2 with⟨e,_⟩|⟨Dg,cs',c',e,hg,hc'⟩|⟨Dg,e,_⟩
    ·cases e
    ·grind
    ·grind
   grind[fF]
  |rest e alt=>simp[slR]
 obtain⟨J,kx⟩:=kx
 rw[kx]
 have uA:=hw
 rcases uA.2 with⟨_,rfl⟩|⟨nk,I,IF,n2,Gx,P_,rfl,IG,q1,q2,q3,q4⟩
 ·grind
 ·have acM:Nat.min m.length (b-a)=(m.take (b-a)).length:=by
   grind
  have lQ:rdN h nk I (Nat.min m.length (b-a)*1)=some (ofBytes (m.take (b-a))):=by
   have qy:View h (.sl nk I (m.take (b-a)).length IF) (m.take (b-a)):=by
    refine⟨fun x hx=>L7 x (kE hx),.inr ⟨nk,I,IF,n2,Gx,P_,rfl,IG,q1,?_,?_,?_⟩⟩
    ·grind
    ·rw[←Ac,←q3,List.take_take,gR]
    ·grind
   rw[iV,acM]
   exact qy.rdN.2
  simp only[copyV,aJ,eA,lQ]
  have hlen:(m.take (b-a)).length≤b-a:=by grind
  have vn:wrN h id a (ofBytes (m.take (b-a)))=some (h.put id (some (.cells c (ofBytes (a_ l a (m.take (b-a)))++rest) false))):=by
   simp only[wrN,s1.row (k:=0) rfl,dR]
   rw[aL.2 (by omega),ah]
   have e0:(ofBytes l++rest).take a++(ofBytes (m.take (b-a))++(ofBytes l++rest).drop (a+(m.take (b-a)).length))=ofBytes (a_ l a (m.take (b-a)))++rest:=by
    grind[dR,Ac,IE,a_,rT]
   cases Qa:(Nat.beq a 0&&Nat.beq (m.take (b-a)).length c)<;>grind[beq_iff,List.drop_eq_nil_of_le,dR]
  rw[vn]
  refine⟨_,rfl,hf _ _ (cI (by omega)) (Ad hv (fun x hx=>L7 x (kE hx))) ?_⟩
  exact s1.put (k:=0) rfl
end
section
variable {v w x:V}
theorem VU {st:Bool}(I:isAggT P t=some true)(hs:bB P t=some q)(J:T.get h.tr id=some (.cells n cs st))(hl:cs.length=n)(hb:off+q≤n):
  loadV P h t (.ptr id off)=some (.agg ((cs.drop off).take q)):=by
 grind[loadV,rdN,aL,beq_iff]
theorem Sat.L8 (s:Sat h (.arr k v cs::S))(I:cs≠[]): ∃id n cap N rest,v=.sl id 0 n cap∧cs.length=n*k∧N=cs.length+rest.length∧Sat h (pt id (.cells N (cs++rest) false)::S) ∧
  (∀(h':H) (cs':List V) (S':List aI),cs'.length=cs.length→cs'.all storable=true→Sat h' (pt id (.cells N (cs'++rest) false)::S')→Sat h' (.arr k v cs'::S')):=by
 obtain⟨m,r,J,h2,h3,a,b,g1,g2,g3,⟨gl,g4⟩,g5⟩:=s.ok
 rcases g4 with⟨_,e⟩|⟨id,n,cap,N,rest,rfl,hg,q1,q2,q3,q4⟩
 ·grind
 ·refine⟨id,n,cap,N,rest,rfl,q1,q2.symm,⟨s.wf,m,r,J,h2,h3,a,b,g1,g2,g3,hg,g5⟩,fun h' cs' S' e1 e2 s'=>s'.iu ?_⟩
  intro m' r' hm
  exact⟨e2,.inr ⟨id,n,cap,N,rest,rfl,hm,by omega,by omega,q3,q4⟩⟩
theorem Sat.abt (s:Sat h S)(I:getA S j=some (.arr k v cs)): cs.all storable=true:=by
 obtain⟨m,r,h1,h2,J⟩:=s.at I
 exact J.1
theorem Sat.iz (s:Sat h S)(I:getA S j=some (.arr k v cs)): v.cells=[v]∧storable v=true∧v.beq v=true:=by
 obtain⟨m,r,h1,h2,J⟩:=s.at I
 rcases J.2 with⟨rfl,_⟩|⟨id,n,cap,N,rest,rfl,_⟩
 ·exact⟨rfl,rfl,rfl⟩
 ·exact⟨rfl,rfl,HJ _ _ _ _⟩
theorem Sat.fR (s:Sat h S)(hj:getA S j=some (.arr k v cs))(hn:cs.length=n*k)(J:1≤k)(hu:P.underlying t=some (.slice e)): lenV P h t v=some (.int .i64 n):=by
 obtain⟨m,r,h1,h2,h3⟩:=s.at hj
 rcases h3.2 with⟨rfl,rfl⟩|⟨id,n',cap,N,rest,rfl,_,q,_⟩
 ·have:n=0:=by
   rcases wg n with I|I
   ·exact I
   ·have:=tM I J
    simp at hn
    omega
  simp_all[lenV]
 ·have:n'=n:=LA J (by omega)
  subst this
  simp only[lenV,hu]
theorem oS (z:List V)(n:Nat): (repeatL z n).length=n*z.length:=by
 induction n<;>grind[repeatL]
theorem xR {z:List V}(I:z.all storable=true)(n:Nat): (repeatL z n).all storable=true:=by
 induction n<;>grind[repeatL]
theorem Gy (s:Sat h S){i:TypeInfo}(hu:P.underlying t=some (.slice e))(hi:P.info? e=some i)(hz:zeroT P e=some z)(hk:i.size=k)(hb:i.bytes≤4096)(J:z.cells.length=k)(I:z.cells.all storable=true)
 (h1:1≤k)(hn:n≤c)(hc:c<1073741824):
  ∃v h',makeSliceV P h t (.int .i64 (n:Int)) (.int .i64 (c:Int))=some (v,h')∧Sat h' (.arr k v (repeatL z.cells n)::S):=by
 refine⟨.sl h.next 0 n (.exact c),h.new (.cells (c*k) (repeatL z.cells c) false),?_,(s.new _).iu fun m r hm => ?_⟩
 ·grind[makeSliceV,aL,Nat.beq_refl]
 ·refine⟨xR I n,.inr ⟨h.next,n,.exact c,c*k,repeatL z.cells (c-n),rfl,?_,by rw[oS,J],?_,xR I _,rfl,hn⟩⟩
  ·have:repeatL z.cells n++repeatL z.cells (c-n)=repeatL z.cells c:=by
    have:∀a b,repeatL z.cells a++repeatL z.cells b=repeatL z.cells (a+b):=fun a b=>by
     induction a<;>grind[repeatL]
    rw[this,show n+(c-n)=c by omega]
   rw[this];exact hm
  ·rw[oS,oS,J,←pN,show n+(c-n)=c by omega]
theorem Xh (I:T.get h.tr id=some (.cells n cs false))(J:cs.length=n)(hb:off+vs.length≤n):
  wrN h id off vs=some (h.put id (some (.cells n (cs.take off++(vs++cs.drop (off+vs.length))) false))):=by
 grind[wrN,aL,beq_iff,List.drop_eq_nil_of_le]
theorem Ae {st:Bool}(I:T.get h.tr id=some (.cells n cs st))(J:cs.length=n)(hb:off+q≤n): rdN h id off q=some ((cs.drop off).take q):=by
 grind[rdN,aL,beq_iff]
def ZD (X:aI)(k:Nat)(v:V)(cs:List V): Prop:=∀m r,X.p m r→uB m k v cs∨uB r k v cs
theorem II (k:Nat)(v:V)(cs:List V): ZD (.arr k v cs) k v cs:=fun _ _ h=>.inl h
theorem Sat.Tg (s:Sat h S)(I:getA S j=some X)(J:ZD X k v cs): uB (T.get h.tr) k v cs:=by
 obtain⟨m,r,h1,h2,h3⟩:=s.at I
 rcases J _ _ h3 with q|q
 ·exact q.up h1
 ·exact q.up h2
theorem Th (hX:ZD X k w ds)(s:Sat h (.arr k v cs::X::S)){i:TypeInfo}(hu:P.underlying t=some (.slice e))(hi:P.info? e=some i)(hz:zeroT P e=some z)(hk:i.size=k)(hb:i.bytes≤4096)(hl:z.cells.length=k)
 (h1:1≤k)(eL:cs.length+ds.length≤1073741824):
  ∃v' h',appendV P h #[t,t] v w=some (v',h')∧Sat h' (.arr k v' (cs++ds)::X::S):=by
 have aev:=s.abt (j:=0) rfl
 have am:=s.Tg (j:=1) rfl hX
 have ZE:=am.1
 have rq:(cs++ds).all storable=true:=by grind
 -- what is appended
 have Fo:∃m,srcV h k w=some (ds,m)∧ds.length=m*k:=by
  rcases am.2 with⟨rfl,rfl⟩|⟨id,n,cap,N,rest,rfl,J,e1,e2,e3,e4⟩
  ·exact⟨0,rfl,by simp⟩
  ·refine⟨n,?_,e1⟩
   simp only[srcV]
   rw[Ae J (by grind) (by omega)]
   grind
 obtain⟨m,Fo,hm⟩:=Fo
 have I:∀n:Nat,n*k=cs.length→mN (n+m) i.bytes=true:=fun n hn=>by
  have e2:n+m≤(n+m)*k:=Nat.le_mul_of_pos_right _ h1
  have e3:(n+m)*i.bytes≤(n+m)*4096:=ES _ hb
  grind[xF]
 have xG:∀(σ:H) (n:Nat) (T:List aI),Sat σ T→n*k=cs.length→1≤m→Sat (n_ σ k cs ds (n+m)).2 (.arr k (n_ σ k cs ds (n+m)).1 (cs++ds)::T):=by
  intro σ n T sT hn Ce
  refine(sT.new (.cells ((n+m)*k) (cs++ds) false)).iu fun a r Gi=>⟨rq,.inr ⟨σ.next,n+m,.rest k 0,(n+m)*k,[],rfl,by rw[eZ];exact Gi,by grind,by grind,rfl,rfl,rfl,rfl,by omega⟩⟩
 unfold appendV
 simp only[hu,hi,hz,hk,hl,Fo]
 rw[show(Nat.ble 1 k&&Nat.ble i.bytes 4096&&Nat.beq k k)=true by simp_all,ah]
 cases F8:Nat.beq m 0 with
 |true =>
  have:m=0:=beq_iff.1 F8
  subst this
  have VV:ds=[]:=nT (by omega)
  subst VV
  obtain⟨m,r,q1,q2,q3⟩:=s.at (k:=0) rfl
  rcases q3.2 with⟨rfl,rfl⟩|⟨id,n,cap,N,rest,rfl,J,e1,e2,e3,e4⟩
  ·grind
  ·grind
 |false =>
  have Ce:1≤m:=by
   grind[sO]
  obtain⟨a,r,q1,q2,q3⟩:=s.at (k:=0) rfl
  rcases q3.2 with⟨rfl,rfl⟩|⟨id,n,cap,N,rest,rfl,J,e1,e2,e3,e4⟩
  ·have J:=I 0 (by simp)
   rw[fy] at J
   simp only[J,ah]
   have:=xG h 0 (.arr k .aY []::X::S) s (by simp) Ce
   rw[fy] at this
   refine⟨_,_,rfl,?_⟩
   exact(this.qu [1]).drop
  ·cases cap with
   |exact c =>
    obtain⟨e4,e5⟩:=e4
    simp only[fy]
    have ox:(cs++rest).take cs.length=cs:=mZ rfl
    cases hq:Nat.ble (n+m) c with
    |true =>
     have BZ:=aL.1 hq
     have fG:n*k+ds.length≤N:=by rw[hm,←pN,e4];exact qV _ BZ
     rw[Xh (q1 _ _ J) (by grind) fG]
     obtain⟨m',r',p1,p2,p3,x1,x2,x3,x4,x5,⟨_,x6⟩,x7⟩:=s.ok
     have xO:x1 id=some (.cells N (cs++rest) false):=by
      rcases x6 with⟨x6,_⟩|⟨Dg,n',Nj,N',aa2,x6,x8,x9,x10,_⟩
      ·cases x6
      ·injection x6 with y1 y2 y3 y4
       subst y1
       rw[x8]
       have:=p1 _ _ (x4 _ _ x8)
       rw[q1 _ _ J] at this
       injection this with this
       rw[this]
     have s0:Sat h (pt id (.cells N (cs++rest) false)::X::S):=⟨s.wf,m',r',p1,p2,p3,x1,x2,x3,x4,x5,xO,x7⟩
     have s1:=s0.put (k:=0) (o':=.cells N ((cs++rest).take (n*k)++(ds++(cs++rest).drop (n*k+ds.length))) false) rfl
     refine⟨_,_,rfl,Sat.iu s1 fun a' r'' ha=>⟨rq,.inr ⟨id,n+m,.exact c,N,rest.drop ds.length,rfl,?_,by grind,by grind,?_,e4,BZ⟩⟩⟩
     ·have ha':a' id=some (.cells N ((cs++rest).take (n*k)++(ds++(cs++rest).drop (n*k+ds.length))) false):=ha
      simp_all[A_]
     ·grind
    |false =>
     rw[aX,I n e1.symm,ah,Ae (q1 _ _ J) (by grind) (by omega)]
     rw[gS,←e1,ox]
     have:=xG h n _ s e1.symm Ce
     exact⟨_,_,rfl,(this.qu [1]).drop⟩
   |rest e' alt =>
    obtain⟨ek,rfl,rfl,e7⟩:=e4
    have ek:=ek.symm
    subst ek
    simp only[fJ,ah,eZ,fy] at J e2 ⊢
    have CA:mM h id 0 k=n:=by
     simp only[mM,q1 _ _ J]
     grind[Nat.mul_div_cancel]
    rw[CA]
    rw[show Nat.ble (n+m) n=false by
     grind[aL],aX,I n e1.symm,show Nat.ble 2 ((n+m)*k)=true from aL.2 (by
      have:2*1≤(n+m)*k:=tM (by omega) h1
      omega),iT,ah,Ae (q1 _ _ J) (by omega) (by omega),q1 _ _ J]
    simp only
    obtain⟨m',r',p1,p2,p3,x1,x2,x3,x4,x5,⟨_,x6⟩,x7⟩:=s.ok
    have xO:x1 id=some (.cells N cs false):=by
     grind
    have s0:Sat h (pt id (.cells N cs false)::X::S):=⟨s.wf,m',r',p1,p2,p3,x1,x2,x3,x4,x5,xO,x7⟩
    have:=xG (h.put id none) n _ s0.kill e1.symm Ce
    rw[gS,gB (by omega)]
    exact⟨_,_,rfl,this⟩
theorem gU (s:Sat h (.arr k v cs::.arr k w ds::S)){i:TypeInfo}(hu:P.underlying t=some (.slice e))(hi:P.info? e=some i)(J:zeroT P e=some z)(hk:i.size=k)(hb:i.bytes≤4096)(hl:z.cells.length=k)
 (h1:1≤k)(I:cs.length+ds.length≤1073741824):
  ∃v' h',appendV P h #[t,t] v w=some (v',h')∧Sat h' (.arr k v' (cs++ds)::.arr k w ds::S):=Th (II _ _ _) s hu hi J hk hb hl h1 I
end
section
variable {v w x:V}
theorem Sat.eS {l:List V}(s:Sat h S)(J:getA S j=some (pt id (.cells n cs false)))(hs:bB P t=some n)(hl:l.length=n)(I:l.all storable=true):
  ∃h₁,f_ P h t (.ptr id 0) (.agg l)=some h₁∧Sat h₁ (setA S j (pt id (.cells n l false))):=by
 refine⟨h.put id (some (.cells n l false)),?_,s.put J⟩
 simp only[f_,hs,V.cells,I,hl,fJ,iT,ah,wrN,s.row J]
 grind[aL]
theorem kI (s:Sat h S)(hu:P.underlying t=some (.slice e))(hz:zeroT P e=some z)(hk:bB P e=some k)(hl:z.cells.length=k)(h1:1≤k)(h2:k≤65536)(J:x.cells.length=k)(I:x.cells.all storable=true):
  ∃v h',buildSliceV P h t 1 [(0,x)]=some (v,h')∧Sat h' (.arr k v x.cells::S):=by
 refine⟨.sl h.next 0 1 (.exact 1),newRow h x.cells,?_,?_⟩
 ·grind[buildSliceV,repeatL,fillV,Nat.beq_refl,aL]
 ·refine(s.new _).iu fun m r hm=>⟨I,.inr ⟨h.next,1,.exact 1,k,[],rfl,?_,by omega,by omega,rfl,by omega,aV _⟩⟩
  rw[hm,J,eZ]
end
section
variable {v w x:V}
theorem ViewM.slice {m:PM}(hv:ViewM m v l)(oL:a≤b)(hb:b≤l.length): ViewM m (slR v a b) ((l.take b).drop a):=by
 have I:∀x∈(l.take b).drop a,x<256:=fun x hx=>hv.1 x (kE (nW hx))
 have hlen:((l.take b).drop a).length=b-a:=by grind
 obtain⟨hl,J⟩:=hv
 rcases J with⟨rfl|⟨ea,rfl⟩,rfl⟩|⟨id,off,cap,n,cs,st,rfl,hg,h1,h2,h3,h4⟩
 ·simp at hb
  subst_vars
  exact⟨by simp,.inl ⟨.inl rfl,by simp⟩⟩
 ·simp at hb
  subst_vars
  exact⟨by simp,.inl ⟨.inr ⟨ea,rfl⟩,by simp⟩⟩
 ·have HG:∀o,o=off+a∨b-a=0→(cs.drop o).take (b-a)=ofBytes ((l.take b).drop a):=by
   grind[ofBytes,List.map_take,List.map_drop,List.drop_take,List.drop_drop]
  cases cap with
  |exact c =>
   refine⟨I,.inr ⟨id,_,_,n,cs,st,by rw[hlen];rfl,hg,h1,?_,?_,?_⟩⟩<;>grind[fF]
  |rest e alt =>
   exact⟨I,.inr ⟨id,_,_,n,cs,st,by rw[hlen];rfl,hg,h1,by omega,by grind,rfl⟩⟩
theorem jJ (hX:cN X (cP v l))(I:a≤b)(J:b≤l.length): cN X (cP (slR v a b) ((l.take b).drop a)):=fun m r hm =>
 (hX m r hm).imp (fun h=>ViewM.slice h I J) (fun h=>ViewM.slice h I J)
theorem rH (I:cN X (cP v l))(J:a≤l.length): cN X (cP (slR v a l.length) (l.drop a)):=by
 grind[jJ,List.take_length]
theorem xS (I:cN X (cP v l))(J:b≤l.length): cN X (cP (slR v 0 b) (l.take b)):=by
 have:=jJ I (ew b) J
 rwa [gS] at this
theorem Sat.kg (s:Sat h S): Sat h (.arr k .aY []::S):=(s.fB aa).iu fun _ _ _=>⟨rfl,.inl ⟨rfl,rfl⟩⟩
theorem Sat.uE (s:Sat h S): Sat h (aZ .aY []::S):=(s.fB aa).iu fun _ _ _=>⟨by simp,.inl ⟨rfl,rfl⟩⟩
theorem Sat.rX (s:Sat h S): Sat h (Cc .aY []::S):=(s.fB aa).iu fun _ _ _=>⟨by simp,.inl ⟨.inl rfl,rfl⟩⟩
theorem Gz (s:Sat h S){i:TypeInfo}(hu:P.underlying t=some (.slice e))(hi:P.info? e=some i)(I:zeroT P e=some z)(J:i.size=k)(hb:i.bytes≤4096)(hl:z.cells.length=k)
 (h1:1≤k)(hn:n<1073741824):
  ∃id h',makeSliceV P h t (.int .i64 (n:Int)) (.int .i64 (n:Int))=some (.sl id 0 n (.exact n),h')∧Sat h' (pt id (.cells (n*k) (repeatL z.cells n) false)::S):=by
 refine⟨h.next,h.new (.cells (n*k) (repeatL z.cells n) false),?_,s.new _⟩<;>grind[makeSliceV,aL,Nat.beq_refl]
theorem p_ {o:Nat}{c:Cap}(I:v=.sl i o n c)(hu:P.underlying t=some (.slice e)): lenV P h t v=some (.int .i64 n):=by subst I;exact IB hu
theorem o_ (I:v=.aY)(hu:P.underlying t=some (.slice e)): lenV P h t v=some (.int .i64 0):=by subst I;exact LY hu
theorem Ti {c:Go.Call}{b:Builtin}(I:c.callee=.builtin b)(J:lookArgs E c.args.toList=some args)(hf:builtinV P h b c.argTypes args=some (r,h')): opE P E h (.call c)=some (r,h'):=by
 simp only[opE,I,J,hf]
end
def slR3 (v:V)(a b m:Nat): V:=match v with
 |.sl id off _ _=>.sl id (cond (Nat.beq m a) off (off+a*1)) (b-a) (.exact (m-a))
 |v=>v
section
variable {v w x:V}
theorem ViewM.slice3 {m:PM}(hv:ViewM m v l)(oL:a≤b)(hb:b≤c)(hc:c≤l.length)(hl:1≤l.length): ViewM m (slR3 v a b c) ((l.take b).drop a):=by
 have I:∀x∈(l.take b).drop a,x<256:=fun x hx=>hv.1 x (kE (nW hx))
 have hlen:((l.take b).drop a).length=b-a:=by grind
 obtain⟨_,J⟩:=hv
 rcases J with⟨_,rfl⟩|⟨id,off,cap,n,cs,st,rfl,hg,h1,h2,h3,h4⟩
 ·grind
 ·have HG:∀o,o=off+a∨b-a=0→(cs.drop o).take (b-a)=ofBytes ((l.take b).drop a):=by
   grind[ofBytes,List.map_take,List.map_drop,List.drop_take,List.drop_drop]
  refine⟨I,.inr ⟨id,_,_,n,cs,st,by rw[hlen];rfl,hg,h1,?_,?_,?_⟩⟩<;>grind[fF]
theorem GB (hX:cN X (cP v l))(I:a≤b)(J:b≤c)(hc:c≤l.length)(hl:1≤l.length): cN X (cP (slR3 v a b c) ((l.take b).drop a)):=fun m r hm =>
 (hX m r hm).imp (fun h=>ViewM.slice3 h I J hc hl) (fun h=>ViewM.slice3 h I J hc hl)
theorem Cf (J:View h v l)(oL:a≤b)(hb:b≤c)(hc:c≤l.length)(hl:1≤l.length): sliceV Tryz.prog h 23 v (some a) (some b) (some c)=some (slR3 v a b c):=by
 obtain⟨_,I⟩:=J
 rcases I with⟨_,rfl⟩|⟨id,off,cap,n,cs,st,rfl,hg,h1,h2,h3,h4⟩
 ·grind
 ·cases cap with
  |exact q =>
   simp only[sliceV,slR3,aJ,eA,iB]
   grind[aL]
  |rest e alt =>
   have he:e=1:=h4
   subst he
   simp only[sliceV,slR3,aJ,eA,iB,fJ]
   grind[Nat.blt,aL]
theorem iD (I:View h v l)(J:1≤l.length): ∃id off cap,v=.sl id off l.length cap:=by
 rcases I.2 with⟨_,rfl⟩|⟨id,off,cap,_,_,_,rfl,_⟩<;>grind
theorem cW {k:IntKind}{n:Int}(I:0≤n): iK (some (V.int k n))=some (some n.toNat):=by
 grind[iK,bndV]
end
section
variable {v w x:V} {m:List Nat}
theorem Qb (s:Sat h S)(J:getA S j=some (.arr q v cs))(hi:i*q+q≤cs.length)(hq:1≤q)(hu:P.underlying t=some (.slice e))(I:bB P e=some q):
  ∃id off,indexAddrV P t v (.int .i64 (i:Int))=some (.ptr id off)∧(isAggT P e=some true→loadV P h e (.ptr id off)=some (.agg ((cs.drop (i*q)).take q))):=by
 obtain⟨m,r,h1,h2,h3⟩:=s.at J
 rcases h3.2 with⟨_,rfl⟩|⟨id,n,cap,N,rest,rfl,hg,e1,e2,_⟩
 ·grind
 ·refine⟨id,i*q,?_,fun ht => ?_⟩
  ·simp only[indexAddrV,hu,I,cL]
   have:i<n:=by
    have h4:i*q+q=(i+1)*q:=by grind
    rw[h4,e1] at hi
    exact EW (EK hi hq)
   grind
  ·rw[VU ht I (h1 _ _ hg) (by grind) (by omega)]
   grind
theorem Sat.ZF (s:Sat h (aZ v l::X::S))(hX:cN X (cP w m)): ∀i∈rowIds w,i∉rowIds v:=by
 intro i hi J
 obtain⟨a,r,h1,h2,h3,b,c,g1,g2,g3,g4,d,e,k1,k2,k3,k4,k5⟩:=s.ok
 have hb:=LW g4 i J
 have hw:∀q:PM,ViewM q w m→q i≠none:=fun q hq=>by
  rcases hq.2 with⟨rfl|⟨ea,rfl⟩,_⟩|⟨id,off,cap,n,cs,st,rfl,hg,_⟩<;>grind[rowIds]
 rcases hX _ _ k4 with hq|hq
 ·cases hd:d i with
  |none=>grind
  |some o =>
   rcases g1 i with I|I
   ·grind
   ·rw[k2 _ _ hd] at I;cases I
 ·cases VW:b i with
  |none=>grind
  |some o =>
   rcases h3 i with I|I
   ·rw[g2 _ _ VW] at I;cases I
   ·grind
end
abbrev cx := List (Int×V×Nat)
def ja (κ:IntKind)(e:Int×V×Nat): V×V×Nat:=(.int κ e.1,e.2)
abbrev qQ := ja .i64
def lookE (n:Int): cx→Option V
 |[]=>none
 |e::l=>if e.1=n then some e.2.1 else lookE n l
def jU (n:Int)(v:V)(c:Nat): cx→cx
 |[]=>[(n,v,c)]
 |e::l=>if e.1=n then(e.1,v,e.2.2)::l else e::jU n v c l
def rI (n:Int): cx→cx
 |[]=>[]
 |e::l=>if e.1=n then l else e::rI n l
def clkE (n:Int)(c:Nat)(l:cx): Nat:=match lookE n l with
 |some _=>c
 |none=>c+1
abbrev nf (κ:IntKind)(id:Nat)(l:cx)(c:Nat): aI:=pt id (.map (l.map (ja κ)) c)
abbrev nH := nf .i64
def idxE (n:Int): cx→Nat→Option (Nat×V)
 |[],_=>none
 |e::l,i=>if e.1=n then some (i,e.2.1) else idxE n l (i+1)
theorem kW (a b:Int): intBeq a b=decide (a=b):=by
 grind[vi,lF]
theorem ud {k:IntKind}{n:Int}: ∀(l:cx) (i:Nat),findK (.int k) (.int κ n) (l.map (ja κ)) i=some (idxE n l i):=by
 intro l
 induction l<;>grind[findK,ja,keyBeq,d_,kW,idxE]
theorem qd {n:Int}: ∀(l:cx) (i:Nat),(idxE n l i).map (·.2)=lookE n l:=by
 intro l
 induction l<;>grind[idxE,lookE]
theorem L9 {n:Int}: ∀(l:cx) (i j:Nat) (v:V),idxE n l i=some (j,v)→i≤j:=by
 intro l
 induction l<;>grind[idxE]
theorem abu {n:Int}{v:V}: ∀(l:cx) (i j:Nat) (u:V),idxE n l i=some (j,u)→setNth (l.map (ja κ)) (j-i) (fun e=>(e.1,v,e.2.2))=(jU n v c l).map (ja κ):=by
 intro l
 induction l with
 |nil=>intro i j u h;cases h
 |cons e l J =>
  intro i j u h
  simp only[idxE] at h
  simp only[jU,fu,setNth]
  by_cases he:e.1=n
  ·rw[aC he] at h;injection h with h;injection h with I h2
   subst I
   rw[aC he,Be]
   rfl
  ·rw[ak he] at h
   have h3:=L9 _ _ _ _ h
   grind[fF]
theorem ZG {n:Int}: ∀(l:cx) (i j:Nat) (u:V),idxE n l i=some (j,u)→l_ (l.map (ja κ)) (j-i)=(rI n l).map (ja κ):=by
 intro l
 induction l with
 |nil=>intro i j u h;cases h
 |cons e l I =>
  intro i j u h
  simp only[idxE] at h
  simp only[rI,fu,l_]
  by_cases he:e.1=n
  ·simp_all
  ·rw[ak he] at h
   have J:=L9 _ _ _ _ h
   grind[fF]
theorem Xi {n:Int}{v:V}: ∀(l:cx),lookE n l=none→jU n v c l=l++[(n,v,c)]:=by
 intro l
 induction l<;>grind[lookE,jU]
theorem Tj {n:Int}: ∀(l:cx),lookE n l=none→rI n l=l:=by
 intro l
 induction l<;>grind[lookE,rI]
section
variable {v:V} {k:IntKind} {l:cx} {n:Int}
theorem Sat.VX (s:Sat h S)(I:getA S j=some (nf κ id l c))(hu:P.underlying t=some (.map kt et))(J:P.underlying kt=some (.int k))(hz:zeroT P et=some z):
  dX P h t (.map id) (.int κ n) true=some (match lookE n l with|some v=>.aQ [v,.bool true]|none=>.aQ [z,.bool false]):=by
 have hg:=s.row I
 simp only[dX,lookupV,hu,J,hz,hg,keyBeq,d_,ah,ud]
 rw[←qd l 0]
 cases idxE n l 0<;>grind
theorem Sat.abv (s:Sat h S)(I:getA S j=some (nf κ id l c))(hu:P.underlying t=some (.map kt et))(J:P.underlying kt=some (.int k))(hz:zeroT P et=some z):
  dX P h t (.map id) (.int κ n) false=some (match lookE n l with|some v=>v|none=>z):=by
 have hg:=s.row I
 simp only[dX,lookupV,hu,J,hz,hg,keyBeq,d_,ah,ud]
 rw[←qd l 0]
 cases idxE n l 0<;>grind
theorem Sat.update (s:Sat h S)(hj:getA S j=some (nf κ id l c))(hu:P.underlying t=some (.map kt et))(hk:P.underlying kt=some (.int k)):
  ∃h',mapUpdateV P h t (.map id) (.int κ n) v=some h'∧Sat h' (setA S j (nf κ id (jU n v c l) (clkE n c l))):=by
 have hg:=s.row hj
 refine⟨h.put id (some (.map ((jU n v c l).map (ja κ)) (clkE n c l))),?_,s.put hj⟩
 simp only[mapUpdateV,hu,hk,hg,keyBeq,d_,ah,ud]
 have I:=qd (n:=n) l 0
 cases J:idxE n l 0 with
 |none =>
  rw[J] at I
  have I:lookE n l=none:=I.symm
  simp only[clkE,I,Xi l I,List.map_append]
  rfl
 |some q =>
  obtain⟨i,u⟩:=q
  rw[J] at I
  have I:lookE n l=some u:=I.symm
  simp only[clkE,I]
  rw[←abu (v:=v) (c:=c) l 0 i u J,l7]
theorem Sat.delete (s:Sat h S)(J:getA S j=some (nf κ id l c))(hu:P.underlying t=some (.map kt et))(hk:P.underlying kt=some (.int k)):
  ∃h',pP P h t (.map id) (.int κ n)=some h'∧Sat h' (setA S j (nf κ id (rI n l) c)):=by
 have hg:=s.row J
 simp only[pP,hu,hk,hg,keyBeq,d_,ah,ud]
 have I:=qd (n:=n) l 0
 cases hq:idxE n l 0 with
 |none =>
  rw[hq] at I
  have I:lookE n l=none:=I.symm
  refine⟨h,rfl,?_⟩
  rw[Tj l I]
  have:∀(S:List aI) (j:Nat) (A:aI),getA S j=some A→setA S j A=S:=by
   intro S
   induction S with
   |nil=>intro j A h;cases h
   |cons B S ih =>
    intro j A h
    cases j<;>grind[getA,setA]
  rw[this S j _ J]
  exact s
 |some q =>
  obtain⟨i,u⟩:=q
  refine⟨_,rfl,?_⟩
  have e:=ZG (κ:=κ) l 0 i u hq
  rw[l7] at e
  rw[e]
  exact s.put J
theorem Sat.acN (s:Sat h S)(I:getA S j=some (nf κ id l c))(hu:P.underlying t=some (.map kt et)): lenV P h t (.map id)=some (.int .i64 (l.length:Int)):=by
 have J:=s.row I
 simp_all[lenV]
end
section
variable {z:Operand} {a b v:V}
theorem OpR.upd (J:∀env,iM env E→evOp C (ev C 0) env h o=(match mapUpdateV C.P h t a b v with|some h'=>some (cq,h')|none=>none))
 (ho:∃h₁,mapUpdateV C.P h t a b v=some h₁∧Sat h₁ S'): OpR C E h o fun _ h₁=>Sat h₁ S':=by
 obtain⟨h₁,e1,I⟩:=ho
 exact⟨cq,h₁,I,fun env he=>⟨0,by grind⟩⟩
theorem OpR.mapUpdate (I:o.op=.mapUpdate t x y z)(J:bj E x=some a)(hy:bj E y=some b)(hz:bj E z=some v)
 (ho:∃h₁,mapUpdateV C.P h t a b v=some h₁∧Sat h₁ S'): OpR C E h o fun _ h₁=>Sat h₁ S':=by
 refine OpR.upd (t:=t) (a:=a) (b:=b) (v:=v) (fun env he => ?_) ho
 simp only[evOp,I,bM he J,bM he hy,bM he hz,sZ]
 cases mapUpdateV C.P h t a b v<;>rfl
theorem OpR.builtin {bi:Builtin}{R:V→H→Prop}(I:o.op=.call cl)(J:cl.callee=.builtin bi)(ha:lookArgs E cl.args.toList=some args)(ho:∃v h₁,builtinV C.P h bi cl.argTypes args=some (v,h₁)∧R v h₁): OpR C E h o R:=by
 grind[OpR.of,opE]
theorem OpR.rJ {m:List Nat}(hP:C.P=Tryz.prog)(s:Sat h (aZ v l::X::S))(hX:cN X (cP u m))(I:o.op=.call cl)(hc:cl.callee=.builtin .append)(J:cl.argTypes = #[23,23])(ha:lookArgs E cl.args.toList=some [v,u])
 (eL:l.length+m.length≤140737488355328): OpR C E h o fun v' h₁=>Sat h₁ (aZ v' (l++m)::X::S):=by
 grind[DP,OpR.builtin,builtinV]
theorem OpR.uF (J:C.P=Tryz.prog)(s:Sat h S)(I:o.op=.makeSlice t x y)(ht:t=23)(hx:bj E x=some (.int .i64 0))(hy:bj E y=some (.int .i64 (c:Int)))(hc:c<1073741824): OpR C E h o fun v' h₁=>Sat h₁ (aZ v' []::S):=by
 grind[Gw,OpR.of,tu]
theorem OpR.nm (J:C.P=Tryz.prog)(s:Sat h S)(I:o.op=.makeSlice t x y)(ht:t=23)(hx:bj E x=some (.int .i64 (c:Int)))(hy:bj E y=some (.int .i64 (c:Int)))(hc:c<1073741824): OpR C E h o fun v' h₁=>Sat h₁ (aZ v' (List.replicate c 0)::S):=by
 grind[P8,OpR.of,tu]
theorem OpR.NS {m:List Nat}{p:Nat}(hP:C.P=Tryz.prog)(s:Sat h (aZ v l::X::S))(hX:cN X (cP u m))(I:o.op=.call cl)(hc:cl.callee=.builtin .copy)(J:cl.argTypes = #[23,23])(ha:lookArgs E cl.args.toList=some [slR v p q,u])
 (hpq:p<q)(hq:q≤l.length)(hm:1≤m.length): OpR C E h o fun _ h₁=>Sat h₁ (aZ v (a_ l p (m.take (q-p)))::X::S):=by
 grind[CI,OpR.builtin,builtinV]
theorem OpR.HR (J:C.P=Tryz.prog)(s:Sat h S)(I:o.op=.buildSlice t 1 ps)(ht:t=23)(hx:lookParts E ps.toList=some [(0,.int .u8 (n:Int))])(hn:n<256): OpR C E h o fun v' h₁=>Sat h₁ (aZ v' [n]::S):=by
 grind[P9,OpR.of,oF]
end
section
def lookL (n:Int): List (Int×α)→Option α
 |[]=>none
 |e::l=>if e.1=n then some e.2 else lookL n l
def b8 (n:Int)(a:α): List (Int×α)→List (Int×α)
 |[]=>[(n,a)]
 |e::l=>if e.1=n then(n,a)::l else e::b8 n a l
def lG (n:Int): List (Int×α)→List (Int×α)
 |[]=>[]
 |e::l=>if e.1=n then l else e::lG n l
theorem fH {n k:Int}{a:α}: ∀l:List (Int×α),lookL k (b8 n a l)=if n=k then some a else lookL k l:=by
 intro l
 induction l<;>grind[b8,lookL]
theorem jV {n:Int}: ∀ {l:List (Int×α)},lookL n l=none↔n∉l.map (·.1):=by
 intro l
 induction l<;>grind[lookL]
theorem GC {n k:Int}: ∀ {l:List (Int×α)},(l.map (·.1)).Nodup→lookL k (lG n l)=if n=k then none else lookL k l:=by
 intro l
 induction l<;>grind[lG,lookL,jV]
theorem pn {n:Int}{a:α}: ∀ {l:List (Int×α)} {k:Int},k∈(b8 n a l).map (·.1)↔k=n∨k∈l.map (·.1):=by
 intro l
 induction l<;>grind[b8]
theorem iN {n:Int}{a:α}: ∀ {l:List (Int×α)},(l.map (·.1)).Nodup→((b8 n a l).map (·.1)).Nodup:=by
 intro l
 induction l<;>grind[b8,pn]
theorem Tk {n:Int}: ∀ {l:List (Int×α)} {k:Int},k∈(lG n l).map (·.1)→k∈l.map (·.1):=by
 intro l
 induction l<;>grind[lG]
theorem xT {n:Int}: ∀ {l:List (Int×α)},(l.map (·.1)).Nodup→((lG n l).map (·.1)).Nodup:=by
 intro l
 induction l<;>grind[lG,Tk]
def fC (f:V→α→aI): cx→List (Int×α)→aI
 |[],[]=>.pu True
 |e::l,x::m=>.an (.an (.pu (e.1=x.1)) (f e.2.1 x.2)) (fC f l m)
 |_,_=>.pu False
variable {f:V→α→aI} {a b:PM}
theorem tA : ∀ {l:cx} {m:List (Int×α)},(fC f l m).p a b→l.map (·.1)=m.map (·.1):=by
 intro l
 induction l with
 |nil=>intro m h;cases m with
  |nil=>rfl
  |cons x m=>exact h.elim
 |cons e l I=>intro m h;cases m with
  |nil=>exact h.elim
  |cons x m=>simp only[fu];rw[h.1.1,I h.2]
theorem tB {n:Int}: ∀ {l:cx} {m:List (Int×α)},(fC f l m).p a b→(lookE n l=none∧lookL n m=none)∨∃u x,lookE n l=some u∧lookL n m=some x∧(f u x).p a b:=by
 intro l
 induction l with
 |nil=>intro m h;cases m with
  |nil=>exact .inl ⟨rfl,rfl⟩
  |cons x m=>exact h.elim
 |cons e l J=>intro m h;cases m with
  |nil=>exact h.elim
  |cons x m =>
   obtain⟨⟨I,h2⟩,h3⟩:=h
   have I:e.1=x.1:=I
   grind[lookE,lookL]
theorem GD {n:Int}{x:α}(hu:(f u x).p a b): ∀ {l:cx} {m:List (Int×α)},(fC f l m).p a b→(fC f (jU n u c l) (b8 n x m)).p a b:=by
 intro l
 induction l with
 |nil=>intro m h;cases m with
  |nil=>exact⟨⟨rfl,hu⟩,aa⟩
  |cons x m=>exact h.elim
 |cons e l ih=>intro m h;cases m with
  |nil=>exact h.elim
  |cons y m =>
   obtain⟨⟨I,h2⟩,J⟩:=h
   have I:e.1=y.1:=I
   simp only[jU,b8,←I]
   by_cases he:e.1=n
   ·rw[aC he,aC he];exact⟨⟨he,hu⟩,J⟩
   ·rw[ak he,ak he];exact⟨⟨I,h2⟩,ih J⟩
theorem Qc {n:Int}: ∀ {l:cx} {m:List (Int×α)},(fC f l m).p a b→(fC f (rI n l) (lG n m)).p a b:=by
 intro l
 induction l with
 |nil=>intro m h;cases m with
  |nil=>trivial
  |cons x m=>exact h.elim
 |cons e l J=>intro m h;cases m with
  |nil=>exact h.elim
  |cons y m =>
   obtain⟨⟨I,h2⟩,h3⟩:=h
   have I:e.1=y.1:=I
   simp only[rI,lG,←I]
   by_cases he:e.1=n
   ·grind
   ·rw[ak he,ak he];exact⟨⟨I,h2⟩,J h3⟩
theorem bg.IJ (I:∀u x,bg (f u x)): ∀(l:cx) (m:List (Int×α)),bg (fC f l m):=by
 intro l
 induction l with
 |nil=>intro m;cases m<;>exact bg.pu _
 |cons e l J=>intro m;cases m with
  |nil=>exact bg.pu _
  |cons x m=>exact bg.an (bg.an (bg.pu _) (I _ _)) (J m)
def fV (c:Nat): Nat→cx→Prop
 |_,[]=>True
 |b,e::l=>b≤e.2.2∧e.2.2<c∧fV c (e.2.2+1) l
theorem NT : ∀ {l:cx} {b I:Nat},I≤b→fV c b l→fV c I l:=by
 intro l
 cases l with
 |nil=>intro b I _ _;trivial
 |cons e l=>intro b I h J;exact⟨cM h J.1,J.2⟩
theorem Af {k:Int}(hn:n=c): ∀ {l:cx} {b:Nat},b≤c→fV c b l→fV (clkE k c l) b (jU k u n l):=by
 subst hn
 intro l
 induction l with
 |nil=>intro b J _;exact⟨J,EY _,aa⟩
 |cons e l ih =>
  intro b J h
  have I:=ih (b:=e.2.2+1) (by have:=h.2.1;omega) h.2.2
  by_cases he:e.1=k
  ·simp only[jU,clkE,lookE,aC he];exact h
  ·simp only[jU,clkE,lookE,ak he]
   refine⟨h.1,?_,I⟩
   have:=h.2.1
   split<;>omega
theorem Qd {k:Int}: ∀ {l:cx} {b:Nat},fV c b l→fV c b (rI k l):=by
 intro l
 induction l with
 |nil=>intro b h;exact h
 |cons e l I =>
  intro b h
  simp only[rI]
  by_cases he:e.1=k
  ·rw[aC he];exact NT (by have:=h.1;omega) h.2.2
  ·rw[ak he];exact⟨h.1,h.2.1,I h.2.2⟩
def jv (κ:IntKind)(f:V→α→aI)(v:V)(m:List (Int×α)): aI :=
 xs fun id:Nat=>xs fun l:cx=>xs fun c:Nat=>star [.pu (v=.map id∧fV c 0 l∧(m.map (·.1)).Nodup),nf κ id l c,fC f l m]
abbrev ng {α:Type}(f:V→α→aI)(v:V)(m:List (Int×α)): aI:=jv .i64 f v m
section
variable {v:V} {k:IntKind} {m:List (Int×α)} {n:Int} {x:α}
theorem eT : Sat h (jv κ f v m::S)↔∃id l c,v=.map id∧fV c 0 l∧(m.map (·.1)).Nodup∧Sat h (nf κ id l c::fC f l m::S):=by
 simp[jv,gK,aM,ej,and_assoc]
theorem jZ : Sat h (ng f v m::S)↔∃id l c,v=.map id∧fV c 0 l∧(m.map (·.1)).Nodup∧Sat h (nH id l c::fC f l m::S):=eT
theorem iE (hf:∀u x,bg (f u x))(s:Sat h (jv κ f v m::S))(hu:P.underlying t=some (.map kt et))(I:P.underlying kt=some (.int k))(J:zeroT P et=some z):
  (lookL n m=none∧dX P h t v (.int κ n) true=some (.aQ [z,.bool false])∧dX P h t v (.int κ n) false=some z) ∨
  ∃u x,lookL n m=some x∧dX P h t v (.int κ n) true=some (.aQ [u,.bool true])∧dX P h t v (.int κ n) false=some u∧Sat h (f u x::jv κ f v m::S):=by
 obtain⟨id,l,c,rfl,hb,hn,s1⟩:=eT.1 s
 have e2:=s1.VX (n:=n) (j:=0) rfl hu I J
 have e1:=s1.abv (n:=n) (j:=0) rfl hu I J
 obtain⟨a,b,q1,q2,q3⟩:=s1.at (k:=1) rfl
 rcases tB (n:=n) q3 with⟨g1,g2⟩|⟨u,x,g1,g2,g3⟩
 ·grind
 ·rw[g1] at e1 e2
  refine .inr ⟨u,x,g2,e2,e1,?_⟩
  have s2:Sat h (fC f l m::nf κ id l c::S):=s1.qu [1]
  have s3:=s2.dup (bg.IJ hf l m)
  have s4:Sat h (f u x::fC f l m::nf κ id l c::S):=s3.iu fun a' b' h'=>by
   grind[tB]
  have s5:Sat h (nf κ id l c::fC f l m::f u x::S):=s4.qu [2,1]
  exact(eT.2 ⟨id,l,c,rfl,hb,hn,s5⟩:Sat h (jv κ f (.map id) m::f u x::S)).qu [1]
theorem lH (I:∀u x,bg (f u x))(s:Sat h (f u x::jv κ f v m::S))(hu:P.underlying t=some (.map kt et))(J:P.underlying kt=some (.int k)):
  ∃h',mapUpdateV P h t v (.int κ n) u=some h'∧Sat h' (jv κ f v (b8 n x m)::S):=by
 have s0:Sat h (jv κ f v m::f u x::S):=s.qu [1]
 obtain⟨id,l,c,rfl,hb,hn,s1⟩:=eT.1 s0
 obtain⟨h',e1,e2⟩:=s1.update (n:=n) (v:=u) (j:=0) rfl hu J
 refine⟨h',e1,?_⟩
 have e3:Sat h' (f u x::fC f l m::nf κ id (jU n u c l) (clkE n c l)::S):=e2.qu [2,1]
 have e4:Sat h' (fC f (jU n u c l) (b8 n x m)::nf κ id (jU n u c l) (clkE n c l)::S):=e3.map fun a b h=>by
  obtain⟨p1,p2,d1,d2,d3,d4,p3,p4,d5,d6,d7,d8,d9⟩:=h
  exact⟨fun _=>none,p4,fun _=>.inl rfl,fun _ _ h=>(by cases h),PM.le_trans d7 d3,GD (I _ _ _ _ d4) (bg.IJ I _ _ _ _ d8),d9⟩
 exact eT.2 ⟨id,_,_,rfl,Af rfl (ew _) hb,iN hn,e4.qu [1]⟩
theorem xU (s:Sat h (jv κ f v m::S))(hu:P.underlying t=some (.map kt et))(I:P.underlying kt=some (.int k)):
  ∃h',pP P h t v (.int κ n)=some h'∧Sat h' (jv κ f v (lG n m)::S):=by
 obtain⟨id,l,c,rfl,J,hn,s1⟩:=eT.1 s
 obtain⟨h',e1,e2⟩:=s1.delete (n:=n) (j:=0) rfl hu I
 refine⟨h',e1,?_⟩
 have e3:Sat h' (fC f l m::nf κ id (rI n l) c::S):=e2.qu [1]
 have e4:Sat h' (fC f (rI n l) (lG n m)::nf κ id (rI n l) c::S):=e3.iu fun a b h=>Qc h
 exact eT.2 ⟨id,_,_,rfl,Qd J,xT hn,e4.qu [1]⟩
theorem CJ (s:Sat h (jv κ f v m::S))(hu:P.underlying t=some (.map kt et)): lenV P h t v=some (.int .i64 (m.length:Int)):=by
 obtain⟨id,l,c,rfl,J,hn,s1⟩:=eT.1 s
 have e:=s1.acN (j:=0) rfl hu
 obtain⟨a,b,q1,q2,I⟩:=s1.at (k:=1) rfl
 have:=iW List.length (tA I)
 grind
theorem CL (s:Sat h (pt id (.map [] 0)::S)): Sat h (jv κ f (.map id) []::S):=by
 have s1:Sat h (fC f [] []::pt id (.map [] 0)::S):=s.fB aa
 exact eT.2 ⟨id,[],0,rfl,aa,by simp,s1.qu [1]⟩
theorem pq (s:Sat h (pt id (.map [] 0)::S)): Sat h (ng f (.map id) []::S):=CL s
theorem IK (s:Sat h S)(I:getA S j=some (jv κ f v m)): ∃id,v=.map id:=by
 have s1:=s.take j I
 grind[eT]
end
end
theorem OpR.delete {u:TypeId}{m k:V}(I:o.op=.call cl)(J:cl.callee=.builtin .delete)(ZH:cl.argTypes = #[t,u])(ha:lookArgs E cl.args.toList=some [m,k])
 (ho:∃h₁,pP C.P h t m k=some h₁∧Sat h₁ S'): OpR C E h o fun _ h₁=>Sat h₁ S':=by
 obtain⟨h₁,e1,e2⟩:=ho
 refine OpR.builtin I J ha ⟨.aQ [],h₁,?_,e2⟩<;>grind[builtinV]
end Go.Proofs.YtiojppeahfoiaaaGreat.Am
