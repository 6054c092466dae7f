/- TreeKept: a part of its proof; conditions: its statement's. -/
import Derived.Test.YtdonpgpfplgigaaGreatL01
import Derived.Scope
import Derived.Test.YtdonpgpfplgigaaGreatProg
import Derived.KernelRfl
import Derived.Shelf.SlIterI.Sorted
import Derived.Defers
import Derived.Recover
set_option linter.defProp false
namespace Go.Proofs.YtdonpgpfplgigaaGreat.Am
open Go
def ak:=@Tryz.underlying29
def CO:=@Tryz.func211
abbrev cy:=Nat→Option (List V→H→Option (V×H))
variable {ps:Array (Nat×Operand)} {ops:Array Oper} {st:Bool} {C:fB} {code:Code} {c₀:Ctx} {env:Env} {Q:Ex→List (Nat×V)→H→Prop} {fn:Func} {h h' σ h₁ dM:H} {κ:IntKind} {E E':List (Nat×V)} {R:List (Nat×V)→H→Prop} {d₀:List Deferred} {hs:List H} {eu es l:List Nat} {L rest:List Oper} {args first cap vs cs ds:List V} {a b i c k id n d off j g sr k' q:Nat} {Hs:Nat→H} {early:Nat→Option (Nat×FV)} {Fl:Nat→Prop} {vv:Nat→V} {o':Obj} {x y:Operand} {P:Program} {φ:Prop} {self:Self} {s':St} {α:Type} {td:TypeDesc} {t t' e kt et:TypeId} {r u z:V} {yy:V→H→Prop} {w₀ w:World}
theorem RV {a b:IntKind}(h:ikBeq a b=true): a=b:=by cases a<;>cases b<;>first|rfl|(simp[ikBeq] at h)
theorem uk {a b:Int}(h:intBeq a b=true): a=b:=by
 cases a<;>cases b<;>simp[intBeq] at h<;>rw[h]
theorem CP : ∀ {a b:List Nat},natsBeq a b=true→a=b
 |[],[],_=>rfl
 |[],_::_,h=>by simp[natsBeq] at h
 |_::_,[],h=>by simp[natsBeq] at h
 |x::a,y::b,h=>by
  simp only[natsBeq] at h
  cases I:Nat.beq x y with
  |false=>grind
  |true=>rw[I,ag] at h;rw[beq_iff.1 I,CP h]
theorem OL {a b:Cap}(h:a.beq b=true): a=b:=by
 cases a<;>cases b<;>simp[Cap.beq] at h
 ·rw[h]
 ·grind
mutual
theorem EM : ∀(a b:V),V.beq a b=true→a=b
 |.bool a,b,h=>by cases b<;>simp[V.beq] at h;rw[h]
 |.int j a,b,h=>by
  cases b<;>simp[V.beq] at h
  rw[RV h.1,uk h.2]
 |.str a,b,h=>by cases b<;>simp[V.beq] at h;rw[CP h]
 |.cU,b,h=>by cases b<;>simp[V.beq] at h;rfl
 |.ptr x y,b,h=>by cases b<;>simp[V.beq] at h;rw[h.1,h.2]
 |.aV,b,h=>by cases b<;>simp[V.beq] at h;rfl
 |.sl x y z u,b,h=>by
  cases b<;>simp[V.beq] at h
  rw[h.1.1.1,h.1.1.2,h.1.2,OL h.2]
 |.kW,b,h=>by cases b<;>simp[V.beq] at h;rfl
 |.map x,b,h=>by cases b<;>simp[V.beq] at h;rw[h]
 |.fn f x y,b,h=>by
  cases f with
  |func k=>cases b with
   |fn g u v=>cases g with
    |func j =>
     simp[V.beq] at h
     rw[h.1.1,tw x u h.1.2,tw y v h.2]
    |_=>simp[V.beq] at h
   |_=>simp[V.beq] at h
  |_=>cases b<;>simp[V.beq] at h
 |.FG,b,h=>by cases b<;>simp[V.beq] at h;rfl
 |.iface t v,b,h=>by
  cases b<;>simp[V.beq] at h
  rw[h.1,EM v _ h.2]
 |.nU,b,h=>by cases b<;>simp[V.beq] at h;rfl
 |.agg l,b,h=>by cases b<;>simp[V.beq] at h;rw[tw l _ h]
 |.aW l,b,h=>by cases b<;>simp[V.beq] at h;rw[tw l _ h]
 |.N_ _,b,h=>by cases b<;>simp[V.beq] at h
 |.sle a,b,h=>by cases b<;>simp[V.beq] at h;rw[h]
 |.s_ k x,b,h=>by
  cases b with
  |s_ j y =>
   simp[V.beq] at h
   rw[h.2]
   cases k<;>cases j<;>first|rfl|(simp[fkBeq] at h)
  |_=>simp[V.beq] at h
theorem tw : ∀(a b:List V),V.beqL a b=true→a=b
 |[],b,h=>by cases b<;>simp[V.beqL] at h;rfl
 |x::a,b,h=>by
  cases b with
  |nil=>simp[V.beqL] at h
  |cons y b =>
   simp only[V.beqL] at h
   cases I:V.beq x y with
   |false=>rw[I] at h;cases h
   |true=>rw[I,ag] at h;rw[EM x y I,tw a b h]
end
theorem EN {m:Nat}: ∀(es:List Nat),(∀idx p,idx<kY m es→es[idx]?=some p→bit m p=true)∧kY m es≤es.length:=by
 intro es
 induction es<;>grind[kY]
theorem RW {m:Nat}: ∀(es:List Nat),pH m es=true→∀(I J p q:Nat),I≤J→es[I]?=some p→es[J]?=some q→bit m q=true→bit m p=true:=by
 intro es
 induction es<;>grind[pH]
theorem KQ : ∀(es:List Nat),nN eu i es≤es.length∧∀p,es[nN eu i es]?=some p→bit ((nth eu p).getD 0) i=true:=by
 intro es
 induction es<;>grind[nN]
section
theorem OM {o:Oper}{x:Env×V}: ∀(l:List H),sameIn C self L o x l=true→wantedV L x.1 o=true→∀h∈l,∃h',evOp C self x.1 h o=some (x.2,h'):=by
 intro l
 induction l with
 |nil=>simp
 |cons y l I =>
  intro hs hw h hm
  simp only[sameIn,hw,ag] at hs
  cases he:evOp C self x.1 y o with
  |none=>grind
  |some r =>
   grind[EM]
theorem FP : ∀(l:List Oper) (tr:List (Env×V)) (k:Nat),stayOk C self L eu es hs l tr k=true →
  ∀j o x,l[j]?=some o→tr[j]?=some x→isEff C o.op=false →
   pH ((nth eu (k+j)).getD 0) es=true∧(kY ((nth eu (k+j)).getD 0) es=nN eu (k+j) es ∨
    sameIn C self L o x ((hs.drop (kY ((nth eu (k+j)).getD 0) es)).take (nN eu (k+j) es+1-kY ((nth eu (k+j)).getD 0) es))=true):=by
 intro l
 induction l with
 |nil=>simp
 |cons y l I =>
  intro tr k h j o x ho J he
  cases tr with
  |nil=>grind
  |cons z tr =>
   simp only[stayOk] at h
   cases j<;>grind[beq_iff]
theorem VE {ops:List Oper}: ∀(l:List Oper) (tr:List (Env×V)),allW ops l tr=true→∀(i:Nat) (o:Oper) (x:Env×V),l[i]?=some o→tr[i]?=some x→isAlloc true o=true→wantedV ops x.1 o=true:=by
 intro l
 induction l with
 |nil=>simp
 |cons y l I =>
  intro tr h i o x ho J ha
  cases tr<;>grind[allW]
theorem GN {o:Oper}(h:isAlloc false o=true): isAlloc true o=true∧o.guard=none:=by
 grind[isAlloc]
theorem RX {s z:St}(hr:nV C self L s=some z):
    ∃Fl st vv Hs,ik C self Fl L s st vv (dV C L 0) Hs∧st L.length=z∧L.all (fun o => !Hg o.op)=true:=by
  unfold nV at hr
  cases ql:trace C self L L s [s.h] with
  |none=>grind
  |some q =>
      obtain⟨tr,hs,z'⟩:=q
      simp only[ql] at hr
      cases J:stayOk C self L (ancs L []) (dV C L 0) hs L tr 0 with
      |false=>grind
      |true =>
        rw[J,ag] at hr
        obtain⟨fl,lq,hW,hr⟩:∃fl,kX C fl L=true∧(∀(i:Nat) (o:Oper) (x:Env×V),L[i]?=some o→tr[i]?=some x→isAlloc fl o=true→isAlloc true o=true∧wantedV L x.1 o=true)∧z'=z:=by
          cases h0:kX C false L with
          |true =>
            rw[h0,ag] at hr
            refine⟨false,h0,fun i o x _ _ ha => ?_,bp hr⟩<;>grind[GN,wantedV]
          |false =>
            grind[VE]
        subst hr
        simp only[kX,bF] at lq
        obtain⟨⟨⟨s1,s2⟩,s3⟩,s4⟩:=lq
        obtain⟨st,t1,t2,t3,t4,t5⟩:=RT L 0 s [s.h] tr hs z' ql
        simp only[ep] at t2 t5
        have AR:∀i o,L[i]?=some o→∀e∈o.after,gx e=true→e.on<i:=fun i o ho e he hb=>by
          have:=HG L 0 s1 i o ho e he hb;omega
        have adv:∀i o,L[i]?=some o→∀j,bit ((nth (ancs L []) i).getD 0) j=true→j<i:=fun i o ho j hj =>
          (HF AR (fun _=>True) i o ho (fun _ _ _ _ _ _ _ _=>trivial) (fun _ _ _=>trivial) j hj).2
        have I:=(yu (C:=C) L 0).1
        have yw:∀p,p∈dV C L 0↔∃o,L[p]?=some o∧isEff C o.op=true:=fun p=>by
          grind[OE]
        have hHs:∀k p,(dV C L 0)[k]?=some p→hs[k+1]?=some (st (p+1)).h:=fun k p hp=>by
          grind
        have hH0:hs[0]?=some s.h:=by grind
        have adl:hs.length=(dV C L 0).length+1:=by grind
        have uc:∀i o,L[i]?=some o→∃h,(st i).put o.dst (((tr[i]?).map (·.2)).getD ct) h=some (st (i+1)) ∧
            (wantedV L (st i).env o=true→evOp C self (st i).env (st i).h o=some (((tr[i]?).map (·.2)).getD ct,h))∧(wantedV L (st i).env o=false→((tr[i]?).map (·.2)).getD ct=ct∧h=(st i).h):=fun i o ho=>by
          grind
        -- all but 'same'; it is wanted for 'heapAt'
        have adw:(∀i o,L[i]?=some o→isEff C o.op=false→∀k,k≤(dV C L 0).length→(∀idx p,idx<k→(dV C L 0)[idx]?=some p→bit ((nth (ancs L []) p).getD 0) i=false) →
              (∀idx p,k≤idx→(dV C L 0)[idx]?=some p→bit ((nth (ancs L []) i).getD 0) p=false) →
              wantedV L (st i).env o=true→∃h',evOp C self (st i).env ((hs[k]?).getD s.h) o=some (((tr[i]?).map (·.2)).getD ct,h')) →
            ik C self (fun i=>∃o,L[i]?=some o∧isAlloc fl o=true) L s st (fun i=>((tr[i]?).map (·.2)).getD ct) (dV C L 0) (fun k=>(hs[k]?).getD s.h):=fun Mk =>
          { back:=AR
            Mv:=fun j o ho i x hi hx=>by
              have:=Mt L 0 s2 j o ho i x (by omega) hx
              grind
            AP:=fun i o ho ⟨o',FM,ha⟩=>by
              grind
            OG:=fun i o ho ⟨o',FM,ha⟩ j u hu cV=>by
              rw[ho] at FM
              obtain rfl:=bp FM
              rcases JY L 0 s3 i o ho ha j u hu (by omega) with h|h<;>grind[OF]
            ri:=yw
            sorted:=I
            start:=t1
            step:=uc
            Mw:=by grind
            CL:=fun k p hp=>by grind
            gap:=fun i o ho he=>by
              obtain⟨v,h,e1,_⟩:=t5 i o ho
              have:=(FP L tr 0 J i o _ ho e1 he).1
              grind[RW]
            same:=Mk }
        refine⟨_,st,_,_,adw ?_,t2,s4⟩
        intro i o ho he k hk h1 h2 hw
        obtain⟨v,h,e1,e2,e3,e4⟩:=t5 i o ho
        obtain⟨g1,g2⟩:=FP L tr 0 J i o _ ho e1 he
        simp only[ep] at g1 g2
        have abv:kY ((nth (ancs L []) i).getD 0) (dV C L 0)≤k:=oK fun cV=>by
          obtain⟨p,hp⟩:∃p,(dV C L 0)[k]?=some p:=⟨_,aG (by have:=(EN (m:=(nth (ancs L []) i).getD 0) (dV C L 0)).2;omega)⟩<;>grind[EN]
        have adx:k≤nN (ancs L []) i (dV C L 0):=oK fun cV=>by
          grind[KQ]
        have Hy:((tr[i]?).map (·.2)).getD ct=v:=by grind
        rw[Hy]
        rcases g2 with g2|g2
        · -- its place is known
          have FH:(st i).h=(hs[k]?).getD s.h:=by
            have lR:k=nN (ancs L []) i (dV C L 0):=by omega
            have cV:∀idx p,idx<k→(dV C L 0)[idx]?=some p→p<i:=fun idx p cV hp=>by
              grind[EN]
            have CQ:∀idx p,k≤idx→(dV C L 0)[idx]?=some p→i≤p:=fun idx p hle hp=>by
              obtain⟨q,hq⟩:∃q,(dV C L 0)[k]?=some q:=⟨_,aG (by grind)⟩
              have hb:=(KQ (eu:=ancs L []) (i:=i) (dV C L 0)).2 q (by grind)
              obtain⟨x,hx,_⟩:=(yw q).1 (aR hq)<;>grind[List.pairwise_iff_getElem]
            exact CM (Hs:=fun k=>(hs[k]?).getD s.h) uc (fun p=>yw p) I t1 (by grind) (fun k p hp=>by grind) i k (by grind) hk cV CQ
          rw[←FH]
          exact⟨h,e3 hw⟩
        · have hm:(hs[k]?).getD s.h∈(hs.drop (kY ((nth (ancs L []) i).getD 0) (dV C L 0))).take (nN (ancs L []) i (dV C L 0)+1-kY ((nth (ancs L []) i).getD 0) (dV C L 0)):=by
            have abw:k<hs.length:=by omega
            refine aR (i:=k-kY ((nth (ancs L []) i).getD 0) (dV C L 0)) ?_
            rw[gh,aH (by omega),eA,Nat.add_sub_cancel' abv,aG abw]
            simp
          exact OM _ g2 hw _ hm
theorem VF {S:Nat→Prop}(hb:∀i o,L[i]?=some o→∀e∈o.after,gx e=true→e.on<i)(I:∀i o,¬ lF L S i o): ∀i,i<L.length→S i:=by
 intro i
 induction i using Nat.strongRecOn with
 |_ i ih =>
  intro hi
  refine Eb fun J => ?_
  refine I i L[i] ⟨aG hi,J,fun e he ON => ?_⟩<;>grind
theorem gS.done {s:St}{st:Nat→St}{c:Ctx}{S:Nat→Prop}{a:Act}
 (D:ik C self Fl L s st vv es Hs)(I:gS C self Fl L s st vv es Hs c₀ w₀ d₀ S early k c a w)(kZ:∀p,es[k]?=some p→¬ S p)(nP:∀i,i<L.length→S i):
  Rel c (st L.length).h w∧eF c (st L.length).env (st L.length).aB a:=by
 have cV:∀p∈es,p<L.length:=fun p J=>by
  obtain⟨o,ho,_⟩:=(D.ri p).1 J<;>grind
 have ac_:∀p,early p=none:=fun p=>by
  cases h:early p with
  |none=>rfl
  |some b =>
   obtain⟨_,idx,h1,h2⟩:=I.sQ p b h<;>grind
 refine⟨?_,?_⟩
 ·rw[D.HH L.length k (aM _) I.KM (fun idx p _ J=>cV p (aR J)) (fun idx p hle J=>by grind)]
  exact I.rel
 ·have hv:∀t,a.tmps.getD t undef=conc c ((st L.length).env.v t)∧wf c ((st L.length).env.v t):=fun t=>by
   rcases I.tmp t with⟨i,o,g1,g2,g3,g4,g5⟩|⟨g1,g2,g3⟩
   ·have:(st L.length).env.v t=vv i:=by
     rcases D.GW t L.length (aM _) with⟨j,oj,h1,h2,h3,h4,h5⟩|⟨h1,_⟩<;>grind
    rcases g5 with⟨b,e1,_⟩|⟨_,e2,e3⟩
    ·grind
    ·grind
   ·have:(st L.length).env.v t=s.env.v t:=by
     rcases D.GW t L.length (aM _) with⟨j,oj,h1,h2,h3,h4,h5⟩|⟨_,h⟩<;>grind
    rw[this];exact⟨g2,g3⟩
  exact⟨by rw[I.size,D.aB L.length (aM _)],fun t=>(hv t).1,fun t=>(hv t).2⟩
theorem gS.congr {s:St}{st:Nat→St}{c:Ctx}{S S':Nat→Prop}{a:Act}
 (I:gS C self Fl L s st vv es Hs c₀ w₀ d₀ S early k c a w)(h:∀j,S j↔S' j): gS C self Fl L s st vv es Hs c₀ w₀ d₀ S' early k c a w:=by
 have:S=S':=funext fun j=>propext (h j)
 rw[←this];exact I
theorem RY (hS:jy C.P self)(hT:gP C){r:Option Nat}(hL:ops.toList=L){Q:Exit→Act→World→Prop}{s:St}{st:Nat→St}(D:ik C self Fl L s st vv es Hs)
 (hQ:∀c a w,Rel c (st L.length).h w→eF c (st L.length).env (st L.length).aB a→cI c₀ w₀ c w→a.defers=d₀→Q .normal a w):
  ∀(fuel:Nat) (J:Array Bool) (early:Nat→Option (Nat×FV)) (k:Nat) (c:Ctx) (a:Act) (w:World),J.size=L.length→J.count false≤fuel →
   gS C self Fl L s st vv es Hs c₀ w₀ d₀ (fun j=>J.getD j false=true) early k c a w→wpAnyIn (Fr r) 0 C.P .any ops Q fuel J a w:=by
 intro fuel
 induction fuel with
 |zero =>
  intro J early k c a w fM BU I
  have nP:∀i,i<L.length→J.getD i false=true:=fun i hi=>by
   have h0:J.count false=0:=by omega
   have:false∉J:=Array.count_eq_zero.1 h0
   rw[vj,Al (by omega)]
   grind
  obtain⟨m9,k',c',I',kZ⟩:=gS.FO D (es.length-k) k early c rfl I
  obtain⟨r1,r2⟩:=I'.done D kZ nP
  refine⟨?_,hQ c' a w r1 r2 I'.KN I'.defers⟩
  refine List.eq_nil_iff_forall_not_mem.2 fun j hj => ?_
  obtain⟨h1,o,h2,_⟩:=mem_ready.1 hj
  have cV:j<L.length:=by grind
  have h3:=nP j cV
  rw[vj,Al (by omega)] at h1 h3
  simp at h1 h3
  rw[h1] at h3;cases h3
 |succ fuel ih =>
  intro J early k c a w fM BU I
  obtain⟨m9,k',c',I',kZ⟩:=gS.FO D (es.length-k) k early c rfl I
  have XJ:∀j,j∈Region.ready .any ops J↔∃o,lF L (fun j=>J.getD j false=true) j o:=fun j=>by
   rw[mem_ready]
   constructor
   ·rintro⟨h1,o,h2,h3⟩
    refine⟨o,by grind,fun h4 => ?_,fun e he hb=>h3 e he ?_⟩
    ·grind
    ·rw[←hb];cases e;rename_i on g;cases g<;>rfl
   ·rintro⟨o,R⟩
    have h2:=R.at_
    rw[←hL,lH] at h2
    refine⟨?_,o,h2,fun e he hb=>R.Mz e he ?_⟩
    ·have cV:j<J.size:=by grind
     have h4:=R.not
     grind
    ·rw[←hb];cases e;rename_i on g;cases g<;>rfl
  refine⟨fun yt => ?_,fun i hi => ?_⟩
  ·have nP:=VF (S:=fun j=>J.getD j false=true) D.back (fun i o R=>by
    grind)
   obtain⟨r1,r2⟩:=I'.done D kZ nP
   exact hQ c' a w r1 r2 I'.KN I'.defers
  ·obtain⟨o,R⟩:=(XJ i).1 hi
   have cV:i<J.size:=by rw[fM];exact(List.getElem?_eq_some_iff.1 R.at_).1
   have ada:J[i]=false:=by
    have:=R.not
    rw[vj,Al cV] at this
    simpa using this
   refine I'.XH hS hT hL D kZ R ?_
   intro VG k'' HB HC HD I''
   refine ih (J.setIfInBounds i true) VG k'' HB HC HD (by grind) ?_ (I''.congr fun j => ?_)
   ·grind
   ·by_cases tC:j=i
    ·subst tC
     simp[vj,cV]
    simp_all[lN]
theorem OO (hS:jy C.P self)(hT:gP C)(hm:C.P.follows .mixedOrders=true){r:Option Nat}{s:St}(hr:nV C self ops.toList s=some s'){Q:Exit→Act→World→Prop}{c:Ctx}{a:Act}(h:Rel c s.h w)(he:eF c s.env s.aB a)
 (hQ:∀c' J w',Rel c' s'.h w'→eF c' s'.env s'.aB J→cI c w c' w'→J.defers=a.defers→Q .normal J w'):
  (Code.region id ops true).wpIn (Fr r) 0 C.P Q a w:=by
 obtain⟨Fl,st,vv,Hs,D,hz,_⟩:=RX hr
 refine wpIn_region_any hm ?_
 have abx:cI c w c { w with drawn:=w.drawn+1 }:=cI.drew c w
 have rN:Rel c s.h { w with drawn:=w.drawn+1 }:=h.drew
 refine RY hS hT rfl D (c₀:=c) (w₀:=w) (d₀:=a.defers) (fun c' J w' r1 r2 r3 r4=>hQ c' J w' (by grind) (by grind) r3 r4)
  ops.size (Array.replicate ops.size false) (fun _=>none) 0 c a _ (by simp) (by simp) ?_
 have I:∀j,¬ (Array.replicate ops.size false).getD j false=true:=fun j=>by
  rw[vj,Array.getElem?_replicate];split<;>simp
 refine⟨fun i o hi=>absurd hi (I i),fun idx p h=>by omega,eN _,fun idx p _ _ hp=>absurd hp (I p),(fun p b h=>by cases h),(by rw[D.Mw];exact rN),he.size,
  fun t=>.inr ⟨fun j o hj=>absurd hj (I j),he.val t,he.Cu t⟩,(fun p b h=>by cases h),(fun p q b b' h=>by cases h),abx,rfl⟩
end
end Go.Proofs.YtdonpgpfplgigaaGreat.Am
namespace Go.Proofs.YtdonpgpfplgigaaGreat.Am
open Go
variable {ps:Array (Nat×Operand)} {ops:Array Oper} {st:Bool} {C:fB} {code:Code} {c₀:Ctx} {env:Env} {Q:Ex→List (Nat×V)→H→Prop} {fn:Func} {h h' σ h₁ dM:H} {κ:IntKind} {E E':List (Nat×V)} {R:List (Nat×V)→H→Prop} {d₀:List Deferred} {hs:List H} {eu es l:List Nat} {L rest:List Oper} {args first cap vs cs ds:List V} {a b i c k id n d off j g sr k' q:Nat} {Hs:Nat→H} {early:Nat→Option (Nat×FV)} {Fl:Nat→Prop} {vv:Nat→V} {o':Obj} {x y:Operand} {P:Program} {φ:Prop} {self:Self} {s':St} {α:Type} {td:TypeDesc} {t t' e kt et:TypeId} {r u z:V} {yy:V→H→Prop} {w₀ w:World}
section
variable {b:Frame} {a:Act} {k:List Item} {cs:List Frame}
theorem nY {c:Code}: step P (lone (b.atR a (.code (.scope c)::k)) cs w)=.next (lone (b.atR a (.code c::.inScope c::k)) cs w) :=
 by rfl
theorem GO {c:Code}: step P (lone (b.atR a (.inScope c::k)) cs w)=.next (lone (b.atR a k) cs w) :=
 by rfl
end
theorem MA {r:Option Nat}{c:Code}{Q:Exit→Act→World→Prop}{a:Act}(h:c.wpIn (Fr r) 0 P (Exit.noGoto Q) a w): (Code.scope c).wpIn (Fr r) 0 P Q a w:=by
 intro b k cs XK hb hr
 obtain⟨e,J,yq,hq,I⟩:=h b (.inScope c::k) cs XK hb hr
 cases e with
 |normal=>exact⟨.normal,J,yq,hq,.of_steps (.one (fenced_calm hb hr rfl) nY) (StepsIn.trans I (.one (fenced_calm hb hr rfl) GO))⟩
 |exit id=>exact⟨.exit id,J,yq,hq,.of_steps (.one (fenced_calm hb hr rfl) nY) ⟨fun k' hk=>I.1 k' (by simpa[exitTo] using hk),fun hr hk=>I.2 hr (by simpa[exitTo] using hk)⟩⟩
 |goto l=>exact hq.elim
 |ret=>exact⟨_,J,yq,hq,.of_steps (.one (fenced_calm hb hr rfl) nY) I⟩
 |panic ch=>exact⟨_,J,yq,hq,.of_steps (.one (fenced_calm hb hr rfl) nY) I⟩
 |outgrown=>exact⟨_,J,yq,hq,.of_steps (.one (fenced_calm hb hr rfl) nY) I⟩
def CR (P:Program)(self:Self)(m:Nat): Prop:=∀(b:Code) (s:St) (ex:Ex) (s':St),self (.loop b) s=some (ex,s') →
 ∀(r:Option Nat) (c:Ctx) (a:Act) (w:World) (Q:Exit→Act→World→Prop),Rel c s.h w→eF c s.env s.aB a →
  (∀e I w',(e=exOf ex∧I.defers=a.defers∧∃c',Rel c' s'.h w'∧eF c' s'.env s'.aB I∧cI c w c' w')→Q e I w')→Code.roundsIn (Fr r) 0 P b Q m a w
section
theorem BB {m:Nat}(hS:jy C.P self)(hL:CR C.P self m): CR C.P (evStep C self) (m+1):=by
 intro b s ex s' hr r c a w Q h he hQ
 unfold evStep at hr
 simp only at hr
 cases hb:self b s with
 |none=>grind
 |some q =>
  obtain⟨I,J⟩:=q
  rw[hb] at hr
  refine wpIn_mono (hS b s I J hb r c a w h he) ?_
  rintro e Hz yq ⟨rfl,q2,c₁,q3,q4,q5⟩
  cases I with
  |normal =>
   refine hL b J ex s' hr r c₁ Hz yq Q q3 q4 ?_
   rintro ac6 aaa aab ⟨p1,p2,c₂,p3,p4,p5⟩
   exact hQ _ _ _ ⟨p1,by grind,c₂,p3,p4,q5.trans p5⟩
  |exit i =>
   obtain⟨rfl,rfl⟩:=hr
   exact hQ _ _ _ ⟨rfl,q2,c₁,q3,q4,q5⟩
  |ret =>
   obtain⟨rfl,rfl⟩:=hr
   exact hQ _ _ _ ⟨rfl,q2,c₁,q3,q4,q5⟩
theorem OP {m:Nat}(hm:C.P.follows .mixedOrders=true)(hT:gP C)(hS:jy C.P self)(hL:CR C.P self m): jy C.P (evStep C self):=by
 intro code s ex s' I r c a w h he
 have same:∀ {ex:Ex} {s':St},(Ex.normal,s)=(ex,s')→exOf ex=.normal∧s'=s:=fun e=>by cases e;exact⟨rfl,rfl⟩
 cases code with
 |skip =>
  simp only[evStep,aD,bG] at I
  obtain⟨rfl,rfl⟩:=I
  exact wpIn_skip ⟨rfl,rfl,c,h,he,cI.refl c w⟩
 |label l =>
  simp only[evStep,aD,bG] at I
  obtain⟨rfl,rfl⟩:=I
  exact wpIn_label ⟨rfl,rfl,c,h,he,cI.refl c w⟩
 |region id ops draw =>
  unfold evStep at I
  simp only at I
  cases draw with
  |true =>
   rw[ag] at I
   cases hd:nV C self ops.toList s with
   |none=>simp[hd] at I
   |some J =>
    simp only[hd,aD,bG] at I
    obtain⟨rfl,rfl⟩:=I
    exact OO hS hT hm hd h he fun c' a' w' r1 r2 r3 r4=>⟨rfl,r4,c',r1,r2,r3⟩
  |false =>
   rw[aS] at I
   cases hd:evOps C self ops.toList ops.toList s with
   |none=>simp[hd] at I
   |some J =>
    simp only[hd,aD,bG] at I
    obtain⟨rfl,rfl⟩:=I
    refine wpIn_region ?_
    rw[List.range_eq_range',←Eh]
    exact RQ hS hT ops.toList 0 s J c a w (fun j=>by rw[ep,lH]) hd h he fun c' a' w' r1 r2 r3 r4=>⟨rfl,r4,c',r1,r2,r3⟩
 |seq x y =>
  unfold evStep at I
  simp only at I
  cases hx:self x s with
  |none=>rw[hx] at I;simp at I
  |some r =>
   obtain⟨FQ,J⟩:=r
   rw[hx] at I
   refine wpIn_seq (wpIn_mono (hS x s FQ J hx r c a w h he) ?_)
   rintro e Hz yq ⟨rfl,q2,c₁,q3,q4,q5⟩
   cases FQ with
   |normal =>
    simp only at I
    refine wpIn_mono (hS y J ex s' I r c₁ Hz yq q3 q4) ?_
    rintro e aaa aab ⟨rfl,p2,c₂,p3,p4,p5⟩
    exact⟨rfl,by rw[p2,q2],c₂,p3,p4,q5.trans p5⟩
   |exit i =>
    simp only[aD,bG] at I
    obtain⟨rfl,rfl⟩:=I
    exact⟨rfl,q2,c₁,q3,q4,q5⟩
   |ret =>
    simp only[aD,bG] at I
    obtain⟨rfl,rfl⟩:=I
    exact⟨rfl,q2,c₁,q3,q4,q5⟩
 |cond x y z =>
  unfold evStep at I
  simp only at I
  split at I
  ·rename_i t hx
   obtain⟨e1,_⟩:=Cx he hx
   refine wpIn_cond (t:=t) (by rw[e1];rfl) ?_
   have:=hS (cond t y z) s ex s' I r c a w h he
   cases t<;>simpa using this
  ·cases I
 |block id b =>
  unfold evStep at I
  simp only at I
  cases hb:self b s with
  |none=>rw[hb] at I;simp at I
  |some r =>
   obtain⟨FQ,J⟩:=r
   rw[hb] at I
   refine wpIn_block (wpIn_mono (hS b s FQ J hb r c a w h he) ?_)
   rintro e Hz yq ⟨rfl,q2,c₁,q3,q4,q5⟩
   cases FQ with
   |normal =>
    simp only[aD,bG] at I
    obtain⟨rfl,rfl⟩:=I
    simp only[exOf,Exit.inBlock]
    exact⟨aa,q2,c₁,q3,q4,q5⟩
   |exit i =>
    simp only at I
    by_cases hi:i=id
    ·rw[qy hi,ag] at I
     simp only[aD,bG] at I
     obtain⟨rfl,rfl⟩:=I
     simp only[exOf,Exit.inBlock,hi,cT]
     exact⟨aa,q2,c₁,q3,q4,q5⟩
    ·rw[eD hi,aS] at I
     simp only[aD,bG] at I
     obtain⟨rfl,rfl⟩:=I
     simp only[exOf,Exit.inBlock,hi,fF]
     exact⟨aa,q2,c₁,q3,q4,q5⟩
   |ret =>
    simp only[aD,bG] at I
    obtain⟨rfl,rfl⟩:=I
    simp only[exOf,Exit.inBlock]
    exact⟨aa,q2,c₁,q3,q4,q5⟩
 |loop b =>
  exact wpIn_loop_rounds (m+1) (BB hS hL b s ex s' I r c a w _ h he (fun _ _ _ hq=>hq))
 |exit id =>
  simp only[evStep,aD,bG] at I
  obtain⟨rfl,rfl⟩:=I
  exact wpIn_exit ⟨rfl,rfl,c,h,he,cI.refl c w⟩
 |scope b =>
  unfold evStep at I
  simp only at I
  refine MA (wpIn_mono (hS b s ex s' I r c a w h he) ?_)
  rintro e Hz yq ⟨rfl,q2,c₁,q3,q4,q5⟩
  cases ex<;>exact⟨rfl,q2,c₁,q3,q4,q5⟩
 |ret =>
  simp only[evStep,aD,bG] at I
  obtain⟨rfl,rfl⟩:=I
  exact wpIn_ret ⟨rfl,rfl,c,h,he,cI.refl c w⟩
 |_=>simp[evStep] at I
theorem OQ (hm:C.P.follows .mixedOrders=true)(J:gP C): ∀n,jy C.P (ev C n)∧CR C.P (ev C n) n:=by
 intro n
 induction n with
 |zero=>exact⟨fun _ _ _ _ h=>by simp[ev] at h,fun _ _ _ _ h=>by simp[ev] at h⟩
 |succ n I=>exact⟨OP hm J I.1 I.2,BB I.1 I.2⟩
theorem AS (hm:C.P.follows .mixedOrders=true)(I:gP C)(n:Nat): Hw C.P (ev C n)∧True:=⟨(OQ hm I n).1.wide,aa⟩
theorem HL (hm:C.P.follows .mixedOrders=true)(J:gP C){f:FuncId}{v:V}(hr:run C n f args h=some (v,h')){c:Ctx}
 (I:Rel c h w)(hw:∀x∈args,wf c x): jm C.P f args c w v h' :=
 (callF_ok (AS hm J n).1 J hr I hw).1
theorem Rel.empty (w:World): Rel ⟨fun _=>(0,0),fun _=>0,0,fun _=>false⟩ ⟨0,.lf⟩ w :=
 ⟨rfl,fun id o h=>by simp[T.tc] at h,fun id h=>absurd h (vB _),fun id h=>absurd h (vB _),fun i j o o' h=>by simp[T.tc] at h,fun id o h=>by simp[T.tc] at h,fun id cs st h=>by simp,fun id o h=>by simp⟩
end
def leftC : Code→Code
 |.seq a _=>a
 |c=>c
def dx : Code→Code
 |.seq _ b=>b
 |c=>c
def mz (f g:Self): Prop:=∀c s r,f c s=some r→g c s=some r
section
variable {f g:Self}
theorem pM (h : mz f g) {r : V × H} (I : callF C f k args σ = some r) : callF C g k args σ = some r := by
 unfold callF at I ⊢
 cases J : C.told k with
 | some t => grind
 | none =>
  simp only [J] at I ⊢
  cases hf : C.P.funcs[k]? with
  | none => grind
  | some fn =>
   simp only [hf] at I ⊢
   cases hb : fn.body with
   | none => grind
   | some c =>
    simp only [hb] at I ⊢
    cases hq : (fn.name == "runtime.NumGoroutine" || Nat.blt fn.ntmps args.length) with
    | true => grind
    | false =>
     simp only [hq, aS] at I ⊢
     cases hs : f c ⟨bindArgs args 0 .lf, fn.ntmps, σ⟩ with
     | none => grind
     | some q => rw [h _ _ _ hs]; rw [hs] at I; exact I
theorem JZ (h:mz f g){r:V×H}(J:roundV f id args σ=some r): roundV g id args σ=some r:=by
 unfold roundV at J ⊢
 cases ho:σ.tr.get id with
 |none=>grind
 |some o =>
  simp only[ho] at J ⊢
  cases o with
  |loop busy aB env ps eu bd =>
   cases busy with
   |true=>cases J
   |false =>
    cases he:bindPs aB ps args env with
    |none=>grind
    |some e =>
     simp only[he] at J ⊢
     cases h1:f eu ⟨e,aB,σ⟩ with
     |none=>grind
     |some q =>
      rw[h eu _ _ h1]
      simp only[h1] at J
      split at J
      ·rename_i abo hq
       split at J
       ·split at J
        ·rename_i Xt I
         rw[h bd _ _ I]
         exact J
        ·rename_i Xt I
         rw[h bd _ _ I]
         exact J
        ·grind
       ·cases J
      ·cases J
  |_=>cases J
theorem l8 (h:mz f g){o:Oper}{r:V×H}(I:evOp C f env σ o=some r): evOp C g env σ o=some r:=by
 unfold evOp at I ⊢
 cases J:o.op<;>simp only[J] at I ⊢<;>try exact I
 rename_i cl
 unfold evCall at I ⊢
 cases ha:evArgs env cl.args.toList with
 |none=>grind
 |some args =>
  cases hc:cl.callee with
  |builtin b=>grind
  |value x =>
   cases hx:evO env x with
   |none=>grind
   |some fv =>
    unfold callV at I ⊢
    grind[pM,JZ]
  |invoke x m =>
   grind[pM]
theorem pN (h:mz f g): ∀(l:List Oper) (s s':St),evOps C f L l s=some s'→evOps C g L l s=some s':=by
 intro l
 induction l with
 |nil=>intro s s' I;exact I
 |cons o l J =>
  intro s s' I
  simp only[evOps] at I ⊢
  cases hw:wantedV L s.env o with
  |true =>
   cases ho:evOp C f s.env s.h o with
   |none=>grind
   |some q =>
    grind[l8]
  |false =>
   grind
theorem wN (h:mz f g): ∀(l:List Oper) (s:St) (hs:List H) (r:List (Env×V)×List H×St),trace C f L l s hs=some r→trace C g L l s hs=some r:=by
 intro l
 induction l with
 |nil=>intro s hs r I;exact I
 |cons o l J =>
  intro s hs r I
  simp only[trace] at I ⊢
  have key:∀q,cond (wantedV L s.env o) (evOp C f s.env s.h o) (some (ct,s.h))=some q→cond (wantedV L s.env o) (evOp C g s.env s.h o) (some (ct,s.h))=some q:=by
   grind[l8]
  cases hc:cond (wantedV L s.env o) (evOp C f s.env s.h o) (some (ct,s.h)) with
  |none=>grind
  |some q =>
   grind
theorem J0 (h:mz f g){o:Oper}{x:Env×V}: ∀(l:List H),sameIn C f L o x l=true→sameIn C g L o x l=true:=by
 intro l
 induction l with
 |nil=>intro I;exact I
 |cons y l J =>
  intro I
  simp only[sameIn] at I ⊢
  cases hw:wantedV L x.1 o with
  |false=>simp
  |true =>
   cases ho:evOp C f x.1 y o with
   |none=>grind
   |some q =>
    grind[l8]
theorem J1 (h:mz f g): ∀(l:List Oper) (tr:List (Env×V)) (i:Nat),stayOk C f L eu es hs l tr i=true→stayOk C g L eu es hs l tr i=true:=by
 intro l
 induction l with
 |nil=>intro tr i I;cases tr<;>exact I
 |cons o l J =>
  intro tr i I
  cases tr<;>grind[stayOk,J0]
theorem J2 (h:mz f g){s:St}(I:nV C f L s=some s'): nV C g L s=some s':=by
 grind[nV,wN,J1]
theorem J3 (h:mz f g): mz (evStep C f) (evStep C g):=by
 intro c s r I
 cases c with
 |region id ops draw =>
  grind[evStep,J2,pN]
 |seq a b =>
  simp only[evStep] at I ⊢
  cases J:f a s with
  |none=>grind
  |some q =>
   obtain⟨ex,s1⟩:=q
   rw[h _ _ _ J]
   rw[J] at I
   cases ex with
   |normal=>exact h _ _ _ I
   |exit i=>exact I
   |ret=>exact I
 |cond x a b =>
  simp only[evStep] at I ⊢
  split at I
  ·exact h _ _ _ I
  ·cases I
 |block id b =>
  simp only[evStep] at I ⊢
  cases J:f b s with
  |none=>grind
  |some q=>rw[h _ _ _ J];rw[J] at I;exact I
 |loop b =>
  simp only[evStep] at I ⊢
  cases J:f b s with
  |none=>grind
  |some q =>
   obtain⟨ex,s1⟩:=q
   rw[h _ _ _ J]
   rw[J] at I
   cases ex with
   |normal=>exact h _ _ _ I
   |exit i=>exact I
   |ret=>exact I
 |scope b=>exact h _ _ _ I
 |_=>exact I
theorem MB : ∀n,mz (ev C n) (ev C (n+1)):=by
 intro n
 induction n with
 |zero=>intro c s r I;cases I
 |succ n J=>exact J3 J
theorem gH {m:Nat}(hle:n≤m): mz (ev C n) (ev C m):=by
 induction hle with
 |refl=>intro c s r I;exact I
 |step _ J=>intro c s r I;exact MB _ c s r (J c s r I)
end
def look : List (Nat×V)→Nat→Option V
 |[],_=>none
 |x::E,k=>cond (Nat.beq x.1 k) (some x.2) (look E k)
def j5 (env:Env)(E:List (Nat×V)): Prop:=∀t v,look E t=some v→T.get env t=some v
theorem j5.set (h:j5 env E)(d:Nat)(v:V): j5 (env.set d (some v)) ((d,v)::E):=by
 intro t u I
 simp only[look] at I
 rw[a_]
 by_cases J:d=t
 ·simp_all
 ·rw[eD J,aS] at I
  rw[ax (fun e=>J e.symm)]
  exact h t u I
theorem j5.sub (h:j5 env E)(hs:∀t v,look E' t=some v→look E t=some v): j5 env E':=fun t v I=>h t v (hs t v I)
def bq (E:List (Nat×V)): Operand→Option V
 |.tmp t=>look E t
 |.const c=>ofValue c
 |.global _=>none
 |.func f=>some (.fn (.func f) [] [])
theorem b6 (h:j5 env E){v:V}(I:bq E x=some v): evO env x=some v:=by
 cases x with
 |tmp t=>simp only[evO,Env.v,h t v I]
 |const c=>exact I
 |global g=>cases I
 |func f=>exact I
def lookArgs (E:List (Nat×V)): List Operand→Option (List V)
 |[]=>some []
 |x::l=>match bq E x with
  |none=>none
  |some v=>match lookArgs E l with
   |none=>none
   |some m=>some (v::m)
theorem mM (h:j5 env E): ∀ {l:List Operand} {m:List V},lookArgs E l=some m→evArgs env l=some m:=by
 intro l
 induction l<;>grind[lookArgs,evArgs,b6]
def lookParts (E:List (Nat×V)): List (Nat×Operand)→Option (List (Nat×V))
 |[]=>some []
 |x::l=>match bq E x.2 with
  |none=>none
  |some v=>match lookParts E l with
   |none=>none
   |some m=>some ((x.1,v)::m)
theorem yz (h:j5 env E): ∀ {l:List (Nat×Operand)} {m:List (Nat×V)},lookParts E l=some m→evParts env l=some m:=by
 intro l
 induction l<;>grind[lookParts,evParts,b6]
def lookOpt (E:List (Nat×V)): Option Operand→Option (Option V)
 |none=>some none
 |some x=>match bq E x with
  |some v=>some (some v)
  |none=>none
theorem wO (h:j5 env E){x:Option Operand}{v:Option V}(I:lookOpt E x=some v): optV env x=some v:=by
 cases x<;>grind[lookOpt,optV,b6]
section
variable (P:Program)
def jL (E:List (Nat×V))(x:Operand)(g:V→Option (V×H)): Option (V×H):=match bq E x with
 |some v=>g v
 |none=>none
def um (E:List (Nat×V))(x y:Operand)(g:V→V→Option (V×H)): Option (V×H):=match bq E x with
 |some v=>match bq E y with
  |some u=>g v u
  |none=>none
 |none=>none
noncomputable def opE (E:List (Nat×V))(h:H)(o:Op): Option (V×H):=match o with
 |.move x|.assign x=>jL E x fun v=>some (v,h)
 |.pick c a b=>jL E c fun v=>match v with
  |.bool t=>jL E (cond t a b) fun v=>some (v,h)
  |_=>none
 |.alloc t=>match zeroT P t with
  |some z=>some (.ptr h.next 0,newRow h z.cells)
  |none=>none
 |.box _ x=>jL E x fun v=>cond (v.cells.all storable) (some (.ptr h.next 0,newRow h v.cells)) none
 |.build t ps=>match lookParts E ps.toList with
  |some l=>bB (buildV P t l) h
  |none=>none
 |.buildSlice t n ps=>match lookParts E ps.toList with
  |some l=>buildSliceV P h t n l
  |none=>none
 |.load t a=>jL E a fun v=>bB (loadV P h t v) h
 |.store t a x=>um E a x fun p v=>ua (iV P h t p v)
 |.nilCheck x=>jL E x fun v=>match v with
  |.ptr a b=>some (.ptr a b,h)
  |_=>none
 |.binOp op t x y _=>um E x y fun a b=>bB (binV P h op t x y a b) h
 |.unOp op _ x=>jL E x fun a=>bB (unV op a) h
 |.convert s d x=>jL E x fun a=>match convV P h s d a with
   |some r=>some r
   |none=>convB P h s d a
 |.sliceToArrayPointer d x=>jL E x fun a=>bB (arrPtrV P d a) h
 |.makeInterface t x=>jL E x fun a=>bB (makeIfaceV P t a) h
 |.makeFunc f a b=>match lookArgs E a.toList with
  |some x=>match lookArgs E b.toList with
   |some y=>some (.fn f x y,h)
   |none=>none
  |none=>none
 |.makeMap _ r=>match r with
  |none=>some (.map h.next,h.new (.map [] 0))
  |some _=>none
 |.makeSlice t l c=>um E l c fun a b=>makeSliceV P h t a b
 |.slice t x lo hi mx=>jL E x fun v=>match lookOpt E lo with
  |some a=>match lookOpt E hi with
   |some b=>match lookOpt E mx with
    |some c=>match kz a with
     |some a=>match kz b with
      |some b=>match kz c with
       |some c=>bB (sliceV P h t v a b c) h
       |none=>none
      |none=>none
     |none=>none
    |none=>none
   |none=>none
  |none=>none
 |.fieldAddr t x i=>jL E x fun v=>bB (fieldAddrV P t v i) h
 |.field t x i=>jL E x fun v=>bB (qX P t v i) h
 |.indexAddr t x i=>um E x i fun v j=>bB (indexAddrV P t v j) h
 |.index t x i=>um E x i fun v j=>bB (indexV P t v j) h
 |.lookup t x k ok=>um E x k fun m j=>bB (eU P h t m j ok) h
 |.extract t i=>jL E t fun v=>match v with
  |.aW l=>bB (nth l i) h
  |_=>none
 |.typeAssert x _ a ok=>jL E x fun v=>bB (assertV P v a ok) h
 |.call c=>match c.callee with
  |.builtin b=>match lookArgs E c.args.toList with
   |some args=>builtinV P h b c.argTypes args
   |none=>none
  |_=>none
 |_=>none
end
theorem iP {g:V→Option (V×H)}{r:V×H}(h:jL E x g=some r): ∃v,bq E x=some v∧g v=some r:=by
 grind[jL]
theorem sR {g:V→V→Option (V×H)}{r:V×H}(h:um E x y g=some r): ∃v u,bq E x=some v∧bq E y=some u∧g v u=some r:=by
 grind[um]
set_option maxHeartbeats 1000000 in
theorem CS {o:Oper}{r:V×H}(hE:j5 env E)(hr:opE C.P E h o.op=some r): evOp C self env h o=some r:=by
 unfold opE at hr
 unfold evOp
 split at hr
 ·rename_i x I;obtain⟨v,h1,J⟩:=iP hr;simp only[I,b6 hE h1,bB];exact J
 ·rename_i x I;obtain⟨v,h1,J⟩:=iP hr;simp only[I,b6 hE h1,bB];exact J
 ·rename_i c a b I
  obtain⟨v,h1,J⟩:=iP hr
  split at J
  ·rename_i t
   obtain⟨u,h3,h4⟩:=iP J
   simp only[I,b6 hE h1,b6 hE h3,bB];exact h4
  ·cases J
 ·rename_i t I;simp only[I];exact hr
 ·rename_i t x I;obtain⟨v,h1,J⟩:=iP hr;simp only[I,b6 hE h1];exact J
 ·rename_i t ps I
  cases hp:lookParts E ps.toList with
  |none=>simp[hp] at hr
  |some l=>simp only[hp] at hr;simp only[I,yz hE hp];exact hr
 ·rename_i t n ps I
  cases hp:lookParts E ps.toList with
  |none=>simp[hp] at hr
  |some l=>simp only[hp] at hr;simp only[I,yz hE hp];exact hr
 ·rename_i t a I;obtain⟨v,h1,J⟩:=iP hr;simp only[I,b6 hE h1];exact J
 ·rename_i t a x I;obtain⟨v,u,h1,J,h3⟩:=sR hr;simp only[I,b6 hE h1,b6 hE J];exact h3
 ·rename_i x I
  obtain⟨v,h1,J⟩:=iP hr
  split at J
  ·simp only[I,b6 hE h1];exact J
  ·cases J
 ·rename_i op t x y u I;obtain⟨v,u,h1,J,h3⟩:=sR hr;simp only[I,b6 hE h1,b6 hE J];exact h3
 ·rename_i op t x I;obtain⟨v,h1,J⟩:=iP hr;simp only[I,b6 hE h1];exact J
 ·rename_i s d x I;obtain⟨v,h1,J⟩:=iP hr;simp only[I,b6 hE h1];exact J
 ·rename_i d x I;obtain⟨v,h1,J⟩:=iP hr;simp only[I,b6 hE h1];exact J
 ·rename_i t x I;obtain⟨v,h1,J⟩:=iP hr;simp only[I,b6 hE h1];exact J
 ·rename_i f a b I
  cases ha:lookArgs E a.toList with
  |none=>simp[ha] at hr
  |some x =>
   cases hb:lookArgs E b.toList with
   |none=>simp[ha,hb] at hr
   |some y=>simp only[ha,hb] at hr;simp only[I,mM hE ha,mM hE hb];exact hr
 ·rename_i t r I
  simp only[I]
  exact hr
 ·rename_i t l c I;obtain⟨v,u,h1,J,h3⟩:=sR hr;simp only[I,b6 hE h1,b6 hE J];exact h3
 ·rename_i t x lo hi mx I
  obtain⟨v,h1,J⟩:=iP hr
  cases ha:lookOpt E lo with
  |none=>simp[ha] at J
  |some a =>
   cases hb:lookOpt E hi with
   |none=>simp[ha,hb] at J
   |some b =>
    cases hc:lookOpt E mx with
    |none=>simp[ha,hb,hc] at J
    |some c =>
     simp only[ha,hb,hc] at J
     simp only[I,b6 hE h1,wO hE ha,wO hE hb,wO hE hc]
     cases pa:kz a with
     |none=>simp[pa] at J
     |some a =>
      cases pb:kz b with
      |none=>simp[pa,pb] at J
      |some b =>
       cases pc:kz c with
       |none=>simp[pa,pb,pc] at J
       |some c=>simp only[pa,pb,pc] at J ⊢;exact J
 ·rename_i t x i I;obtain⟨v,h1,J⟩:=iP hr;simp only[I,b6 hE h1];exact J
 ·rename_i t x i I;obtain⟨v,h1,J⟩:=iP hr;simp only[I,b6 hE h1];exact J
 ·rename_i t x i I;obtain⟨v,u,h1,J,h3⟩:=sR hr;simp only[I,b6 hE h1,b6 hE J];exact h3
 ·rename_i t x i I;obtain⟨v,u,h1,J,h3⟩:=sR hr;simp only[I,b6 hE h1,b6 hE J];exact h3
 ·rename_i t x k ok I;obtain⟨v,u,h1,J,h3⟩:=sR hr;simp only[I,b6 hE h1,b6 hE J];exact h3
 ·rename_i t i I
  obtain⟨v,h1,J⟩:=iP hr
  split at J
  ·simp only[I,b6 hE h1];exact J
  ·cases J
 ·rename_i x t a ok I;obtain⟨v,h1,J⟩:=iP hr;simp only[I,b6 hE h1];exact J
 ·rename_i cl I
  split at hr
  ·rename_i b hc
   cases ha:lookArgs E cl.args.toList with
   |none=>simp[ha] at hr
   |some args=>simp only[ha] at hr;simp only[I,evCall,hc,mM hE ha];exact hr
  ·cases hr
 ·cases hr
def gQ (C:fB)(f:FuncId)(args:List V)(h:H)(v:V)(h':H): Prop:=∃N,callF C (ev C N) f args h=some (v,h')
def Call (C:fB)(f:FuncId)(args:List V)(h:H)(R:V→H→Prop): Prop:=∃v h',gQ C f args h v h'∧R v h'
variable {cl:Go.Call}
theorem Call.mono {f:FuncId}{R I:V→H→Prop}(J:Call C f args h R)(hr:∀v h',R v h'→I v h'): Call C f args h I:=by
 obtain⟨v,h',h1,h2⟩:=J
 exact⟨v,h',h1,hr v h' h2⟩
theorem gQ.told {f:FuncId}{g:List V→H→Option (V×H)}{v:V}(I:C.told f=some g)(J:C.P.funcs[f]?=some fn)(hb:fn.body.isSome=true)(hr:g args h=some (v,h')): gQ C f args h v h':=by
 refine⟨0,?_⟩<;>grind[callF,hasBody]
theorem gQ.body {f:FuncId}{v:V}(I:gQ C f args h v h'): hasBody C.P f=true:=by
 obtain⟨N,J⟩:=I<;>grind[callF,hasBody]
theorem iQ (C:fB)(n:Nat)(c:Code)(s:St): ev C (n+1) c s=evStep C (ev C n) c s:=rfl
def WP (C:fB)(aB:Nat)(code:Code)(E:List (Nat×V))(h:H)(Q:Ex→List (Nat×V)→H→Prop): Prop :=
 ∀env,j5 env E→∃N ex I h' E',ev C N code ⟨env,aB,h⟩=some (ex,⟨I,aB,h'⟩)∧j5 I E'∧Q ex E' h'
def aA (C:fB)(aB:Nat)(L l:List Oper)(E:List (Nat×V))(h:H)(Q:List (Nat×V)→H→Prop): Prop :=
 ∀env,j5 env E→∃N I h' E',evOps C (ev C N) L l ⟨env,aB,h⟩=some ⟨I,aB,h'⟩∧j5 I E'∧Q E' h'
section
variable {aB:Nat} {l:List Oper}
theorem WP.sub {I:List (Nat×V)}(hs:∀t v,look I t=some v→look E t=some v)(hw:WP C aB code I h Q): WP C aB code E h Q:=fun env J=>hw env (J.sub hs)
theorem WP.skip (I:Q .normal E h): WP C aB .skip E h Q:=fun env J=>⟨1,.normal,env,h,E,rfl,J,I⟩
theorem WP.ret (I:Q .ret E h): WP C aB .ret E h Q:=fun env J=>⟨1,.ret,env,h,E,rfl,J,I⟩
theorem WP.exit (I:Q (.exit i) E h): WP C aB (.exit i) E h Q:=fun env J=>⟨1,.exit i,env,h,E,rfl,J,I⟩
theorem WP.region (hl:ops.toList=l)(hw:aA C aB l l E h fun E' h'=>Q .normal E' h'): WP C aB (.region id ops false) E h Q:=by
 intro env J
 obtain⟨N,I,h',E',h1,h2,h3⟩:=hw env J
 refine⟨N+1,.normal,I,h',E',?_,h2,h3⟩<;>grind[iQ,evStep]
theorem WP.seq {a b:Code}(hw:WP C aB a E h fun ex E' h'=>match ex with
  |.normal=>WP C aB b E' h' Q
  |ex=>Q ex E' h'): WP C aB (.seq a b) E h Q:=by
 intro env hE
 obtain⟨N,ex,I,h',E',h1,h2,h3⟩:=hw env hE
 cases ex with
 |normal =>
  obtain⟨M,qm,J,HM,E2,g1,g2,g3⟩:=h3 I h2
  refine⟨Nat.max N M+1,qm,J,HM,E2,?_,g2,g3⟩
  rw[iQ]
  simp only[evStep,gH (oM N M) _ _ _ h1]
  exact gH (oL N M) _ _ _ g1
 |exit i =>
  refine⟨N+1,.exit i,I,h',E',?_,h2,h3⟩<;>grind[iQ,evStep]
 |ret =>
  refine⟨N+1,.ret,I,h',E',?_,h2,h3⟩<;>grind[iQ,evStep]
theorem WP.cond {a b:Code}{t:Bool}(hx:bq E x=some (.bool t))(hw:WP C aB (_root_.cond t a b) E h Q): WP C aB (.cond x a b) E h Q:=by
 intro env J
 obtain⟨N,ex,I,h',E',h1,h2,h3⟩:=hw env J
 refine⟨N+1,ex,I,h',E',?_,h2,h3⟩<;>grind[iQ,evStep,b6]
theorem WP.block {b:Code}(hw:WP C aB b E h fun ex E' h'=>match ex with
  |.exit j=>_root_.cond (Nat.beq j i) (Q .normal E' h') (Q (.exit j) E' h')
  |ex=>Q ex E' h'): WP C aB (.block i b) E h Q:=by
 intro env hE
 obtain⟨N,ex,I,h',E',h1,h2,J⟩:=hw env hE
 cases ex with
 |exit j =>
  cases hj:Nat.beq j i with
  |true =>
   simp only[hj,ag] at J
   refine⟨N+1,.normal,I,h',E',?_,h2,J⟩<;>grind[iQ,evStep]
  |false =>
   simp only[hj,aS] at J
   refine⟨N+1,.exit j,I,h',E',?_,h2,J⟩<;>grind[iQ,evStep]
 |normal =>
  refine⟨N+1,.normal,I,h',E',?_,h2,J⟩<;>grind[iQ,evStep]
 |ret =>
  refine⟨N+1,.ret,I,h',E',?_,h2,J⟩<;>grind[iQ,evStep]
theorem WP.scope {b:Code}(hw:WP C aB b E h Q): WP C aB (.scope b) E h Q:=by
 intro env J
 obtain⟨N,ex,I,h',E',h1,h2,h3⟩:=hw env J
 exact⟨N+1,ex,I,h',E',h1,h2,h3⟩
theorem WP.loop {b:Code}(hw:WP C aB b E h fun ex E' h'=>match ex with
  |.normal=>WP C aB (.loop b) E' h' Q
  |ex=>Q ex E' h'): WP C aB (.loop b) E h Q:=by
 intro env hE
 obtain⟨N,ex,I,h',E',h1,h2,h3⟩:=hw env hE
 cases ex with
 |normal =>
  obtain⟨M,qm,J,HM,E2,g1,g2,g3⟩:=h3 I h2
  refine⟨Nat.max N M+1,qm,J,HM,E2,?_,g2,g3⟩
  rw[iQ]
  simp only[evStep,gH (oM N M) _ _ _ h1]
  exact gH (oL N M) _ _ _ g1
 |exit i =>
  refine⟨N+1,.exit i,I,h',E',?_,h2,h3⟩<;>grind[iQ,evStep]
 |ret =>
  refine⟨N+1,.ret,I,h',E',?_,h2,h3⟩<;>grind[iQ,evStep]
theorem aA.nil (I:R E h): aA C aB L [] E h R:=fun env J=>⟨0,env,h,E,rfl,J,I⟩
def wantE (L:List Oper)(E:List (Nat×V))(g:Option (Nat×Bool)): Option Bool:=match g with
 |none=>some true
 |some (j,want)=>match (nth L j).bind (·.dst) with
  |some d=>match look E d with
   |some (.bool b)=>some (b == want)
   |some _=>some false
   |none=>none
  |none=>none
theorem jF {o:Oper}{b:Bool}(J:j5 env E)(hw:wantE L E o.guard=some b): wantedV L env o=b:=by
 unfold wantE at hw
 unfold wantedV
 split at hw
 ·grind
 ·rename_i j want hg
  simp only[hg]
  split at hw
  ·rename_i d hd
   simp only[hd]
   split at hw
   ·rename_i b' I
    simp only[Env.v,J d _ I]
    simpa using hw
   ·rename_i v h_ I
    simp only[Env.v,J d _ I]
    grind
   ·cases hw
  ·cases hw
theorem aA.op {o:Oper}{v:V}(hg:wantE L E o.guard=some true)(hd:o.dst=some d)(hn:Nat.blt d aB=true)(ho:opE C.P E h o.op=some (v,h₁))
 (hw:aA C aB L rest ((d,v)::E) h₁ R): aA C aB L (o::rest) E h R:=by
 intro env J
 obtain⟨N,I,h',E',h1,h2,h3⟩:=hw (env.set d (some v)) (J.set d v)<;>grind[evOps,jF,CS,St.put]
theorem aA.op0 {o:Oper}{v:V}(hg:wantE L E o.guard=some true)(hd:o.dst=none)(ho:opE C.P E h o.op=some (v,h₁))
 (hw:aA C aB L rest E h₁ R): aA C aB L (o::rest) E h R:=by
 intro env J
 obtain⟨N,I,h',E',h1,h2,h3⟩:=hw env J<;>grind[evOps,jF,CS,St.put]
theorem aA.no {o:Oper}(hg:wantE L E o.guard=some false)(hd:o.dst=some d)(hn:Nat.blt d aB=true)
 (hw:aA C aB L rest ((d,ct)::E) h R): aA C aB L (o::rest) E h R:=by
 intro env J
 obtain⟨N,I,h',E',h1,h2,h3⟩:=hw (env.set d (some ct)) (J.set d ct)<;>grind[evOps,jF,St.put]
theorem FR {o:Oper}{k:FuncId}{v:V}(hE:j5 env E)(J:o.op=.call cl)(hc:cl.callee=.value x)
 (hx:bq E x=some (.fn (.func k) first cap))(ha:lookArgs E cl.args.toList=some args)(I:gQ C k (first++(args++cap)) h v h₁):
  ∃N,evOp C (ev C N) env h o=some (v,h₁):=by
 have hb:=I.body
 obtain⟨N,hN⟩:=I
 refine⟨N,?_⟩
 simp only[evOp,J,evCall,mM hE ha,hc,b6 hE hx,callV,hb,ag]
 exact hN
theorem aA.call {o:Oper}{k:FuncId}(hg:wantE L E o.guard=some true)(hd:o.dst=some d)(hn:Nat.blt d aB=true)
 (hop:o.op=.call cl)(hc:cl.callee=.value x)(hx:bq E x=some (.fn (.func k) first cap))(ha:lookArgs E cl.args.toList=some args)
 (I:Call C k (first++(args++cap)) h yy)(hw:∀v h₁,yy v h₁→aA C aB L rest ((d,v)::E) h₁ R): aA C aB L (o::rest) E h R:=by
 intro env hE
 obtain⟨v,h₁,OR,hr⟩:=I
 obtain⟨N,hN⟩:=FR hE hop hc hx ha OR
 obtain⟨M,J,h',E',h1,h2,h3⟩:=hw v h₁ hr (env.set d (some v)) (hE.set d v)
 refine⟨Nat.max N M,J,h',E',?_,h2,h3⟩
 simp only[evOps,jF hE hg,ag,l8 (gH (oM N M)) hN,St.put,hd,hn]
 exact pN (gH (oL N M)) _ _ _ h1
end
def Has (E:List (Nat×V)): List (Nat×V)→Prop
 |[]=>True
 |p::F=>look E p.1=some p.2∧Has E F
theorem Has.sub : ∀ {F:List (Nat×V)},Has E F→∀t v,look F t=some v→look E t=some v:=by
 intro F
 induction F with
 |nil=>intro _ t v h;cases h
 |cons p F ih =>
  intro I t v h
  simp only[look] at h
  by_cases J:p.1=t
  ·subst J
   rw[qy rfl,ag] at h
   rw[I.1];exact h
  ·rw[eD J,aS] at h
   exact ih I.2 t v h
theorem WP.has {aB:Nat}{F:List (Nat×V)}(I:Has E F)(hw:WP C aB code F h Q): WP C aB code E h Q:=WP.sub I.sub hw
theorem aaf {s:St}(I:j5 s.env E){t:Nat}{v:V}(h:look E t=some v): resV P s (.tmp t)=some v:=by
 simp only[resV,Env.v,I t v h]
noncomputable def resE (P:Program)(E:List (Nat×V))(h:H): ResultVar→Option V
 |.tmp t=>look E t
 |.cell a t=>match look E a with
  |some p=>loadV P h t p
  |none=>none
theorem VH {s:St}(J:j5 s.env E){x:ResultVar}{v:V}(I:resE P E s.h x=some v): resV P s x=some v:=by
 cases x with
 |tmp t=>exact aaf J I
 |cell a t =>
  simp only[resE] at I
  cases ha:look E a with
  |none=>grind
  |some p=>simp only[ha] at I;simp only[resV,Env.v,J a p ha];exact I
noncomputable def resLE (P:Program)(E:List (Nat×V))(h:H)(rs:List ResultVar): Option V:=match mapO (resE P E h) rs with
 |some [v]=>some v
 |some vs=>some (.aW vs)
 |none=>none
theorem KR {s:St}(I:j5 s.env E): ∀ {rs:List ResultVar} {vs:List V},mapO (resE P E s.h) rs=some vs→mapO (resV P s) rs=some vs:=by
 intro rs
 induction rs<;>grind[mapO,VH]
def argE : List V→Nat→List (Nat×V)
 |[],_=>[]
 |v::l,k=>(k,v)::argE l (k+1)
theorem OS : ∀(l:List V) (k t:Nat),look (argE l k) t=if k≤t∧t<k+l.length then l[t-k]? else none:=by
 intro l
 induction l with
 |nil=>simp[argE,look]
 |cons v l I =>
  intro k t
  simp only[argE,look]
  by_cases h:k=t
  ·simp_all
  grind[eD]
theorem KS (l:List V): j5 (bindArgs l 0 .lf) (argE l 0):=by
 intro t v h
 grind[OS,tu]
theorem Call.of_wp {f : FuncId} {R : V → H → Prop} (ht : C.told f = none) (hf : C.P.funcs[f]? = some fn) (hb : fn.body = some code)
  (hq : (fn.name == "runtime.NumGoroutine" || Nat.blt fn.ntmps args.length) = false)
  (hw : WP C fn.ntmps code (argE args 0) h fun ex E' h' => (match ex with | .exit _ => False | _ => True) ∧ ∃ v, resLE C.P E' h' fn.results.toList = some v ∧ R v h') : Call C f args h R := by
 obtain ⟨N, ex, I, h', E', h1, J, h3, v, h4, h5⟩ := hw _ (KS args)
 refine ⟨v, h', ⟨N, ?_⟩, h5⟩
 unfold callF
 unfold resLE at h4
 cases hm : mapO (resE C.P E' h') fn.results.toList with
 | none => grind
 | some vs =>
  have BC := KR (P := C.P) (s := ⟨I, fn.ntmps, h'⟩) J hm
  cases ex with
  | exit i => grind
  | normal =>
   grind
  | ret =>
   grind
noncomputable section
end
def crcStep : Nat→Nat→Nat
 |r,0=>r
 |r,k+1=>crcStep (cond (Nat.beq (r%2) 1) (Nat.xor (r/2) 3988292384) (r/2)) k
def crcL : Nat→List Nat→Nat
 |r,[]=>r
 |r,b::l=>crcL (crcStep (Nat.xor r b) 8) l
def bytesIn : List V→Option (List Nat)
 |[]=>some []
 |.int .u8 n::l=>cond (decide (0≤n)&&decide (n<256)) (match bytesIn l with
  |some m=>some (n.toNat::m)
  |none=>none) none
 |_=>none
def vR (s:Int)(l:List Nat): V:=.int .u32 ((Nat.xor (crcL (Nat.xor s.toNat 4294967295) l) 4294967295:Nat):Int)
noncomputable def toldMore : List V→H→Option (V×H)
 |[.int .u32 s,.sl id off len _],h=>cond (decide (0≤s)&&decide (s<4294967296)&&Nat.ble len 4611686018427387904) (match rdN h id off len with
  |some cs=>match bytesIn cs with
   |some l=>some (vR s l,h)
   |none=>none
  |none=>none) none
 |[.int .u32 s,.aV],h=>cond (decide (0≤s)&&decide (s<4294967296)) (some (vR s [],h)) none
 |[.int .u32 s,.sle _],h=>cond (decide (0≤s)&&decide (s<4294967296)) (some (vR s [],h)) none
 |_,_=>none
theorem wrap_u32 (h:n<4294967296): IntKind.wrap .u32 (n:Int)=(n:Int):=by
 grind[IntKind.wrap,IntKind.bits,IntKind.signed]
theorem FT (h:n<4294967296): ((n:Int)%(2^(IntKind.u32).bits:Int)).toNat=n:=by
 grind[IntKind.bits]
theorem nZ (I:a<4294967296)(J:b<4294967296): Nat.xor a b<4294967296:=Nat.xor_lt_two_pow (n:=32) I J
theorem wP (I:a<4294967296)(J:b<4294967296): intV .xor .u32 (a:Int) (b:Int)=some (.int .u32 ((Nat.xor a b:Nat):Int)):=by
 grind[intV,bitsV,FT,wrap_u32,nZ]
theorem OT (I:a<4294967296): intV .and .u32 (a:Int) 1=some (.int .u32 ((a%2:Nat):Int)):=by
 have J:((1:Int)%(2^(IntKind.u32).bits:Int)).toNat=1:=by rfl
 simp only[intV,bitsV]
 rw[FT I,J]
 have:Nat.land a 1=a%2:=Nat.and_one_is_mod a
 rw[this,wrap_u32 (by omega)]
theorem CT : shiftV .shr .u32 (a:Int) 1=some (.int .u32 ((a/2:Nat):Int)):=by
 grind[shiftV,IntKind.bits]
theorem VI {c:Ctx}(h:Rel c σ w)(I:rdN σ id off k=some vs): vs.length=k∧∀j,j<k→xY σ id (off+j)=vs[j]?:=by
 unfold rdN at I
 split at I
 ·rename_i n cs st J
  have hn:n=cs.length:=(h.obj id _ J).1
  grind[aP,beq_iff,xY,eX]
 ·cases I
def unblk : Code→Code
 |.block _ c=>c
 |c=>c
def unloop : Code→Code
 |.loop c=>c
 |c=>c
noncomputable def jR : Code:=(Tryz.f211.body).getD .skip
noncomputable def jM : Code:=unloop (unblk (dx (leftC (dx (dx jR)))))
noncomputable def nF : Code:=unblk (leftC (dx (dx jM)))
noncomputable def n_ : Code:=unloop (unblk (dx (dx (dx nF))))
theorem hU (C:fB)(n:Nat)(c:Code)(s:St): ev C (n+1) c s=evStep C (ev C n) c s:=rfl
theorem wrap_i64 (h:n<9223372036854775808): IntKind.wrap .i64 (n:Int)=(n:Int):=by
 grind[IntKind.bits,IntKind.wrap]
theorem yA (h:n<9223372036854775807): intV .add .i64 (n:Int) 1=some (.int .i64 ((n+1:Nat):Int)):=by
 have:((n:Int)+1)=((n+1:Nat):Int):=by omega
 simp only[intV,this,wrap_i64 (show n+1<9223372036854775808 by omega)]
section
theorem bU {o:Oper}(J:o.guard=none)(hd:o.dst=some d)(I:Nat.blt d n=true):
  evOps C self L (o::rest) ⟨env,n,h⟩=(evOp C self env h o).bind fun r=>evOps C self L rest ⟨env.set d (some r.1),n,r.2⟩:=by
 grind[evOps,wantedV,St.put]
end
noncomputable def XL : Code:=leftC n_
noncomputable def uo : Code:=dx (dx n_)
noncomputable def XM : Code:=leftC (unblk (leftC uo))
noncomputable def XN : Code:=dx (unblk (leftC uo))
noncomputable def RZ : Code:=dx uo
section
variable (n:Nat) (env:Env) (h:H)
theorem OU (I:T.get env 20=some (.int .i64 j)): ev C (n+1) XL ⟨env,34,h⟩=some (.normal,⟨env.set 21 (some (.bool (decide ((j:Int)<8)))),34,h⟩):=by
 simp only[XL,n_,nF,jM,jR,Tryz.f211,cS,leftC,dx,unblk,unloop,hU,evStep,aS]
 rw[bU rfl rfl rfl]
 simp only[evOp,evO,Env.v,I,ofValue,ofScalar,binV,ikBeq,ag,intV,bB,cW,evOps]
theorem XO {x:Nat}(J:x<4294967296)(h5:T.get env 5=some (.int .u32 x)):
  ∃I,ev C (n+1) XM ⟨env,34,h⟩=some (.normal,⟨I,34,h⟩)∧T.get I 24=some (.bool (Nat.beq (x%2) 1))∧∀t,t≠22→t≠23→t≠24→T.get I t=T.get env t:=by
 refine⟨((env.set 22 (some (.int .u32 x))).set 23 (some (.int .u32 ((x%2:Nat):Int)))).set 24 (some (.bool (Nat.beq (x%2) 1))),?_,by simp[a_],fun t h1 h2 h3=>by simp[a_,h1,h2,h3]⟩
 simp only[XM,uo,n_,nF,jM,jR,Tryz.f211,cS,leftC,dx,unblk,unloop,hU,evStep,aS]
 rw[bU rfl rfl rfl]
 simp only[evOp,evO,Env.v,h5,bB,cW]
 rw[bU rfl rfl rfl]
 simp only[evOp,evO,Env.v,a_,cT,ofValue,ofScalar,binV,ikBeq,ag,OT J,bB,cW]
 rw[bU rfl rfl rfl]
 simp only[evOp,evO,Env.v,a_,cT,ofValue,ofScalar,binV,ikBeq,ag,intV,bB,cW,evOps]
 rfl
theorem OV {x:Nat}(I:x<4294967296): Nat.xor (x/2) 3988292384<4294967296:=nZ (by omega) (by omega)
theorem XP {x:Nat}{b:Bool}(hx:x<4294967296)(h5:T.get env 5=some (.int .u32 x))(I:T.get env 24=some (.bool b)):
  ∃J,ev C (n+2) XN ⟨env,34,h⟩=some (.normal,⟨J,34,h⟩)∧T.get J 5=some (.int .u32 ((cond b (Nat.xor (x/2) 3988292384) (x/2):Nat):Int))∧∀t,t<25→t≠5→T.get J t=T.get env t:=by
 simp only[XN,uo,n_,nF,jM,jR,Tryz.f211,cS,leftC,dx,unblk,unloop,hU,evStep,evO,Env.v,I]
 cases b with
 |true =>
  refine⟨(((env.set 25 (some (.int .u32 x))).set 26 (some (.int .u32 ((x/2:Nat):Int)))).set 27 (some (.int .u32 ((Nat.xor (x/2) 3988292384:Nat):Int)))).set 5 (some (.int .u32 ((Nat.xor (x/2) 3988292384:Nat):Int))),?_,by simp[a_],fun t h1 h2 => ?_⟩
  ·simp only[ag,aS]
   rw[bU rfl rfl rfl]
   simp only[evOp,evO,Env.v,h5,bB,cW]
   rw[bU rfl rfl rfl]
   simp only[evOp,evO,Env.v,a_,cT,ofValue,ofScalar,binV,CT,bB,cW]
   rw[bU rfl rfl rfl]
   have:=wP (a:=x/2) (b:=3988292384) (by omega) (by omega)
   rw[show((3988292384:Nat):Int)=3988292384 from rfl] at this
   simp only[evOp,evO,Env.v,a_,cT,ofValue,ofScalar,binV,ikBeq,ag,this,bB,cW]
   rw[bU rfl rfl rfl]
   simp only[evOp,evO,Env.v,a_,cT,bB,cW,evOps]
  grind[a_]
 |false =>
  refine⟨((env.set 28 (some (.int .u32 x))).set 29 (some (.int .u32 ((x/2:Nat):Int)))).set 5 (some (.int .u32 ((x/2:Nat):Int))),?_,by simp[a_],fun t h1 h2 => ?_⟩
  ·simp only[aS]
   rw[bU rfl rfl rfl]
   simp only[evOp,evO,Env.v,h5,bB,cW]
   rw[bU rfl rfl rfl]
   simp only[evOp,evO,Env.v,a_,cT,ofValue,ofScalar,binV,CT,bB,cW]
   rw[bU rfl rfl rfl]
   simp only[evOp,evO,Env.v,a_,cT,bB,cW,evOps]
  grind[a_]
theorem VJ (hj:j<8)(I:T.get env 20=some (.int .i64 j)):
  ∃J,ev C (n+1) RZ ⟨env,34,h⟩=some (.normal,⟨J,34,h⟩)∧T.get J 20=some (.int .i64 ((j+1:Nat):Int))∧∀t,t≠20→t≠30→T.get J t=T.get env t:=by
 refine⟨(env.set 30 (some (.int .i64 ((j+1:Nat):Int)))).set 20 (some (.int .i64 ((j+1:Nat):Int))),?_,by simp[a_],fun t h1 h2=>by simp[a_,h1,h2]⟩
 simp only[RZ,uo,n_,nF,jM,jR,Tryz.f211,cS,leftC,dx,unblk,unloop,hU,evStep,aS]
 rw[bU rfl rfl rfl]
 simp only[evOp,evO,Env.v,I,ofValue,ofScalar,binV,ikBeq,ag,yA (show j<9223372036854775807 by omega),bB,cW]
 rw[bU rfl rfl rfl]
 simp only[evOp,evO,Env.v,a_,cT,bB,cW,evOps]
section
variable {n:Nat} {s:St}
theorem j6 {a b:Code}(I:ev C n a s=some (.normal,s')): ev C (n+1) (.seq a b) s=ev C n b s':=by grind[hU,evStep]
theorem uW {a b:Code}(I:ev C n a s=some (.exit i,s')): ev C (n+1) (.seq a b) s=some (.exit i,s'):=by grind[hU,evStep]
theorem vS {a b:Code}{t:Bool}(I:evO s.env x=some (.bool t)): ev C (n+1) (.cond x a b) s=ev C n (cond t a b) s:=by grind[hU,evStep]
theorem HN {c:Code}(h:ev C n c s=some (.normal,s')): ev C (n+1) (.block i c) s=some (.normal,s'):=by grind[hU,evStep]
theorem xM {c:Code}(h:ev C n c s=some (.exit i,s')): ev C (n+1) (.block i c) s=some (.normal,s'):=by simp_all[hU,evStep]
theorem KT {b:Code}(h:ev C n b s=some (.normal,s')): ev C (n+1) (.loop b) s=ev C n (.loop b) s':=by grind[hU,evStep]
theorem tD {b:Code}(h:ev C n b s=some (.exit i,s')): ev C (n+1) (.loop b) s=some (.exit i,s'):=by grind[hU,evStep]
end
theorem FU : n_=.seq XL (.seq (.cond (.tmp 21) .skip (.exit 2)) uo):=rfl
theorem R1 : uo=.seq (.block 3 (.seq XM XN)) RZ:=rfl
theorem MC {x:Nat}(hx:x<4294967296)(hj:j<8)(h5:T.get env 5=some (.int .u32 x))(h20:T.get env 20=some (.int .i64 j)):
  ∃J,ev C (n+9) n_ ⟨env,34,h⟩=some (.normal,⟨J,34,h⟩)∧T.get J 5=some (.int .u32 ((crcStep x 1:Nat):Int))∧T.get J 20=some (.int .i64 ((j+1:Nat):Int)) ∧
   ∀t,t<20→t≠5→T.get J t=T.get env t:=by
 have cV:decide ((j:Int)<8)=true:=by grind
 have q7:=OU (C:=C) (n+7) env h h20
 rw[cV] at q7
 have g5:T.get (env.set 21 (some (.bool true))) 5=some (.int .u32 x):=by simp[a_,h5]
 obtain⟨e8,q8,q8a,q8b⟩:=XO (C:=C) (n+3) (env.set 21 (some (.bool true))) h hx g5
 have g5':T.get e8 5=some (.int .u32 x):=by grind
 obtain⟨e9,q9,q9a,q9b⟩:=XP (C:=C) (n+2) e8 h hx g5' q8a
 have g20:T.get e9 20=some (.int .i64 j):=by
  grind[a_]
 obtain⟨XQ,q11,I,ady⟩:=VJ (C:=C) (n+5) e9 h hj g20
 refine⟨XQ,?_,?_,I,fun t h1 h2 => ?_⟩
 ·rw[FU,j6 q7,j6 (s':=⟨env.set 21 (some (.bool true)),34,h⟩) (by rw[vS (t:=true) (by simp[evO,Env.v,a_])];rfl),R1,
   j6 (HN (by rw[j6 q8];exact q9)),q11]
 ·grind[crcStep]
 ·grind[a_]
theorem MD : ∀(k n:Nat) (env:Env) (x:Nat),k≤8→x<4294967296→T.get env 5=some (.int .u32 x)→T.get env 20=some (.int .i64 ((8-k:Nat):Int)) →
  ∃J,ev C (n+10+k) (.loop n_) ⟨env,34,h⟩=some (.exit 2,⟨J,34,h⟩)∧T.get J 5=some (.int .u32 ((crcStep x k:Nat):Int))∧∀t,t<20→t≠5→T.get J t=T.get env t:=by
 intro k
 induction k with
 |zero =>
  intro n env x _ hx h5 I
  have q7:=OU (C:=C) (n+7) env h I
  refine⟨env.set 21 (some (.bool false)),?_,by simp[a_,h5,crcStep],fun t h1 h2 => ?_⟩
  ·refine tD ?_
   rw[FU,j6 q7]
   exact uW (by rw[vS (t:=false) (by simp[evO,Env.v,a_])];rfl)
  grind[a_]
 |succ k ih =>
  intro n env x hk hx h5 I
  obtain⟨e1,q1,q2,q3,q4⟩:=MC (C:=C) (n+1+k) env h hx (show 8-(k+1)<8 by omega) h5 I
  have h8:8-(k+1)+1=8-k:=by omega
  rw[h8] at q3
  have FW:crcStep x 1<4294967296:=by
   grind[crcStep,OV]
  obtain⟨e2,p1,p2,p3⟩:=ih n e1 (crcStep x 1) (by omega) FW q2 q3
  refine⟨e2,?_,?_,fun t h1 h2=>by grind⟩
  ·grind[KT]
  ·rw[p2];simp only[crcStep]
end
noncomputable def XR : Code:=leftC jM
noncomputable def GX : Code:=dx (dx jM)
noncomputable def R2 : Code:=dx GX
noncomputable def XS : Code:=leftC nF
noncomputable def XT : Code:=leftC (dx nF)
noncomputable def mR6 : Code:=leftC (dx (dx nF))
theorem R3 : nF=.seq XS (.seq XT (.seq mR6 (.block 2 (.loop n_)))):=rfl
theorem yB : jM=.seq XR (.seq (.cond (.tmp 13) .skip (.exit 0)) GX):=rfl
theorem R4 : GX=.seq (.block 1 nF) R2:=rfl
theorem d_ : bg Tryz.prog 5=some 1:=by kernel_rfl
theorem KU : isAggT Tryz.prog 5=some false:=by kernel_rfl
section
variable {told:cy} (n:Nat) (env:Env) (h:H)
theorem HO {len:Nat}(I:T.get env 12=some (.int .i64 i))(J:T.get env 11=some (.int .i64 len)):
  ev ⟨Tryz.prog,told⟩ (n+1) XR ⟨env,34,h⟩=some (.normal,⟨env.set 13 (some (.bool (decide ((i:Int)<(len:Int))))),34,h⟩):=by
 simp only[XR,jM,jR,Tryz.f211,cS,leftC,dx,unblk,unloop,hU,evStep,aS]
 rw[bU rfl rfl rfl]
 simp_all[evOp,evO,Env.v,binV,ikBeq,intV,bB,evOps]
theorem XU {len:Nat}{cap:Cap}(hi:i<len)(I:T.get env 12=some (.int .i64 i))(J:T.get env 10=some (.sl id off len cap))(hb:xY h id (off+i)=some (.int .u8 b)):
  ∃e',ev ⟨Tryz.prog,told⟩ (n+1) XS ⟨env,34,h⟩=some (.normal,⟨e',34,h⟩)∧T.get e' 7=some (.int .u8 b)∧∀t,t≠7→t≠14→t≠15→T.get e' t=T.get env t:=by
 refine⟨((env.set 14 (some (.ptr id (off+i)))).set 15 (some (.int .u8 b))).set 7 (some (.int .u8 b)),?_,by simp[a_],fun t h1 h2 h3=>by simp[a_,h1,h2,h3]⟩
 simp only[XS,nF,jM,jR,Tryz.f211,cS,leftC,dx,unblk,unloop,hU,evStep,aS]
 rw[bU rfl rfl rfl]
 have d1:decide ((0:Int)≤(i:Int))=true:=by simp
 have d2:decide ((i:Int)<(len:Int))=true:=by grind
 simp only[evOp,evO,Env.v,J,I,indexAddrV,ak,d_,d1,d2,jc,ag,dm,cz,bB,cW]
 rw[bU rfl rfl rfl]
 simp only[evOp,evO,Env.v,a_,cT,loadV,KU,hb,bB,cW]
 rw[bU rfl rfl rfl]
 simp only[evOp,evO,Env.v,a_,cT,bB,cW,evOps]
theorem XV {x:Nat}(hx:x<4294967296)(hb:b<256)(h5:T.get env 5=some (.int .u32 x))(h7:T.get env 7=some (.int .u8 b)):
  ∃I,ev ⟨Tryz.prog,told⟩ (n+1) XT ⟨env,34,h⟩=some (.normal,⟨I,34,h⟩)∧T.get I 5=some (.int .u32 ((Nat.xor x b:Nat):Int))∧∀t,t<16→t≠5→T.get I t=T.get env t:=by
 refine⟨((((env.set 16 (some (.int .u32 x))).set 17 (some (.int .u8 b))).set 18 (some (.int .u32 b))).set 19 (some (.int .u32 ((Nat.xor x b:Nat):Int)))).set 5 (some (.int .u32 ((Nat.xor x b:Nat):Int))),?_,by simp[a_],fun t h1 h2 => ?_⟩
 ·simp only[XT,nF,jM,jR,Tryz.f211,cS,leftC,dx,unblk,unloop,hU,evStep,aS]
  rw[bU rfl rfl rfl]
  simp only[evOp,evO,Env.v,h5,bB,cW]
  rw[bU rfl rfl rfl]
  have g7:T.get (env.set 16 (some (.int .u32 x))) 7=some (.int .u8 b):=by simp[a_,h7]
  simp only[evOp,evO,Env.v,g7,bB,cW]
  rw[bU rfl rfl rfl]
  simp only[evOp,evO,Env.v,a_,cT,convV,Tryz.underlying5,Tryz.underlying260,wrap_u32 (show b<4294967296 by omega),cW]
  rw[bU rfl rfl rfl]
  have J:T.get (((env.set 16 (some (.int .u32 x))).set 17 (some (.int .u8 b))).set 18 (some (.int .u32 b))) 16=some (.int .u32 x):=by simp[a_]
  have g18:T.get (((env.set 16 (some (.int .u32 x))).set 17 (some (.int .u8 b))).set 18 (some (.int .u32 b))) 18=some (.int .u32 b):=by simp[a_]
  simp only[evOp,evO,Env.v,J,g18,binV,ikBeq,ag,wP hx (show b<4294967296 by omega),bB,cW]
  rw[bU rfl rfl rfl]
  simp only[evOp,evO,Env.v,a_,cT,bB,cW,evOps]
 grind[a_]
theorem XW : ev ⟨Tryz.prog,told⟩ (n+1) mR6 ⟨env,34,h⟩=some (.normal,⟨env.set 20 (some (.int .i64 0)),34,h⟩):=by
 rfl
theorem VK (hi:i<9223372036854775807)(I:T.get env 12=some (.int .i64 i)):
  ∃J,ev ⟨Tryz.prog,told⟩ (n+1) R2 ⟨env,34,h⟩=some (.normal,⟨J,34,h⟩)∧T.get J 12=some (.int .i64 ((i+1:Nat):Int))∧∀t,t≠12→t≠31→T.get J t=T.get env t:=by
 refine⟨(env.set 31 (some (.int .i64 ((i+1:Nat):Int)))).set 12 (some (.int .i64 ((i+1:Nat):Int))),?_,by simp[a_],fun t h1 h2=>by simp[a_,h1,h2]⟩
 simp only[R2,GX,jM,jR,Tryz.f211,cS,leftC,dx,unblk,unloop,hU,evStep,aS]
 rw[bU rfl rfl rfl]
 simp only[evOp,evO,Env.v,I,ofValue,ofScalar,binV,ikBeq,ag,yA hi,bB,cW]
 rw[bU rfl rfl rfl]
 simp only[evOp,evO,Env.v,a_,cT,bB,cW,evOps]
theorem CU : ∀(k x:Nat),x<4294967296→crcStep x k<4294967296:=by
 intro k
 induction k<;>grind[crcStep,OV]
theorem R5 {x len:Nat}{cap:Cap}(hx:x<4294967296)(hb:b<256)(hi:i<len)(h5:T.get env 5=some (.int .u32 x))(I:T.get env 12=some (.int .i64 i))(J:T.get env 10=some (.sl id off len cap))
 (hr:xY h id (off+i)=some (.int .u8 b)):
  ∃e',ev ⟨Tryz.prog,told⟩ (n+22) nF ⟨env,34,h⟩=some (.normal,⟨e',34,h⟩)∧T.get e' 5=some (.int .u32 ((crcStep (Nat.xor x b) 8:Nat):Int))∧∀t,t=10∨t=11∨t=12→T.get e' t=T.get env t:=by
 obtain⟨e4,q4,XX,q4b⟩:=XU (told:=told) (n+20) env h hi I J hr
 obtain⟨e5,q5,q5a,q5b⟩:=XV (told:=told) (n+19) e4 h hx hb (by grind) XX
 have q6:=XW (told:=told) (n+18) e5 h
 obtain⟨e2,q2,Ug,Uh⟩:=MD (C:=⟨Tryz.prog,told⟩) h 8 n (e5.set 20 (some (.int .i64 0))) (Nat.xor x b) (by omega) (nZ hx (by omega)) (by simp[a_,q5a]) (by simp[a_])<;>simp_all[a_,R3,j6,xM]
theorem ME {len:Nat}{cap:Cap}(hlen:len<9223372036854775807): ∀(l:List Nat) (i n:Nat) (env:Env) (x:Nat),i+l.length=len→x<4294967296→(∀b∈l,b<256) →
  (∀j b:Nat,l[j]?=some b→xY h id (off+(i+j))=some (.int .u8 (b:Int)))→T.get env 5=some (.int .u32 x)→T.get env 12=some (.int .i64 i)→T.get env 10=some (.sl id off len cap)→T.get env 11=some (.int .i64 len) →
  ∃e',ev ⟨Tryz.prog,told⟩ (n+30+l.length) (.loop jM) ⟨env,34,h⟩=some (.exit 0,⟨e',34,h⟩)∧T.get e' 5=some (.int .u32 ((crcL x l:Nat):Int)):=by
 intro l
 induction l with
 |nil =>
  intro i n env x hi hx _ _ h5 I FX XY
  have q3:=HO (told:=told) (n+27) env h I XY
  have hd:decide ((i:Int)<(len:Int))=false:=by grind
  rw[hd] at q3
  refine⟨env.set 13 (some (.bool false)),?_,by simp[a_,h5,crcL]⟩
  refine tD ?_
  rw[yB,j6 q3]
  exact uW (by rw[vS (t:=false) (by simp[evO,Env.v,a_])];rfl)
 |cons b l ih =>
  intro i n env x hi hx Ui jK h5 I FX XY
  simp only[aZ] at hi
  have q3:=HO (told:=told) (n+l.length+28) env h I XY
  have hd:decide ((i:Int)<(len:Int))=true:=by grind
  rw[hd] at q3
  have hb:b<256:=Ui b (by simp)
  have hr:=jK 0 b (by simp)
  rw[dA] at hr
  obtain⟨e1,q1,q1a,q1b⟩:=R5 (told:=told) (cap:=cap) (n+l.length+4) (env.set 13 (some (.bool true))) h hx hb (show i<len by omega) (by simp[a_,h5]) (by simp[a_,I]) (by simp[a_,FX]) hr
  obtain⟨e2,q2,Ug,Uh⟩:=VK (told:=told) (n+l.length+26) e1 h (show i<9223372036854775807 by omega) (by grind[a_])
  have oY:crcStep (Nat.xor x b) 8<4294967296:=CU 8 _ (nZ hx (by omega))
  obtain⟨e3,q3',XZ⟩:=ih (i+1) n e2 (crcStep (Nat.xor x b) 8) (by omega) oY (fun c hc=>Ui c (by grind)) (fun j c hj=>by
   have:=jK (j+1) c (by grind)
   rwa [show i+(j+1)=i+1+j from by omega] at this) (by grind) Ug (by grind[a_]) (by grind[a_])
  refine⟨e3,?_,by rw[XZ];simp only[crcL]⟩
  have J:ev ⟨Tryz.prog,told⟩ (n+l.length+30) jM ⟨env,34,h⟩=some (.normal,⟨e2,34,h⟩):=by
   rw[yB,j6 q3,j6 (s':=⟨env.set 13 (some (.bool true)),34,h⟩) (by rw[vS (t:=true) (by simp[evO,Env.v,a_])];rfl),R4,
    j6 (HN q1),q2]
  rw[aZ,show n+30+(l.length+1)=(n+l.length+30)+1 from by omega,KT J,show n+l.length+30=n+30+l.length from by omega]
  exact q3'
noncomputable def mR0 : Code:=leftC jR
noncomputable def X0 : Code:=leftC (dx jR)
noncomputable def X1 : Code:=leftC (leftC (dx (dx jR)))
noncomputable def R6 : Code:=dx (dx (dx jR))
theorem R7 : jR=.seq mR0 (.seq X0 (.seq (.seq X1 (.block 0 (.loop jM))) R6)):=rfl
theorem X2 : ev ⟨Tryz.prog,told⟩ (n+1) mR0 ⟨env,34,h⟩=some (.normal,⟨env.set 4 (some (.int .u32 0)),34,h⟩):=by
 rfl
theorem X3 {x:Nat}(J:x<4294967296)(h0:T.get env 0=some (.int .u32 x)):
  ∃I,ev ⟨Tryz.prog,told⟩ (n+1) X0 ⟨env,34,h⟩=some (.normal,⟨I,34,h⟩)∧T.get I 5=some (.int .u32 ((Nat.xor x 4294967295:Nat):Int))∧∀t,t≠5→t≠8→t≠9→T.get I t=T.get env t:=by
 refine⟨((env.set 8 (some (.int .u32 x))).set 9 (some (.int .u32 ((Nat.xor x 4294967295:Nat):Int)))).set 5 (some (.int .u32 ((Nat.xor x 4294967295:Nat):Int))),?_,by simp[a_],fun t h1 h2 h3=>by simp[a_,h1,h2,h3]⟩
 simp only[X0,jR,Tryz.f211,cS,leftC,dx,hU,evStep,aS]
 rw[bU rfl rfl rfl]
 simp only[evOp,evO,Env.v,h0,bB,cW]
 rw[bU rfl rfl rfl]
 have:=wP (a:=x) (b:=4294967295) J (by omega)
 rw[show((4294967295:Nat):Int)=4294967295 from rfl] at this
 simp only[evOp,evO,Env.v,a_,cT,ofValue,ofScalar,binV,ikBeq,ag,this,bB,cW]
 rw[bU rfl rfl rfl]
 simp only[evOp,evO,Env.v,a_,cT,bB,cW,evOps]
theorem X4 {x:V}{len:Nat}(J:T.get env 1=some x)(hl:lenV Tryz.prog h 29 x=some (.int .i64 len)):
  ∃I,ev ⟨Tryz.prog,told⟩ (n+1) X1 ⟨env,34,h⟩=some (.normal,⟨I,34,h⟩)∧T.get I 10=some x∧T.get I 11=some (.int .i64 len)∧T.get I 12=some (.int .i64 ((0:Nat):Int))∧T.get I 5=T.get env 5:=by
 refine⟨((env.set 10 (some x)).set 11 (some (.int .i64 len))).set 12 (some (.int .i64 0)),?_,by simp[a_],by simp[a_],by simp[a_],by simp[a_]⟩
 simp only[X1,jR,Tryz.f211,cS,leftC,dx,hU,evStep,aS]
 rw[bU rfl rfl rfl]
 simp only[evOp,evO,Env.v,J,bB,cW]
 rw[bU rfl rfl rfl]
 simp only[evOp,evCall,evArgs,evO,Env.v,a_,cT,builtinV,hl,fQ,cW]
 rw[bU rfl rfl rfl]
 simp only[evOp,evO,ofValue,ofScalar,bB,cW,evOps]
theorem VL {x:Nat}(J:x<4294967296)(h5:T.get env 5=some (.int .u32 x)):
  ∃I,ev ⟨Tryz.prog,told⟩ (n+2) R6 ⟨env,34,h⟩=some (.ret,⟨I,34,h⟩)∧T.get I 4=some (.int .u32 ((Nat.xor x 4294967295:Nat):Int)):=by
 refine⟨((env.set 32 (some (.int .u32 x))).set 33 (some (.int .u32 ((Nat.xor x 4294967295:Nat):Int)))).set 4 (some (.int .u32 ((Nat.xor x 4294967295:Nat):Int))),?_,by simp[a_]⟩
 simp only[R6,jR,Tryz.f211,cS,dx,hU,evStep,aS]
 rw[bU rfl rfl rfl]
 simp only[evOp,evO,Env.v,h5,bB,cW]
 rw[bU rfl rfl rfl]
 have:=wP (a:=x) (b:=4294967295) J (by omega)
 rw[show((4294967295:Nat):Int)=4294967295 from rfl] at this
 simp only[evOp,evO,Env.v,a_,cT,ofValue,ofScalar,binV,ikBeq,ag,this,bB,cW]
 rw[bU rfl rfl rfl]
 simp only[evOp,evO,Env.v,a_,cT,bB,cW,evOps]
end
theorem MF : ∀(cs:List V) (l:List Nat),bytesIn cs=some l→cs=l.map (fun(b:Nat)=>V.int .u8 (b:Int))∧∀b∈l,b<256:=by
 intro cs
 induction cs with
 |nil=>grind[bytesIn]
 |cons v cs I =>
  intro l h
  unfold bytesIn at h
  grind
theorem EO : ∀(l:List Nat) (x:Nat),x<4294967296→(∀b∈l,b<256)→crcL x l<4294967296:=by
 intro l
 induction l with
 |nil=>intro x I _;exact I
 |cons b l ih =>
  intro x I J
  have h1:=J b (by simp)
  exact ih _ (CU 8 _ (nZ I (by omega))) (fun c hc=>J c (by grind))
theorem BV {s : Int} {x : V} {len : Nat} (FY : 0 ≤ s) (f_ : s < 4294967296) (hl : lenV Tryz.prog σ 29 x = some (.int .i64 len)) (hlen : len = l.length) (kZ : len < 9223372036854775807)
  (hb : ∀ b ∈ l, b < 256) (hx : l = [] ∨ ∃ id off cap, x = .sl id off len cap ∧ ∀ j b : Nat, l[j]? = some b → xY σ id (off + (0 + j)) = some (.int .u8 (b : Int))) :
  run ⟨Tryz.prog, fun _ => none⟩ (l.length + 40) 211 [.int .u32 s, x] σ = some (vR s l, σ) := by
 obtain ⟨u, rfl⟩ : ∃ u : Nat, s = (u : Int) := ⟨s.toNat, by omega⟩
 have hu : u < 4294967296 := by omega
 have q0 := X2 (told := fun _ => none) (l.length + 38) (bindArgs [.int .u32 u, x] 0 .lf) σ
 obtain ⟨e1, q1, q1a, q1b⟩ := X3 (told := fun _ => none) (l.length + 37) ((bindArgs [.int .u32 u, x] 0 .lf).set 4 (some (.int .u32 0))) σ hu (by rfl)
 obtain ⟨e2, q2, Ug, Uh, q2c, q2d⟩ := X4 (told := fun _ => none) (l.length + 35) e1 σ (x := x) (by grind [a_, bindArgs]) hl
 have I : Nat.xor u 4294967295 < 4294967296 := nZ hu (by omega)
 have J : ∃ e', ev ⟨Tryz.prog, fun _ => none⟩ (5 + 30 + l.length) (.loop jM) ⟨e2, 34, σ⟩ = some (.exit 0, ⟨e', 34, σ⟩) ∧ T.get e' 5 = some (.int .u32 ((crcL (Nat.xor u 4294967295) l : Nat) : Int)) := by
  rcases hx with rfl | ⟨id, off, cap, rfl, jK⟩
  ·have q3 := HO (told := fun _ => none) 32 e2 σ q2c Uh
   have hd : decide ((((0 : Nat) : Int)) < (len : Int)) = false := by grind
   rw [hd] at q3
   refine ⟨e2.set 13 (some (.bool false)), ?_, by simp [a_, q2d, q1a, crcL]⟩
   refine tD ?_
   rw [yB, j6 q3]
   exact uW (by rw [vS (t := false) (by simp [evO, Env.v, a_])]; rfl)
  ·exact ME σ kZ l 0 5 e2 _ (by omega) I hb jK (by grind) q2c Ug Uh
 obtain ⟨e3, q3, XZ⟩ := J
 obtain ⟨e4, q4, XX⟩ := VL (told := fun _ => none) (l.length + 35) e3 σ (EO l _ I hb) XZ
 have aag : ev ⟨Tryz.prog, fun _ => none⟩ (l.length + 40) jR ⟨bindArgs [.int .u32 u, x] 0 .lf, 34, σ⟩ = some (.ret, ⟨e4, 34, σ⟩) := by
  rw [R7, j6 q0, j6 q1, j6 (s' := ⟨e3, 34, σ⟩) (by
   rw [j6 q2]
   grind [xM]), q4]
 unfold run callF
 simp only [CO]
 rw [show Tryz.f211.body = some jR from rfl]
 rw [show (Tryz.f211.name == "runtime.NumGoroutine" || Nat.blt Tryz.f211.ntmps [V.int .u32 (u : Int), x].length) = false from rfl]
 simp only [aS]
 rw [show Tryz.f211.ntmps = 34 from rfl, aag]
 simp only
 rw [show Tryz.f211.results = #[.tmp 4] from rfl]
 simp only [mapO, resV, Env.v, XX, vR, dm]
section
variable {c:Ctx}
theorem J4 (hP:C.P=Tryz.prog)(hm:C.P.follows .mixedOrders=true){v:V}(J:toldMore args σ=some (v,dM))(h:Rel c σ w)(hw:∀x∈args,wf c x):
  jm C.P 211 args c w v dM:=by
 rw[hP] at hm ⊢
 have hT:gP ⟨Tryz.prog,fun _=>none⟩:=fun f g hg=>by cases hg
 unfold toldMore at J
 split at J
 ·rename_i s id off len cap
  cases OW:(decide (0≤s)&&decide (s<4294967296)&&Nat.ble len 4611686018427387904) with
  |false=>grind
  |true =>
   rw[OW,ag] at J
   simp only[bF,i_,aP] at OW
   obtain⟨I,kZ⟩:=OW
   cases jK:rdN σ id off len with
   |none=>grind
   |some cs =>
    simp only[jK] at J
    cases hb:bytesIn cs with
    |none=>grind
    |some l =>
     simp only[hb,aD,bG] at J
     obtain⟨rfl,rfl⟩:=J
     obtain⟨b1,b2⟩:=MF cs l hb
     obtain⟨d1,d2⟩:=VI h jK
     have hl:len=l.length:=by grind
     refine HL (C:=⟨Tryz.prog,fun _=>none⟩) hm hT (BV I.1 I.2 (len:=len) (by simp[lenV,ak]) hl (by omega) b2 (.inr ⟨id,off,cap,rfl,fun j b hj => ?_⟩)) h hw
     ·grind
 ·rename_i s
  cases I:(decide (0≤s)&&decide (s<4294967296)) with
  |false=>grind
  |true =>
   rw[I,ag] at J
   simp only[bF,i_] at I
   obtain⟨rfl,rfl⟩:=J
   exact HL (C:=⟨Tryz.prog,fun _=>none⟩) hm hT (BV I.1 I.2 (len:=0) (l:=[]) (by simp[lenV,ak]) rfl (by omega) (by simp) (.inl rfl)) h hw
 ·rename_i s _
  cases I:(decide (0≤s)&&decide (s<4294967296)) with
  |false=>grind
  |true =>
   rw[I,ag] at J
   simp only[bF,i_] at I
   obtain⟨rfl,rfl⟩:=J
   exact HL (C:=⟨Tryz.prog,fun _=>none⟩) hm hT (BV I.1 I.2 (len:=0) (l:=[]) (by simp[lenV,ak]) rfl (by omega) (by simp) (.inl rfl)) h hw
 ·cases J
end
end Go.Proofs.YtdonpgpfplgigaaGreat.Am
namespace Go.Proofs.YtdonpgpfplgigaaGreat.Am
open Go Go.Maps Go.RowKit
variable {ps:Array (Nat×Operand)} {ops:Array Oper} {st:Bool} {C:fB} {code:Code} {c₀:Ctx} {env:Env} {Q:Ex→List (Nat×V)→H→Prop} {fn:Func} {cl:Go.Call} {h h' σ h₁ dM:H} {κ:IntKind} {E E':List (Nat×V)} {R:List (Nat×V)→H→Prop} {d₀:List Deferred} {hs:List H} {eu es l:List Nat} {L rest:List Oper} {args first cap vs cs ds:List V} {a b i c k id n d off j g sr k' q:Nat} {Hs:Nat→H} {early:Nat→Option (Nat×FV)} {Fl:Nat→Prop} {vv:Nat→V} {o':Obj} {x y:Operand} {P:Program} {φ:Prop} {self:Self} {s':St} {α:Type} {td:TypeDesc} {t t' e kt et:TypeId} {r u z:V} {yy:V→H→Prop} {w₀ w:World}
def keyInts : List (V×V×Nat)→Option (List Int)
 |[]=>some []
 |(.int .i64 n,_,_)::l=>cond (Lit.int .i64 n).wf (match keyInts l with
  |some m=>some (n::m)
  |none=>none) none
 |_=>none
def bornUp (clock:Nat): Nat→List (V×V×Nat)→Bool
 |_,[]=>true
 |b,(_,_,x)::l=>cond (Nat.ble b x&&Nat.blt x clock) (bornUp clock (x+1) l) false
def insI (x:Int): List Int→List Int
 |[]=>[x]
 |y::l=>cond (decide (x≤y)) (x::y::l) (y::insI x l)
def mR : List Int→List Int
 |[]=>[]
 |x::l=>insI x (mR l)
def rj : List Int→Bool
 |[]=>true
 |x::l=>l.all (fun y=>decide (x<y))&&rj l
def iF (l:List Int): List V:=l.map (V.int .i64)
noncomputable def toldSorted (gs:List Nat): List V→H→Option (V×H)
 |[.fn (.func g) [] [.ptr b 0]],h=>match h.tr.get b with
  |some (.cells n [.map id] false)=>match h.tr.get id with
   |some (.map es clock)=>cond (Nat.beq n 1&&wE gs g&&bornUp clock 0 es&&Nat.ble es.length 1048576) (match keyInts es with
    |some ks=>cond (rj (mR ks)) (match ks with
     |[]=>some (.aV,h)
     |_=>some (.sl h.next 0 ks.length (.rest 1 0),newRow h (iF (mR ks)))) none
    |none=>none) none
   |_=>none
  |_=>none
 |_,_=>none
theorem yC (x:Int): ∀l:List Int,(insI x l).Perm (x::l)
 |[]=>.refl _
 |y::l=>by
  simp only[insI]
  cases decide (x≤y) with
  |true=>rfl
  |false=>exact((yC x l).cons y).trans (.swap x y l)
theorem gX : ∀l:List Int,(mR l).Perm l
 |[]=>.refl _
 |x::l=>(yC x _).trans ((gX l).cons x)
theorem FZ : ∀l:List Int,rj l=true→l.Pairwise (· < ·)
 |[],_=>.nil
 |x::l,h=>by
  simp only[rj,bF,mJ,i_] at h
  exact List.pairwise_cons.2 ⟨h.1,FZ l h.2⟩
theorem vT : ∀ {l m:List Int},l.Perm m→l.Pairwise (· ≤ ·)→m.Pairwise (· ≤ ·)→l=m
 |[],m,I,_,_=>I.nil_eq
 |a::r,[],I,_,_=>absurd I.symm.nil_eq (by simp)
 |a::r,b::s,I,h1,h2=>by
  obtain⟨a1,a2⟩:=List.pairwise_cons.1 h1
  obtain⟨b1,b2⟩:=List.pairwise_cons.1 h2
  have J:a=b:=by
   have ha:a∈b::s:=I.mem_iff.1 (by simp)
   have hb:b∈a::r:=I.mem_iff.2 (by simp)
   grind
  subst J
  rw[vT (List.Perm.cons_inv I) a2 b2]
theorem F0 {clock:Nat}: ∀(l:List (V×V×Nat)) (b:Nat),bornUp clock b l=true→(∀x∈l,b≤x.2.2∧x.2.2<clock)∧(l.map (·.2.2)).Nodup
 |[],_,_=>⟨by simp,by simp⟩
 |(k,v,x)::l,b,h=>by
  simp only[bornUp] at h
  cases I:(Nat.ble b x&&Nat.blt x clock) with
  |false=>grind
  |true =>
   rw[I,ag] at h
   simp only[bF,aP,eO] at I
   obtain⟨i1,i2⟩:=F0 l (x+1) h<;>grind
theorem CV {c:Ctx}: ∀(l:List (V×V×Nat)) (ks:List Int),keyInts l=some ks→l.map (fun x=>conc c x.1)=ks.map (Value.int .i64)∧∀n∈ks,(Lit.int .i64 n).wf=true
 |[],ks,h=>by grind[keyInts]
 |(k,v,b)::l,ks,h=>by
  unfold keyInts at h
  split at h
  ·grind
  ·rename_i n v' b' I he
   obtain⟨⟨rfl,rfl,rfl⟩,rfl⟩:=he
   cases hw:(Lit.int .i64 n).wf with
   |false=>grind
   |true =>
    cases hm:keyInts l with
    |none=>grind
    |some m =>
     simp[hw,hm] at h
     obtain⟨i1,i2⟩:=CV (c:=c) l m hm<;>grind[conc]
  ·cases h
section
variable {c:Ctx} {w':World}
theorem Rel.below (h:Rel c σ w)(I:Below w.heap.size w w'): Rel c σ w'∧cI c w c w':=by
 have rows:∀b,b<w.heap.size→rowSize w' b=rowSize w b:=fun b J=>by unfold rowSize;rw[I.block b J]
 refine⟨⟨h.next,h.live,fun id hi=>iZ (h.mU id hi) I.size,fun id hi=>by rw[rows _ (h.mU id hi)];exact h.zz id hi,h.inj,
  fun id o ho=>(h.obj id o ho).later (Ext.refl c) (h.live id o ho) (I.block _ (h.mU id (h.live id o ho))),h.one,h.fx⟩,
  ⟨Ext.refl c,I.size,rows,fun b J _=>I.block b J,fun id h1 h2=>by omega,I.os,I.output⟩⟩
theorem Rel.take {C:Array Value}{T:TypeId}(h:Rel c σ w)(hb:b<w.heap.size)(hr:∀id,id<c.N→(c.ρ id).1≠b)(J:∀v∈cs,wf c v∧storable v=true)
 (hg:w.heap[b]?=some (.cells C T (0,0)))(hC:C.toList.take cs.length=cs.map (conc c)): Rel (c.grow b 0 C.size) (Am.newRow σ cs) w:=by
 have e:=qO hr 0 C.size
 have hN:(c.grow b 0 C.size).N=c.N+1:=rfl
 have hle:cs.length≤C.size:=by
  have:=dn List.length hC
  simp at this
  omega
 have key:∀i o,(Am.newRow σ cs).tr.get i=some o→(i=c.N∧o=.cells cs.length cs false)∨(i<c.N∧σ.tr.get i=some o):=by
  intro i o hi
  rw[Am.newRow,hO,h.next] at hi
  by_cases h1:i=c.N
  ·grind
  ·simp[h1] at hi;exact .inr ⟨h.live i o hi,hi⟩
 refine⟨by simp[Am.newRow,H.new,Ctx.grow,h.next],fun i o hi => ?_,fun i hi => ?_,fun i hi => ?_,fun i j o o' hi hj he => ?_,fun i o hi => ?_,fun i xG oW hi hx => ?_,fun i o hi hx => ?_⟩
 ·grind
 ·by_cases h1:i=c.N
  ·grind[bC]
  ·rw[c_ c _ _ _ (by omega)];exact h.mU i (by omega)
 ·by_cases h1:i=c.N
  ·grind[Ctx.grow,rowSize]
  ·rw[c_ c _ _ _ (by omega),←h.zz i (by omega)];simp[Ctx.grow,hr i (by omega)]
 ·rcases key i o hi with⟨I,_⟩|⟨I,a2⟩<;>rcases key j o' hj with⟨b1,_⟩|⟨b1,b2⟩
  ·omega
  ·grind[bC,c_]
  ·grind[bC,c_]
  ·rw[c_ c _ _ _ I,c_ c _ _ _ b1] at he;rw[fZ c _ _ _ I,fZ c _ _ _ b1];exact h.inj i j _ _ a2 b2 he
 ·rcases key i o hi with⟨rfl,rfl⟩|⟨I,a2⟩
  ·refine⟨rfl,fun v hv=>⟨(cA e v (J v hv).1).2,(J v hv).2⟩,C,T,(0,0),by rw[bC];exact hg,by grind[bC],fun j v hj => ?_,rfl⟩
   rw[bC,(cA e v (J v (aR hj)).1).1]
   have h1:(C.toList.take cs.length)[j]?=some (conc c v):=by grind
   grind
  ·exact(h.obj i o a2).later e I rfl
 ·rcases key i _ hi with⟨rfl,_⟩|⟨I,a2⟩
  ·rw[bC]
  ·rw[fZ c _ _ _ I] at hx
   rw[c_ c _ _ _ I];exact h.one i xG oW a2 hx
 ·rcases key i o hi with⟨rfl,_⟩|⟨I,a2⟩
  ·grind[wG]
  ·rw[fZ c _ _ _ I] at hx;exact h.fx i o a2 hx
def oa (_:Value): Option (DataW Unit×List MemPlace):=some (.nil,[])
def F1 (P:Program)(f K:Nat)(gs:List Nat): Prop:=∀g∈gs,∀(Bm b nn:Nat) (I:DataW Unit) (w:World),Bm<w.heap.size→w.cell? ⟨Bm,0,none⟩=some (.map (some b)) →
 w.ownsMap P K oa b nn I→Maps.size I≤maxLen→Maps.size I*8≤140737488355328 →
 Calls P f #[.func (.func g) #[] #[.pointer (some ⟨Bm,0,none⟩)]] w fun e w'=>∃(v:Value) (J:List Int),e=.returned v∧J.Perm (intKeys I) ∧
  w'.ownsRow w.heap.size K 1 v J.length ((J.mergeSort (fun x y=>decide (x≤y))).map encZ)∧(v=.slice none 0 0↔J=[])∧Below w.heap.size w w'
theorem GP {f K:Nat}{gs:List Nat}(hK:P.underlying K=some (.int .i64))(hS:F1 P f K gs){v:V}(I:toldSorted gs args σ=some (v,dM))
 (h:Rel c σ w): jm P f args c w v dM:=by
 unfold toldSorted at I
 split at I
 ·rename_i g b
  split at I
  ·rename_i n id Uj
   split at I
   ·rename_i es clock hgm
    cases hq:(Nat.beq n 1&&wE gs g&&bornUp clock 0 es&&Nat.ble es.length 1048576) with
    |false=>grind
    |true =>
     rw[hq,ag] at I
     simp only[bF,beq_iff,aP,BT] at hq
     obtain⟨⟨⟨q1,q2⟩,q3⟩,q4⟩:=hq
     subst q1
     cases hk:keyInts es with
     |none=>grind
     |some ks =>
      simp only[hk] at I
      cases J:rj (mR ks) with
      |false=>grind
      |true =>
       simp only[J,ag] at I
       obtain⟨k1,k2⟩:=CV (c:=c) es ks hk
       obtain⟨b1,b2⟩:=F0 es 0 q3
       have cV:=FZ _ J
       have gW:ks.Nodup:=(gX ks).nodup_iff.1 (cV.imp fun {a b} my=>by omega)
       have Uk:=h.one b _ _ Uj (h.EA Uj (by simp))
       have pI:=cell_of h Uj (j:=0) (v:=.map id) rfl
       have aby:gV c b 0=⟨(c.ρ b).1,0,none⟩:=by simp[gV,Uk]
       rw[aby] at pI
       have X5:w.cell? ⟨(c.ρ b).1,0,none⟩=some (.map (some (c.ρ id).1)):=by simpa[conc] using pI
       obtain⟨m1,m2⟩:=h.obj id _ hgm
       have GY:∀x∈es,∃n,n∈ks∧(cu c x).key=.int .i64 n:=fun x hx=>by
        have:conc c x.1∈ks.map (Value.int .i64):=by grind
        obtain⟨n,hn,he⟩:=List.mem_map.1 this
        exact⟨n,hn,he.symm⟩
       have jK:∀x∈es,∀n,(cu c x).key=.int .i64 n→n∈ks→WideElems.rd P K oa (cu c x)=some (.int .i64 n,.nil):=fun x hx n hn hm=>by
        grind[WideElems.rd,Maps.keyOf_int_mk,oa]
       have abz:w.ownsMap P K oa (c.ρ id).1 es.length (.map (((es.map (cu c)).toArray.toList.map (WideElems.rg P K oa)).foldr DataW.insert [])):=by
        refine⟨(es.map (cu c)).toArray,clock,m2,⟨by simp[maxLen];omega,⟨fun x hx => ?_,?_,?_⟩,fun x hx => ?_⟩,by simp,rfl⟩
        ·simp only[List.mem_map] at hx
         obtain⟨y,hy,rfl⟩:=hx
         exact(b1 y hy).2
        ·grind[cu]
        ·have:(es.map (cu c)).toArray.toList.map (·.key)=ks.map (Value.int .i64):=by simp_all[cu,Function.comp_def]
         grind
        grind
       have fM:Maps.size (H:=Unit) (.map (((es.map (cu c)).toArray.toList.map (WideElems.rg P K oa)).foldr DataW.insert []))=es.length:=by
        rw[Maps.size_eq,(WideShapes.sorted_perm _).length_eq];simp
       have CX:(intKeys (H:=Unit) (.map (((es.map (cu c)).toArray.toList.map (WideElems.rg P K oa)).foldr DataW.insert []))).Perm ks:=by
        refine((WideShapes.sorted_perm _).map _).trans ?_
        have:(((es.map (cu c)).toArray.toList.map (WideElems.rg P K oa)).map fun p=>intOf p.1)=ks:=by
         have pP:∀x∈es,Value.int .i64 (intOf (WideElems.rg P K oa (cu c x)).1)=conc c x.1:=fun x hx=>by
          obtain⟨n,hn,he⟩:=GY x hx
          rw[WideElems.rg_of (jK x hx n he hn)]
          exact he.symm
         have h1:((((es.map (cu c)).toArray.toList.map (WideElems.rg P K oa)).map fun p=>intOf p.1).map (Value.int .i64))=ks.map (Value.int .i64):=by
          grind[List.map_congr_left]
         grind[List.map_inj_right]
        rw[this]
       have aah:=hS g q2 (c.ρ b).1 (c.ρ id).1 es.length _ w (h.mU b (h.live b _ Uj)) X5 abz (by rw[fM];simp[maxLen];omega) (by omega)
       have GZ:([V.fn (.func g) [] [.ptr b 0]].map (conc c)).toArray = #[.func (.func g) #[] #[.pointer (some ⟨(c.ρ b).1,0,none⟩)]]:=by simp[conc,concL,Uk]
       unfold jm
       rw[GZ]
       refine aah.mono ?_
       rintro e w' ⟨rv,ss,rfl,s1,s2,s3,s4⟩
       obtain⟨g1,g2⟩:=h.below s4
       have hss:ss.Perm ks:=s1.trans CX
       have hms:ss.mergeSort (fun x y=>decide (x≤y))=mR ks:=by
        refine vT (((List.mergeSort_perm ss _).trans hss).trans (gX ks).symm) ?_ (cV.imp fun {a b} my=>by omega)<;>grind[List.pairwise_mergeSort]
       rw[hms] at s2
       split at I
       ·-- no key
        have yt:ss=[]:=by simp_all
        grind[conc,wf]
       ·obtain⟨rfl,rfl⟩:=I
        have adz:ss≠[]:=fun e=>by
         simp_all
        have iI:ss.length=ks.length:=hss.length_eq
        rcases s2.2 with⟨e1,_⟩|⟨gb,cap,cur,rfl,l1,l2,l3,l4,l5,l6⟩
        ·grind
        have abA:gb<w'.heap.size:=(Array.getElem?_eq_some_iff.1 l2).1
        have Br:∀i,i<c.N→(c.ρ i).1≠gb:=fun i hi e=>by have:=h.mU i hi;omega
        have ko:∀x∈iF (mR ks),wf c x∧storable x=true:=fun x hx=>by
         obtain⟨n,_,rfl⟩:=List.mem_map.1 hx<;>grind[wf,storable]
        have yD:(iF (mR ks)).length=ks.length:=by simp[iF,(gX ks).length_eq]
        have aai:cur.toList.take (iF (mR ks)).length=(iF (mR ks)).map (conc c):=by
         simp_all[iF,conc]
        have R:=g1.take abA Br ko l2 aai
        have pK:(c.grow gb 0 cur.size).room σ.next 0 1=cap:=by
         simp only[Ctx.room,h.next,Ctx.grow,cT]
         simp[l5]
        refine⟨c.grow gb 0 cur.size,?_,?_,R,g2.GV Br l1⟩
        ·simp only[conc,pK]
         simp[h.next,Ctx.grow,iI]
        ·exact⟨by rw[h.next];simp[Ctx.grow],aM _,by omega⟩
   ·cases I
  ·cases I
 ·cases I
end
end Go.Proofs.YtdonpgpfplgigaaGreat.Am
namespace Go.Proofs.YtdonpgpfplgigaaGreat.Am
open Go
variable {ps:Array (Nat×Operand)} {ops:Array Oper} {st:Bool} {C:fB} {code:Code} {c₀:Ctx} {env:Env} {Q:Ex→List (Nat×V)→H→Prop} {fn:Func} {cl:Go.Call} {h h' σ h₁ dM:H} {κ:IntKind} {E E':List (Nat×V)} {R:List (Nat×V)→H→Prop} {d₀:List Deferred} {hs:List H} {eu es l:List Nat} {L rest:List Oper} {args first cap vs cs ds:List V} {a b i c k id n d off j g sr k' q:Nat} {Hs:Nat→H} {early:Nat→Option (Nat×FV)} {Fl:Nat→Prop} {vv:Nat→V} {o':Obj} {x y:Operand} {P:Program} {φ:Prop} {self:Self} {s':St} {α:Type} {td:TypeDesc} {t t' e kt et:TypeId} {r u z:V} {yy:V→H→Prop} {w₀ w:World}
abbrev pQ := List (Nat×List V×List V)
noncomputable def resOf (P:Program)(s:St)(rs:List ResultVar): Option V:=match mapO (resV P s) rs with
 |some [v]=>some v
 |some vs=>some (.aW vs)
 |none=>none
noncomputable def evOpsD (C:fB)(self:Self)(L:List Oper): List Oper→St→pQ→Option (St×pQ)
 |[],s,d=>some (s,d)
 |o::rest,s,d=>match o.op with
  |.defer cl=>match o.guard,o.dst,cl.callee,evArgs s.env cl.args.toList with
   |none,none,.value x,some args=>match evO s.env x with
    |some (.fn (.func g) first cap)=>evOpsD C self L rest s ((g,first++args,cap)::d)
    |_=>none
   |_,_,_,_=>none
  |_=>cond (wantedV L s.env o)
   (match evOp C self s.env s.h o with
    |some (v,h)=>match s.put o.dst v h with
     |some s'=>evOpsD C self L rest s' d
     |none=>none
    |none=>none)
   (match s.put o.dst ct s.h with
    |some s'=>evOpsD C self L rest s' d
    |none=>none)
noncomputable def evTop (C:fB)(n:Nat): Nat→Code→St→pQ→Option (Ex×St×pQ)
 |0,_,_,_=>none
 |m+1,c,s,d=>match c with
  |.seq a b=>match evTop C n m a s d with
   |some (.normal,s',I)=>evTop C n m b s' I
   |r=>r
  |.region _ ops false=>match evOpsD C (ev C n) ops.toList ops.toList s d with
   |some (s',I)=>some (.normal,s',I)
   |none=>none
  |c=>match ev C n c s with
   |some (ex,s')=>some (ex,s',d)
   |none=>none
def quietParts : Code→Option (Nat×Nat×Code)
 |.seq (.region _ ops false) rest=>match ops.toList with
  |[I,J]=>match I.op,I.guard,I.dst,J.op,J.guard,J.dst with
   |.call cl,none,some sr,.assign (.tmp t),none,some X6=>match cl.callee,cl.args.toList with
    |.builtin .recover,[]=>cond (Nat.beq t sr) (some (sr,X6,rest)) none
    |_,_=>none
   |_,_,_,_,_,_=>none
  |_=>none
 |_=>none
noncomputable def defCall (C : fB) (n : Nat) (g : Nat) (args : List V) (h : H) : Option H := match C.P.funcs[g]? with
 | none => none
 | some fn => match fn.body with
  | none => none
  | some code => match quietParts code with
   | some (sr, I, rest) => cond (Nat.blt sr fn.ntmps && Nat.blt I fn.ntmps && Nat.ble args.length fn.ntmps && !(fn.name == "runtime.NumGoroutine"))
    (match ev C n rest ⟨((bindArgs args 0 .lf).set sr (some .nU)).set I (some .nU), fn.ntmps, h⟩ with
     | some (.normal, s) | some (.ret, s) => match resOf C.P s fn.results.toList with
      | some _ => some s.h
      | none => none
     | _ => none) none
   | none => match callF C (ev C n) g args h with
    | some (_, h') => some h'
    | none => none
noncomputable def runDefs (C:fB)(n:Nat): pQ→H→Option H
 |[],h=>some h
 |(g,args,cap)::d,h=>match C.told g with
  |some _=>none
  |none=>match defCall C n g (args++cap) h with
   |some h'=>runDefs C n d h'
   |none=>none
noncomputable def toldDefer (C:fB)(n f:Nat)(args:List V)(h:H): Option (V×H):=match C.P.funcs[f]? with
 |none=>none
 |some fn=>match fn.body with
  |none=>none
  |some c=>cond (Nat.blt fn.ntmps args.length) none (match evTop C n 1000 c ⟨bindArgs args 0 .lf,fn.ntmps,h⟩ [] with
   |some (.exit _,_,_)=>none
   |some (_,s,d)=>match runDefs C n d s.h with
    |some h'=>match resOf C.P ⟨s.env,s.aB,h'⟩ fn.results.toList with
     |some v=>some (v,h')
     |none=>none
    |none=>none
   |none=>none)
section
variable {c:Ctx}
theorem BW {s:St}{a:Act}{v:V}(h:Rel c s.h w)(he:eF c s.env s.aB a)(J:resOf P s fn.results.toList=some v):
  (results fn a.tmps).run P w=.ok (conc c v) w∧wf c v:=by
 unfold resOf at J
 cases I:mapO (resV P s) fn.results.toList with
 |none=>grind
 |some vs =>
  obtain⟨q1,q2⟩:=CH h he I
  rw[q1]
  rcases vs with _|⟨v0,_|⟨v1,vs⟩⟩<;>grind[conc,wf,gy,jx]
structure qP (c:Ctx)(d:pQ)(ds:List Deferred): Prop where
 eq:ds=d.map fun x=>{ target:=.fn (.func x.1) (x.2.2.map (conc c)).toArray,args:=(x.2.1.map (conc c)).toArray }
 F2:∀x∈d,(∀v∈x.2.1,wf c v)∧∀v∈x.2.2,wf c v
theorem qP.ext {c':Ctx}{d:pQ}{ds:List Deferred}(h:qP c d ds)(e:Ext c c'): qP c' d ds where
 eq:=by
  rw[h.eq]
  refine vq fun x I => ?_
  rw[(mZ e (h.F2 x I).1).1,(mZ e (h.F2 x I).2).1]
 F2:=fun x I=>⟨(mZ e (h.F2 x I).1).2,(mZ e (h.F2 x I).2).2⟩
theorem OX {a:Act}(he:eF c env n a): ∀(l:List Operand) (vs:List V),evArgs env l=some vs→l.map a.eval=vs.map (conc c)∧∀v∈vs,wf c v:=by
 intro l
 induction l<;>grind[evArgs,Cx]
theorem OY (hS:jy C.P self)(hT:gP C){Q:Exit→Act→World→Prop}: ∀(l:List Oper) (k:Nat) (s s':St) (d d':pQ) (c:Ctx) (a:Act) (w:World),
  (∀j,l[j]?=ops[k+j]?)→evOpsD C self ops.toList l s d=some (s',d')→Rel c s.h w→eF c s.env s.aB a→qP c d a.defers →
  (∀c' a' w',Rel c' s'.h w'→eF c' s'.env s'.aB a'→cI c w c' w'→qP c' d' a'.defers→Q .normal a' w') →
  wpOpsIn (Fr none) 0 C.P ops Q (List.range' k l.length) a w:=by
 intro l
 induction l with
 |nil =>
  grind[evOpsD,wpOpsIn,cI.refl]
 |cons o l ih =>
  intro k s s' d d' c a w hl I h he hd hQ
  have h0:ops[k]?=some o:=by simpa using(hl 0).symm
  have Bx:∀j,l[j]?=ops[k+1+j]?:=fun j=>by have:=hl (j+1);grind
  simp only[aZ,Es,wpOpsIn,h0]
  rw[CK he]
  have common:(cond (wantedV ops.toList s.env o)
    (match evOp C self s.env s.h o with
     |some (v,h)=>match s.put o.dst v h with
      |some s'=>evOpsD C self ops.toList l s' d
      |none=>none
     |none=>none)
    (match s.put o.dst ct s.h with
     |some s'=>evOpsD C self ops.toList l s' d
     |none=>none))=some (s',d') →
    (if wantedV ops.toList s.env o=true then o.wpIn (Fr none) 0 C.P a w (wpOpsIn (Fr none) 0 C.P ops Q (List.range' (k+1) l.length)) Q else(∀f,o.about C.P w a.eval=some f→(Fr none).fn f)∧wpOpsIn (Fr none) 0 C.P ops Q (List.range' (k+1) l.length) (a.put o.dst undef) w):=by
   intro I
   cases hw:wantedV ops.toList s.env o with
   |true =>
    rw[hw,ag] at I
    cases ho:evOp C self s.env s.h o with
    |none=>grind
    |some r =>
     obtain⟨v,dM⟩:=r
     simp only[ho] at I
     cases hp:s.put o.dst v dM with
     |none=>grind
     |some J =>
      simp only[hp] at I
      refine(AO hS hT h (he.KJ o) ho).wpIn (m8 ho) ?_
      intro c' w' r1 r2 r3
      obtain⟨p1,p2,p3⟩:=St.Cv (he.ext r2.ext) r3 hp
      refine ih (k+1) J s' d d' c' _ w' Bx I (by grind) p1 (by rw[put_defers];exact hd.ext r2.ext) ?_
      intro HB HC HD q1 q2 q3 q4
      exact hQ HB HC HD q1 q2 (r2.trans q3) q4
   |false =>
    refine⟨fun _ _=>trivial,?_⟩
    cases hp:s.put o.dst ct s.h with
    |none=>grind
    |some J =>
     obtain⟨p1,p2,p3⟩:=St.Cv he (show wf c ct by simp[ct,wf,fY]) hp<;>grind[r_,put_defers]
  unfold evOpsD at I
  split at I
  ·rename_i cl ff
   split at I
   ·rename_i x args hg RG ac0 GZ
    split at I
    ·rename_i g first cap Ul
     have aaj:wantedV ops.toList s.env o=true:=by simp[wantedV,hg]
     simp only[aaj,cT]
     obtain⟨e1,e2⟩:=OX he _ _ GZ
     obtain⟨f1,f2⟩:=Cx he Ul
     have fw:(∀x∈first,wf c x)∧(∀x∈cap,wf c x):=by
      grind[wf,jx]
     have yn:(execOp a.eval o).run C.P w=.ok (.defer { target:=.fn (.func g) (cap.map (conc c)).toArray,args:=((first++args).map (conc c)).toArray }) w:=by
      simp_all[conc,gy,execOp,resolve,Deferred.ofValue]
     refine⟨fun _ _=>trivial,?_⟩
     rw[show(Fr none).round=none from rfl,Oper.semAt_none,yn]
     simp only[Oper.uponIn,RG,Act.put]
     refine ih (k+1) s s' ((g,first++args,cap)::d) d' c _ w Bx I h ⟨he.size,he.val,he.Cu⟩ ⟨by simp[hd.eq],fun x hx => ?_⟩ ?_
     ·rcases List.mem_cons.1 hx with rfl|hx
      ·grind
      ·exact hd.F2 x hx
     ·omega
    ·cases I
   ·cases I
  ·grind
theorem R8 (hm:C.P.follows .mixedOrders=true)(hT:gP C): ∀(m:Nat) (code:Code) (s:St) (d:pQ) (ex:Ex) (s':St) (d':pQ),evTop C n m code s d=some (ex,s',d') →
  ∀(c:Ctx) (a:Act) (w:World),Rel c s.h w→eF c s.env s.aB a→qP c d a.defers →
   code.wp C.P (fun e a' w'=>e=exOf ex∧∃c',Rel c' s'.h w'∧eF c' s'.env s'.aB a'∧cI c w c' w'∧qP c' d' a'.defers) a w:=by
 have hS:=(AS (C:=C) hm hT n).1
 intro m
 induction m with
 |zero=>grind[evTop]
 |succ m ih =>
  intro code s d ex s' d' J c a w h he hd
  have rest:(match ev C n code s with
    |some (ex,s')=>some (ex,s',d)
    |none=>none)=some (ex,s',d')→code.wp C.P (fun e a' w'=>e=exOf ex∧∃c',Rel c' s'.h w'∧eF c' s'.env s'.aB a'∧cI c w c' w'∧qP c' d' a'.defers) a w:=by
   intro J
   cases uj:ev C n code s with
   |none=>grind
   |some r =>
    rw[uj] at J
    obtain⟨rfl,rfl,rfl⟩:=J
    refine Code.wp_mono ?_ (hS _ _ _ _ uj c a w h he)
    rintro e a' w' ⟨rfl,q2,c',q3,q4,q5⟩
    exact⟨rfl,c',q3,q4,q5,by rw[q2];exact hd.ext q5.ext⟩
  unfold evTop at J
  split at J
  ·rename_i x y
   cases hx:evTop C n m x s d with
   |none=>grind
   |some r =>
    obtain⟨FQ,I,sr⟩:=r
    rw[hx] at J
    refine wp_seq (Code.wp_mono ?_ (ih x s d FQ I sr hx c a w h he hd))
    rintro e Hz yq ⟨rfl,c₁,q3,q4,q5,q6⟩
    cases FQ with
    |normal =>
     refine Code.wp_mono ?_ (ih y I sr ex s' d' J c₁ Hz yq q3 q4 q6)
     rintro e aaa aab ⟨rfl,c₂,p3,p4,p5,p6⟩
     exact⟨rfl,c₂,p3,p4,q5.trans p5,p6⟩
    |exit i =>
     obtain⟨rfl,rfl,rfl⟩:=J
     exact⟨rfl,c₁,q3,q4,q5,q6⟩
    |ret =>
     obtain⟨rfl,rfl,rfl⟩:=J
     exact⟨rfl,c₁,q3,q4,q5,q6⟩
  ·rename_i id ops
   cases hx:evOpsD C (ev C n) ops.toList ops.toList s d with
   |none=>grind
   |some r =>
    obtain⟨I,sr⟩:=r
    rw[hx] at J
    simp only[aD,bG] at J
    obtain⟨rfl,rfl,rfl⟩:=J
    refine wpIn_wide.1 (show(Code.region id ops false).wpIn (Fr none) 0 C.P _ a w from wpIn_region ?_)
    rw[List.range_eq_range',←Eh]
    exact OY (OQ (C:=C) hm hT n).1 hT ops.toList 0 s I d sr c a w (fun j=>by simp) hx h he hd fun c' a' w' r1 r2 r3 r4=>⟨rfl,c',r1,r2,r3,r4⟩
  ·grind
theorem R9 (hm : C.P.follows .mixedOrders = true) (hT : gP C) {v : V} (hg : C.told g = none) (I : callF C (ev C n) g args σ = some (v, dM)) (h : Rel c σ w) (hw : ∀ x ∈ args, wf c x) :
  CallsD C.P g (args.map (conc c)).toArray .returning w (fun e u' w' => u' = .returning ∧ (∃ x, e = .returned x) ∧ ∃ c', Rel c' dM w' ∧ cI c w c' w') ∧ ∀ (x : Array Value) (w : World), (callFunc g x).run C.P w = .ok (.enter g x) w := by
 have hS := (AS (C := C) hm hT n).1
 have hen := (callF_ok hS hT I h hw).2
 unfold callF at I
 rw [hg] at I
 simp only at I
 cases hf : C.P.funcs[g]? with
 | none => grind
 | some fn =>
  simp only [hf] at I
  cases hb : fn.body with
  | none => grind
  | some code =>
   simp only [hb] at I
   cases hq : (fn.name == "runtime.NumGoroutine" || Nat.blt fn.ntmps args.length) with
   | true => grind
   | false =>
    simp only [Bool.or_eq_false_iff] at hq
    have hle : args.length ≤ fn.ntmps := by
     grind [eO]
    have J := pL (c := c) hle hw
    have done : ∀ ex s, ev C n code ⟨bindArgs args 0 .lf, fn.ntmps, σ⟩ = some (ex, s) → (ex = .normal ∨ ex = .ret) →
      (match mapO (resV C.P s) fn.results.toList with
       | some [v] => some (v, s.h)
       | some vs => some (.aW vs, s.h)
       | none => none) = some (v, dM) →
      CallsD C.P g (args.map (conc c)).toArray .returning w (fun e u' w' => u' = .returning ∧ (∃ x, e = .returned x) ∧ ∃ c', Rel c' dM w' ∧ cI c w c' w') := by
     intro ex s hs hex hmr
     have Xs := hS code _ ex s hs c _ w h J
     have rO : resOf C.P s fn.results.toList = some v ∧ s.h = dM := by
      grind [resOf]
     have OZ := callsD_of_wp (u := .returning) (R := fun e w' => (∃ x, e = .returned x) ∧ ∃ c', Rel c' dM w' ∧ cI c w c' w') hf hb (Code.wp_mono (Q' := bodyPost C.P fn fun e w' => (∃ x, e = .returned x) ∧ ∃ c', Rel c' dM w' ∧ cI c w c' w') ?_ Xs)
     ·omega
     ·rintro e a' w' ⟨rfl, hd, c', r1, r2, r3⟩
      have GU : a'.defers = [] ∧ ∃ x, (results fn a'.tmps).run C.P w' = .ok x w' ∧ (∃ y, Ending.returned x = .returned y) ∧ ∃ c', Rel c' dM w' ∧ cI c w c' w' :=
       ⟨hd, _, (BW r1 r2 rO.1).1, ⟨_, rfl⟩, c', by grind, r3⟩
      grind [bodyPost, exOf]
    split at I
    ·grind
    ·grind
    ·grind
theorem GQ {o:Oper}{ρ:Operand→Value}(ho:o.op=.call cl)(I:cl.callee=.builtin .recover)(J:cl.args.toList=[])(w:World): (execOp ρ o).run P w=.ok .recover w:=by
 simp_all[execOp,resolve,invoke,builtin]
theorem F3 (hm:C.P.follows .mixedOrders=true)(hT:gP C){X6:Nat}{rest:Code}{ex:Ex}{I:St}{v:V}(hf:C.P.funcs[g]?=some fn)(hb:fn.body=some code)
 (J:quietParts code=some (sr,X6,rest))(h1:sr<fn.ntmps)(h2:X6<fn.ntmps)(hle:args.length≤fn.ntmps)
 (adb:ev C n rest ⟨((bindArgs args 0 .lf).set sr (some .nU)).set X6 (some .nU),fn.ntmps,σ⟩=some (ex,I))(hex:ex=.normal∨ex=.ret)(rO:resOf C.P I fn.results.toList=some v)
 (h:Rel c σ w)(hw:∀x∈args,wf c x):
  CallsD C.P g (args.map (conc c)).toArray .returning w (fun e u' w'=>u'=.returning∧(∃x,e=.returned x)∧∃c',Rel c' I.h w'∧cI c w c' w'):=by
 have hS:=(AS (C:=C) hm hT n).1
 unfold quietParts at J
 split at J
 ·rename_i id ops Um
  split at J
  ·rename_i Z7 W_ adA
   split at J
   ·rename_i cl ade t adf q6 q2 q4 q9 q3 q5
    split at J
    ·rename_i q7 q8
     cases ht:Nat.beq t ade with
     |false=>grind
     |true =>
      rw[ht,ag] at J
      simp only[aD,bG] at J
      obtain⟨rfl,rfl,rfl⟩:=J
      have:=beq_iff.1 ht
      subst this
      have aak:ops = #[Z7,W_]:=by grind
      subst aak
      refine callsD_of_wpS hf hb fun c₀ cs hu=>(wpS_seq ?_)
      have W7:=pL (c:=c) hle hw
      generalize hA:({ tmps:=(args.map (conc c)).toArray++Array.replicate (fn.ntmps-(args.map (conc c)).toArray.size) undef,defers:=[] }:Act)=A at W7 ⊢
      have hAd:A.defers=[]:=by grind
      have Xv:=(W7.put (d:=t) (v:=.nU) h1 (by simp[wf])).put (d:=adf) (v:=.nU) h2 (by simp[wf])
      have yn:=hS _ _ _ _ adb c _ w h Xv
      rw[show conc c .nU=.nilIface from by rfl] at yn
      have abB:recoverD (c₀::cs)=none:=by simp[recoverD,hu]
      have h5:(A.put (some t) .nilIface).eval (.tmp t)=.nilIface:=by
       have:=(W7.put (d:=t) (v:=.nU) h1 (by simp[wf])).val t
       grind[conc,Act.eval,Env.v,a_]
      refine wpS_region ?_
      rw[show List.range (#[Z7,W_]:Array Oper).size=[0,1] from rfl]
      simp only[wpOpsS,nB,iW,oH,Region.wanted,q2,q3,cT]
      rw[GQ q6 q7 q8]
      simp only[abB,q4]
      have abC:(execOp (A.put (some t) .nilIface).eval W_).run C.P w=.ok (.value .nilIface) w:=by simp[execOp,q9,h5]
      rw[abC]
      simp only[Oper.upon,q5,Exit.thenS]
      refine wpS_of_wp (Code.wp_mono ?_ yn)
      rintro e a' w' ⟨rfl,dd,c',r1,e2,p1⟩
      have GU:a'.defers=[]∧∃u',c₀::cs={ c₀ with mode:=u' }::cs∧∃v,(results fn a'.tmps).run C.P w'=.ok v w'∧(u'=.returning∧(∃x,Ending.returned v=.returned x)∧∃c',Rel c' I.h w'∧cI c w c' w') :=
       ⟨dd.trans hAd,.returning,by rw[←hu],_,(BW r1 e2 rO).1,rfl,⟨_,rfl⟩,c',r1,p1⟩
      rcases hex with rfl|rfl
      ·exact GU
      ·exact GU
    ·cases J
   ·cases J
  ·cases J
 ·cases J
theorem MG (hm : C.P.follows .mixedOrders = true) (hT : gP C) (hg : C.told g = none) (I : defCall C n g args σ = some dM) (h : Rel c σ w) (hw : ∀ x ∈ args, wf c x) :
  CallsD C.P g (args.map (conc c)).toArray .returning w (fun e u' w' => u' = .returning ∧ (∃ x, e = .returned x) ∧ ∃ c', Rel c' dM w' ∧ cI c w c' w') ∧ ∀ (x : Array Value) (w : World), (callFunc g x).run C.P w = .ok (.enter g x) w := by
 unfold defCall at I
 cases hf : C.P.funcs[g]? with
 | none => grind
 | some fn =>
  simp only [hf] at I
  cases hb : fn.body with
  | none => grind
  | some code =>
   simp only [hb] at I
   split at I
   ·rename_i sr J rest hq
    cases hc : (Nat.blt sr fn.ntmps && Nat.blt J fn.ntmps && Nat.ble args.length fn.ntmps && !(fn.name == "runtime.NumGoroutine")) with
    | false => grind
    | true =>
     rw [hc, ag] at I
     simp only [bF, eO, aP, Bool.not_eq_true'] at hc
     refine ⟨?_, fun x w => by simp_all [callFunc]⟩
     split at I
     ·grind [F3]
     ·grind [F3]
     ·cases I
   grind [R9]
theorem O0 (hm:C.P.follows .mixedOrders=true)(hT:gP C){s:St}{v:V}(rO:resOf C.P ⟨s.env,s.aB,h'⟩ fn.results.toList=some v):
  ∀(d:pQ) (h:H) (c:Ctx) (a:Act) (ds:List Deferred) (w:World),runDefs C n d h=some h'→Rel c h w→eF c s.env s.aB a→qP c d ds→cI c₀ w₀ c w →
   Leaves C.P fn a.tmps (fun e w'=>∃c',e=.returned (conc c' v)∧wf c' v∧Rel c' h' w'∧cI c₀ w₀ c' w') ds .returning w:=by
 intro d
 induction d with
 |nil =>
  intro h c a ds w J I he hd hs
  simp only[runDefs,aD] at J
  subst J
  have:ds=[]:=by rw[hd.eq];rfl
  subst this
  obtain⟨q1,q2⟩:=BW (s:=⟨s.env,s.aB,h⟩) I he rO
  exact⟨_,q1,c,rfl,q2,I,hs⟩
 |cons x d ih =>
  intro h c a ds w J I he hd hs
  obtain⟨g,args,cap⟩:=x
  simp only[runDefs] at J
  cases ht:C.told g with
  |some t=>grind
  |none =>
   rw[ht] at J
   cases hc:defCall C n g (args++cap) h with
   |none=>grind
   |some h₁ =>
    rw[hc] at J
    have mV:=hd.F2 (g,args,cap) (by simp)
    obtain⟨k1,k2⟩:=MG hm hT ht hc I (fun x hx=>by
     grind)
    have hds:ds={ target:=.fn (.func g) (cap.map (conc c)).toArray,args:=(args.map (conc c)).toArray }::d.map fun x=>{ target:=.fn (.func x.1) (x.2.2.map (conc c)).toArray,args:=(x.2.1.map (conc c)).toArray }:=by rw[hd.eq];rfl
    rw[hds]
    refine leaves_cons (f:=g) (args:=((args++cap).map (conc c)).toArray) (by simp) ?_ ?_
    ·grind[invoke]
    ·refine k1.mono ?_
     rintro e u' yq ⟨rfl,⟨y,rfl⟩,c₁,r1,r2⟩
     have OW:qP c d (d.map fun x=>{ target:=.fn (.func x.1) (x.2.2.map (conc c)).toArray,args:=(x.2.1.map (conc c)).toArray }):=⟨rfl,fun z hz=>hd.F2 z (by grind)⟩
     exact ih h₁ c₁ a _ yq J r1 (he.ext r2.ext) (OW.ext r2.ext) (hs.trans r2)
theorem HP (hm:C.P.follows .mixedOrders=true)(hT:gP C){f:Nat}{v:V}(J:toldDefer C n f args σ=some (v,dM))(h:Rel c σ w)(hw:∀x∈args,wf c x):
  jm C.P f args c w v dM:=by
 unfold toldDefer at J
 cases hf:C.P.funcs[f]? with
 |none=>grind
 |some fn =>
  simp only[hf] at J
  cases hb:fn.body with
  |none=>grind
  |some code =>
   simp only[hb] at J
   cases hq:Nat.blt fn.ntmps args.length with
   |true=>grind
   |false =>
    rw[hq,aS] at J
    have hle:args.length≤fn.ntmps:=by
     grind[eO]
    have EH:=pL (c:=c) hle hw
    refine calls_of_wp_defers hf hb ?_
    have done:∀ex s d,evTop C n 1000 code ⟨bindArgs args 0 .lf,fn.ntmps,σ⟩ []=some (ex,s,d)→(ex=.normal∨ex=.ret) →
      (match runDefs C n d s.h with
       |some h'=>match resOf C.P ⟨s.env,s.aB,h'⟩ fn.results.toList with
        |some v=>some (v,h')
        |none=>none
       |none=>none)=some (v,dM) →
      code.wp C.P (bodyPostD C.P fn fun e w'=>∃c',e=.returned (conc c' v)∧wf c' v∧Rel c' dM w'∧cI c w c' w')
       { tmps:=(args.map (conc c)).toArray++Array.replicate (fn.ntmps-(args.map (conc c)).toArray.size) undef,defers:=[] } w:=by
     intro ex s d hs hex I
     refine Code.wp_mono ?_ (R8 hm hT 1000 code _ [] ex s d hs c _ w h EH ⟨rfl,fun x hx=>by cases hx⟩)
     rintro e a' w' ⟨rfl,c',r1,r2,r3,r4⟩
     cases jK:runDefs C n d s.h with
     |none=>grind
     |some h' =>
      rw[jK] at I
      simp only at I
      cases XK:resOf C.P ⟨s.env,s.aB,h'⟩ fn.results.toList with
      |none=>grind
      |some v' =>
       rw[XK] at I
       obtain⟨rfl,rfl⟩:=I<;>grind[O0,bodyPostD,exOf]
    split at J
    ·cases J
    ·rename_i ex s d h_ hs
     cases ex<;>grind
    ·cases J
end

/- Heaps compared. -/
def lT (h:H): Prop:=∀id o,T.get h.tr id=some o→id<h.next
theorem lT.new (hw:lT h)(o:Obj): lT (h.new o):=by
 intro id q I
 rw[hO] at I
 show id<h.next+1
 split at I
 ·omega
 ·exact Nat.lt_succ_of_lt (hw id q I)
theorem lT.put (hw:lT h)(J:id<h.next)(o:Option Obj): lT (h.put id o):=by
 intro j q I
 rw[gn] at I
 show j<h.next
 split at I
 ·omega
 ·exact hw j q I
structure er (k:Nat)(S:List Nat)(h h':H): Prop where
 wf:lT h'
 le:h.next≤h'.next
 bd:h'.next≤h.next+k
 get:∀id,id<h.next→id∉S→T.get h'.tr id=T.get h.tr id
theorem er.refl (hw:lT h)(S:List Nat): er 0 S h h:=⟨hw,aM _,aM _,fun _ _ _=>rfl⟩
theorem er.trans {S S':List Nat}{I:H}(a:er k S h h')(b:er k' S' h' I)(hs:∀i∈S',i∈S∨h.next≤i): er (k+k') S h I:=by
 refine⟨b.wf,cX a.le b.le,by have:=a.bd;have:=b.bd;omega,fun id J hn => ?_⟩
 rw[b.get id (iZ J a.le) (fun hm => ?_),a.get id J hn]
 rcases hs id hm with h1|h1
 ·exact hn h1
 ·omega
theorem er.mono {S S':List Nat}(a:er k S h h')(J:k≤k')(hs:∀i∈S,i∈S'): er k' S' h h' :=
 ⟨a.wf,a.le,cX a.bd (Aq J _),fun id I hn=>a.get id I (fun hm=>hn (hs id hm))⟩
theorem er.row {S:List Nat}(a:er k S h h')(hw:lT h){o:Obj}(I:T.get h.tr id=some o)(J:id∉S): T.get h'.tr id=some o:=by
 rw[a.get id (hw id o I) J];exact I
theorem er.AT (hw:lT h)(o:Obj): er 1 [] h (h.new o) :=
 ⟨hw.new o,vJ _,aM _,fun id I _=>by rw[hO,ax (by omega)]⟩
theorem er.Un (hw:lT h)(I:id<h.next)(o:Option Obj): er 0 [id] h (h.put id o) :=
 ⟨hw.put I o,aM _,aM _,fun j _ J=>by rw[gn,ax (fun e=>J (by simp[e]))]⟩
theorem cQ (l:List Nat): (ofBytes l).length=l.length:=by simp[ofBytes]
theorem qQ (l m:List Nat): ofBytes (l++m)=ofBytes l++ofBytes m:=by simp[ofBytes]
def View (h:H)(v:V)(l:List Nat): Prop:=(∀b∈l,b<256)∧(((v=.aV∨∃a,v=.sle a)∧l=[]) ∨
 ∃id off cap n cs st,v=.sl id off l.length cap∧T.get h.tr id=some (.cells n cs st)∧cs.length=n∧off+l.length≤n∧(cs.drop off).take l.length=ofBytes l ∧
  (match cap with|.exact c=>l.length≤c|.rest e _=>e=1))
def jz (h:H)(v:V)(l:List Nat): Prop:=(∀b∈l,b<256)∧((v=.aV∧l=[]) ∨
 (∃id cs c,v=.sl id 0 l.length (.exact c)∧T.get h.tr id=some (.cells c (ofBytes l++cs) false)∧l.length+cs.length=c) ∨
 (∃id,v=.sl id 0 l.length (.rest 1 0)∧T.get h.tr id=some (.cells l.length (ofBytes l) false)∧1≤l.length))
def rowIds : V→List Nat
 |.sl id _ _ _=>[id]
 |_=>[]
theorem jz.view {v:V}(I:jz h v l): View h v l:=by
 obtain⟨hl,I⟩:=I
 refine⟨hl,?_⟩
 rcases I with I|⟨id,cs,c,rfl,J,hc⟩|⟨id,rfl,J,h1⟩
 ·exact .inl ⟨.inl I.1,I.2⟩
 ·refine .inr ⟨id,0,.exact c,c,_,false,rfl,J,by simp[cQ,hc],by omega,?_,by show l.length≤c;omega⟩
  rw[eC,gj (cQ l)]
 ·refine .inr ⟨id,0,.rest 1 0,_,_,false,rfl,J,cQ l,by omega,?_,rfl⟩
  rw[eC]
  exact gd (by rw[cQ];exact aM _)
theorem View.nO {S:List Nat}{v:V}(hv:View h v l)(hw:lT h)(I:er k S h h')(J:∀i∈rowIds v,i∉S): View h' v l:=by
 obtain⟨hl,hv⟩:=hv
 refine⟨hl,?_⟩
 rcases hv with hv|⟨id,off,cap,n,cs,st,rfl,hg,h1,h2,h3,h4⟩
 ·exact .inl hv
 ·exact .inr ⟨id,off,cap,n,cs,st,rfl,I.row hw hg (J id (by simp[rowIds])),h1,h2,h3,h4⟩
theorem jz.nO {S:List Nat}{v:V}(hv:jz h v l)(hw:lT h)(J:er k S h h')(hn:∀i∈rowIds v,i∉S): jz h' v l:=by
 obtain⟨hl,hv⟩:=hv
 refine⟨hl,?_⟩
 rcases hv with hv|⟨id,cs,c,rfl,I,hc⟩|⟨id,rfl,I,h1⟩
 ·exact .inl hv
 ·exact .inr (.inl ⟨id,cs,c,rfl,J.row hw I (hn id (by simp[rowIds])),hc⟩)
 ·exact .inr (.inr ⟨id,rfl,J.row hw I (hn id (by simp[rowIds])),h1⟩)
theorem View.len {v:V}(hv:View h v l): lenV Tryz.prog h 29 v=some (.int .i64 l.length):=by
 obtain⟨_,hv⟩:=hv
 rcases hv with⟨rfl|⟨I,rfl⟩,rfl⟩|⟨id,off,cap,n,cs,st,rfl,_⟩<;>simp[lenV,ak]
theorem View.rdN {len:Nat}{cap:Cap}(hv:View h (.sl id off len cap) l): len=l.length∧rdN h id off len=some (ofBytes l):=by
 obtain⟨_,hv⟩:=hv
 rcases hv with⟨I,_⟩|⟨Bw,off',J,n,cs,st,I,hg,h1,h2,h3,h4⟩
 ·rcases I with I|⟨_,I⟩<;>cases I
 ·injection I with e1 e2 e3 e4
  subst e1;subst e2;subst e3
  refine⟨rfl,?_⟩
  unfold Am.rdN
  simp only[hg]
  rw[aP.2 h2,ag]
  cases hc:(Nat.beq off 0&&Nat.beq l.length n) with
  |true =>
   simp only[bF,beq_iff] at hc
   obtain⟨rfl,hn⟩:=hc
   rw[ag,←h3,eC,gd (by omega)]
  |false=>rw[aS,h3]
theorem AU : ∃i,Tryz.prog.info? 5=some i∧i.size=1∧i.bytes=1:=by
 refine⟨_,(show Tryz.prog.info? 5=some ((Tryz.prog.info? 5).getD default) by kernel_rfl),by kernel_rfl,by kernel_rfl⟩
theorem oC : zeroT Tryz.prog 5=some (.int .u8 0):=by kernel_rfl
theorem MH {x:V}{m:List Nat}(J:View h x m): srcV h 1 x=some (ofBytes m,m.length):=by
 obtain⟨hl,I⟩:=J
 rcases I with⟨rfl|⟨ea,rfl⟩,rfl⟩|⟨id,off,cap,n,cs,st,rfl,hg,h1,h2,h3,h4⟩
 ·rfl
 ·rfl
 ·simp only[srcV,cz]
  rw[(View.rdN (l:=m) ⟨hl,.inr ⟨id,off,cap,n,cs,st,rfl,hg,h1,h2,h3,h4⟩⟩).2]
  rfl
theorem yE {s x:V}{m:List Nat}(hw:lT h)(hs:jz h s l)(hx:View h x m)(fM:l.length+m.length≤140737488355328):
  ∃v' h',appendV Tryz.prog h #[29,29] s x=some (v',h')∧jz h' v' (l++m)∧er 1 (rowIds s) h h'∧(∀i∈rowIds v',i∈rowIds s∨h.next≤i):=by
 obtain⟨i,hi,i1,i2⟩:=AU
 have J:∀b∈l++m,b<256:=fun b hb=>by
  rcases List.mem_append.1 hb with hb|hb
  ·exact hs.1 b hb
  ·exact hx.1 b hb
 have KV:jI (l.length+m.length) 1=true:=mh.2 ⟨fM,by omega⟩
 unfold appendV
 simp only[ak,hi,oC,i1,i2,V.cells,aZ,bI,MH hx]
 rw[show(Nat.ble 1 1&&Nat.ble 1 4096&&Nat.beq (0+1) 1)=true from rfl,ag]
 cases hm:Nat.beq m.length 0 with
 |true =>
  have th:m=[]:=iz (beq_iff.1 hm)
  subst th
  rw[ag,g_]
  have I:=hs
  obtain⟨_,I⟩:=I
  rcases I with⟨rfl,rfl⟩|⟨id,cs,c,rfl,hg,hc⟩|⟨id,rfl,hg,h1⟩
  ·exact⟨_,_,rfl,hs,(er.refl hw _).mono (eN _) (fun _ h=>h),fun i hi=>.inl hi⟩
  ·exact⟨_,_,rfl,hs,(er.refl hw _).mono (eN _) (fun _ h=>h),fun i hi=>.inl hi⟩
  ·exact⟨_,_,rfl,hs,(er.refl hw _).mono (eN _) (fun _ h=>h),fun i hi=>.inl hi⟩
 |false =>
  have th:1≤m.length:=by
   rcases lJ m.length with h0|h0
   ·rw[qy h0] at hm;cases hm
   ·exact h0
  rw[aS]
  have wM:∀(σ:H) (old:List Nat),lT σ→1≤(old++m).length→(∀b∈old++m,b<256)→jz (iU σ 1 (ofBytes old) (ofBytes m) (old.length+m.length)).2 (iU σ 1 (ofBytes old) (ofBytes m) (old.length+m.length)).1 (old++m):=by
   intro σ old _ h1 h2
   refine⟨h2,.inr (.inr ⟨σ.next,?_,?_,h1⟩)⟩
   ·simp only[iU,aX]
   ·simp only[iU]
    rw[hO,aH rfl,cz,aX,qQ]
  have I:=hs
  obtain⟨_,I⟩:=I
  rcases I with⟨rfl,rfl⟩|⟨id,cs,c,rfl,hg,hc⟩|⟨id,rfl,hg,h1⟩
  ·simp only
   have abD:jI m.length 1=true:=by simpa using KV
   rw[abD,ag]
   have:=wM h [] hw (by simpa using th) (by simpa using hx.1)
   simp only[bI,ep,cO] at this
   exact⟨_,_,rfl,by rw[cO];exact this,(er.AT hw _).mono (aM _) (fun i hi=>by simp at hi),fun i hi=>.inr (by simp[rowIds] at hi;omega)⟩
  ·simp only[cz,ep]
   have hv:=jz.view hs
   cases hq:Nat.ble (l.length+m.length) c with
   |true =>
    have yc:=aP.1 hq
    rw[ag]
    unfold wrN
    simp only[hg,cQ]
    rw[hq,ag]
    simp only
    have pR:(cond (Nat.beq l.length 0&&Nat.beq m.length c) (ofBytes m) ((ofBytes l++cs).take l.length++(ofBytes m++(ofBytes l++cs).drop (l.length+m.length))))=ofBytes (l++m)++cs.drop m.length:=by
     have e1:(ofBytes l++cs).take l.length=ofBytes l:=gj (cQ l)
     have e2:(ofBytes l++cs).drop (l.length+m.length)=cs.drop m.length:=by
      rw[sG,cQ,show l.length+m.length-l.length=m.length from by omega,nA (by rw[cQ];omega),cO]
     cases hz:(Nat.beq l.length 0&&Nat.beq m.length c) with
     |true =>
      simp only[bF,beq_iff] at hz
      have FK:l=[]:=iz hz.1
      subst FK
      have ko:cs.drop m.length=[]:=nA (by simp at hc;omega)
      simp[ko]
     |false=>rw[aS,e1,e2,qQ,eB]
    rw[pR]
    refine⟨_,_,rfl,⟨J,.inr (.inl ⟨id,cs.drop m.length,c,by simp,?_,by simp;omega⟩)⟩,(er.Un hw (hw id _ hg) _).mono (eN _) (fun i hi=>by simpa[rowIds] using hi),fun i hi=>.inl (by simpa[rowIds] using hi)⟩
    rw[gn,aH rfl]
   |false =>
    rw[aS,KV,ag,hv.rdN.2]
    simp only
    exact⟨_,_,rfl,wM h l hw (by simp;omega) J,(er.AT hw _).mono (aM _) (fun i hi=>by simp at hi),fun i hi=>.inr (by simp[rowIds] at hi;omega)⟩
  ·simp only[jd,ag,cz,ep]
   have hv:=jz.view hs
   have wK:fC h id 0 1=l.length:=by simp[fC,hg]
   have hf:Nat.ble (l.length+m.length) l.length=false:=by
    cases hq:Nat.ble (l.length+m.length) l.length with
    |true=>have:=aP.1 hq;omega
    |false=>rfl
   rw[wK,hf,aS,KV,show Nat.ble 2 (l.length+m.length)=true from aP.2 (by omega),jc,ag,hv.rdN.2,hg]
   simp only
   have rq:lT (h.put id none):=hw.put (hw id _ hg) _
   refine⟨_,_,rfl,wM (h.put id none) l rq (by simp;omega) J,?_,fun i hi=>.inr (by simp[rowIds,H.put] at hi;omega)⟩
   refine((er.Un hw (hw id _ hg) none).trans (S':=[]) (er.AT rq _) (fun i hi=>by simp at hi)).mono (aM _) (fun i hi=>by simpa[rowIds] using hi)
section
variable {a b:Operand} {v:V}
theorem bV (I:bq E x=some v): opE P E h (.move x)=some (v,h):=by simp only[opE,jL,I]
theorem gT (I:bq E x=some v): opE P E h (.assign x)=some (v,h):=by simp only[opE,jL,I]
theorem mN (I:bq E x=some (.bool true))(J:bq E a=some v): opE P E h (.pick x a b)=some (v,h):=by simp only[opE,jL,I,ag,J]
theorem o5 (I:bq E x=some (.bool false))(J:bq E b=some v): opE P E h (.pick x a b)=some (v,h):=by simp only[opE,jL,I,aS,J]
theorem su {o:Nat}(I:bq E x=some (.ptr i o)): opE P E h (.nilCheck x)=some (.ptr i o,h):=by simp only[opE,jL,I]
theorem lU {t:Nat}(I:bq E x=some v)(J:fieldAddrV P t v i=some r): opE P E h (.fieldAddr t x i)=some (r,h):=by simp only[opE,jL,I,J,bB]
theorem o_load (I:bq E x=some v)(J:loadV P h t v=some r): opE P E h (.load t x)=some (r,h):=by simp only[opE,jL,I,J,bB]
theorem KW (I:bq E x=some v)(J:bq E y=some u)(hf:iV P h t v u=some h₁): opE P E h (.store t x y)=some (ct,h₁):=by simp only[opE,um,I,J,hf,ua]
theorem az {op:BinOp}(I:bq E x=some v)(J:bq E y=some u)(hf:binV P h op t x y v u=some r): opE P E h (.binOp op t x y t')=some (r,h):=by simp only[opE,um,I,J,hf,bB]
theorem eG {op:UnOp}(I:bq E x=some v)(J:unV op v=some r): opE P E h (.unOp op t x)=some (r,h):=by simp only[opE,jL,I,J,bB]
theorem b8 {s d:TypeId}(I:bq E x=some v)(J:convV P h s d v=some (r,h₁)): opE P E h (.convert s d x)=some (r,h₁):=by simp only[opE,jL,I,J]
theorem bx (I:bq E x=some v)(J:bq E y=some u)(hf:indexAddrV P t v u=some r): opE P E h (.indexAddr t x y)=some (r,h):=by simp only[opE,um,I,J,hf,bB]
theorem HQ (I:bq E x=some v)(J:bq E y=some u)(hf:indexV P t v u=some r): opE P E h (.index t x y)=some (r,h):=by simp only[opE,um,I,J,hf,bB]
theorem gB {l:List V}(I:bq E x=some (.aW l))(J:nth l i=some r): opE P E h (.extract x i)=some (r,h):=by simp only[opE,jL,I,J,bB]
theorem cP {l:List (Nat×V)}(I:lookParts E ps.toList=some l)(J:buildV P t l=some r): opE P E h (.build t ps)=some (r,h):=by simp only[opE,I,J,bB]
theorem fH (I:bq E x=some v)(hs:v.cells.all storable=true): opE P E h (.box t x)=some (.ptr h.next 0,newRow h v.cells):=by simp only[opE,jL,I,hs,ag]
theorem cF (I:zeroT P t=some v): opE P E h (.alloc t)=some (.ptr h.next 0,newRow h v.cells):=by simp only[opE,I]
theorem qR (I:bq E x=some v)(J:makeIfaceV P t v=some r): opE P E h (.makeInterface t x)=some (r,h):=by simp only[opE,jL,I,J,bB]
theorem G0 {f:Fn}{p q:Array Operand}{l m:List V}(I:lookArgs E p.toList=some l)(J:lookArgs E q.toList=some m): opE P E h (.makeFunc f p q)=some (.fn f l m,h):=by simp only[opE,I,J]
theorem aC {c:Go.Call}(I:c.callee=.builtin .len)(J:lookArgs E c.args.toList=some [v])(ht:c.argTypes.toList=[t])(hf:lenV P h t v=some r): opE P E h (.call c)=some (r,h):=by
 simp only[opE,I,J,builtinV,ht,hf,fQ]
theorem iG {c:Go.Call}(I:c.callee=.builtin .append)(J:lookArgs E c.args.toList=some [v,u])(hf:appendV P h c.argTypes v u=some (r,h₁)): opE P E h (.call c)=some (r,h₁):=by
 simp only[opE,I,J,builtinV,hf]
theorem wQ (I:bq E x=some v)(J:bq E y=some u)(hf:makeSliceV P h t v u=some (r,h₁)): opE P E h (.makeSlice t x y)=some (r,h₁):=by simp only[opE,um,I,J,hf]
theorem gI {t:Nat}{l:List (Nat×V)}(I:lookParts E ps.toList=some l)(J:buildSliceV P h t n l=some (r,h₁)): opE P E h (.buildSlice t n ps)=some (r,h₁):=by simp only[opE,I,J]
theorem bS {lo hi mx:Option Operand}{p q m:Option V}{p' q' m':Option Nat}(I:bq E x=some v)(J:lookOpt E lo=some p)(h2:lookOpt E hi=some q)(h3:lookOpt E mx=some m)
 (g1:kz p=some p')(g2:kz q=some q')(g3:kz m=some m')(hf:sliceV P h t v p' q' m'=some r): opE P E h (.slice t x lo hi mx)=some (r,h):=by simp only[opE,jL,I,J,h2,h3,g1,g2,g3,hf,bB]
theorem yF (I:isAggT P t=some false)(J:T.get h.tr id=some (.cells n cs st))(hn:nth cs off=some v): loadV P h t (.ptr id off)=some v:=by
 simp only[loadV,I,xY,J,hn]
theorem cg (I:isAggT P t=some true)(hs:bg P t=some n)(J:T.get h.tr id=some (.cells n cs st)): loadV P h t (.ptr id 0)=some (.agg cs):=by
 simp only[loadV,I,hs,rdN,J,ep]
 rw[aP.2 (aM n),ag,jd,jd]
 rfl
end
section
variable {aB:Nat} {o:Oper}
theorem F4 (hw:lT h)(I:b<256):
  ∃v h₁,buildSliceV Tryz.prog h 29 1 [(0,.int .u8 b)]=some (v,h₁)∧jz h₁ v [b]∧er 1 [] h h₁∧∀i∈rowIds v,h.next≤i:=by
 refine⟨.sl h.next 0 1 (.exact 1),newRow h [.int .u8 b],?_,⟨by simpa using I,.inr (.inl ⟨h.next,[],1,rfl,?_,rfl⟩)⟩,er.AT hw _,fun i hi=>by simp[rowIds] at hi;omega⟩
 ·simp only[buildSliceV,ak,d_,oC,V.cells]
  rfl
 ·rw[newRow,hO,aH rfl];rfl
theorem aA.MI (J:C.P=Tryz.prog)(hw:lT h)(hg:wantE L E o.guard=some true)(hd:o.dst=some d)(hn:Nat.blt d aB=true)(I:o.op=.buildSlice t 1 ps)(ht:t=29)
 (hx:lookParts E ps.toList=some [(0,.int .u8 (b:Int))])(hb:b<256)
 (hr:∀v h₁,jz h₁ v [b]→er 1 [] h h₁→(∀i∈rowIds v,h.next≤i)→aA C aB L rest ((d,v)::E) h₁ R): aA C aB L (o::rest) E h R:=by
 obtain⟨v,h₁,e1,e2,e3,e4⟩:=F4 hw hb
 refine aA.op hg hd hn (v:=v) (h₁:=h₁) ?_ (hr v h₁ e2 e3 e4)
 rw[I,ht,J]
 exact gI hx e1
theorem aA.app {c:Go.Call}{s x:V}{m:List Nat}(hP:C.P=Tryz.prog)(hw:lT h)(hg:wantE L E o.guard=some true)(hd:o.dst=some d)(hn:Nat.blt d aB=true)(I:o.op=.call c)(hc:c.callee=.builtin .append)
 (J:c.argTypes = #[29,29])(ha:lookArgs E c.args.toList=some [s,x])(hs:jz h s l)(hx:View h x m)(fM:l.length+m.length≤140737488355328)
 (hr:∀v h₁,jz h₁ v (l++m)→er 1 (rowIds s) h h₁→(∀i∈rowIds v,i∈rowIds s∨h.next≤i)→aA C aB L rest ((d,v)::E) h₁ R): aA C aB L (o::rest) E h R:=by
 obtain⟨v,h₁,e1,e2,e3,e4⟩:=yE hw hs hx fM
 refine aA.op hg hd hn (v:=v) (h₁:=h₁) ?_ (hr v h₁ e2 e3 e4)
 rw[I,hP]
 exact iG hc ha (by rw[J];exact e1)
theorem CY (hw:lT h)(J:c<1073741824):
  ∃v h₁,makeSliceV Tryz.prog h 29 (.int .i64 0) (.int .i64 (c:Int))=some (v,h₁)∧jz h₁ v []∧er 1 [] h h₁∧∀i∈rowIds v,h.next≤i:=by
 obtain⟨i,hi,i1,i2⟩:=AU
 refine⟨.sl h.next 0 0 (.exact c),h.new (.cells c (repeatL [.int .u8 0] c) false),?_,⟨by simp,.inr (.inl ⟨h.next,repeatL [.int .u8 0] c,c,rfl,?_,?_⟩)⟩,er.AT hw _,fun i hi=>by simp[rowIds] at hi;omega⟩
 ·simp only[makeSliceV,ak,hi,oC,i1,i2,V.cells,aZ,bI,dm,cz]
  rw[show(decide ((0:Int)≤0)&&decide ((0:Int)≤(c:Int))&&decide ((c:Int)<1073741824)&&Nat.ble 1 4096&&Nat.beq (0+1) 1&&Nat.ble 1 1)=true by simp;omega,ag]
  rfl
 ·rw[hO,aH rfl];rfl
 ·have:∀n,(repeatL [V.int .u8 0] n).length=n:=fun n=>by
   induction n with
   |zero=>rfl
   |succ n I=>simp[repeatL,I]
  simp[this]
end
section
variable {aB:Nat} {o:Oper} {v:V} {a b:Operand}
theorem zm (e:(o.op,wantE L E o.guard,o.dst,Nat.blt d aB,bq E x)=(Op.move x,some true,some d,true,some v))(hw:aA C aB L rest ((d,v)::E) h R): aA C aB L (o::rest) E h R:=by
  simp only[bG] at e;exact aA.op e.2.1 e.2.2.1 e.2.2.2.1 (by rw[e.1];exact bV e.2.2.2.2) hw
theorem za (e:(o.op,wantE L E o.guard,o.dst,Nat.blt d aB,bq E x)=(Op.assign x,some true,some d,true,some v))(hw:aA C aB L rest ((d,v)::E) h R): aA C aB L (o::rest) E h R:=by
  simp only[bG] at e;exact aA.op e.2.1 e.2.2.1 e.2.2.2.1 (by rw[e.1];exact gT e.2.2.2.2) hw
theorem zn (e:(o.op,wantE L E o.guard,o.dst,Nat.blt d aB,bq E x)=(Op.nilCheck x,some true,some d,true,some (V.ptr j k)))(hw:aA C aB L rest ((d,.ptr j k)::E) h R): aA C aB L (o::rest) E h R:=by
  simp only[bG] at e;exact aA.op e.2.1 e.2.2.1 e.2.2.2.1 (by rw[e.1];exact su e.2.2.2.2) hw
theorem zf (e:(o.op,wantE L E o.guard,o.dst,Nat.blt d aB,bq E x)=(Op.fieldAddr t x i,some true,some d,true,some v))(I:fieldAddrV C.P t v i=some r)(hw:aA C aB L rest ((d,r)::E) h R): aA C aB L (o::rest) E h R:=by
  simp only[bG] at e;exact aA.op e.2.1 e.2.2.1 e.2.2.2.1 (by rw[e.1];exact lU e.2.2.2.2 I) hw
theorem zl (e:(o.op,wantE L E o.guard,o.dst,Nat.blt d aB,bq E x)=(Op.load t x,some true,some d,true,some v))(I:loadV C.P h t v=some r)(hw:aA C aB L rest ((d,r)::E) h R): aA C aB L (o::rest) E h R:=by
  simp only[bG] at e;exact aA.op e.2.1 e.2.2.1 e.2.2.2.1 (by rw[e.1];exact o_load e.2.2.2.2 I) hw
theorem ze {l:List V}(e:(o.op,wantE L E o.guard,o.dst,Nat.blt d aB,bq E x,nth l i)=(Op.extract x i,some true,some d,true,some (V.aW l),some r))(hw:aA C aB L rest ((d,r)::E) h R): aA C aB L (o::rest) E h R:=by
  simp only[bG] at e;exact aA.op e.2.1 e.2.2.1 e.2.2.2.1 (by rw[e.1];exact gB e.2.2.2.2.1 e.2.2.2.2.2) hw
theorem zp (e:(o.op,wantE L E o.guard,o.dst,Nat.blt d aB,bq E x,bq E b)=(Op.pick x a b,some true,some d,true,some (V.bool false),some v))(hw:aA C aB L rest ((d,v)::E) h R): aA C aB L (o::rest) E h R:=by
  simp only[bG] at e;exact aA.op e.2.1 e.2.2.1 e.2.2.2.1 (by rw[e.1];exact o5 e.2.2.2.2.1 e.2.2.2.2.2) hw
theorem zq (e:(o.op,wantE L E o.guard,o.dst,Nat.blt d aB,bq E x,bq E a)=(Op.pick x a b,some true,some d,true,some (V.bool true),some v))(hw:aA C aB L rest ((d,v)::E) h R): aA C aB L (o::rest) E h R:=by
  simp only[bG] at e;exact aA.op e.2.1 e.2.2.1 e.2.2.2.1 (by rw[e.1];exact mN e.2.2.2.2.1 e.2.2.2.2.2) hw
theorem zb {op:BinOp}(e:(o.op,wantE L E o.guard,o.dst,Nat.blt d aB,bq E x,bq E y)=(Op.binOp op t x y t',some true,some d,true,some v,some u))(I:binV C.P h op t x y v u=some r)(hw:aA C aB L rest ((d,r)::E) h R): aA C aB L (o::rest) E h R:=by
  simp only[bG] at e;exact aA.op e.2.1 e.2.2.1 e.2.2.2.1 (by rw[e.1];exact az e.2.2.2.2.1 e.2.2.2.2.2 I) hw
theorem zx (e:(wantE L E o.guard,o.dst,Nat.blt d aB)=(some false,some d,true))(hw:aA C aB L rest ((d,ct)::E) h R): aA C aB L (o::rest) E h R:=by
  simp only[bG] at e;exact aA.no e.1 e.2.1 e.2.2 hw
theorem zo (e:(wantE L E o.guard,o.dst,Nat.blt d aB)=(some true,some d,true))(ho:opE C.P E h o.op=some (v,h₁))(hw:aA C aB L rest ((d,v)::E) h₁ R): aA C aB L (o::rest) E h R:=by
  simp only[bG] at e;exact aA.op e.1 e.2.1 e.2.2 ho hw
theorem zv (I:R E h): aA C aB L [] E h R:=aA.nil I
variable {c f:Code}
theorem zw (hw:WP C aB c E h fun ex E' h'=>match ex with
    |.normal=>WP C aB f E' h' Q
    |ex=>Q ex E' h'): WP C aB (.seq c f) E h Q:=WP.seq hw
theorem zr (I:ops.toList=L)(hw:aA C aB L L E h fun E' h'=>Q .normal E' h'): WP C aB (.region k ops false) E h Q:=WP.region I hw
theorem zg (I:ops.toList=L)(hw:aA C aB L L E h fun E' h'=>WP C aB f E' h' Q): WP C aB (.seq (.region k ops false) f) E h Q:=WP.seq (WP.region I hw)
theorem zi (I:bq E x=some (.bool true))(hw:WP C aB c E h Q): WP C aB (.cond x c f) E h Q:=WP.cond I hw
theorem zj (I:bq E x=some (.bool false))(hw:WP C aB f E h Q): WP C aB (.cond x c f) E h Q:=WP.cond I hw
end
inductive Md where
  |c (c:Code)
  |o (L l:List Oper)
def CZ (C:fB)(aB:Nat)(Q:Ex→List (Nat×V)→H→Prop): List Code→Ex→List (Nat×V)→H→Prop
  |[]=>Q
  |b::K=>fun ex E' h'=>match ex with
    |.normal=>WP C aB b E' h' (CZ C aB Q K)
    |ex=>CZ C aB Q K ex E' h'
def Uo : List (Nat×V)→Nat→Option V
  |[],_=>none
  |(d,v)::E,k=>cond (Nat.beq d k) (some v) (Uo E k)
theorem O1 : ∀(E:List (Nat×V)) (k:Nat),Uo E k=look E k
  |[],_=>rfl
  |(d,v)::E,k=>by simp only[Uo,look,O1 E k]
def C0 (E:List (Nat×V)): Operand→Option V
  |.tmp t=>Uo E t
  |.const c=>ofValue c
  |.global _=>none
  |.func f=>some (.fn (.func f) [] [])
theorem O2 (E:List (Nat×V))(x:Operand): C0 E x=bq E x:=by cases x<;>first|rfl|exact O1 _ _
def X7 (E:List (Nat×V)): Op→Option V
  |.move x=>C0 E x
  |.assign x=>C0 E x
  |.nilCheck x=>match C0 E x with
    |some (.ptr j k)=>some (.ptr j k)
    |_=>none
  |.extract x i=>match C0 E x with
    |some (.aW l)=>nth l i
    |_=>none
  |.pick x a b=>match C0 E x with
    |some (.bool true)=>C0 E a
    |some (.bool false)=>C0 E b
    |_=>none
  |_=>none
def runM (aB:Nat): Nat→Md→List (Nat×V)→List Code→Option (Md×List (Nat×V)×List Code)
  |0,m,E,K=>some (m,E,K)
  |n+1,.o _ [],E,b::K=>runM aB n (.c b) E K
  |n+1,.o L (o::l),E,K=>match wantE L E o.guard,o.dst with
    |some false,some d=>cond (Nat.blt d aB) (runM aB n (.o L l) ((d,ct)::E) K) none
    |some true,some d=>match X7 E o.op with
      |some v=>cond (Nat.blt d aB) (runM aB n (.o L l) ((d,v)::E) K) none
      |none=>none
    |_,_=>none
  |n+1,.c (.seq a b),E,K=>runM aB n (.c a) E (b::K)
  |n+1,.c (.region _ ops false),E,K=>runM aB n (.o ops.toList ops.toList) E K
  |n+1,.c (.cond x a b),E,K=>match C0 E x with
    |some (.bool true)=>runM aB n (.c a) E K
    |some (.bool false)=>runM aB n (.c b) E K
    |_=>none
  |n+1,.c .skip,E,b::K=>runM aB n (.c b) E K
  |_+1,_,_,_=>none
abbrev Gl (C:fB)(aB:Nat)(h:H)(Q:Ex→List (Nat×V)→H→Prop)(m:Md)(E:List (Nat×V))(K:List Code): Prop:=match m with
  |.c c=>WP C aB c E h (CZ C aB Q K)
  |.o L l=>aA C aB L l E h fun E' h'=>CZ C aB Q K .normal E' h'
class HR (C:fB)(aB:Nat)(R:List (Nat×V)→H→Prop)(Q:outParam (Ex→List (Nat×V)→H→Prop))where
  K:List Code
  eq:R=fun E' h'=>CZ C aB Q K .normal E' h'
class Up (C:fB)(aB:Nat)(R:Ex→List (Nat×V)→H→Prop)(Q:outParam (Ex→List (Nat×V)→H→Prop))where
  K:List Code
  eq:R=CZ C aB Q K
instance (priority:=50) (C:fB) (aB:Nat) (R:List (Nat×V)→H→Prop):HR C aB R (fun _=>R):=⟨[],rfl⟩
instance (priority:=60) (C:fB) (aB:Nat) (Q:Ex→List (Nat×V)→H→Prop):HR C aB (fun E' h'=>Q .normal E' h') Q:=⟨[],rfl⟩
instance (priority:=70) (C:fB) (aB:Nat) (f:Code) (Q:Ex→List (Nat×V)→H→Prop) (K:List Code):HR C aB (fun E' h'=>WP C aB f E' h' (CZ C aB Q K)) Q:=⟨f::K,rfl⟩
instance (priority:=65) (C:fB) (aB:Nat) (f:Code) (Q:Ex→List (Nat×V)→H→Prop):HR C aB (fun E' h'=>WP C aB f E' h' Q) Q:=⟨[f],rfl⟩
instance (priority:=80) (C:fB) (aB:Nat) (K:List Code) (Q:Ex→List (Nat×V)→H→Prop):HR C aB (fun E' h'=>CZ C aB Q K .normal E' h') Q:=⟨K,rfl⟩
instance (priority:=50) (C:fB) (aB:Nat) (Q:Ex→List (Nat×V)→H→Prop):Up C aB Q Q:=⟨[],rfl⟩
instance (priority:=80) (C:fB) (aB:Nat) (K:List Code) (Q:Ex→List (Nat×V)→H→Prop):Up C aB (CZ C aB Q K) Q:=⟨K,rfl⟩
section
variable {aB:Nat} {l:List Oper} {m m':Md} {K K':List Code} {f:Code}
theorem X8 {o:Op}{v:V}(e:X7 E o=some v): opE C.P E h o=some (v,h):=by
  unfold X7 at e
  simp only[O2] at e
  split at e
  · exact bV e
  · exact gT e
  · split at e
    · rename_i I
      cases e;exact su I
    · cases e
  · split at e
    · rename_i I
      exact gB I e
    · cases e
  · split at e
    · rename_i I;exact mN I e
    · rename_i I;exact o5 I e
    · cases e
  · cases e
theorem KX : ∀(n:Nat) (m:Md) (E:List (Nat×V)) (K:List Code),runM aB n m E K=some (m',E',K')→Gl C aB h Q m' E' K'→Gl C aB h Q m E K:=by
  intro n
  induction n with
  |zero=>intro m E K e hw;simp only[runM,aD,bG] at e;obtain⟨rfl,rfl,rfl⟩:=e;exact hw
  |succ n I =>
    intro m E K e hw
    unfold runM at e
    split at e
    · rename_i he;cases he
    · rename_i he;cases he
      exact aA.nil (I _ _ _ e hw)
    · rename_i he;cases he
      split at e
      · rename_i d hg hd
        cases J:Nat.blt d aB with
        |false=>rw[J] at e;cases e
        |true=>rw[J] at e;exact aA.no hg hd J (I _ _ _ e hw)
      · rename_i d hg hd
        split at e
        · rename_i v hv
          cases J:Nat.blt d aB with
          |false=>rw[J] at e;cases e
          |true=>rw[J] at e;exact aA.op hg hd J (X8 hv) (I _ _ _ e hw)
        · cases e
      · cases e
    · rename_i he;cases he
      exact WP.seq (I _ _ _ e hw)
    · rename_i he;cases he
      exact WP.region rfl (I _ _ _ e hw)
    · rename_i he;cases he
      rw[O2] at e
      split at e
      · rename_i hx;exact WP.cond hx (I _ _ _ e hw)
      · rename_i hx;exact WP.cond hx (I _ _ _ e hw)
      · cases e
    · rename_i he;cases he
      exact WP.skip (I _ _ _ e hw)
    · cases e
theorem zk (n:Nat)[a:HR C aB R Q](e:runM aB n (.o L l) E (HR.K C aB R)=some (m',E',K'))(hw:Gl C aB h Q m' E' K'): aA C aB L l E h R:=by
  rw[a.eq];exact KX n (.o L l) E _ e hw
theorem zK {I:Ex→List (Nat×V)→H→Prop}(n:Nat)[a:Up C aB I Q](e:runM aB n (.c f) E (Up.K C aB I)=some (m',E',K'))(hw:Gl C aB h Q m' E' K'): WP C aB f E h I:=by
  rw[a.eq];exact KX n (.c f) E _ e hw
end
section
variable {aB:Nat} {l:List Oper} {o:Oper}
def OpR (C:fB)(E:List (Nat×V))(h:H)(o:Oper)(R:V→H→Prop): Prop:=∃v h₁,R v h₁∧∀env,j5 env E→∃N,evOp C (ev C N) env h o=some (v,h₁)
theorem OpR.call {k:FuncId}{R:V→H→Prop}(J:o.op=.call cl)(hc:cl.callee=.value x)(hx:bq E x=some (.fn (.func k) first cap))
 (ha:lookArgs E cl.args.toList=some args)(I:Am.Call C k (first++(args++cap)) h R): OpR C E h o R:=by
 obtain⟨v,h₁,OR,hr⟩:=I
 exact⟨v,h₁,hr,fun env hE=>FR hE J hc hx ha OR⟩
theorem OpR.of {v:V}{R:V→H→Prop}(ho:opE C.P E h o.op=some (v,h₁))(I:R v h₁): OpR C E h o R:=⟨v,h₁,I,fun _ J=>⟨0,CS J ho⟩⟩
theorem aA.any (hg:wantE L E o.guard=some true)(hd:o.dst=some d)(hn:Nat.blt d aB=true)(ho:OpR C E h o yy)
 (hw:∀v h₁,yy v h₁→aA C aB L rest ((d,v)::E) h₁ R): aA C aB L (o::rest) E h R:=by
 intro env J
 obtain⟨v,h₁,hr,uj⟩:=ho
 obtain⟨N,hN⟩:=uj env J
 obtain⟨M,I,h',E',h1,h2,h3⟩:=hw v h₁ hr (env.set d (some v)) (J.set d v)
 refine⟨Nat.max N M,I,h',E',?_,h2,h3⟩
 simp only[evOps,jF J hg,ag,l8 (gH (oM N M)) hN,St.put,hd,hn]
 exact pN (gH (oL N M)) _ _ _ h1
def G1 : List (Env×V)→List (List (Nat×V)×V)→Prop
 |[],[]=>True
 |x::l,y::m=>j5 x.1 y.1∧x.2=y.2∧G1 l m
 |_,_=>False
def aE (C:fB)(aB:Nat)(L l:List Oper)(E:List (Nat×V))(h:H)(hs:List H)(Q:List (Nat×V)→H→List (List (Nat×V)×V)→List H→Prop): Prop :=
 ∀env,j5 env E→∃N I h' E' tr ts J,trace C (ev C N) L l ⟨env,aB,h⟩ hs=some (tr,J,⟨I,aB,h'⟩)∧j5 I E'∧G1 tr ts∧Q E' h' ts J
variable {Q:List (Nat×V)→H→List (List (Nat×V)×V)→List H→Prop}
theorem aE.nil (I:Q E h [] hs): aE C aB L [] E h hs Q:=fun env J=>⟨0,env,h,E,[],[],hs,rfl,J,aa,I⟩
theorem aE.any {e:Bool}(hg:wantE L E o.guard=some true)(hd:o.dst=some d)(hn:Nat.blt d aB=true)(he:isEff C o.op=e)(ho:OpR C E h o yy)
 (hw:∀v h₁,yy v h₁→aE C aB L rest ((d,v)::E) h₁ (cond e (hs++[h₁]) hs) fun E' h' ts I=>Q E' h' ((E,v)::ts) I): aE C aB L (o::rest) E h hs Q:=by
 intro env hE
 obtain⟨v,h₁,hr,uj⟩:=ho
 obtain⟨N,hN⟩:=uj env hE
 obtain⟨M,J,h',E',tr,ts,I,h1,h2,h3,h4⟩:=hw v h₁ hr (env.set d (some v)) (hE.set d v)
 refine⟨Nat.max N M,J,h',E',(env,v)::tr,(E,v)::ts,I,?_,h2,⟨hE,rfl,h3⟩,h4⟩
 simp only[trace,jF hE hg,ag,l8 (gH (oM N M)) hN,St.put,hd,hn,he]
 rw[wN (gH (oL N M)) _ _ _ _ h1]
theorem aE.mS {e:Bool}(hg:wantE L E o.guard=some true)(hd:o.dst=none)(he:isEff C o.op=e)(ho:OpR C E h o yy)
 (hw:∀v h₁,yy v h₁→aE C aB L rest E h₁ (cond e (hs++[h₁]) hs) fun E' h' ts I=>Q E' h' ((E,v)::ts) I): aE C aB L (o::rest) E h hs Q:=by
 intro env hE
 obtain⟨v,h₁,hr,uj⟩:=ho
 obtain⟨N,hN⟩:=uj env hE
 obtain⟨M,J,h',E',tr,ts,I,h1,h2,h3,h4⟩:=hw v h₁ hr env hE
 refine⟨Nat.max N M,J,h',E',(env,v)::tr,(E,v)::ts,I,?_,h2,⟨hE,rfl,h3⟩,h4⟩
 simp only[trace,jF hE hg,ag,l8 (gH (oM N M)) hN,St.put,hd,he]
 rw[wN (gH (oL N M)) _ _ _ _ h1]
theorem aE.op {v:V}(J:wantE L E o.guard=some true)(hd:o.dst=some d)(hn:Nat.blt d aB=true)(he:isEff C o.op=false)(ho:opE C.P E h o.op=some (v,h))
 (hw:aE C aB L rest ((d,v)::E) h hs fun E' h' ts I=>Q E' h' ((E,v)::ts) I): aE C aB L (o::rest) E h hs Q :=
 aE.any J hd hn he (OpR.of (R:=fun v' h'=>v'=v∧h'=h) ho ⟨rfl,rfl⟩) (fun v' h' hr=>by obtain⟨rfl,rfl⟩:=hr;exact hw)
theorem aE.no {e:Bool}(hg:wantE L E o.guard=some false)(hd:o.dst=some d)(hn:Nat.blt d aB=true)(he:isEff C o.op=e)
 (hw:aE C aB L rest ((d,ct)::E) h (cond e (hs++[h]) hs) fun E' h' ts I=>Q E' h' ((E,ct)::ts) I): aE C aB L (o::rest) E h hs Q:=by
 intro env hE
 obtain⟨M,J,h',E',tr,ts,I,h1,h2,h3,h4⟩:=hw (env.set d (some ct)) (hE.set d ct)
 refine⟨M,J,h',E',(env,ct)::tr,(E,ct)::ts,I,?_,h2,⟨hE,rfl,h3⟩,h4⟩
 simp only[trace,jF hE hg,aS,St.put,hd,hn,ag,he]
 rw[h1]
def HS (C:fB)(L:List Oper)(o:Oper)(x:List (Nat×V)×V)(h:H): Prop :=
 wantE L x.1 o.guard=some false∨(wantE L x.1 o.guard=some true∧(∃h',opE C.P x.1 h o.op=some (x.2,h'))∧x.2.beq x.2=true)
def C3 (C:fB)(L:List Oper)(an es:List Nat)(hs:List H): List Oper→List (List (Nat×V)×V)→Nat→Prop
 |o::l,x::tr,i=>(isEff C o.op=true∨(pH ((nth an i).getD 0) es&&Nat.beq (kY ((nth an i).getD 0) es) (nN an i es))=true ∨
   (pH ((nth an i).getD 0) es=true∧∀h∈(hs.drop (kY ((nth an i).getD 0) es)).take (nN an i es+1-kY ((nth an i).getD 0) es),HS C L o x h))∧C3 C L an es hs l tr (i+1)
 |[],[],_=>True
 |_,_,_=>False
theorem O3 {x:Env×V}{y:List (Nat×V)×V}(J:j5 x.1 y.1)(hv:x.2=y.2): ∀(hs:List H),(∀h∈hs,HS C L o y h)→sameIn C self L o x hs=true:=by
 intro hs
 induction hs with
 |nil=>intro _;rfl
 |cons h hs ih =>
  intro I
  simp only[sameIn]
  rcases I h bO with hg|⟨hg,⟨h',ho⟩,hb⟩
  ·rw[jF J hg,aS]
  ·rw[jF J hg,ag,CS J ho]
   simp only
   rw[hv,hb,ag]
   exact ih (fun h hh=>I h (bR _ hh))
theorem F5 {an:List Nat}: ∀(l:List Oper) (tr:List (Env×V)) (ts:List (List (Nat×V)×V)) (i:Nat),G1 tr ts→C3 C L an es hs l ts i→stayOk C self L an es hs l tr i=true:=by
 intro l
 induction l with
 |nil=>intro tr ts i hn J;cases tr<;>cases ts<;>first|rfl|(exact J.elim)|(exact hn.elim)
 |cons o l ih =>
  intro tr ts i hn J
  cases tr with
  |nil=>cases ts with
   |nil=>exact J.elim
   |cons y ts=>exact hn.elim
  |cons x tr =>
   cases ts with
   |nil=>exact hn.elim
   |cons y ts =>
    obtain⟨n1,n2,n3⟩:=hn
    obtain⟨s1,s2⟩:=J
    simp only[stayOk]
    have I:=ih tr ts (i+1) n3 s2
    cases he:isEff C o.op with
    |true=>rw[ag];exact I
    |false =>
     rw[aS]
     rcases s1 with s1|s1|⟨s1,s3⟩
     ·rw[he] at s1;cases s1
     ·rw[s1,ag];exact I
     ·cases hq:(pH ((nth an i).getD 0) es&&Nat.beq (kY ((nth an i).getD 0) es) (nN an i es)) with
      |true=>rw[ag];exact I
      |false=>rw[aS,s1,O3 n1 n2 _ s3,jc,ag];exact I
theorem WP.draw {Q:Ex→List (Nat×V)→H→Prop}(hl:ops.toList=L)(J:kX C false L=true)
 (hw:aE C aB L L E h [h] fun E' h' ts hs=>C3 C L (ancs L []) (dV C L 0) hs L ts 0∧Q .normal E' h'): WP C aB (.region id ops true) E h Q:=by
 intro env hE
 obtain⟨N,I,h',E',tr,ts,O4,h1,h2,h3,h4,h5⟩:=hw env hE
 refine⟨N+1,.normal,I,h',E',?_,h2,h5⟩
 subst hl
 rw[iQ]
 simp only[evStep,ag,nV,J,h1,F5 _ _ _ _ h3 h4]
def KY (L:List Oper): List Oper→List (List (Nat×V)×V)→Prop
 |o::l,x::ts=>(isAlloc true o=false∨wantE L x.1 o.guard=some true)∧KY L l ts
 |_,_=>True
theorem KY.all : ∀(l:List Oper) (tr:List (Env×V)) (ts:List (List (Nat×V)×V)),G1 tr ts→KY L l ts→allW L l tr=true:=by
 intro l
 induction l with
 |nil=>intro tr ts _ _;rfl
 |cons o l I =>
  intro tr ts J hf
  cases tr with
  |nil=>rfl
  |cons x tr =>
   cases ts with
   |nil=>exact J.elim
   |cons y ts =>
    obtain⟨n1,n2,n3⟩:=J
    obtain⟨f1,f2⟩:=hf
    simp only[allW]
    rcases f1 with f1|f1
    ·rw[f1];exact I tr ts n3 f2
    ·rw[jF n1 f1]
     simp only[Bool.or_true,ag]
     exact I tr ts n3 f2
theorem WP.aal {Q:Ex→List (Nat×V)→H→Prop}(hl:ops.toList=L)(J:kX C true L=true)
 (hw:aE C aB L L E h [h] fun E' h' ts hs=>(C3 C L (ancs L []) (dV C L 0) hs L ts 0∧KY L L ts)∧Q .normal E' h'): WP C aB (.region id ops true) E h Q:=by
 intro env hE
 obtain⟨N,I,h',E',tr,ts,O4,h1,h2,h3,⟨h4,h6⟩,h5⟩:=hw env hE
 refine⟨N+1,.normal,I,h',E',?_,h2,h5⟩
 subst hl
 rw[iQ]
 simp only[evStep,ag,nV,J,h1,F5 _ _ _ _ h3 h4,KY.all _ _ _ h3 h6,jc]
 cases kX C false ops.toList<;>rfl
end
def planOk (C:fB)(an es:List Nat): List Oper→List (Option (Nat×Nat))→Nat→Bool
 |[],[],_=>true
 |o::l,p::ps,i=>(match p with
   |none=>isEff C o.op||(pH ((nth an i).getD 0) es&&Nat.beq (kY ((nth an i).getD 0) es) (nN an i es))
   |some (lo,n)=>pH ((nth an i).getD 0) es&&Nat.beq lo (kY ((nth an i).getD 0) es)&&Nat.beq n (nN an i es+1-kY ((nth an i).getD 0) es))&&planOk C an es l ps (i+1)
 |_,_,_=>false
def wR (C:fB)(L:List Oper)(hs:List H): List Oper→List (List (Nat×V)×V)→List (Option (Nat×Nat))→Prop
 |o::l,x::tr,p::ps=>(match p with
   |none=>True
   |some (lo,n)=>∀h∈(hs.drop lo).take n,HS C L o x h)∧wR C L hs l tr ps
 |[],[],_=>True
 |_,_,_=>False
theorem wR.stay {an:List Nat}: ∀(l:List Oper) (ts:List (List (Nat×V)×V)) (ps:List (Option (Nat×Nat))) (i:Nat),planOk C an es l ps i=true→wR C L hs l ts ps→C3 C L an es hs l ts i:=by
 intro l
 induction l with
 |nil=>intro ts ps i h1 J;cases ts with
  |nil=>trivial
  |cons x ts=>exact J.elim
 |cons o l ih =>
  intro ts ps i h1 J
  cases ts with
  |nil=>cases ps<;>exact J.elim
  |cons x ts =>
   cases ps with
   |nil=>exact J.elim
   |cons p ps =>
    simp only[planOk,bF] at h1
    obtain⟨I,a2⟩:=h1
    obtain⟨b1,b2⟩:=J
    refine⟨?_,ih ts ps (i+1) a2 b2⟩
    cases p with
    |none =>
     simp only[Ev] at I
     rcases I with I|I
     ·exact .inl I
     ·exact .inr (.inl I)
    |some q =>
     obtain⟨lo,n⟩:=q
     simp only[bF,beq_iff] at I
     obtain⟨⟨c1,c2⟩,c3⟩:=I
     refine .inr (.inr ⟨c1,?_⟩)
     subst c2
     subst c3
     exact b1
theorem WP.drawn {aB:Nat}(ps:List (Option (Nat×Nat)))(hl:ops.toList=L)(J:kX C false L=true)
 (hp:planOk C (ancs L []) (dV C L 0) L ps 0=true)
 (hw:aE C aB L L E h [h] fun E' h' ts hs=>wR C L hs L ts ps∧Q .normal E' h'): WP C aB (.region id ops true) E h Q:=by
 refine WP.draw hl J ?_
 intro env hE
 obtain⟨N,I,h',E',tr,ts,O4,h1,h2,h3,h4,h5⟩:=hw env hE
 exact⟨N,I,h',E',tr,ts,O4,h1,h2,h3,wR.stay _ _ _ _ hp h4,h5⟩
theorem WP.HT {aB:Nat}(ps:List (Option (Nat×Nat)))(hl:ops.toList=L)(J:kX C true L=true)
 (hp:planOk C (ancs L []) (dV C L 0) L ps 0=true)
 (hw:aE C aB L L E h [h] fun E' h' ts hs=>(wR C L hs L ts ps∧KY L L ts)∧Q .normal E' h'): WP C aB (.region id ops true) E h Q:=by
 refine WP.aal hl J ?_
 intro env hE
 obtain⟨N,I,h',E',tr,ts,O4,h1,h2,h3,h4,h5⟩:=hw env hE
 exact⟨N,I,h',E',tr,ts,O4,h1,h2,h3,⟨wR.stay _ _ _ _ hp h4.1,h4.2⟩,h5⟩
theorem ga {a b:H}{l:List H}{p:H→Prop}(J:p a)(hb:p b): ∀x∈((a::b::l).drop 0).take 2,p x:=by
 intro x I
 simp only[eC,List.take_succ_cons,sJ,gm,jw,mL] at I
 rcases I with rfl|rfl
 ·exact J
 ·exact hb
theorem C4 {a b c:H}{l:List H}{p:H→Prop}(J:p a)(hb:p b)(hc:p c): ∀x∈((a::b::c::l).drop 0).take 3,p x:=by
 intro x I
 simp only[eC,List.take_succ_cons,sJ,gm,jw,mL] at I
 rcases I with rfl|rfl|rfl
 ·exact J
 ·exact hb
 ·exact hc
theorem dO (k:IntKind): ikBeq k k=true:=by cases k<;>rfl
theorem qS (n:Int): intBeq n n=true:=by cases n<;>simp[intBeq]
theorem BD (c:Cap): c.beq c=true:=by cases c<;>simp[Cap.beq]
theorem wS (a b c:Nat)(d:Cap): (V.sl a b c d).beq (.sl a b c d)=true:=by simp[V.beq,BD]
theorem jZ {v:V}(hv:View h v l): v.beq v=true:=by
 obtain⟨_,hv⟩:=hv
 rcases hv with⟨rfl|⟨I,rfl⟩,_⟩|⟨id,off,cap,n,cs,st,rfl,_⟩
 ·simp[V.beq]
 ·simp[V.beq]
 ·exact wS _ _ _ _
section
variable {aB:Nat} {Q:List (Nat×V)→H→List (List (Nat×V)×V)→List H→Prop} {o:Oper} {v:V} {a b:Operand}
theorem zM (e:(o.op,wantE L E o.guard,o.dst,Nat.blt d aB,isEff C o.op,bq E x)=(Op.move x,some true,some d,true,false,some v))(hw:aE C aB L rest ((d,v)::E) h hs fun E' h' ts I=>Q E' h' ((E,v)::ts) I): aE C aB L (o::rest) E h hs Q:=by
  simp only[bG] at e;exact aE.op e.2.1 e.2.2.1 e.2.2.2.1 e.2.2.2.2.1 (by rw[e.1];exact bV e.2.2.2.2.2) hw
theorem zA (e:(o.op,wantE L E o.guard,o.dst,Nat.blt d aB,isEff C o.op,bq E x)=(Op.assign x,some true,some d,true,false,some v))(hw:aE C aB L rest ((d,v)::E) h hs fun E' h' ts I=>Q E' h' ((E,v)::ts) I): aE C aB L (o::rest) E h hs Q:=by
  simp only[bG] at e;exact aE.op e.2.1 e.2.2.1 e.2.2.2.1 e.2.2.2.2.1 (by rw[e.1];exact gT e.2.2.2.2.2) hw
theorem zN (e:(o.op,wantE L E o.guard,o.dst,Nat.blt d aB,isEff C o.op,bq E x)=(Op.nilCheck x,some true,some d,true,false,some (V.ptr j k)))(hw:aE C aB L rest ((d,.ptr j k)::E) h hs fun E' h' ts I=>Q E' h' ((E,.ptr j k)::ts) I): aE C aB L (o::rest) E h hs Q:=by
  simp only[bG] at e;exact aE.op e.2.1 e.2.2.1 e.2.2.2.1 e.2.2.2.2.1 (by rw[e.1];exact su e.2.2.2.2.2) hw
theorem zF (e:(o.op,wantE L E o.guard,o.dst,Nat.blt d aB,isEff C o.op,bq E x)=(Op.fieldAddr t x i,some true,some d,true,false,some v))(J:fieldAddrV C.P t v i=some r)(hw:aE C aB L rest ((d,r)::E) h hs fun E' h' ts I=>Q E' h' ((E,r)::ts) I): aE C aB L (o::rest) E h hs Q:=by
  simp only[bG] at e;exact aE.op e.2.1 e.2.2.1 e.2.2.2.1 e.2.2.2.2.1 (by rw[e.1];exact lU e.2.2.2.2.2 J) hw
theorem zL (e:(o.op,wantE L E o.guard,o.dst,Nat.blt d aB,isEff C o.op,bq E x)=(Op.load t x,some true,some d,true,false,some v))(J:loadV C.P h t v=some r)(hw:aE C aB L rest ((d,r)::E) h hs fun E' h' ts I=>Q E' h' ((E,r)::ts) I): aE C aB L (o::rest) E h hs Q:=by
  simp only[bG] at e;exact aE.op e.2.1 e.2.2.1 e.2.2.2.1 e.2.2.2.2.1 (by rw[e.1];exact o_load e.2.2.2.2.2 J) hw
theorem zO (e:(wantE L E o.guard,o.dst,Nat.blt d aB,isEff C o.op)=(some true,some d,true,false))(ho:opE C.P E h o.op=some (v,h))(hw:aE C aB L rest ((d,v)::E) h hs fun E' h' ts I=>Q E' h' ((E,v)::ts) I): aE C aB L (o::rest) E h hs Q:=by
  simp only[bG] at e;exact aE.op e.1 e.2.1 e.2.2.1 e.2.2.2 ho hw
end
abbrev PM := Nat→Option Obj
variable {m':PM}
def PM.le (a b:PM): Prop:=∀i o,a i=some o→b i=some o
def PM.dj (a b:PM): Prop:=∀i,a i=none∨b i=none
def PM.upd (m:PM)(id:Nat)(o:Option Obj): PM:=fun i=>if i=id then o else m i
def PM.un (a b:PM): PM:=fun i=>(a i).orElse fun _=>b i
theorem PM.le_refl (a:PM): a.le a:=fun _ _ h=>h
theorem PM.le_trans {a b c:PM}(x:a.le b)(y:b.le c): a.le c:=fun i o h=>y i o (x i o h)
theorem PM.m_ {a b I b':PM}(hd:a.dj b)(ha:I.le a)(hb:b'.le b): I.dj b':=by
 intro i
 rcases hd i with h|h
 ·left
  cases J:I i with
  |none=>rfl
  |some o=>rw[ha i o J] at h;cases h
 ·right
  cases J:b' i with
  |none=>rfl
  |some o=>rw[hb i o J] at h;cases h
theorem PM.o6 {a b:PM}(h:a.dj b): b.dj a:=fun i=>(h i).symm
theorem PM.HU (a b:PM): a.le (a.un b):=fun i o h=>by simp[PM.un,h]
theorem PM.HV {a b:PM}(I:a.dj b): b.le (a.un b):=fun i o h=>by
 rcases I i with J|J<;>grind[PM.un]
theorem PM.C5 {a b c:PM}(J:a.le c)(hb:b.le c): (a.un b).le c:=fun i o h=>by
 simp only[PM.un] at h
 cases I:a i with
 |none=>rw[I] at h;exact hb i o h
 |some x=>rw[I] at h;injection h with h;subst h;exact J i _ I
theorem PM.C6 {a b c:PM}(I:a.dj c)(J:b.dj c): (a.un b).dj c:=fun i=>by
 rcases I i with h|h
 ·rcases J i with h2|h2<;>grind[PM.un]
 ·grind
def ViewM (m:PM)(v:V)(l:List Nat): Prop:=(∀b∈l,b<256)∧(((v=.aV∨∃a,v=.sle a)∧l=[]) ∨
 ∃id off cap n cs st,v=.sl id off l.length cap∧m id=some (.cells n cs st)∧cs.length=n∧off+l.length≤n∧(cs.drop off).take l.length=ofBytes l ∧
  (match cap with|.exact c=>l.length≤c|.rest e _=>e=1))
def rP (m:PM)(v:V)(l:List Nat): Prop:=(∀b∈l,b<256)∧((v=.aV∧l=[]) ∨
 (∃id cs c,v=.sl id 0 l.length (.exact c)∧m id=some (.cells c (ofBytes l++cs) false)∧l.length+cs.length=c) ∨
 (∃id,v=.sl id 0 l.length (.rest 1 0)∧m id=some (.cells l.length (ofBytes l) false)∧1≤l.length))
theorem ViewM.up {m:PM}{v:V}(h:ViewM m v l)(hm:PM.le m m'): ViewM m' v l:=by
 obtain⟨J,I⟩:=h
 refine⟨J,?_⟩
 rcases I with I|⟨id,off,cap,n,cs,st,e,hg,h3⟩
 ·grind
 ·exact .inr ⟨id,off,cap,n,cs,st,e,hm _ _ hg,h3⟩
theorem rP.up {m:PM}{v:V}(h:rP m v l)(hm:PM.le m m'): rP m' v l:=by
 obtain⟨h1,h2⟩:=h
 refine⟨h1,?_⟩
 rcases h2 with h2|⟨id,cs,c,e,I,J⟩|⟨id,e,I,J⟩
 ·grind
 ·exact .inr (.inl ⟨id,cs,c,e,hm _ _ I,J⟩)
 ·exact .inr (.inr ⟨id,e,hm _ _ I,J⟩)
theorem rP.view {m:PM}{v:V}(I:rP m v l): ViewM m v l:=by
 obtain⟨J,I⟩:=I
 refine⟨J,?_⟩<;>grind[cQ]
def nQ (m:PM)(k:Nat)(v:V)(cs:List V): Prop:=cs.all storable=true∧((v=.aV∧cs=[]) ∨
 ∃id n cap N rest,v=.sl id 0 n cap∧m id=some (.cells N (cs++rest) false)∧cs.length=n*k∧cs.length+rest.length=N∧rest.all storable=true ∧
  (match cap with|.exact c=>N=c*k∧n≤c|.rest e alt=>e=k∧alt=0∧rest=[]∧1≤n))
theorem nQ.up {m:PM}{v:V}(h:nQ m k v cs)(hm:PM.le m m'): nQ m' k v cs:=by
 obtain⟨J,I⟩:=h
 refine⟨J,?_⟩
 rcases I with I|⟨id,n,cap,N,rest,e,hg,h3⟩
 ·grind
 ·exact .inr ⟨id,n,cap,N,rest,e,hm _ _ hg,h3⟩
inductive aI : Type 1 where
 |pt (id:Nat) (o:Obj)
 |ro (id:Nat) (o:Obj)
 |pu (φ:Prop)
 |buf (v:V) (l:List Nat)
 |bK (v:V) (l:List Nat)
 |X9 (v:V) (l:List Nat)
 |arr (k:Nat) (v:V) (cs:List V)
 |an (A B:aI)
 |xs {α:Type} (f:α→aI)
 |all {α:Type} (f:α→aI)
 |se (A B:aI)
variable {A B X:aI} {S S':List aI}
abbrev pt := aI.pt
abbrev ro := aI.ro
abbrev pu := aI.pu
abbrev xs {α:Type}(f:α→aI): aI:=aI.xs f
abbrev aQ := aI.buf
abbrev l9 := aI.bK
abbrev b5 := aI.X9
def aI.p : aI→PM→PM→Prop
 |.pt id o,m,_=>m id=some o
 |.ro id o,_,r=>r id=some o
 |.pu φ,_,_=>φ
 |.buf v l,m,_=>rP m v l
 |.bK v l,_,r=>ViewM r v l
 |.X9 v l,m,r=>ViewM m v l∨ViewM r v l
 |.arr k v cs,m,_=>nQ m k v cs
 |.an A B,m,r=>A.p m r∧B.p m r
 |.xs f,m,r=>∃x,(f x).p m r
 |.all f,m,r=>∀x,(f x).p m r
 |.se A B,m,r=>∃a b,PM.dj a b∧PM.le a m∧PM.le b m∧A.p a r∧B.p b r
theorem aI.mono : ∀(A:aI) (m m' r J:PM),PM.le m m'→PM.le r J→A.p m r→A.p m' J:=by
 intro A
 induction A with
 |pt id o=>intro m m' r J hm I h;exact hm _ _ h
 |ro id o=>intro m m' r J hm I h;exact I _ _ h
 |pu φ=>intro m m' r J hm I h;exact h
 |buf v l=>intro m m' r J hm I h;exact rP.up h hm
 |bK v l=>intro m m' r J hm I h;exact ViewM.up h I
 |X9 v l =>
  intro m m' r J hm I h
  rcases h with h|h
  ·exact .inl (ViewM.up h hm)
  ·exact .inr (ViewM.up h I)
 |arr k v cs=>intro m m' r J hm I h;exact nQ.up h hm
 |an A B ia ib=>intro m m' r J hm I h;exact⟨ia _ _ _ _ hm I h.1,ib _ _ _ _ hm I h.2⟩
 |xs f ih=>intro m m' r J hm I h;obtain⟨x,hx⟩:=h;exact⟨x,ih x _ _ _ _ hm I hx⟩
 |all f ih=>intro m m' r J hm I h x;exact ih x _ _ _ _ hm I (h x)
 |se A B ia ib =>
  intro m m' r J hm I h
  obtain⟨a,b,h1,h2,h3,h4,h5⟩:=h
  exact⟨a,b,h1,PM.le_trans h2 hm,PM.le_trans h3 hm,ia _ _ _ _ (PM.le_refl _) I h4,ib _ _ _ _ (PM.le_refl _) I h5⟩
def star : List aI→aI
 |[]=>.pu True
 |A::L=>.se A (star L)
theorem aI.up {m r I:PM}(h:A.p m r)(hm:m.le m')(J:r.le I): A.p m' I:=A.mono m m' r I hm J h
def bX (A B:aI): Prop:=∀m r,A.p m r→B.p m r
def aJ (A:aI): Prop:=∀m r,A.p m r→A.p (fun _=>none) r
theorem aJ.ro (id:Nat)(o:Obj): aJ (.ro id o):=fun _ _ h=>h
theorem aJ.pu (φ:Prop): aJ (.pu φ):=fun _ _ h=>h
theorem aJ.xs {f:α→aI}(h:∀x,aJ (f x)): aJ (.xs f):=fun m r ⟨x,I⟩=>⟨x,h x m r I⟩
theorem aJ.an (I:aJ A)(J:aJ B): aJ (.an A B):=fun m r h=>⟨I m r h.1,J m r h.2⟩
def getA : List aI→Nat→Option aI
 |[],_=>none
 |A::_,0=>some A
 |_::L,k+1=>getA L k
theorem jA (I:getA S k=some X): getA (A::S) (k+1)=some X:=I
def setA : List aI→Nat→aI→List aI
 |[],_,_=>[]
 |_::L,0,B=>B::L
 |A::L,k+1,B=>A::setA L k B
def aT : List aI→Nat→List aI
 |[],_=>[]
 |_::L,0=>L
 |A::L,k+1=>A::aT L k
def bringA (S:List aI): List Nat→List aI
 |[]=>S
 |k::ks=>match getA S k with
  |some A=>A::bringA (aT S k) ks
  |none=>[]
def MJ (k:Nat): List Nat→Nat
 |[]=>0
 |x::l=>cond (Nat.blt x k) (MJ k l+1) (MJ k l)
def X_ : List Nat→List Nat→List Nat
 |_,[]=>[]
 |seen,k::ks=>(k-MJ k seen)::X_ (k::seen) ks
theorem O5 {L:List aI}{m r:PM}(h:(star (A::B::L)).p m r): (star (B::A::L)).p m r:=by
 obtain⟨a,b,h1,h2,h3,h4,c,d,g1,g2,g3,g4,g5⟩:=h
 have J:a.dj c:=PM.m_ h1 (PM.le_refl _) g2
 have I:a.dj d:=PM.m_ h1 (PM.le_refl _) g3
 exact⟨c,a.un d,PM.o6 (PM.C6 J (PM.o6 g1)),PM.le_trans g2 h3,PM.C5 h2 (PM.le_trans g3 h3),g4,a,d,I,PM.HU _ _,PM.HV I,h4,g5⟩
theorem yG {L I:List aI}(h:∀m r,(star L).p m r→(star I).p m r){m r:PM}(hs:(star (A::L)).p m r): (star (A::I)).p m r:=by
 obtain⟨a,b,J,h2,h3,h4,h5⟩:=hs
 exact⟨a,b,J,h2,h3,h4,h _ _ h5⟩
theorem yH : ∀ {S:List aI} {k:Nat} {A:aI},getA S k=some A→∀m r,(star S).p m r→(star (A::aT S k)).p m r:=by
 intro S
 induction S with
 |nil=>intro k A h;cases h
 |cons B S I =>
  intro k A h m r hs
  cases k with
  |zero=>injection h with h;subst h;exact hs
  |succ k =>
   exact O5 (yG (I h) hs)
theorem yI {L:List aI}{m r:PM}(h:(star (A::L)).p m r): (star L).p m r:=by
 obtain⟨a,b,I,J,h3,h4,h5⟩:=h<;>grind[aI.up,PM.le_refl]
theorem O6 {L:List aI}{m r:PM}(h:(star (A::L)).p m r): A.p m r:=by
 obtain⟨a,b,I,J,h3,h4,h5⟩:=h<;>grind[aI.up,PM.le_refl]
theorem C7 : ∀(ks:List Nat) (S:List aI) (m r:PM),(star S).p m r→(bringA S ks=[]∨True)→(star (bringA S ks)).p m r:=by
 intro ks
 induction ks with
 |nil=>intro S m r h _;exact h
 |cons k ks I =>
  intro S m r h _
  simp only[bringA]
  cases J:getA S k with
  |none=>trivial
  |some A=>exact yG (fun m r h=>I _ m r h (.inr aa)) (yH J m r h)
theorem HW {L:List aI}: ∀m r,(star (star L::S)).p m r↔(star (L++S)).p m r:=by
 induction L with
 |nil =>
  intro m r
  constructor
  ·intro h;exact yI h
  ·intro h;exact⟨fun _=>none,m,fun _=>.inl rfl,fun _ _ h=>(by cases h),PM.le_refl _,aa,h⟩
 |cons A L ih =>
  intro m r
  constructor
  ·rintro⟨a,b,J,h2,h3,⟨c,d,g1,g2,g3,g4,g5⟩,h5⟩
   have I:c.dj b:=PM.m_ J g2 (PM.le_refl _)
   have Ya:d.dj b:=PM.m_ J g3 (PM.le_refl _)
   exact⟨c,d.un b,PM.o6 (PM.C6 (PM.o6 g1) (PM.o6 I)),PM.le_trans g2 h2,PM.C5 (PM.le_trans g3 h2) h3,g4,(ih _ _).1 ⟨d,b,Ya,PM.HU _ _,PM.HV Ya,g5,h5⟩⟩
  ·rintro⟨c,e,J,h2,h3,h4,h5⟩
   obtain⟨d,b,g1,g2,g3,g4,g5⟩:=(ih _ _).2 h5
   have OZ:c.dj d:=PM.m_ J (PM.le_refl _) g2
   have I:c.dj b:=PM.m_ J (PM.le_refl _) g3
   exact⟨c.un d,b,PM.C6 I g1,PM.C5 h2 (PM.le_trans g2 h3),PM.le_trans g3 h3,⟨c,d,OZ,PM.HU _ _,PM.HV OZ,h4,g4⟩,g5⟩
structure Sat (h:H)(S:List aI): Prop where
 wf:lT h
 ok:∃m r,PM.le m (T.get h.tr)∧PM.le r (T.get h.tr)∧PM.dj m r∧(star S).p m r
section
theorem Sat.map (s:Sat h S)(I:∀m r,(star S).p m r→(star S').p m r): Sat h S':=by
 obtain⟨m,r,J,h2,h3,h4⟩:=s.ok
 exact⟨s.wf,m,r,J,h2,h3,I _ _ h4⟩
theorem Sat.at (s:Sat h S)(I:getA S k=some A): ∃m r,PM.le m (T.get h.tr)∧PM.le r (T.get h.tr)∧A.p m r:=by
 obtain⟨m,r,J,h2,h3,h4⟩:=s.ok
 exact⟨m,r,J,h2,O6 (yH I m r h4)⟩
theorem Sat.take (k:Nat)(s:Sat h S)(I:getA S k=some A): Sat h (A::aT S k):=s.map (yH I)
theorem Sat.pS (ks:List Nat)(s:Sat h S): Sat h (bringA S (X_ [] ks)):=s.map fun m r h=>C7 _ S m r h (.inr aa)
theorem Sat.ae (ks:List Nat)(s:Sat h S): Sat h (bringA S ks):=s.map fun m r h=>C7 _ S m r h (.inr aa)
theorem Sat.drop (s:Sat h (A::S)): Sat h S:=s.map fun _ _ h=>yI h
theorem R_ : ∀(S:List aI) (k:Nat) (m r:PM),(star S).p m r→(star (aT S k)).p m r:=by
 intro S
 induction S with
 |nil=>intro k m r h;exact h
 |cons B S I =>
  intro k m r h
  cases k with
  |zero=>exact yI h
  |succ k=>exact yG (I k) h
theorem Sat.del (k:Nat)(s:Sat h S): Sat h (aT S k):=s.map (R_ S k)
theorem Sat.dG (s:Sat h (A::S))(he:bX A B): Sat h (B::S):=s.map fun m r ⟨a,b,I,J,h3,h4,h5⟩=>⟨a,b,I,J,h3,he _ _ h4,h5⟩
theorem Sat.dup (s:Sat h (A::S))(J:aJ A): Sat h (A::A::S):=s.map fun m r hs=>by
 obtain⟨a,b,h1,h2,h3,I,h5⟩:=hs
 exact⟨fun _=>none,m,fun _=>.inl rfl,fun _ _ h=>(by cases h),PM.le_refl _,J _ _ I,a,b,h1,h2,h3,I,h5⟩
theorem Sat.fq (s:Sat h S)(I:φ): Sat h (pu φ::S):=s.map fun m _ hs=>⟨fun _=>none,m,fun _=>.inl rfl,fun _ _ h=>(by cases h),PM.le_refl _,I,hs⟩
theorem Sat.two {C:aI}(s:Sat h (A::B::S))(I:aJ A)(J:aJ B)(hC:∀m r,A.p m r→B.p m r→C.p m r): Sat h (C::S):=s.map fun m r hs=>by
 obtain⟨a,b,h1,h2,h3,h4,c,d,g1,g2,g3,g4,g5⟩:=hs
 exact⟨fun _=>none,d,fun _=>.inl rfl,fun _ _ h=>(by cases h),PM.le_trans g3 h3,hC _ _ (I _ _ h4) (J _ _ g4),g5⟩
theorem iC {f:α→aI}: Sat h (xs f::S)↔∃x,Sat h (f x::S):=by
 constructor
 ·intro s
  obtain⟨m,r,I,J,h3,a,b,g1,g2,g3,⟨x,g4⟩,g5⟩:=s.ok
  exact⟨x,s.wf,m,r,I,J,h3,a,b,g1,g2,g3,g4,g5⟩
 ·rintro⟨x,s⟩
  exact s.dG fun m r h=>⟨x,h⟩
theorem pT : Sat h (pu φ::S)↔φ∧Sat h S:=by
 constructor
 ·intro s
  obtain⟨m,r,I,h2,h3,a,b,g1,g2,g3,J,g5⟩:=s.ok
  exact⟨J,s.drop⟩
 ·rintro⟨I,s⟩;exact s.fq I
theorem cG {L:List aI}: Sat h (star L::S)↔Sat h (L++S) :=
 ⟨fun s=>s.map fun m r hs=>(HW m r).1 hs,fun s=>s.map fun m r hs=>(HW m r).2 hs⟩
theorem Sat.row {o:Obj}(s:Sat h S)(I:getA S k=some (pt id o)): T.get h.tr id=some o:=by
 obtain⟨m,r,J,h2,h3⟩:=s.at I
 exact J _ _ h3
theorem Sat.Yb {o:Obj}(s:Sat h S)(I:getA S k=some (ro id o)): T.get h.tr id=some o:=by
 obtain⟨m,r,h1,J,h3⟩:=s.at I
 exact J _ _ h3
theorem Sat.ne {o:Obj}(s:Sat h (pt i o::pt j o'::S)): i≠j:=by
 rintro rfl
 obtain⟨m,r,h1,h2,h3,a,b,I,g2,g3,J,c,d,k1,k2,k3,k4,k5⟩:=s.ok
 have e1:a i=some o:=J
 have e2:b i=some o':=k2 _ _ k4
 rcases I i with e|e
 ·grind
 ·grind
theorem Yc {m:PM}{t:T Obj}{o:Option Obj}(hm:m.le (T.get t)): (m.upd id o).le (T.get (t.set id o)):=by
 intro i x I
 rw[a_]
 simp only[PM.upd] at I
 split
 ·grind
 ·rename_i e;rw[ax e] at I;exact hm i x I
theorem HX {m:PM}{o:Option Obj}(hm:m.le (T.get h.tr))(J:m id=none): m.le (T.get (h.put id o).tr):=by
 intro i x I
 rw[gn]
 split
 ·grind
 ·exact hm i x I
theorem Sa : ∀ {S:List aI} {k id:Nat} {o o':Obj},getA S k=some (pt id o)→∀m r,(star S).p m r→m id=some o∧(star (setA S k (pt id o'))).p (m.upd id (some o')) r:=by
 intro S
 induction S with
 |nil=>intro k id o o' h;cases h
 |cons B S ih =>
  intro k id o o' J m r hs
  obtain⟨a,b,h1,h2,h3,h4,h5⟩:=hs
  cases k with
  |zero =>
   injection J with J
   subst J
   have ha:a id=some o:=h4
   have hb:b id=none:=by
    rcases h1 id with e|e
    ·grind
    ·exact e
   refine⟨h2 _ _ ha,a.upd id (some o'),b,fun i => ?_,fun i x I => ?_,fun i x I => ?_,?_,h5⟩
   ·by_cases e:i=id
    ·grind
    ·simp only[PM.upd,ax e];exact h1 i
   ·simp only[PM.upd] at I ⊢
    split
    ·grind
    ·rename_i e;rw[ax e] at I;exact h2 i x I
   ·simp only[PM.upd]
    split
    ·grind
    ·exact h3 i x I
   ·show(a.upd id (some o')) id=some o'
    simp[PM.upd]
  |succ k =>
   obtain⟨g1,g2⟩:=ih (o':=o') J b r h5
   have ha:a id=none:=by
    rcases h1 id with e|e
    ·exact e
    ·grind
   refine⟨h3 _ _ g1,a,b.upd id (some o'),fun i => ?_,fun i x I => ?_,fun i x I => ?_,h4,g2⟩
   ·by_cases e:i=id
    ·grind
    ·simp only[PM.upd,ax e];exact h1 i
   ·simp only[PM.upd]
    split
    ·grind
    ·exact h2 i x I
   ·simp only[PM.upd] at I ⊢
    split
    ·grind
    ·rename_i e;rw[ax e] at I;exact h3 i x I
theorem Sat.put {o:Obj}(s:Sat h S)(hk:getA S k=some (pt id o)): Sat (h.put id (some o')) (setA S k (pt id o')):=by
 obtain⟨m,r,I,h2,J,h4⟩:=s.ok
 obtain⟨g1,g2⟩:=Sa (o':=o') hk m r h4
 have hr:r id=none:=by
  rcases J id with e|e
  ·grind
  ·exact e
 refine⟨s.wf.put (s.wf _ _ (I _ _ g1)) _,m.upd id (some o'),r,Yc I,HX h2 hr,fun i => ?_,g2⟩
 by_cases e:i=id
 ·grind
 ·simp only[PM.upd,ax e];exact J i
theorem Sat.new (s:Sat h S)(o:Obj): Sat (h.new o) (pt h.next o::S):=by
 obtain⟨m,r,h1,h2,h3,h4⟩:=s.ok
 have hm:m h.next=none:=by
  cases e:m h.next with
  |none=>rfl
  |some x=>exact absurd (s.wf _ _ (h1 _ _ e)) (Az _)
 have hr:r h.next=none:=by
  cases e:r h.next with
  |none=>rfl
  |some x=>exact absurd (s.wf _ _ (h2 _ _ e)) (Az _)
 have J:∀(q:PM),q.le (T.get h.tr)→q h.next=none→q.le (T.get (h.new o).tr):=fun q hq hn i x I=>by
  rw[hO]
  split
  ·grind
  ·exact hq i x I
 refine⟨s.wf.new o,m.upd h.next (some o),r,fun i x I => ?_,J r h2 hr,fun i => ?_,fun i=>if i=h.next then some o else none,m,fun i => ?_,fun i x I => ?_,fun i x I => ?_,?_,h4⟩
 ·rw[hO]
  simp only[PM.upd] at I
  split
  ·grind
  ·rename_i e;rw[ax e] at I;exact h1 i x I
 ·by_cases e:i=h.next
  ·grind
  ·simp only[PM.upd,ax e];exact h3 i
 ·grind
 ·grind[PM.upd]
 ·grind[PM.upd]
 ·show(if h.next=h.next then some o else none)=some o
  simp
theorem Sat.kill {o:Obj}(s:Sat h (pt id o::S)): Sat (h.put id none) S:=by
 obtain⟨m,r,I,h2,J,a,b,g1,g2,g3,g4,g5⟩:=s.ok
 have ha:a id=some o:=g4
 have hb:b id=none:=by
  rcases g1 id with e|e
  ·grind
  ·exact e
 have hr:r id=none:=by
  rcases J id with e|e
  ·rw[g2 _ _ ha] at e;cases e
  ·exact e
 exact⟨s.wf.put (s.wf _ _ (I _ _ (g2 _ _ ha))) _,b,r,HX (PM.le_trans g3 I) hb,HX h2 hr,PM.m_ J g3 (PM.le_refl _),g5⟩
theorem Sat.freeze {o:Obj}(s:Sat h (pt id o::S)): Sat h (ro id o::S):=by
 obtain⟨m,r,J,h2,h3,a,b,g1,g2,g3,g4,g5⟩:=s.ok
 have ha:a id=some o:=g4
 have hb:b id=none:=by
  rcases g1 id with e|e
  ·grind
  ·exact e
 have hr:r id=none:=by
  rcases h3 id with e|e
  ·rw[g2 _ _ ha] at e;cases e
  ·exact e
 have hle:r.le (r.upd id (some o)):=fun i x I=>by
  grind[PM.upd]
 refine⟨s.wf,b,r.upd id (some o),PM.le_trans g3 J,fun i x I => ?_,fun i => ?_,fun _=>none,b,fun _=>.inl rfl,fun _ _ h=>(by cases h),PM.le_refl _,?_,aI.up g5 (PM.le_refl _) hle⟩
 ·simp only[PM.upd] at I
  split at I
  ·rename_i e;subst e;injection I with I;subst I;exact J _ _ (g2 _ _ ha)
  ·exact h2 i x I
 ·by_cases e:i=id
  ·grind
  ·simp only[PM.upd,ax e];exact PM.m_ h3 g3 (PM.le_refl _) i
 ·show(r.upd id (some o)) id=some o
  simp[PM.upd]
theorem Sat.nO (s:Sat h S)(J:er k [] h h'): Sat h' S:=by
 obtain⟨m,r,h1,h2,h3,h4⟩:=s.ok
 have I:∀(q:PM),q.le (T.get h.tr)→q.le (T.get h'.tr):=fun q hq i x hx=>by
  rw[J.get i (s.wf _ _ (hq _ _ hx)) jw]
  exact hq _ _ hx
 exact⟨J.wf,m,r,I m h1,I r h2,h3,h4⟩
theorem Sat.Yd {X:List Nat}{m₀:PM}(s:Sat h (A::S))(hk:er k X h h')(hX:∀m r,PM.le m (T.get h.tr)→PM.le r (T.get h.tr)→A.p m r→∀i∈X,m i≠none)
 (hm:PM.le m₀ (T.get h'.tr))(hB:∀r,B.p m₀ r)(hn:∀i,m₀ i≠none→i∈X∨h.next≤i): Sat h' (B::S):=by
 obtain⟨m,r,h1,h2,h3,a,b,g1,g2,g3,g4,g5⟩:=s.ok
 have hXa:∀i∈X,a i≠none:=hX a r (PM.le_trans g2 h1) h2 g4
 have hXb:∀i∈X,b i=none:=fun i hi=>by
  rcases g1 i with e|e<;>grind
 have hXr:∀i∈X,r i=none:=fun i hi=>by
  cases e:a i with
  |none=>grind
  |some o =>
   rcases h3 i with J|J
   ·rw[g2 _ _ e] at J;cases J
   ·exact J
 have KZ:∀(q:PM),q.le (T.get h.tr)→(∀i∈X,q i=none)→q.le (T.get h'.tr):=fun q hq hz i x hx=>by
  rw[hk.get i (s.wf _ _ (hq _ _ hx)) (fun hi=>by grind)]
  exact hq _ _ hx
 have I:∀(q:PM),q.le (T.get h.tr)→(∀i∈X,q i=none)→m₀.dj q:=fun q hq hz i=>by
  cases e:m₀ i with
  |none=>simp
  |some x =>
   right
   rcases hn i (by grind) with hi|hi
   ·grind
   ·cases J:q i with
    |none=>rfl
    |some y=>exact absurd (s.wf _ _ (hq _ _ J)) (Nat.not_lt.2 hi)
 have q_:=KZ b (PM.le_trans g3 h1) hXb
 have hd:=I b (PM.le_trans g3 h1) hXb
 exact⟨hk.wf,m₀.un b,r,PM.C5 hm q_,KZ r h2 hXr,PM.C6 (I r h2 hXr) (PM.m_ h3 g3 (PM.le_refl _)),m₀,b,hd,PM.HU _ _,PM.HV hd,hB r,g5⟩
end
theorem aK (v:V)(l:List Nat): bX (aQ v l) (b5 v l):=fun _ _ h=>.inl (rP.view h)
theorem aY (v:V)(l:List Nat): bX (l9 v l) (b5 v l):=fun _ _ h=>.inr h
theorem eV (v:V)(l:List Nat): bX (b5 v l) (b5 v l):=fun _ _ h=>h
theorem aJ.bK (v:V)(l:List Nat): aJ (.bK v l):=fun _ _ h=>h
section
variable {v:V}
theorem Sat.aq (s:Sat h S)(J:getA S k=some X)(hX:bX X (b5 v l)): View h v l:=by
 obtain⟨m,r,h1,h2,h3⟩:=s.at J
 rcases hX _ _ h3 with I|I
 ·exact ViewM.up I h1
 ·exact ViewM.up I h2
theorem Sat.buf (s:Sat h S)(I:getA S k=some (aQ v l)): jz h v l:=by
 obtain⟨m,r,J,h2,h3⟩:=s.at I
 exact rP.up (l:=l) h3 J
theorem K0 {m:PM}(I:rP m v l): ∀i∈rowIds v,m i≠none:=by
 obtain⟨_,J⟩:=I<;>grind[rowIds]
theorem K1 (I:jz h v l): rP (fun i=>if i∈rowIds v then T.get h.tr i else none) v l:=by
 obtain⟨J,h2⟩:=I
 refine⟨J,?_⟩<;>grind[rowIds]
theorem O7 (L:List Nat): PM.le (fun i=>if i∈L then T.get h.tr i else none) (T.get h.tr):=fun i x I=>by
 grind
theorem Sat.HY (s:Sat h S)(I:er k [] h h')(J:jz h' v l)(hn:∀i∈rowIds v,h.next≤i): Sat h' (aQ v l::S):=by
 have s':Sat h (pu True::S):=s.fq aa
 refine s'.Yd (B:=aQ v l) (m₀:=fun i=>if i∈rowIds v then T.get h'.tr i else none) I (fun _ _ _ _ _ i hi=>by cases hi) (O7 _) (fun _=>K1 J) (fun i hi=>.inr ?_)<;>grind
theorem Sat.AV {v':V}{I:List Nat}(s:Sat h (aQ v l::S))(J:er k (rowIds v) h h')(hb:jz h' v' I)(hn:∀i∈rowIds v',i∈rowIds v∨h.next≤i): Sat h' (aQ v' I::S):=by
 refine s.Yd (B:=aQ v' I) (m₀:=fun i=>if i∈rowIds v' then T.get h'.tr i else none) J (fun _ _ _ _ h=>K0 h) (O7 _) (fun _=>K1 hb) (fun i hi => ?_)<;>grind
theorem Sat.fD (s:Sat h (aQ v l::S)): Sat h (l9 v l::S):=by
 obtain⟨m,r,J,h2,h3,a,b,g1,g2,g3,g4,g5⟩:=s.ok
 have I:r.dj a:=PM.o6 (PM.m_ h3 g2 (PM.le_refl _))
 refine⟨s.wf,b,r.un a,PM.le_trans g3 J,PM.C5 h2 (PM.le_trans g2 J),PM.o6 (PM.C6 (PM.o6 (PM.m_ h3 g3 (PM.le_refl _))) g1),fun _=>none,b,fun _=>.inl rfl,fun _ _ h=>(by cases h),PM.le_refl _,?_,aI.up g5 (PM.le_refl _) (PM.HU _ _)⟩
 exact(rP.view g4).up (PM.HV I)
end
theorem yJ {a b c d:H}{l:List H}{p:H→Prop}(I:p a)(J:p b)(hc:p c)(hd:p d): ∀x∈((a::b::c::d::l).drop 0).take 4,p x:=by
 grind
theorem C8 {a b c d e:H}{l:List H}{p:H→Prop}(I:p a)(J:p b)(hc:p c)(hd:p d)(he:p e): ∀x∈((a::b::c::d::e::l).drop 0).take 5,p x:=by
 grind
section
variable {v:V}
theorem Sat.ld (s:Sat h S)(I:getA S k=some (pt id (.cells n cs st)))(J:isAggT P t=some false)(hn:nth cs off=some v): loadV P h t (.ptr id off)=some v:=yF J (s.row I) hn
theorem Sat.cg (s:Sat h S)(I:getA S k=some (pt id (.cells n cs st)))(J:isAggT P t=some true)(hs:bg P t=some n): loadV P h t (.ptr id 0)=some (.agg cs):=Am.cg J hs (s.row I)
theorem Sat.lu (s:Sat h S)(J:getA S k=some (pt id (.cells n cs false)))(hs:bg P t=some 1)(hl:cs.length=n)(ho:off<n)(hv:v.cells=[v])(I:storable v=true):
  ∃h₁,iV P h t (.ptr id off) v=some h₁∧Sat h₁ (setA S k (pt id (.cells n (cs.set off v) false))):=by
 refine⟨h.put id (some (.cells n (cs.set off v) false)),?_,s.put J⟩
 simp only[iV,hs,hv,aZ,bI,kI,lM,I,Bool.and_true]
 rw[show Nat.beq (0+1) 1=true from rfl,ag]
 simp only[wrN,s.row J,aZ,bI]
 rw[aP.2 (show off+(0+1)≤n by omega),ag]
 congr 3
 rw[D8,aH (by omega)]
 cases hc:(Nat.beq off 0&&Nat.beq (0+1) n) with
 |true =>
  simp only[bF,beq_iff] at hc
  obtain⟨rfl,rfl⟩:=hc
  rw[ag]
  have:cs.drop (0+1)=[]:=nA (by omega)
  simp[this]
 |false=>rw[aS];rfl
theorem Sat.stN {l:List V}(s:Sat h S)(J:getA S k=some (pt id (.cells n cs false)))(hs:bg P t=some l.length)(hl:cs.length=n)(ho:off+l.length≤n)(I:l.all storable=true):
  ∃h₁,iV P h t (.ptr id off) (.agg l)=some h₁∧Sat h₁ (setA S k (pt id (.cells n (cs.take off++(l++cs.drop (off+l.length))) false))):=by
 refine⟨h.put id (some (.cells n (cs.take off++(l++cs.drop (off+l.length))) false)),?_,s.put J⟩
 simp only[iV,hs,V.cells,I,jd,jc,ag,wrN,s.row J]
 grind[aP,beq_iff,List.drop_eq_nil_of_le]
end
section
variable {aB:Nat} {o:Oper}
theorem aA.cB (s:Sat h S)(I:wantE L E o.guard=some true)(J:o.dst=some d)(hn:Nat.blt d aB=true)(ho:opE C.P E h o.op=some (.ptr h.next 0,newRow h cs))
 (hr:∀id h₁,Sat h₁ (pt id (.cells cs.length cs false)::S)→aA C aB L rest ((d,.ptr id 0)::E) h₁ R): aA C aB L (o::rest) E h R :=
 aA.op I J hn ho (hr _ _ (s.new _))
theorem aA.F6 {v:V}(J:wantE L E o.guard=some true)(hd:o.dst=none)(I:o.op=.store t x y)(hx:bq E x=some v)(hy:bq E y=some u)
 (ho:∃h₁,iV C.P h t v u=some h₁∧Sat h₁ S')(hr:∀h₁,Sat h₁ S'→aA C aB L rest E h₁ R): aA C aB L (o::rest) E h R:=by
 obtain⟨h₁,e1,e2⟩:=ho
 exact aA.op0 J hd (by rw[I];exact KW hx hy e1) (hr h₁ e2)
theorem WP.label {l:Nat}(I:Q .normal E h): WP C aB (.label l) E h Q:=fun env J=>⟨1,.normal,env,h,E,rfl,J,I⟩
theorem WP.split {a b:Code}{t:Bool}(I:bq E x=some (.bool t))(J:t=true→WP C aB a E h Q)(h2:t=false→WP C aB b E h Q): WP C aB (.cond x a b) E h Q:=by
 grind[WP.cond]
theorem WP.MK {a b:Code}{t:Bool}(I:bq E x=some (.bool t))(J:t=true)(h1:WP C aB a E h Q): WP C aB (.cond x a b) E h Q:=by
 subst J;exact WP.cond I h1
theorem WP.Uq {a b:Code}{t:Bool}(I:bq E x=some (.bool t))(J:t=false)(h1:WP C aB b E h Q): WP C aB (.cond x a b) E h Q:=by
 subst J;exact WP.cond I h1
end
section
variable {a b:Operand} {v:V}
theorem aam {t:Nat}(I:bq E x=some v)(J:qX P t v i=some r): opE P E h (.field t x i)=some (r,h):=by grind[opE,jL,bB]
theorem aan : opE P E h (.makeMap t none)=some (.map h.next,h.new (.map [] 0)):=rfl
theorem jo {ok:Bool}(I:bq E x=some v)(J:bq E y=some u)(hf:eU P h t v u ok=some r): opE P E h (.lookup t x y ok)=some (r,h):=by grind[opE,um,bB]
theorem aao {t:Nat}(I:qX P t (.agg cs) i=nth cs off)(J:nth cs off=some r): qX P t (.agg cs) i=some r:=by grind
theorem jN {s d:TypeId}{k k':IntKind}{n:Int}(hs:P.underlying s=some td)(I:P.underlying d=some (.int k'))(J:k'.wrap n=n): convV P h s d (.int k n)=some (.int k' n,h):=by simp only[convV,hs,I,J]
theorem vU {o:Nat}{c:Cap}(hu:P.underlying t=some (.slice e)): lenV P h t (.sl i o n c)=some (.int .i64 n):=by simp only[lenV,hu]
theorem AW (hu:P.underlying t=some (.slice e)): lenV P h t .aV=some (.int .i64 0):=by simp only[lenV,hu]
theorem au (hu:P.underlying t=some (.slice e))(hv:View h v l): lenV P h t v=some (.int .i64 l.length):=by
 obtain⟨_,hv⟩:=hv
 rcases hv with⟨rfl|⟨I,rfl⟩,rfl⟩|⟨id,off,cap,n,cs,st,rfl,_⟩<;>simp[lenV,hu]
theorem K2 (hu:P.underlying t=some .string): lenV P h t (.str l)=some (.int .i64 l.length):=by simp only[lenV,hu]
theorem mki_of (hu:P.underlying t=some td)(I:(match td with|.interface _=>false|_=>true)=true): makeIfaceV P t v=some (.iface t v):=by
 grind[makeIfaceV]
end
section
theorem ay {n:Int}(I : -9223372036854775808≤n)(J:n<9223372036854775808): IntKind.wrap .i64 n=n:=by
 grind[IntKind.bits,IntKind.wrap,IntKind.signed]
theorem gY {n:Int}(I:0≤n)(J:n<18446744073709551616): IntKind.wrap .u64 n=n:=by
 grind[IntKind.wrap,IntKind.bits,IntKind.signed]
theorem ru {n:Int}(I:0≤n)(J:n<256): IntKind.wrap .u8 n=n:=by
 grind[IntKind.wrap,IntKind.bits,IntKind.signed]
variable {a b:Int}
theorem aO {k:IntKind}(hw:k.wrap (a+b)=a+b): binV P h .add t x y (.int k a) (.int k b)=some (.int k (a+b)):=by
 simp_all[binV,dO,intV]
theorem ei {k:IntKind}(hw:k.wrap (a-b)=a-b): binV P h .sub t x y (.int k a) (.int k b)=some (.int k (a-b)):=by
 simp_all[binV,dO,intV]
theorem jq {k:IntKind}(hw:k.wrap (a*b)=a*b): binV P h .mul t x y (.int k a) (.int k b)=some (.int k (a*b)):=by
 simp_all[binV,dO,intV]
theorem ej {k:IntKind}: binV P h .eql t x y (.int k a) (.int k b)=some (.bool (decide (a=b))):=by
 simp only[binV,dO,ag,intV]
 cases I:intBeq a b with
 |true=>simp[uk I]
 |false =>
  by_cases he:a=b
  ·grind[qS]
  ·grind
theorem aN {k:IntKind}: binV P h .neq t x y (.int k a) (.int k b)=some (.bool (!decide (a=b))):=by
 simp only[binV,dO,ag,intV]
 cases I:intBeq a b with
 |true=>simp[uk I]
 |false =>
  by_cases he:a=b
  ·grind[qS]
  ·grind
theorem aL {k:IntKind}: binV P h .lss t x y (.int k a) (.int k b)=some (.bool (decide (a<b))):=by simp[binV,dO,intV]
theorem wT {k:IntKind}: binV P h .leq t x y (.int k a) (.int k b)=some (.bool (decide (a≤b))):=by simp[binV,dO,intV]
theorem cL {k:IntKind}: binV P h .gtr t x y (.int k a) (.int k b)=some (.bool (decide (a>b))):=by simp[binV,dO,intV]
theorem kC {k:IntKind}: binV P h .geq t x y (.int k a) (.int k b)=some (.bool (decide (a≥b))):=by simp[binV,dO,intV]
theorem mO : ∀ {l m:List Nat},natsBeq l m=decide (l=m):=by
 intro l
 induction l with
 |nil=>grind[natsBeq]
 |cons a l I =>
  intro m
  cases m<;>grind[natsBeq,Nat.beq_refl,eD]
theorem ML {m:List Nat}: binV P h .eql t x y (.str l) (.str m)=some (.bool (decide (l=m))):=by simp[binV,strV,mO]
theorem Ur {m:List Nat}: binV P h .neq t x y (.str l) (.str m)=some (.bool (!decide (l=m))):=by simp[binV,strV,mO]
end
section
variable {aB:Nat} {o:Oper} {p:Bool}
theorem aA.vV (I:wantE L E o.guard=some true)(J:o.dst=some d)(hn:Nat.blt d aB=true)(ho:opE C.P E h o.op=some (.bool p,h))(hp:p=true)(hw:aA C aB L rest ((d,.bool true)::E) h R): aA C aB L (o::rest) E h R:=by
 grind[aA.op]
theorem aA.rX (I:wantE L E o.guard=some true)(J:o.dst=some d)(hn:Nat.blt d aB=true)(ho:opE C.P E h o.op=some (.bool p,h))(hp:p=false)(hw:aA C aB L rest ((d,.bool false)::E) h R): aA C aB L (o::rest) E h R:=by
 grind[aA.op]
theorem aA.Ye (I:wantE L E o.guard=some true)(J:o.dst=some d)(hn:Nat.blt d aB=true)(ho:opE C.P E h o.op=some (.bool p,h))(ht:p=true→aA C aB L rest ((d,.bool true)::E) h R)(hf:p=false→aA C aB L rest ((d,.bool false)::E) h R): aA C aB L (o::rest) E h R:=by
 cases p<;>grind[aA.op]
theorem aA.yK (s:Sat h S)(J:wantE L E o.guard=some true)(hd:o.dst=some d)(hn:Nat.blt d aB=true)(I:o.op=.makeMap t none)
 (hr:∀id h₁,Sat h₁ (pt id (.map [] 0)::S)→aA C aB L rest ((d,.map id)::E) h₁ R): aA C aB L (o::rest) E h R :=
 aA.op J hd hn (by rw[I];exact aan) (hr _ _ (s.new _))
theorem aA.mS (hg:wantE L E o.guard=some true)(hd:o.dst=none)(ho:OpR C E h o yy)
 (hw:∀v h₁,yy v h₁→aA C aB L rest E h₁ R): aA C aB L (o::rest) E h R:=by
 intro env J
 obtain⟨v,h₁,hr,uj⟩:=ho
 obtain⟨N,hN⟩:=uj env J
 obtain⟨M,I,h',E',h1,h2,h3⟩:=hw v h₁ hr env J
 refine⟨Nat.max N M,I,h',E',?_,h2,h3⟩
 simp only[evOps,jF J hg,ag,l8 (gH (oM N M)) hN,St.put,hd]
 exact pN (gH (oL N M)) _ _ _ h1
variable {Q:List (Nat×V)→H→List (List (Nat×V)×V)→List H→Prop}
theorem aE.vV (J:wantE L E o.guard=some true)(hd:o.dst=some d)(hn:Nat.blt d aB=true)(he:isEff C o.op=false)(ho:opE C.P E h o.op=some (.bool p,h))(hp:p=true)
 (hw:aE C aB L rest ((d,.bool true)::E) h hs fun E' h' ts I=>Q E' h' ((E,.bool true)::ts) I): aE C aB L (o::rest) E h hs Q:=by
 grind[aE.op]
theorem aE.rX (J:wantE L E o.guard=some true)(hd:o.dst=some d)(hn:Nat.blt d aB=true)(he:isEff C o.op=false)(ho:opE C.P E h o.op=some (.bool p,h))(hp:p=false)
 (hw:aE C aB L rest ((d,.bool false)::E) h hs fun E' h' ts I=>Q E' h' ((E,.bool false)::ts) I): aE C aB L (o::rest) E h hs Q:=by
 grind[aE.op]
theorem aE.Ye (J:wantE L E o.guard=some true)(hd:o.dst=some d)(hn:Nat.blt d aB=true)(he:isEff C o.op=false)(ho:opE C.P E h o.op=some (.bool p,h))
 (ht:p=true→aE C aB L rest ((d,.bool true)::E) h hs fun E' h' ts I=>Q E' h' ((E,.bool true)::ts) I)
 (hf:p=false→aE C aB L rest ((d,.bool false)::E) h hs fun E' h' ts I=>Q E' h' ((E,.bool false)::ts) I): aE C aB L (o::rest) E h hs Q:=by
 cases p<;>grind[aE.op]
theorem OpR.F6 {v:V}(I:o.op=.store t x y)(hx:bq E x=some v)(hy:bq E y=some u)
 (ho:∃h₁,iV C.P h t v u=some h₁∧Sat h₁ S'): OpR C E h o fun w h₁=>w=ct∧Sat h₁ S':=by
 obtain⟨h₁,e1,J⟩:=ho
 exact OpR.of (by grind[KW]) ⟨rfl,J⟩
end
theorem G2 {t:Nat}{p v w:V}(I:look E a=some p)(J:loadV P h t p=some v)(h2:look E b=some w): resLE P E h [.cell a t,.tmp b]=some (.aW [v,w]):=by grind[resLE,mapO,resE]
theorem EP {t:Nat}{v:V}(I:look E t=some v): resLE P E h [.tmp t]=some v:=by grind[resLE,mapO,resE]
def abE : Code→Nat→Code
 |.seq a _,0=>a
 |.seq _ b,_=>b
 |.cond _ a _,0=>a
 |.cond _ _ b,_=>b
 |.block _ a,_=>a
 |.loop a,_=>a
 |.scope a,_=>a
 |c,_=>c
def cE : List Nat→Code→Code
 |[],c=>c
 |k::ks,c=>cE ks (abE c k)
section
variable {aB:Nat} {o:Oper} {v:V} {p:Bool}
theorem zc {k:FuncId}(e:(wantE L E o.guard,o.dst,Nat.blt d aB,o.op,cl.callee,bq E x,lookArgs E cl.args.toList)=(some true,some d,true,Op.call cl,Callee.value x,some (.fn (.func k) first cap),some args))
 (I:Call C k (first++(args++cap)) h yy)(hw:∀v h₁,yy v h₁→aA C aB L rest ((d,v)::E) h₁ R): aA C aB L (o::rest) E h R:=by
  simp only[bG] at e;exact aA.call e.1 e.2.1 e.2.2.1 e.2.2.2.1 e.2.2.2.2.1 e.2.2.2.2.2.1 e.2.2.2.2.2.2 I hw
theorem zt (e:(wantE L E o.guard,o.dst,Nat.blt d aB)=(some true,some d,true))(ho:opE C.P E h o.op=some (.bool p,h))(I:p=true)(hw:aA C aB L rest ((d,.bool true)::E) h R): aA C aB L (o::rest) E h R:=by
  simp only[bG] at e;exact aA.vV e.1 e.2.1 e.2.2 ho I hw
theorem zh (e:(wantE L E o.guard,o.dst,Nat.blt d aB)=(some true,some d,true))(ho:opE C.P E h o.op=some (.bool p,h))(I:p=false)(hw:aA C aB L rest ((d,.bool false)::E) h R): aA C aB L (o::rest) E h R:=by
  simp only[bG] at e;exact aA.rX e.1 e.2.1 e.2.2 ho I hw
theorem zd (e:(wantE L E o.guard,o.dst,Nat.blt d aB)=(some true,some d,true))(ho:opE C.P E h o.op=some (.bool p,h))(I:p=true→aA C aB L rest ((d,.bool true)::E) h R)(J:p=false→aA C aB L rest ((d,.bool false)::E) h R): aA C aB L (o::rest) E h R:=by
  simp only[bG] at e;exact aA.Ye e.1 e.2.1 e.2.2 ho I J
theorem zB {op:BinOp}(e:(o.op,wantE L E o.guard,o.dst,Nat.blt d aB,bq E x,bq E y)=(Op.binOp op t x y t',some true,some d,true,some v,some u))(I:binV C.P h op t x y v u=some (.bool p))(J:p=true)(hw:aA C aB L rest ((d,.bool true)::E) h R): aA C aB L (o::rest) E h R:=by
  simp only[bG] at e;exact aA.vV e.2.1 e.2.2.1 e.2.2.2.1 (by rw[e.1];exact az e.2.2.2.2.1 e.2.2.2.2.2 I) J hw
theorem zC {op:BinOp}(e:(o.op,wantE L E o.guard,o.dst,Nat.blt d aB,bq E x,bq E y)=(Op.binOp op t x y t',some true,some d,true,some v,some u))(I:binV C.P h op t x y v u=some (.bool p))(J:p=false)(hw:aA C aB L rest ((d,.bool false)::E) h R): aA C aB L (o::rest) E h R:=by
  simp only[bG] at e;exact aA.rX e.2.1 e.2.2.1 e.2.2.2.1 (by rw[e.1];exact az e.2.2.2.2.1 e.2.2.2.2.2 I) J hw
theorem zy (s:Sat h S)(k:Nat)(I:isAggT C.P t=some false)(e:(o.op,wantE L E o.guard,o.dst,Nat.blt d aB,bq E x,getA S k,nth cs off)=(Op.load t x,some true,some d,true,some (V.ptr id off),some (pt id (.cells n cs st)),some v))(hw:aA C aB L rest ((d,v)::E) h R): aA C aB L (o::rest) E h R:=by
  simp only[bG] at e;exact aA.op e.2.1 e.2.2.1 e.2.2.2.1 (by rw[e.1];exact o_load e.2.2.2.2.1 (s.ld e.2.2.2.2.2.1 I e.2.2.2.2.2.2)) hw
theorem zY {I:Oper}{J:Operand}{adg:TypeId}(s:Sat h S)(k:Nat)(hf:∀a b:Nat,fieldAddrV C.P adg (.ptr a b) i=some (.ptr a (b+j)))(ha:isAggT C.P t=some false)
 (e:(I.op,wantE L E I.guard,I.dst,Nat.blt sr aB,bq E J,o.op,wantE L ((sr,.ptr a (b+j))::E) o.guard,o.dst,Nat.blt d aB,bq ((sr,.ptr a (b+j))::E) x,getA S k,nth cs (b+j))=(Op.fieldAddr adg J i,some true,some sr,true,some (V.ptr a b),Op.load t x,some true,some d,true,some (V.ptr a (b+j)),some (pt a (.cells n cs st)),some v))
 (hw:aA C aB L rest ((d,v)::(sr,.ptr a (b+j))::E) h R): aA C aB L (I::o::rest) E h R:=by
  simp only[bG] at e
  obtain⟨e1,e2,e3,e4,e5,e6,e7,e8,e9,Yf,XQ,e12⟩:=e
  exact aA.op e2 e3 e4 (by rw[e1];exact lU e5 (hf a b)) (aA.op e7 e8 e9 (by rw[e6];exact o_load Yf (s.ld XQ ha e12)) hw)
theorem zS (e:(wantE L E o.guard,o.dst,o.op,bq E x,bq E y)=(some true,none,Op.store t x y,some v,some u))(ho:∃h₁,iV C.P h t v u=some h₁∧Sat h₁ S')(I:∀h₁,Sat h₁ S'→aA C aB L rest E h₁ R): aA C aB L (o::rest) E h R:=by
  simp only[bG] at e;exact aA.F6 e.1 e.2.1 e.2.2.1 e.2.2.2.1 e.2.2.2.2 ho I
end
theorem jO : bg Tryz.prog 3=some 1:=by kernel_rfl
theorem bZ : isAggT Tryz.prog 3=some false:=by kernel_rfl
theorem yL : zeroT Tryz.prog 3=some (.int .i64 0):=by kernel_rfl
theorem BE : bg Tryz.prog 4=some 1:=by kernel_rfl
theorem qn : isAggT Tryz.prog 4=some false:=by kernel_rfl
theorem K3 : bg Tryz.prog 5=some 1:=by kernel_rfl
theorem Us : zeroT Tryz.prog 5=some (.int .u8 0):=by kernel_rfl
theorem Yg : isAggT Tryz.prog 9=some false:=by kernel_rfl
theorem yM : isAggT Tryz.prog 24=some false:=by kernel_rfl
theorem abF : bg Tryz.prog 25=some 1:=by kernel_rfl
theorem BX : isAggT Tryz.prog 25=some false:=by kernel_rfl
theorem eZ : bg Tryz.prog 29=some 1:=by kernel_rfl
theorem ah : isAggT Tryz.prog 29=some false:=by kernel_rfl
theorem k8 : zeroT Tryz.prog 29=some .aV:=by kernel_rfl
theorem Yh : bg Tryz.prog 31=some 4:=by kernel_rfl
theorem abG : isAggT Tryz.prog 31=some true:=by kernel_rfl
theorem abH : zeroT Tryz.prog 31=some (.agg [(.int .i64 0),(.int .i64 0),.aV,.aV]):=by kernel_rfl
theorem ob (a b:Nat): fieldAddrV Tryz.prog 31 (.ptr a b) 2=some (.ptr a (b+2)):=by kernel_rfl
theorem tE (a b:Nat): fieldAddrV Tryz.prog 31 (.ptr a b) 3=some (.ptr a (b+3)):=by kernel_rfl
theorem Yi : bg Tryz.prog 32=some 1:=by kernel_rfl
theorem MM : isAggT Tryz.prog 32=some false:=by kernel_rfl
theorem MN : bg Tryz.prog 42=some 1:=by kernel_rfl
theorem pU : isAggT Tryz.prog 42=some false:=by kernel_rfl
theorem Yj : bg Tryz.prog 45=some 1:=by kernel_rfl
theorem ER : isAggT Tryz.prog 45=some false:=by kernel_rfl
theorem wU : bg Tryz.prog 47=some 6:=by kernel_rfl
theorem ES : isAggT Tryz.prog 47=some true:=by kernel_rfl
theorem Sb : zeroT Tryz.prog 47=some (.agg [(.int .i64 0),(.int .u64 0),(.int .u64 0),(.int .u64 0),.aV,.aV]):=by kernel_rfl
theorem yN (a b:Nat): fieldAddrV Tryz.prog 47 (.ptr a b) 0=some (.ptr a (b+0)):=by kernel_rfl
theorem Yk (a b:Nat): fieldAddrV Tryz.prog 47 (.ptr a b) 1=some (.ptr a (b+1)):=by kernel_rfl
theorem Yl (a b:Nat): fieldAddrV Tryz.prog 47 (.ptr a b) 2=some (.ptr a (b+2)):=by kernel_rfl
theorem Ym (a b:Nat): fieldAddrV Tryz.prog 47 (.ptr a b) 3=some (.ptr a (b+3)):=by kernel_rfl
theorem Yn (a b:Nat): fieldAddrV Tryz.prog 47 (.ptr a b) 4=some (.ptr a (b+4)):=by kernel_rfl
theorem tF (a b:Nat): fieldAddrV Tryz.prog 47 (.ptr a b) 5=some (.ptr a (b+5)):=by kernel_rfl
theorem Sc (ps:List (Nat×V)): buildV Tryz.prog 47 ps=(fillV (nth [(0,1),(1,1),(2,1),(3,1),(4,1),(5,1)]) ((.agg [(.int .i64 0),(.int .u64 0),(.int .u64 0),(.int .u64 0),.aV,.aV]):V).cells ps).map .agg:=by kernel_rfl
theorem BY : bg Tryz.prog 53=some 2:=by kernel_rfl
theorem Sd : isAggT Tryz.prog 53=some true:=by kernel_rfl
theorem MO : zeroT Tryz.prog 53=some (.agg [(.str []),(.str [])]):=by kernel_rfl
theorem O8 (a b:Nat): fieldAddrV Tryz.prog 53 (.ptr a b) 0=some (.ptr a (b+0)):=by kernel_rfl
theorem Yo (a b:Nat): fieldAddrV Tryz.prog 53 (.ptr a b) 1=some (.ptr a (b+1)):=by kernel_rfl
theorem Yp (ps:List (Nat×V)): buildV Tryz.prog 53 ps=(fillV (nth [(0,1),(1,1)]) ((.agg [(.str []),(.str [])]):V).cells ps).map .agg:=by kernel_rfl
theorem uX : isAggT Tryz.prog 69=some false:=by kernel_rfl
theorem Se : isAggT Tryz.prog 78=some false:=by kernel_rfl
theorem uY : isAggT Tryz.prog 92=some false:=by kernel_rfl
theorem pV : bg Tryz.prog 94=some 2:=by kernel_rfl
theorem abI : isAggT Tryz.prog 94=some true:=by kernel_rfl
theorem Sf : zeroT Tryz.prog 94=some (.agg [.cU,(.int .i64 0)]):=by kernel_rfl
theorem oc (a b:Nat): fieldAddrV Tryz.prog 94 (.ptr a b) 0=some (.ptr a (b+0)):=by kernel_rfl
theorem C9 (a b:Nat): fieldAddrV Tryz.prog 94 (.ptr a b) 1=some (.ptr a (b+1)):=by kernel_rfl
theorem Yq (ps:List (Nat×V)): buildV Tryz.prog 94 ps=(fillV (nth [(0,1),(1,1)]) ((.agg [.cU,(.int .i64 0)]):V).cells ps).map .agg:=by kernel_rfl
theorem je : isAggT Tryz.prog 98=some false:=by kernel_rfl
theorem abJ (a b l:Nat)(c:Cap)(k:IntKind)(n:Int): indexAddrV Tryz.prog 98 (.sl a b l c) (.int k n)=cond (decide (0≤n)&&decide (n<(l:Int))) (some (.ptr a (b+n.toNat*1))) none:=by kernel_rfl
theorem qA (a b:Nat): fieldAddrV Tryz.prog 101 (.ptr a b) 0=some (.ptr a (b+0)):=by kernel_rfl
theorem fT (a b:Nat): fieldAddrV Tryz.prog 101 (.ptr a b) 1=some (.ptr a (b+1)):=by kernel_rfl
theorem ET (a b:Nat): fieldAddrV Tryz.prog 101 (.ptr a b) 2=some (.ptr a (b+2)):=by kernel_rfl
theorem eW (a b:Nat): fieldAddrV Tryz.prog 101 (.ptr a b) 3=some (.ptr a (b+3)):=by kernel_rfl
theorem Ut (ps:List (Nat×V)): buildV Tryz.prog 101 ps=(fillV (nth [(0,1),(1,1),(2,1),(3,1)]) ((.agg [(.int .i64 0),(.int .i64 0),.aV,.aV]):V).cells ps).map .agg:=by kernel_rfl
theorem oB : isAggT Tryz.prog 114=some false:=by kernel_rfl
theorem aap : bg Tryz.prog 116=some 3:=by kernel_rfl
theorem o7 (a b:Nat): fieldAddrV Tryz.prog 116 (.ptr a b) 0=some (.ptr a (b+0)):=by kernel_rfl
theorem qB (a b:Nat): fieldAddrV Tryz.prog 116 (.ptr a b) 1=some (.ptr a (b+1)):=by kernel_rfl
theorem AX (a b:Nat): fieldAddrV Tryz.prog 116 (.ptr a b) 2=some (.ptr a (b+2)):=by kernel_rfl
theorem aaq (ps:List (Nat×V)): buildV Tryz.prog 116 ps=(fillV (nth [(0,1),(1,1),(2,1)]) ((.agg [.cU,.kW,(.bool false)]):V).cells ps).map .agg:=by kernel_rfl
theorem AY : isAggT Tryz.prog 117=some false:=by kernel_rfl
theorem AZ (a b:Nat): fieldAddrV Tryz.prog 119 (.ptr a b) 0=some (.ptr a (b+0)):=by kernel_rfl
theorem K4 (a b:Nat): fieldAddrV Tryz.prog 119 (.ptr a b) 1=some (.ptr a (b+1)):=by kernel_rfl
theorem sS (a b:Nat): fieldAddrV Tryz.prog 119 (.ptr a b) 2=some (.ptr a (b+2)):=by kernel_rfl
theorem sU (a b:Nat): fieldAddrV Tryz.prog 119 (.ptr a b) 3=some (.ptr a (b+3)):=by kernel_rfl
theorem aar (ps:List (Nat×V)): buildV Tryz.prog 119 ps=(fillV (nth [(0,1),(1,1),(2,1),(3,1),(4,1),(5,1)]) ((.agg [.cU,.cU,.cU,.cU,.aV,(.int .u64 0)]):V).cells ps).map .agg:=by kernel_rfl
theorem Uu : bg Tryz.prog 141=some 0:=by kernel_rfl
theorem G3 : zeroT Tryz.prog 141=some (.agg []):=by kernel_rfl
theorem Uv (ps:List (Nat×V)): buildV Tryz.prog 141 ps=(fillV (nth []) ((.agg []):V).cells ps).map .agg:=by kernel_rfl
theorem aas : bg Tryz.prog 169=some 1:=by kernel_rfl
theorem MP : isAggT Tryz.prog 169=some false:=by kernel_rfl
theorem aat : bg Tryz.prog 170=some 1:=by kernel_rfl
theorem VM (a b:Nat): fieldAddrV Tryz.prog 172 (.ptr a b) 0=some (.ptr a (b+0)):=by kernel_rfl
theorem EU (a b:Nat): fieldAddrV Tryz.prog 172 (.ptr a b) 1=some (.ptr a (b+1)):=by kernel_rfl
theorem EV (a b:Nat): fieldAddrV Tryz.prog 172 (.ptr a b) 2=some (.ptr a (b+2)):=by kernel_rfl
theorem K5 (a b:Nat): fieldAddrV Tryz.prog 172 (.ptr a b) 3=some (.ptr a (b+3)):=by kernel_rfl
theorem vW (a b:Nat): fieldAddrV Tryz.prog 172 (.ptr a b) 4=some (.ptr a (b+4)):=by kernel_rfl
theorem K6 (a b:Nat): fieldAddrV Tryz.prog 172 (.ptr a b) 5=some (.ptr a (b+5)):=by kernel_rfl
theorem VN (a b:Nat): fieldAddrV Tryz.prog 172 (.ptr a b) 6=some (.ptr a (b+6)):=by kernel_rfl
theorem A0 (a b:Nat): fieldAddrV Tryz.prog 172 (.ptr a b) 7=some (.ptr a (b+7)):=by kernel_rfl
theorem A1 (a b:Nat): fieldAddrV Tryz.prog 172 (.ptr a b) 8=some (.ptr a (b+8)):=by kernel_rfl
theorem o8 (a b:Nat): fieldAddrV Tryz.prog 172 (.ptr a b) 9=some (.ptr a (b+9)):=by kernel_rfl
theorem Sg (a b:Nat): fieldAddrV Tryz.prog 172 (.ptr a b) 10=some (.ptr a (b+10)):=by kernel_rfl
theorem Sh (a b:Nat): fieldAddrV Tryz.prog 172 (.ptr a b) 11=some (.ptr a (b+11)):=by kernel_rfl
theorem aau (ps:List (Nat×V)): buildV Tryz.prog 172 ps=(fillV (nth [(0,1),(1,1),(2,1),(3,1),(4,1),(5,1),(6,1),(7,1),(8,1),(9,1),(10,1),(11,1)]) ((.agg [(.int .i64 0),.aV,.aV,.kW,.aV,(.int .i64 0),.aV,(.int .i64 0),(.int .i64 0),(.bool false),.cU,.aV]):V).cells ps).map .agg:=by kernel_rfl
theorem K7 (a b:Nat): fieldAddrV Tryz.prog 174 (.ptr a b) 0=some (.ptr a (b+0)):=by kernel_rfl
theorem vX (a b:Nat): fieldAddrV Tryz.prog 174 (.ptr a b) 1=some (.ptr a (b+1)):=by kernel_rfl
theorem lV (a b:Nat): fieldAddrV Tryz.prog 174 (.ptr a b) 2=some (.ptr a (b+2)):=by kernel_rfl
theorem qC (a b:Nat): fieldAddrV Tryz.prog 174 (.ptr a b) 3=some (.ptr a (b+3)):=by kernel_rfl
theorem EW (a b:Nat): fieldAddrV Tryz.prog 174 (.ptr a b) 4=some (.ptr a (b+4)):=by kernel_rfl
theorem VO (a b:Nat): fieldAddrV Tryz.prog 174 (.ptr a b) 5=some (.ptr a (b+5)):=by kernel_rfl
theorem aav (ps:List (Nat×V)): buildV Tryz.prog 174 ps=(fillV (nth [(0,1),(1,1),(2,1),(3,1),(4,1),(5,1)]) ((.agg [.cU,(.int .u64 0),.aV,.aV,(.int .i64 0),(.int .u64 0)]):V).cells ps).map .agg:=by kernel_rfl
theorem MQ : bg Tryz.prog 185=some 2:=by kernel_rfl
theorem aaw : isAggT Tryz.prog 185=some true:=by kernel_rfl
theorem MR : zeroT Tryz.prog 185=some (.agg [(.int .i64 0),.aV]):=by kernel_rfl
theorem VQ (a b:Nat): fieldAddrV Tryz.prog 185 (.ptr a b) 1=some (.ptr a (b+1)):=by kernel_rfl
theorem aax (ps:List (Nat×V)): buildV Tryz.prog 185 ps=(fillV (nth [(0,1),(1,1)]) ((.agg [(.int .i64 0),.aV]):V).cells ps).map .agg:=by kernel_rfl
theorem aU : bg Tryz.prog 189=some 1:=by kernel_rfl
theorem br : isAggT Tryz.prog 189=some true:=by kernel_rfl
theorem iJ : zeroT Tryz.prog 189=some (.agg [.aV]):=by kernel_rfl
theorem dZ (a b:Nat): fieldAddrV Tryz.prog 189 (.ptr a b) 0=some (.ptr a (b+0)):=by kernel_rfl
theorem wV (ps:List (Nat×V)): buildV Tryz.prog 189 ps=(fillV (nth [(0,1)]) ((.agg [.aV]):V).cells ps).map .agg:=by kernel_rfl
theorem A2 : bg Tryz.prog 206=some 4:=by kernel_rfl
theorem aay : isAggT Tryz.prog 206=some true:=by kernel_rfl
theorem uq : zeroT Tryz.prog 206=some (.agg [(.int .i64 0),(.int .i64 0),(.bool false),.aV]):=by kernel_rfl
theorem EX (a b:Nat): fieldAddrV Tryz.prog 206 (.ptr a b) 0=some (.ptr a (b+0)):=by kernel_rfl
theorem sV (a b:Nat): fieldAddrV Tryz.prog 206 (.ptr a b) 1=some (.ptr a (b+1)):=by kernel_rfl
theorem K8 (a b:Nat): fieldAddrV Tryz.prog 206 (.ptr a b) 2=some (.ptr a (b+2)):=by kernel_rfl
theorem sW (a b:Nat): fieldAddrV Tryz.prog 206 (.ptr a b) 3=some (.ptr a (b+3)):=by kernel_rfl
theorem MS (ps:List (Nat×V)): buildV Tryz.prog 206 ps=(fillV (nth [(0,1),(1,1),(2,1),(3,1)]) ((.agg [(.int .i64 0),(.int .i64 0),(.bool false),.aV]):V).cells ps).map .agg:=by kernel_rfl
theorem pW : isAggT Tryz.prog 211=some false:=by kernel_rfl
theorem aaz (a b l:Nat)(c:Cap)(k:IntKind)(n:Int): indexAddrV Tryz.prog 211 (.sl a b l c) (.int k n)=cond (decide (0≤n)&&decide (n<(l:Int))) (some (.ptr a (b+n.toNat*5))) none:=by kernel_rfl
theorem C_ : isAggT Tryz.prog 212=some false:=by kernel_rfl
theorem A3 : isAggT Tryz.prog 213=some false:=by kernel_rfl
theorem A4 (a b:Nat): fieldAddrV Tryz.prog 215 (.ptr a b) 0=some (.ptr a (b+0)):=by kernel_rfl
theorem VR (a b:Nat): fieldAddrV Tryz.prog 215 (.ptr a b) 1=some (.ptr a (b+1)):=by kernel_rfl
theorem lW (a b:Nat): fieldAddrV Tryz.prog 215 (.ptr a b) 2=some (.ptr a (b+2)):=by kernel_rfl
theorem vY (a b:Nat): fieldAddrV Tryz.prog 215 (.ptr a b) 3=some (.ptr a (b+3)):=by kernel_rfl
theorem sX (a b:Nat): fieldAddrV Tryz.prog 215 (.ptr a b) 4=some (.ptr a (b+4)):=by kernel_rfl
theorem EY (a b:Nat): fieldAddrV Tryz.prog 215 (.ptr a b) 5=some (.ptr a (b+5)):=by kernel_rfl
theorem aaA (ps:List (Nat×V)): buildV Tryz.prog 215 ps=(fillV (nth [(0,1),(1,1),(2,1),(3,1),(4,1),(5,1)]) ((.agg [.cU,.cU,.aV,.kW,.kW,(.int .i64 0)]):V).cells ps).map .agg:=by kernel_rfl
theorem Da : bg Tryz.prog 218=some 5:=by kernel_rfl
theorem aaB : isAggT Tryz.prog 218=some true:=by kernel_rfl
theorem aaC : zeroT Tryz.prog 218=some (.agg [(.int .i64 0),.aV,(.int .i64 0),(.bool false),(.bool false)]):=by kernel_rfl
theorem o9 (a b:Nat): fieldAddrV Tryz.prog 218 (.ptr a b) 0=some (.ptr a (b+0)):=by kernel_rfl
theorem A5 (a b:Nat): fieldAddrV Tryz.prog 218 (.ptr a b) 1=some (.ptr a (b+1)):=by kernel_rfl
theorem qD (a b:Nat): fieldAddrV Tryz.prog 218 (.ptr a b) 2=some (.ptr a (b+2)):=by kernel_rfl
theorem EZ (a b:Nat): fieldAddrV Tryz.prog 218 (.ptr a b) 3=some (.ptr a (b+3)):=by kernel_rfl
theorem E0 (a b:Nat): fieldAddrV Tryz.prog 218 (.ptr a b) 4=some (.ptr a (b+4)):=by kernel_rfl
theorem G4 (ps:List (Nat×V)): buildV Tryz.prog 218 ps=(fillV (nth [(0,1),(1,1),(2,1),(3,1),(4,1)]) ((.agg [(.int .i64 0),.aV,(.int .i64 0),(.bool false),(.bool false)]):V).cells ps).map .agg:=by kernel_rfl
theorem A6 : bg Tryz.prog 224=some 2:=by kernel_rfl
theorem Uw : isAggT Tryz.prog 224=some true:=by kernel_rfl
theorem A7 : zeroT Tryz.prog 224=some (.agg [(.int .u64 0),(.bool false)]):=by kernel_rfl
theorem E1 (a b:Nat): fieldAddrV Tryz.prog 224 (.ptr a b) 0=some (.ptr a (b+0)):=by kernel_rfl
theorem VS (cs:List V): qX Tryz.prog 224 (.agg cs) 0=nth cs 0:=by kernel_rfl
theorem K9 (a b:Nat): fieldAddrV Tryz.prog 224 (.ptr a b) 1=some (.ptr a (b+1)):=by kernel_rfl
theorem aaD (ps:List (Nat×V)): buildV Tryz.prog 224 ps=(fillV (nth [(0,1),(1,1)]) ((.agg [(.int .u64 0),(.bool false)]):V).cells ps).map .agg:=by kernel_rfl
theorem K_ (a b:Nat): fieldAddrV Tryz.prog 253 (.ptr a b) 0=some (.ptr a (b+0)):=by kernel_rfl
theorem aaE (ps:List (Nat×V)): buildV Tryz.prog 253 ps=(fillV (nth [(0,1),(1,1)]) ((.agg [.kW,.kW]):V).cells ps).map .agg:=by kernel_rfl
theorem Ux (a b:Nat)(k:IntKind)(n:Int): indexAddrV Tryz.prog 257 (.ptr a b) (.int k n)=cond (decide (0≤n)&&decide (n<(512:Nat))) (some (.ptr a (b+n.toNat*1))) none:=by kernel_rfl
theorem aaF : bg Tryz.prog 269=some 512:=by kernel_rfl
theorem aaG : isAggT Tryz.prog 269=some true:=by kernel_rfl
theorem aaH (ps:List (Nat×V)): buildV Tryz.prog 278 ps=(fillV (fun i=>some (i*1,1)) ((.agg [(.int .u64 0),(.int .u64 0),(.int .u64 0)]):V).cells ps).map .agg:=by kernel_rfl
def slR (v:V)(a b:Nat): V:=match v with
 |.sl id off _ (.exact c)=>.sl id (cond (Nat.beq c a) off (off+a*1)) (b-a) (.exact (c-a))
 |.sl id off _ (.rest _ alt)=>.sl id (off+a*1) (b-a) (.rest 1 (cond (Nat.beq a 0) alt (cond (Nat.blt a b) (off+a*1) off)))
 |v=>v
theorem fI {v:V}(hv:View h v l)(my:a≤b)(hb:b≤l.length):
  sliceV Tryz.prog h 29 v (some a) (some b) none=some (slR v a b)∧View h (slR v a b) ((l.take b).drop a)∧∀i∈rowIds (slR v a b),i∈rowIds v:=by
 have I:∀x∈(l.take b).drop a,x<256:=fun x hx=>hv.1 x (iA (gF hx))
 have hlen:((l.take b).drop a).length=b-a:=by grind
 obtain⟨hl,J⟩:=hv
 rcases J with⟨rfl|⟨ea,rfl⟩,rfl⟩|⟨id,off,cap,n,cs,st,rfl,hg,h1,h2,h3,h4⟩
 ·simp only[bI] at hb
  have:b=0:=by omega
  have:a=0:=by omega
  subst_vars
  refine⟨?_,⟨by simp,.inl ⟨.inl rfl,by simp⟩⟩,fun i hi=>hi⟩
  simp only[sliceV,ak,d_]
  rfl
 ·simp only[bI] at hb
  have:b=0:=by omega
  have:a=0:=by omega
  subst_vars
  refine⟨?_,⟨by simp,.inl ⟨.inr ⟨ea,rfl⟩,by simp⟩⟩,fun i hi=>hi⟩
  simp only[sliceV,ak,d_]
  rfl
 ·have GY:∀o,o=off+a∨b-a=0→(cs.drop o).take (b-a)=ofBytes ((l.take b).drop a):=by
   grind[ofBytes,List.map_drop,List.map_take,List.drop_take,List.drop_drop]
  cases cap with
  |exact c =>
   refine⟨?_,⟨I,.inr ⟨id,_,_,n,cs,st,by rw[hlen];rfl,hg,h1,?_,?_,?_⟩⟩,fun i hi=>by simpa[rowIds,slR] using hi⟩
   ·simp only[sliceV,slR,ak,d_,cS]
    grind[aP]
   ·grind
   ·grind[eD]
   ·omega
  |rest e alt =>
   have he:e=1:=h4
   subst he
   refine⟨?_,⟨I,.inr ⟨id,_,_,n,cs,st,by rw[hlen];rfl,hg,h1,by omega,by grind,rfl⟩⟩,fun i hi=>by simpa[rowIds,slR] using hi⟩
   simp only[sliceV,slR,ak,d_,cS,jd]
   grind[aP]
theorem gJ {v:V}(hv:View h v l)(ha:a≤l.length):
  sliceV Tryz.prog h 29 v (some a) none none=some (slR v a l.length)∧View h (slR v a l.length) (l.drop a)∧∀i∈rowIds (slR v a l.length),i∈rowIds v:=by
 obtain⟨J,h2,h3⟩:=fI hv ha (aM _)
 refine⟨?_,by grind,h3⟩
 obtain⟨_,I⟩:=hv
 rcases I with⟨rfl|⟨ea,rfl⟩,rfl⟩|⟨id,off,cap,n,cs,st,rfl,hg,g1,g2,g3,g4⟩
 ·simpa[sliceV,ak,d_] using J
 ·simpa[sliceV,ak,d_] using J
 ·simp_all[sliceV]
theorem BZ {v:V}(hv:View h v l)(hb:b≤l.length):
  sliceV Tryz.prog h 29 v none (some b) none=some (slR v 0 b)∧View h (slR v 0 b) (l.take b)∧∀i∈rowIds (slR v 0 b),i∈rowIds v:=by
 obtain⟨J,h2,h3⟩:=fI hv (eN b) hb
 refine⟨?_,by grind,h3⟩
 obtain⟨_,I⟩:=hv
 rcases I with⟨rfl|⟨ea,rfl⟩,rfl⟩|⟨id,off,cap,n,cs,st,rfl,hg,g1,g2,g3,g4⟩
 ·simpa[sliceV,ak,d_] using J
 ·simpa[sliceV,ak,d_] using J
 ·simp_all[sliceV]
theorem c7 {v:V}(hv:View h v l)(hi:l[i]?=some b):
  ∃id off,indexAddrV Tryz.prog 29 v (.int .i64 (i:Int))=some (.ptr id off)∧loadV Tryz.prog h 5 (.ptr id off)=some (.int .u8 (b:Int)):=by
 obtain⟨hl,I⟩:=hv
 rcases I with⟨_,rfl⟩|⟨id,off,cap,n,cs,st,rfl,J,h1,h2,h3,h4⟩
 ·grind
 ·refine⟨id,off+i*1,?_,?_⟩
  ·simp only[indexAddrV,ak,d_,dm]
   grind
  ·simp only[loadV,KU,xY,J,eX,cz]
   have e:=dn (fun q=>q[i]?) h3
   grind[ofBytes]
theorem View.cells {v:V}(hv:View h v l): v.cells=[v]∧Am.storable v=true:=by
 obtain⟨_,hv⟩:=hv
 rcases hv with⟨rfl|⟨I,rfl⟩,_⟩|⟨id,off,cap,n,cs,st,rfl,_⟩<;>exact⟨rfl,rfl⟩
def plain1 : V→Bool
 |.bool _|.int _ _|.str _|.cU|.ptr _ _|.aV|.sl _ _ _ _|.kW|.map _|.FG|.nU|.s_ _ _=>true
 |.fn (.func _) [] []=>true
 |_=>false
def Yr : V→Bool
 |.agg l=>l.all plain1
 |.aW l=>l.all plain1
 |.iface _ v=>plain1 v
 |v=>plain1 v
theorem MT (k:FloatKind): fkBeq k k=true:=by cases k<;>rfl
theorem HZ : ∀l:List Nat,natsBeq l l=true:=by grind[mO]
theorem Si (v:V)(h:plain1 v=true): v.beq v=true:=by
 cases v<;>simp[plain1,V.beq,dO,qS,BD,HZ,MT] at h ⊢
 rename_i f a b
 cases f<;>cases a<;>cases b<;>simp[plain1,V.beq,V.beqL] at h ⊢
theorem Uy : ∀(l:List V),l.all plain1=true→V.beqL l l=true:=by
 intro l
 induction l<;>grind[V.beqL,Si]
theorem bj (v:V)(h:Yr v=true): v.beq v=true:=by
 cases v with
 |agg l=>exact Uy l h
 |aW l=>exact Uy l h
 |iface t v=>simp only[V.beq,jd,AA];exact Si v h
 |_=>exact Si _ h
section
variable {v w:V} {m:List Nat}
theorem MU (s:Sat h (aQ v l::X::S))(J:bX X (b5 w m))(I:l.length+m.length≤140737488355328):
  ∃v' h',appendV Tryz.prog h #[29,29] v w=some (v',h')∧Sat h' (aQ v' (l++m)::X::S):=by
 obtain⟨v',h',e1,e2,e3,e4⟩:=yE s.wf (s.buf (k:=0) rfl) (s.aq (k:=1) rfl J) I
 exact⟨v',h',e1,s.AV e3 e2 e4⟩
theorem O9 (s:Sat h S)(I:c<1073741824):
  ∃v h',makeSliceV Tryz.prog h 29 (.int .i64 0) (.int .i64 (c:Int))=some (v,h')∧Sat h' (aQ v []::S):=by
 obtain⟨v,h',J,e2,e3,e4⟩:=CY s.wf I
 exact⟨v,h',J,s.HY e3 e2 e4⟩
theorem La : ∀n:Nat,repeatL [V.int .u8 0] n=ofBytes (List.replicate n 0):=by
 intro n
 induction n<;>grind[repeatL,ofBytes]
theorem O_ (s:Sat h S)(J:c<1073741824):
  ∃v h',makeSliceV Tryz.prog h 29 (.int .i64 (c:Int)) (.int .i64 (c:Int))=some (v,h')∧Sat h' (aQ v (List.replicate c 0)::S):=by
 obtain⟨i,hi,i1,i2⟩:=AU
 have I:jz (h.new (.cells c (repeatL [.int .u8 0] c) false)) (.sl h.next 0 c (.exact c)) (List.replicate c 0):=by
  refine⟨fun b I=>by grind,.inr (.inl ⟨h.next,[],c,by simp,?_,by simp⟩)⟩<;>grind[hO,La]
 refine⟨.sl h.next 0 c (.exact c),h.new (.cells c (repeatL [.int .u8 0] c) false),?_,s.HY (er.AT s.wf _) I fun i hi=>by simp[rowIds] at hi;omega⟩
 grind[makeSliceV,Tryz.underlying29,oC,V.cells,Nat.ble,Nat.beq]
theorem Pb (s:Sat h S)(I:b<256): ∃v h',buildSliceV Tryz.prog h 29 1 [(0,.int .u8 b)]=some (v,h')∧Sat h' (aQ v [b]::S):=by
 obtain⟨v,h',J,e2,e3,e4⟩:=F4 s.wf I
 exact⟨v,h',J,s.HY e3 e2 e4⟩
theorem Sat.dP (s:Sat h (aQ v l::S))(hl:1≤l.length): ∃id c cap rest,v=.sl id 0 l.length cap∧Sat h (pt id (.cells c (ofBytes l++rest) false)::S)∧l.length+rest.length=c ∧
  (∀(h':H) (I:List Nat),I.length=l.length→(∀b∈I,b<256)→Sat h' (pt id (.cells c (ofBytes I++rest) false)::S)→Sat h' (aQ v I::S)):=by
 obtain⟨m,r,h1,h2,h3,a,b,g1,g2,g3,⟨gl,g4⟩,g5⟩:=s.ok
 rcases g4 with⟨rfl,rfl⟩|⟨id,cs,c,rfl,J,hc⟩|⟨id,rfl,J,h5⟩
 ·grind
 ·refine⟨id,c,_,cs,rfl,⟨s.wf,m,r,h1,h2,h3,a,b,g1,g2,g3,J,g5⟩,hc,fun h' I e1 e2 s'=>s'.dG ?_⟩
  intro m' r' hm
  exact⟨e2,.inr (.inl ⟨id,cs,c,by rw[e1],hm,by omega⟩)⟩
 ·refine⟨id,l.length,_,[],rfl,⟨s.wf,m,r,h1,h2,h3,a,b,g1,g2,g3,by rw[g_];exact J,g5⟩,by simp,fun h' I e1 e2 s'=>s'.dG ?_⟩
  intro m' r' hm
  have BC:m' id=some (.cells l.length (ofBytes I++[]) false):=hm
  exact⟨e2,.inr (.inr ⟨id,by rw[e1],by grind,by omega⟩)⟩
theorem J5 (l:List Nat)(i b:Nat): (ofBytes l).set i (.int .u8 (b:Int))=ofBytes (l.set i b):=by simp[ofBytes,AB]
theorem tG (l:List Nat)(n:Nat): (ofBytes l).take n=ofBytes (l.take n):=by simp[ofBytes,sM]
theorem yO (l:List Nat)(n:Nat): (ofBytes l).drop n=ofBytes (l.drop n):=by simp[ofBytes,sN]
theorem gD (s:Sat h (aQ v l::S))(hi:i<l.length)(hb:b<256):
  ∃id off,indexAddrV Tryz.prog 29 v (.int .i64 (i:Int))=some (.ptr id off)∧∃h',iV Tryz.prog h 5 (.ptr id off) (.int .u8 (b:Int))=some h'∧Sat h' (aQ v (l.set i b)::S):=by
 have hv:=(s.buf (k:=0) rfl).1
 obtain⟨id,c,cap,rest,rfl,s1,hc,J⟩:=s.dP (by omega)
 refine⟨id,i,?_,?_⟩
 ·simp_all[indexAddrV,d_]
 ·obtain⟨h',e1,I⟩:=s1.lu (t:=5) (P:=Tryz.prog) (v:=.int .u8 (b:Int)) (k:=0) (off:=i) rfl d_ (by simp[cQ];omega) (by omega) rfl rfl
  refine⟨h',e1,J h' (l.set i b) (by simp) (fun x hx => ?_) ?_⟩
  ·grind
  ·have e3:(ofBytes l++rest).set i (.int .u8 (b:Int))=ofBytes (l.set i b)++rest:=by
    grind[cQ,J5]
   rw[e3] at I
   exact I
def aF (l:List Nat)(a:Nat)(m:List Nat): List Nat:=l.take a++(m++l.drop (a+m.length))
theorem bL (h:a+m.length≤l.length): (aF l a m).length=l.length:=by simp[aF];omega
theorem ur (I:∀b∈l,b<256)(hm:∀b∈m,b<256): ∀b∈aF l a m,b<256:=by grind[aF]
theorem H6 (s:Sat h (aQ v l::X::S))(hX:bX X (b5 w m))(my:a<b)(hb:b≤l.length)(hm:1≤m.length):
  ∃h',copyV Tryz.prog h 29 (slR v a b) w=some (.int .i64 (min m.length (b-a):Nat),h')∧Sat h' (aQ v (aF l a (m.take (b-a)))::X::S):=by
 have hw:=s.aq (k:=1) rfl hX
 have hwl:=hw.1
 have hv:=(s.buf (k:=0) rfl).1
 obtain⟨id,c,cap,rest,rfl,s1,hc,hf⟩:=s.dP (by omega)
 have iI:∃J,slR (.sl id 0 l.length cap) a b=.sl id a (b-a) J:=by
  cases cap with
  |exact c =>
   refine⟨.exact (c-a),?_⟩
   simp only[slR]
   by_cases hca:c=a
   ·obtain⟨m',r,h1,h2,h3⟩:=s.at (k:=0) rfl
    rcases h3.2 with⟨e,_⟩|⟨Bw,cs',c',e,hg,Pc⟩|⟨Bw,e,_⟩
    ·cases e
    ·grind
    ·grind
   grind[eD]
  |rest e alt=>simp[slR]
 obtain⟨J,iI⟩:=iI
 rw[iI]
 have rq:=hw
 rcases rq.2 with⟨_,rfl⟩|⟨F7,I,H7,n2,tH,st2,rfl,H8,q1,q2,q3,q4⟩
 ·grind
 ·have abK:Nat.min m.length (b-a)=(m.take (b-a)).length:=by
   grind
  have jK:rdN h F7 I (Nat.min m.length (b-a)*1)=some (ofBytes (m.take (b-a))):=by
   have F8:View h (.sl F7 I (m.take (b-a)).length H7) (m.take (b-a)):=by
    refine⟨fun x hx=>hwl x (iA hx),.inr ⟨F7,I,H7,n2,tH,st2,rfl,H8,q1,?_,?_,?_⟩⟩
    ·grind
    ·rw[←tG,←q3,qx,cj]
    ·grind
   rw[cz,abK]
   exact F8.rdN.2
  simp only[copyV,ak,d_,jK]
  have hlen:(m.take (b-a)).length≤b-a:=by grind
  have H9:wrN h id a (ofBytes (m.take (b-a)))=some (h.put id (some (.cells c (ofBytes (aF l a (m.take (b-a)))++rest) false))):=by
   simp only[wrN,s1.row (k:=0) rfl,cQ]
   rw[aP.2 (by omega),ag]
   have e0:(ofBytes l++rest).take a++(ofBytes (m.take (b-a))++(ofBytes l++rest).drop (a+(m.take (b-a)).length))=ofBytes (aF l a (m.take (b-a)))++rest:=by
    grind[cQ,tG,yO,aF,qQ]
   cases Pd:(Nat.beq a 0&&Nat.beq (m.take (b-a)).length c)<;>grind[beq_iff,List.drop_eq_nil_of_le,cQ]
  rw[H9]
  refine⟨_,rfl,hf _ _ (bL (by omega)) (ur hv (fun x hx=>hwl x (iA hx))) ?_⟩
  exact s1.put (k:=0) rfl
end
section
variable {v w x:V}
theorem Ys (I:isAggT P t=some true)(hs:bg P t=some q)(J:T.get h.tr id=some (.cells n cs st))(hl:cs.length=n)(hb:off+q≤n):
  loadV P h t (.ptr id off)=some (.agg ((cs.drop off).take q)):=by
 grind[loadV,rdN,aP,beq_iff]
theorem Sat.VT (s:Sat h (.arr k v cs::S))(I:cs≠[]): ∃id n cap N rest,v=.sl id 0 n cap∧cs.length=n*k∧N=cs.length+rest.length∧Sat h (pt id (.cells N (cs++rest) false)::S) ∧
  (∀(h':H) (cs':List V) (S':List aI),cs'.length=cs.length→cs'.all storable=true→Sat h' (pt id (.cells N (cs'++rest) false)::S')→Sat h' (.arr k v cs'::S')):=by
 obtain⟨m,r,J,h2,h3,a,b,g1,g2,g3,⟨gl,g4⟩,g5⟩:=s.ok
 rcases g4 with⟨_,e⟩|⟨id,n,cap,N,rest,rfl,hg,q1,q2,q3,q4⟩
 ·grind
 ·refine⟨id,n,cap,N,rest,rfl,q1,q2.symm,⟨s.wf,m,r,J,h2,h3,a,b,g1,g2,g3,hg,g5⟩,fun h' cs' S' e1 e2 s'=>s'.dG ?_⟩
  intro m' r' hm
  exact⟨e2,.inr ⟨id,n,cap,N,rest,rfl,hm,by omega,by omega,q3,q4⟩⟩
theorem Sat.G5 (s:Sat h S)(I:getA S j=some (.arr k v cs)): cs.all storable=true:=by
 obtain⟨m,r,h1,h2,J⟩:=s.at I
 exact J.1
theorem Sat.rQ (s:Sat h S)(I:getA S j=some (.arr k v cs)): v.cells=[v]∧storable v=true∧v.beq v=true:=by
 obtain⟨m,r,h1,h2,J⟩:=s.at I
 rcases J.2 with⟨rfl,_⟩|⟨id,n,cap,N,rest,rfl,_⟩
 ·exact⟨rfl,rfl,rfl⟩
 ·exact⟨rfl,rfl,wS _ _ _ _⟩
theorem Sat.eY (s:Sat h S)(hj:getA S j=some (.arr k v cs))(hn:cs.length=n*k)(J:1≤k)(hu:P.underlying t=some (.slice e)): lenV P h t v=some (.int .i64 n):=by
 obtain⟨m,r,h1,h2,h3⟩:=s.at hj
 rcases h3.2 with⟨rfl,rfl⟩|⟨id,n',cap,N,rest,rfl,_,q,_⟩
 ·have:n=0:=by
   rcases lJ n with I|I
   ·exact I
   ·have:=oN I J
    simp at hn
    omega
  simp_all[lenV]
 ·have:n'=n:=D_ J (by omega)
  subst this
  simp only[lenV,hu]
theorem uZ (z:List V)(n:Nat): (repeatL z n).length=n*z.length:=by
 induction n<;>grind[repeatL]
theorem Db {z:List V}(I:z.all storable=true)(n:Nat): (repeatL z n).all storable=true:=by
 induction n<;>grind[repeatL]
theorem yP (s:Sat h S){i:TypeInfo}(hu:P.underlying t=some (.slice e))(hi:P.info? e=some i)(hz:zeroT P e=some z)(hk:i.size=k)(hb:i.bytes≤4096)(J:z.cells.length=k)(I:z.cells.all storable=true)
 (h1:1≤k)(hn:n≤c)(hc:c<1073741824):
  ∃v h',makeSliceV P h t (.int .i64 (n:Int)) (.int .i64 (c:Int))=some (v,h')∧Sat h' (.arr k v (repeatL z.cells n)::S):=by
 refine⟨.sl h.next 0 n (.exact c),h.new (.cells (c*k) (repeatL z.cells c) false),?_,(s.new _).dG fun m r hm => ?_⟩
 ·grind[makeSliceV,aP,Nat.beq_refl]
 ·refine⟨Db I n,.inr ⟨h.next,n,.exact c,c*k,repeatL z.cells (c-n),rfl,?_,by rw[uZ,J],?_,Db I _,rfl,hn⟩⟩
  ·have:repeatL z.cells n++repeatL z.cells (c-n)=repeatL z.cells c:=by
    have:∀a b,repeatL z.cells a++repeatL z.cells b=repeatL z.cells (a+b):=fun a b=>by
     induction a<;>grind[repeatL]
    rw[this,show n+(c-n)=c by omega]
   rw[this];exact hm
  ·rw[uZ,uZ,J,←oT,show n+(c-n)=c by omega]
theorem E3 (I:T.get h.tr id=some (.cells n cs false))(J:cs.length=n)(hb:off+vs.length≤n):
  wrN h id off vs=some (h.put id (some (.cells n (cs.take off++(vs++cs.drop (off+vs.length))) false))):=by
 grind[wrN,aP,beq_iff,List.drop_eq_nil_of_le]
theorem og (I:T.get h.tr id=some (.cells n cs st))(J:cs.length=n)(hb:off+q≤n): rdN h id off q=some ((cs.drop off).take q):=by
 grind[rdN,aP,beq_iff]
def Lb (X:aI)(k:Nat)(v:V)(cs:List V): Prop:=∀m r,X.p m r→nQ m k v cs∨nQ r k v cs
theorem mA (k:Nat)(v:V)(cs:List V): Lb (.arr k v cs) k v cs:=fun _ _ h=>.inl h
theorem Sat.u7 (s:Sat h S)(I:getA S j=some X)(J:Lb X k v cs): nQ (T.get h.tr) k v cs:=by
 obtain⟨m,r,h1,h2,h3⟩:=s.at I
 rcases J _ _ h3 with q|q
 ·exact q.up h1
 ·exact q.up h2
theorem Yt (a:nQ (T.get h.tr) k v cs)(J:cs.length=n*k)(hk:1≤k)(hu:P.underlying t=some (.slice e)): lenV P h t v=some (.int .i64 n):=by
 rcases a.2 with⟨rfl,rfl⟩|⟨id,n',cap,N,rest,rfl,_,q,_⟩
 ·have:n=0:=by
   rcases lJ n with I|I
   ·exact I
   ·have:=oN I hk
    simp at J
    omega
  subst this
  exact AW hu
 grind[Nat.eq_of_mul_eq_mul_right,vU]
theorem Yu (a:nQ (T.get h.tr) k v cs)(hi:i*k+k≤cs.length)(J:1≤k)(hu:P.underlying t=some (.slice e))(I:bg P e=some k):
  ∃id off,indexAddrV P t v (.int .i64 (i:Int))=some (.ptr id off)∧∀m c t',((cs.drop (i*k)).take k)[m]?=some c→isAggT P t'=some false→loadV P h t' (.ptr id (off+m))=some c:=by
 rcases a.2 with⟨_,rfl⟩|⟨id,n,cap,N,rest,rfl,hg,e1,e2,_⟩
 ·grind
 ·refine⟨id,i*k,?_,fun m c t' hc ht=>yF ht hg ?_⟩
  ·simp only[indexAddrV,hu,I,dm]
   have:i<n:=by
    have h4:i*k+k=(i+1)*k:=by grind
    rw[h4,e1] at hi
    exact Ep (Ea hi J)
   grind
  grind[eX]
theorem Sj (hX:Lb X k w ds)(s:Sat h (.arr k v cs::X::S)){i:TypeInfo}(hu:P.underlying t=some (.slice e))(hi:P.info? e=some i)(hz:zeroT P e=some z)(hk:i.size=k)(hb:i.bytes≤4096)(hl:z.cells.length=k)
 (h1:1≤k)(fM:cs.length+ds.length≤1073741824):
  ∃v' h',appendV P h #[t,t] v w=some (v',h')∧Sat h' (.arr k v' (cs++ds)::X::S):=by
 have abL:=s.G5 (j:=0) rfl
 have am:=s.u7 (j:=1) rfl hX
 have B0:=am.1
 have nP:(cs++ds).all storable=true:=by grind
 -- what is appended
 have uU:∃m,srcV h k w=some (ds,m)∧ds.length=m*k:=by
  rcases am.2 with⟨rfl,rfl⟩|⟨id,n,cap,N,rest,rfl,J,e1,e2,e3,e4⟩
  ·exact⟨0,rfl,by simp⟩
  ·refine⟨n,?_,e1⟩
   simp only[srcV]
   rw[og J (by grind) (by omega)]
   grind
 obtain⟨m,uU,hm⟩:=uU
 have I:∀n:Nat,n*k=cs.length→jI (n+m) i.bytes=true:=fun n hn=>by
  have e2:n+m≤(n+m)*k:=Nat.le_mul_of_pos_right _ h1
  have e3:(n+m)*i.bytes≤(n+m)*4096:=Ar _ hb
  grind[mh]
 have wM:∀(σ:H) (n:Nat) (T:List aI),Sat σ T→n*k=cs.length→1≤m→Sat (iU σ k cs ds (n+m)).2 (.arr k (iU σ k cs ds (n+m)).1 (cs++ds)::T):=by
  intro σ n T sT hn kR
  refine(sT.new (.cells ((n+m)*k) (cs++ds) false)).dG fun a r BC=>⟨nP,.inr ⟨σ.next,n+m,.rest k 0,(n+m)*k,[],rfl,by rw[g_];exact BC,by grind,by grind,rfl,rfl,rfl,rfl,by omega⟩⟩
 unfold appendV
 simp only[hu,hi,hz,hk,hl,uU]
 rw[show(Nat.ble 1 k&&Nat.ble i.bytes 4096&&Nat.beq k k)=true by simp_all,ag]
 cases th:Nat.beq m 0 with
 |true =>
  have:m=0:=beq_iff.1 th
  subst this
  have BF:ds=[]:=iz (by omega)
  subst BF
  obtain⟨m,r,q1,q2,q3⟩:=s.at (k:=0) rfl
  rcases q3.2 with⟨rfl,rfl⟩|⟨id,n,cap,N,rest,rfl,J,e1,e2,e3,e4⟩
  ·grind
  ·grind
 |false =>
  have kR:1≤m:=by
   grind[qy]
  obtain⟨a,r,q1,q2,q3⟩:=s.at (k:=0) rfl
  rcases q3.2 with⟨rfl,rfl⟩|⟨id,n,cap,N,rest,rfl,J,e1,e2,e3,e4⟩
  ·have J:=I 0 (by simp)
   rw[ep] at J
   simp only[J,ag]
   have:=wM h 0 (.arr k .aV []::X::S) s (by simp) kR
   rw[ep] at this
   refine⟨_,_,rfl,?_⟩
   exact(this.pS [1]).drop
  ·cases cap with
   |exact c =>
    obtain⟨e4,e5⟩:=e4
    simp only[ep]
    have ko:(cs++rest).take cs.length=cs:=gj rfl
    cases hq:Nat.ble (n+m) c with
    |true =>
     have yc:=aP.1 hq
     have dN:n*k+ds.length≤N:=by rw[hm,←oT,e4];exact mG _ yc
     rw[E3 (q1 _ _ J) (by grind) dN]
     obtain⟨m',r',p1,p2,p3,x1,x2,x3,x4,x5,⟨_,x6⟩,x7⟩:=s.ok
     have pR:x1 id=some (.cells N (cs++rest) false):=by
      rcases x6 with⟨x6,_⟩|⟨Bw,n',Ml,N',Um,x6,x8,x9,x10,_⟩
      ·cases x6
      ·injection x6 with y1 y2 y3 y4
       subst y1
       rw[x8]
       have:=p1 _ _ (x4 _ _ x8)
       rw[q1 _ _ J] at this
       injection this with this
       rw[this]
     have s0:Sat h (pt id (.cells N (cs++rest) false)::X::S):=⟨s.wf,m',r',p1,p2,p3,x1,x2,x3,x4,x5,pR,x7⟩
     have s1:=s0.put (k:=0) (o':=.cells N ((cs++rest).take (n*k)++(ds++(cs++rest).drop (n*k+ds.length))) false) rfl
     refine⟨_,_,rfl,Sat.dG s1 fun a' r'' ha=>⟨nP,.inr ⟨id,n+m,.exact c,N,rest.drop ds.length,rfl,?_,by grind,by grind,?_,e4,yc⟩⟩⟩
     ·have ha':a' id=some (.cells N ((cs++rest).take (n*k)++(ds++(cs++rest).drop (n*k+ds.length))) false):=ha
      simp_all[sG]
     ·grind
    |false =>
     rw[aS,I n e1.symm,ag,og (q1 _ _ J) (by grind) (by omega)]
     rw[eC,←e1,ko]
     have:=wM h n _ s e1.symm kR
     exact⟨_,_,rfl,(this.pS [1]).drop⟩
   |rest e' alt =>
    obtain⟨ek,rfl,rfl,e7⟩:=e4
    have ek:=ek.symm
    subst ek
    simp only[jd,ag,g_,ep] at J e2 ⊢
    have wK:fC h id 0 k=n:=by
     simp only[fC,q1 _ _ J]
     grind[Nat.mul_div_cancel]
    rw[wK]
    rw[show Nat.ble (n+m) n=false by
     grind[aP],aS,I n e1.symm,show Nat.ble 2 ((n+m)*k)=true from aP.2 (by
      have:2*1≤(n+m)*k:=oN (by omega) h1
      omega),jc,ag,og (q1 _ _ J) (by omega) (by omega),q1 _ _ J]
    simp only
    obtain⟨m',r',p1,p2,p3,x1,x2,x3,x4,x5,⟨_,x6⟩,x7⟩:=s.ok
    have pR:x1 id=some (.cells N cs false):=by
     grind
    have s0:Sat h (pt id (.cells N cs false)::X::S):=⟨s.wf,m',r',p1,p2,p3,x1,x2,x3,x4,x5,pR,x7⟩
    have:=wM (h.put id none) n _ s0.kill e1.symm kR
    rw[eC,gd (by omega)]
    exact⟨_,_,rfl,this⟩
theorem gK (s:Sat h (.arr k v cs::.arr k w ds::S)){i:TypeInfo}(hu:P.underlying t=some (.slice e))(hi:P.info? e=some i)(J:zeroT P e=some z)(hk:i.size=k)(hb:i.bytes≤4096)(hl:z.cells.length=k)
 (h1:1≤k)(I:cs.length+ds.length≤1073741824):
  ∃v' h',appendV P h #[t,t] v w=some (v',h')∧Sat h' (.arr k v' (cs++ds)::.arr k w ds::S):=Sj (mA _ _ _) s hu hi J hk hb hl h1 I
def roH (k:Nat)(v:V)(cs:List V): aI:=.xs fun o:Option (Nat×Nat×Cap×Nat×List V)=>match o with
 |none=>.pu (cs.all storable=true∧v=.aV∧cs=[])
 |some (id,n,cap,N,rest)=>.an (.ro id (.cells N (cs++rest) false)) (.pu (cs.all storable=true∧v=.sl id 0 n cap∧cs.length=n*k∧cs.length+rest.length=N∧rest.all storable=true ∧
  (match cap with|.exact c=>N=c*k∧n≤c|.rest e alt=>e=k∧alt=0∧rest=[]∧1≤n)))
theorem ry (k:Nat)(v:V)(cs:List V): Lb (roH k v cs) k v cs:=fun m r h=>by
 obtain⟨_|⟨id,n,cap,N,rest⟩,h⟩:=h
 ·exact .inr ⟨h.1,.inl h.2⟩
 ·exact .inr ⟨h.2.1,.inr ⟨id,n,cap,N,rest,h.2.2.1,h.1,h.2.2.2⟩⟩
theorem Sat.rz (s:Sat h (.arr k v cs::S)): Sat h (roH k v cs::S):=by
 obtain⟨m,r,J,h2,h3,a,b,g1,g2,g3,⟨I,g4⟩,g5⟩:=s.ok
 rcases g4 with⟨e1,e2⟩|⟨id,n,cap,N,rest,e,hg,q⟩
 ·exact iC.2 ⟨none,s.drop.fq ⟨I,e1,e2⟩⟩
 ·have s1:Sat h (pt id (.cells N (cs++rest) false)::S):=⟨s.wf,m,r,J,h2,h3,a,b,g1,g2,g3,hg,g5⟩
  exact iC.2 ⟨some (id,n,cap,N,rest),s1.freeze.dG fun a b hq=>⟨hq,I,e,q⟩⟩
end
section
variable {v w x:V}
theorem Sat.iK {l:List V}(s:Sat h S)(J:getA S j=some (pt id (.cells n cs false)))(hs:bg P t=some n)(hl:l.length=n)(I:l.all storable=true):
  ∃h₁,iV P h t (.ptr id 0) (.agg l)=some h₁∧Sat h₁ (setA S j (pt id (.cells n l false))):=by
 refine⟨h.put id (some (.cells n l false)),?_,s.put J⟩
 simp only[iV,hs,V.cells,I,hl,jd,jc,ag,wrN,s.row J]
 grind[aP]
theorem jB (s:Sat h S)(hu:P.underlying t=some (.slice e))(hz:zeroT P e=some z)(hk:bg P e=some k)(hl:z.cells.length=k)(h1:1≤k)(h2:k≤65536)(J:x.cells.length=k)(I:x.cells.all storable=true):
  ∃v h',buildSliceV P h t 1 [(0,x)]=some (v,h')∧Sat h' (.arr k v x.cells::S):=by
 refine⟨.sl h.next 0 1 (.exact 1),newRow h x.cells,?_,?_⟩
 ·grind[buildSliceV,repeatL,fillV,Nat.beq_refl,aP]
 ·refine(s.new _).dG fun m r hm=>⟨I,.inr ⟨h.next,1,.exact 1,k,[],rfl,?_,by omega,by omega,rfl,by omega,aM _⟩⟩
  rw[hm,J,g_]
end
section
variable {v w x:V}
theorem ViewM.slice {m:PM}(hv:ViewM m v l)(my:a≤b)(hb:b≤l.length): ViewM m (slR v a b) ((l.take b).drop a):=by
 have I:∀x∈(l.take b).drop a,x<256:=fun x hx=>hv.1 x (iA (gF hx))
 have hlen:((l.take b).drop a).length=b-a:=by grind
 obtain⟨hl,J⟩:=hv
 rcases J with⟨rfl|⟨ea,rfl⟩,rfl⟩|⟨id,off,cap,n,cs,st,rfl,hg,h1,h2,h3,h4⟩
 ·simp at hb
  subst_vars
  exact⟨by simp,.inl ⟨.inl rfl,by simp⟩⟩
 ·simp at hb
  subst_vars
  exact⟨by simp,.inl ⟨.inr ⟨ea,rfl⟩,by simp⟩⟩
 ·have GY:∀o,o=off+a∨b-a=0→(cs.drop o).take (b-a)=ofBytes ((l.take b).drop a):=by
   grind[ofBytes,List.map_take,List.map_drop,List.drop_take,List.drop_drop]
  cases cap with
  |exact c =>
   refine⟨I,.inr ⟨id,_,_,n,cs,st,by rw[hlen];rfl,hg,h1,?_,?_,?_⟩⟩<;>grind[eD]
  |rest e alt =>
   exact⟨I,.inr ⟨id,_,_,n,cs,st,by rw[hlen];rfl,hg,h1,by omega,by grind,rfl⟩⟩
theorem wW (hX:bX X (b5 v l))(I:a≤b)(J:b≤l.length): bX X (b5 (slR v a b) ((l.take b).drop a)):=fun m r hm =>
 (hX m r hm).imp (fun h=>ViewM.slice h I J) (fun h=>ViewM.slice h I J)
theorem Lc (I:bX X (b5 v l))(J:a≤l.length): bX X (b5 (slR v a l.length) (l.drop a)):=by
 grind[wW,List.take_length]
theorem Uz (I:bX X (b5 v l))(J:b≤l.length): bX X (b5 (slR v 0 b) (l.take b)):=by
 have:=wW I (eN b) J
 rwa [eC] at this
theorem Sat.kS (s:Sat h S): Sat h (.arr k .aV []::S):=(s.fq aa).dG fun _ _ _=>⟨rfl,.inl ⟨rfl,rfl⟩⟩
theorem Sat.rA (s:Sat h S): Sat h (aQ .aV []::S):=(s.fq aa).dG fun _ _ _=>⟨by simp,.inl ⟨rfl,rfl⟩⟩
theorem Sat.qT (s:Sat h S): Sat h (l9 .aV []::S):=(s.fq aa).dG fun _ _ _=>⟨by simp,.inl ⟨.inl rfl,rfl⟩⟩
theorem F9 (s:Sat h S){i:TypeInfo}(hu:P.underlying t=some (.slice e))(hi:P.info? e=some i)(I:zeroT P e=some z)(J:i.size=k)(hb:i.bytes≤4096)(hl:z.cells.length=k)
 (h1:1≤k)(hn:n<1073741824):
  ∃id h',makeSliceV P h t (.int .i64 (n:Int)) (.int .i64 (n:Int))=some (.sl id 0 n (.exact n),h')∧Sat h' (pt id (.cells (n*k) (repeatL z.cells n) false)::S):=by
 refine⟨h.next,h.new (.cells (n*k) (repeatL z.cells n) false),?_,s.new _⟩<;>grind[makeSliceV,aP,Nat.beq_refl]
theorem mP {o:Nat}{c:Cap}(hv:v=.sl i o n c)(hu:P.underlying t=some (.slice e)): lenV P h t v=some (.int .i64 n):=by subst hv;exact vU hu
theorem B1 (hv:v=.aV)(hu:P.underlying t=some (.slice e)): lenV P h t v=some (.int .i64 0):=by subst hv;exact AW hu
theorem abM {ts:Array TypeId}{k:IntKind}{a b:Int}: builtinV P h .min ts [.int k a,.int k b]=some (.int k (min a b),h):=by
 grind[builtinV,foldV,xZ,dO]
theorem MV {c:Go.Call}{b:Builtin}(I:c.callee=.builtin b)(J:lookArgs E c.args.toList=some args)(hf:builtinV P h b c.argTypes args=some (r,h')): opE P E h (.call c)=some (r,h'):=by
 simp only[opE,I,J,hf]
end
def slR3 (v:V)(a b m:Nat): V:=match v with
 |.sl id off _ _=>.sl id (cond (Nat.beq m a) off (off+a*1)) (b-a) (.exact (m-a))
 |v=>v
section
variable {v w x:V}
theorem ViewM.slice3 {m:PM}(hv:ViewM m v l)(my:a≤b)(hb:b≤c)(hc:c≤l.length)(hl:1≤l.length): ViewM m (slR3 v a b c) ((l.take b).drop a):=by
 have I:∀x∈(l.take b).drop a,x<256:=fun x hx=>hv.1 x (iA (gF hx))
 have hlen:((l.take b).drop a).length=b-a:=by grind
 obtain⟨_,J⟩:=hv
 rcases J with⟨_,rfl⟩|⟨id,off,cap,n,cs,st,rfl,hg,h1,h2,h3,h4⟩
 ·grind
 ·have GY:∀o,o=off+a∨b-a=0→(cs.drop o).take (b-a)=ofBytes ((l.take b).drop a):=by
   grind[ofBytes,List.map_take,List.map_drop,List.drop_take,List.drop_drop]
  refine⟨I,.inr ⟨id,_,_,n,cs,st,by rw[hlen];rfl,hg,h1,?_,?_,?_⟩⟩<;>grind[eD]
theorem yQ (hX:bX X (b5 v l))(I:a≤b)(J:b≤c)(hc:c≤l.length)(hl:1≤l.length): bX X (b5 (slR3 v a b c) ((l.take b).drop a)):=fun m r hm =>
 (hX m r hm).imp (fun h=>ViewM.slice3 h I J hc hl) (fun h=>ViewM.slice3 h I J hc hl)
theorem qU (hv:View h v l)(J:a≤b)(hb:b≤c)(hc:c≤l.length)(hl:1≤l.length): sliceV Tryz.prog h 29 v (some a) (some b) (some c)=some (slR3 v a b c):=by
 obtain⟨_,I⟩:=hv
 rcases I with⟨_,rfl⟩|⟨id,off,cap,n,cs,st,rfl,hg,h1,h2,h3,h4⟩
 ·grind
 ·cases cap with
  |exact q =>
   simp only[sliceV,slR3,ak,d_,cS]
   grind[aP]
  |rest e alt =>
   have he:e=1:=h4
   subst he
   simp only[sliceV,slR3,ak,d_,cS,jd]
   grind[Nat.blt,aP]
theorem gp (hv:View h v l)(I:1≤l.length): ∃id off cap,v=.sl id off l.length cap:=by
 rcases hv.2 with⟨_,rfl⟩|⟨id,off,cap,_,_,_,rfl,_⟩<;>grind
theorem b9 {k:IntKind}{n:Int}(I:0≤n): kz (some (V.int k n))=some (some n.toNat):=by
 grind[kz,bndV]
end
section
variable {v w x:V} {m:List Nat}
theorem Yv (s:Sat h S)(J:getA S j=some (.arr q v cs))(hi:i*q+q≤cs.length)(hq:1≤q)(hu:P.underlying t=some (.slice e))(I:bg P e=some q):
  ∃id off,indexAddrV P t v (.int .i64 (i:Int))=some (.ptr id off)∧(isAggT P e=some true→loadV P h e (.ptr id off)=some (.agg ((cs.drop (i*q)).take q))):=by
 obtain⟨m,r,h1,h2,h3⟩:=s.at J
 rcases h3.2 with⟨_,rfl⟩|⟨id,n,cap,N,rest,rfl,hg,e1,e2,_⟩
 ·grind
 ·refine⟨id,i*q,?_,fun ht => ?_⟩
  ·simp only[indexAddrV,hu,I,dm]
   have:i<n:=by
    have h4:i*q+q=(i+1)*q:=by grind
    rw[h4,e1] at hi
    exact Ep (Ea hi hq)
   grind
  ·rw[Ys ht I (h1 _ _ hg) (by grind) (by omega)]
   grind
theorem Sat.Yw (s:Sat h (aQ v l::X::S))(hX:bX X (b5 w m)): ∀i∈rowIds w,i∉rowIds v:=by
 intro i hi J
 obtain⟨a,r,h1,h2,h3,b,c,g1,g2,g3,g4,d,e,k1,k2,k3,k4,k5⟩:=s.ok
 have hb:=K0 g4 i J
 have hw:∀q:PM,ViewM q w m→q i≠none:=fun q hq=>by
  rcases hq.2 with⟨rfl|⟨ea,rfl⟩,_⟩|⟨id,off,cap,n,cs,st,rfl,hg,_⟩<;>grind[rowIds]
 rcases hX _ _ k4 with hq|hq
 ·cases hd:d i with
  |none=>grind
  |some o =>
   rcases g1 i with I|I
   ·grind
   ·rw[k2 _ _ hd] at I;cases I
 ·cases hbb:b i with
  |none=>grind
  |some o =>
   rcases h3 i with I|I
   ·rw[g2 _ _ hbb] at I;cases I
   ·grind
end
abbrev iu := List (Int×V×Nat)
def yR (κ:IntKind)(e:Int×V×Nat): V×V×Nat:=(.int κ e.1,e.2)
abbrev Pe := yR .i64
def lookE (n:Int): iu→Option V
 |[]=>none
 |e::l=>if e.1=n then some e.2.1 else lookE n l
def oD (n:Int)(v:V)(c:Nat): iu→iu
 |[]=>[(n,v,c)]
 |e::l=>if e.1=n then(e.1,v,e.2.2)::l else e::oD n v c l
def qE (n:Int): iu→iu
 |[]=>[]
 |e::l=>if e.1=n then l else e::qE n l
def clkE (n:Int)(c:Nat)(l:iu): Nat:=match lookE n l with
 |some _=>c
 |none=>c+1
abbrev nc (κ:IntKind)(id:Nat)(l:iu)(c:Nat): aI:=pt id (.map (l.map (yR κ)) c)
abbrev H_ := nc .i64
def idxE (n:Int): iu→Nat→Option (Nat×V)
 |[],_=>none
 |e::l,i=>if e.1=n then some (i,e.2.1) else idxE n l (i+1)
theorem pX (a b:Int): intBeq a b=decide (a=b):=by
 grind[uk,qS]
theorem vZ {k:IntKind}{n:Int}: ∀(l:iu) (i:Nat),findK (.int k) (.int κ n) (l.map (yR κ)) i=some (idxE n l i):=by
 intro l
 induction l<;>grind[findK,yR,keyBeq,dO,pX,idxE]
theorem rB {n:Int}: ∀(l:iu) (i:Nat),(idxE n l i).map (·.2)=lookE n l:=by
 intro l
 induction l<;>grind[idxE,lookE]
theorem Ld {n:Int}: ∀(l:iu) (i j:Nat) (v:V),idxE n l i=some (j,v)→i≤j:=by
 intro l
 induction l<;>grind[idxE]
theorem aaI {n:Int}{v:V}: ∀(l:iu) (i j:Nat) (u:V),idxE n l i=some (j,u)→setNth (l.map (yR κ)) (j-i) (fun e=>(e.1,v,e.2.2))=(oD n v c l).map (yR κ):=by
 intro l
 induction l with
 |nil=>intro i j u h;cases h
 |cons e l J =>
  intro i j u h
  simp only[idxE] at h
  simp only[oD,jb,setNth]
  by_cases he:e.1=n
  ·rw[aH he] at h;injection h with h;injection h with I h2
   subst I
   rw[aH he,gG]
   rfl
  ·rw[ax he] at h
   have h3:=Ld _ _ _ _ h
   grind[eD]
theorem Yx {n:Int}: ∀(l:iu) (i j:Nat) (u:V),idxE n l i=some (j,u)→lP (l.map (yR κ)) (j-i)=(qE n l).map (yR κ):=by
 intro l
 induction l with
 |nil=>intro i j u h;cases h
 |cons e l I =>
  intro i j u h
  simp only[idxE] at h
  simp only[qE,jb,lP]
  by_cases he:e.1=n
  ·simp_all
  ·rw[ax he] at h
   have J:=Ld _ _ _ _ h
   grind[eD]
theorem VU {n:Int}{v:V}: ∀(l:iu),lookE n l=none→oD n v c l=l++[(n,v,c)]:=by
 intro l
 induction l<;>grind[lookE,oD]
theorem Sk {n:Int}: ∀(l:iu),lookE n l=none→qE n l=l:=by
 intro l
 induction l<;>grind[lookE,qE]
section
variable {v:V} {k:IntKind} {l:iu} {n:Int}
theorem Sat.aaJ (s:Sat h S)(I:getA S j=some (nc κ id l c))(hu:P.underlying t=some (.map kt et))(J:P.underlying kt=some (.int k))(hz:zeroT P et=some z):
  eU P h t (.map id) (.int κ n) true=some (match lookE n l with|some v=>.aW [v,.bool true]|none=>.aW [z,.bool false]):=by
 have hg:=s.row I
 simp only[eU,lookupV,hu,J,hz,hg,keyBeq,dO,ag,vZ]
 rw[←rB l 0]
 cases idxE n l 0<;>grind
theorem Sat.aaK (s:Sat h S)(I:getA S j=some (nc κ id l c))(hu:P.underlying t=some (.map kt et))(J:P.underlying kt=some (.int k))(hz:zeroT P et=some z):
  eU P h t (.map id) (.int κ n) false=some (match lookE n l with|some v=>v|none=>z):=by
 have hg:=s.row I
 simp only[eU,lookupV,hu,J,hz,hg,keyBeq,dO,ag,vZ]
 rw[←rB l 0]
 cases idxE n l 0<;>grind
theorem Sat.update (s:Sat h S)(hj:getA S j=some (nc κ id l c))(hu:P.underlying t=some (.map kt et))(hk:P.underlying kt=some (.int k)):
  ∃h',mapUpdateV P h t (.map id) (.int κ n) v=some h'∧Sat h' (setA S j (nc κ id (oD n v c l) (clkE n c l))):=by
 have hg:=s.row hj
 refine⟨h.put id (some (.map ((oD n v c l).map (yR κ)) (clkE n c l))),?_,s.put hj⟩
 simp only[mapUpdateV,hu,hk,hg,keyBeq,dO,ag,vZ]
 have I:=rB (n:=n) l 0
 cases J:idxE n l 0 with
 |none =>
  rw[J] at I
  have I:lookE n l=none:=I.symm
  simp only[clkE,I,VU l I,Ew]
  rfl
 |some q =>
  obtain⟨i,u⟩:=q
  rw[J] at I
  have I:lookE n l=some u:=I.symm
  simp only[clkE,I]
  rw[←aaI (v:=v) (c:=c) l 0 i u J,fR]
theorem Sat.delete (s:Sat h S)(J:getA S j=some (nc κ id l c))(hu:P.underlying t=some (.map kt et))(hk:P.underlying kt=some (.int k)):
  ∃h',oV P h t (.map id) (.int κ n)=some h'∧Sat h' (setA S j (nc κ id (qE n l) c)):=by
 have hg:=s.row J
 simp only[oV,hu,hk,hg,keyBeq,dO,ag,vZ]
 have I:=rB (n:=n) l 0
 cases hq:idxE n l 0 with
 |none =>
  rw[hq] at I
  have I:lookE n l=none:=I.symm
  refine⟨h,rfl,?_⟩
  rw[Sk l I]
  have:∀(S:List aI) (j:Nat) (A:aI),getA S j=some A→setA S j A=S:=by
   intro S
   induction S with
   |nil=>intro j A h;cases h
   |cons B S ih =>
    intro j A h
    cases j<;>grind[getA,setA]
  rw[this S j _ J]
  exact s
 |some q =>
  obtain⟨i,u⟩:=q
  refine⟨_,rfl,?_⟩
  have e:=Yx (κ:=κ) l 0 i u hq
  rw[fR] at e
  rw[e]
  exact s.put J
theorem Sat.abN (s:Sat h S)(I:getA S j=some (nc κ id l c))(hu:P.underlying t=some (.map kt et)): lenV P h t (.map id)=some (.int .i64 (l.length:Int)):=by
 have J:=s.row I
 simp_all[lenV]
end
section
variable {o:Oper} {z:Operand} {a b v:V}
theorem OpR.upd (J:∀env,j5 env E→evOp C (ev C 0) env h o=(match mapUpdateV C.P h t a b v with|some h'=>some (ct,h')|none=>none))
 (ho:∃h₁,mapUpdateV C.P h t a b v=some h₁∧Sat h₁ S'): OpR C E h o fun _ h₁=>Sat h₁ S':=by
 obtain⟨h₁,e1,I⟩:=ho
 exact⟨ct,h₁,I,fun env he=>⟨0,by grind⟩⟩
theorem OpR.mapUpdate (I:o.op=.mapUpdate t x y z)(J:bq E x=some a)(hy:bq E y=some b)(hz:bq E z=some v)
 (ho:∃h₁,mapUpdateV C.P h t a b v=some h₁∧Sat h₁ S'): OpR C E h o fun _ h₁=>Sat h₁ S':=by
 refine OpR.upd (t:=t) (a:=a) (b:=b) (v:=v) (fun env he => ?_) ho
 simp only[evOp,I,b6 he J,b6 he hy,b6 he hz,ua]
 cases mapUpdateV C.P h t a b v<;>rfl
theorem OpR.builtin {bi:Builtin}{R:V→H→Prop}(I:o.op=.call cl)(J:cl.callee=.builtin bi)(ha:lookArgs E cl.args.toList=some args)(ho:∃v h₁,builtinV C.P h bi cl.argTypes args=some (v,h₁)∧R v h₁): OpR C E h o R:=by
 grind[OpR.of,opE]
theorem OpR.lX {m:List Nat}(hP:C.P=Tryz.prog)(s:Sat h (aQ v l::X::S))(hX:bX X (b5 u m))(I:o.op=.call cl)(hc:cl.callee=.builtin .append)(J:cl.argTypes = #[29,29])(ha:lookArgs E cl.args.toList=some [v,u])
 (fM:l.length+m.length≤140737488355328): OpR C E h o fun v' h₁=>Sat h₁ (aQ v' (l++m)::X::S):=by
 grind[MU,OpR.builtin,builtinV]
theorem OpR.rC (J:C.P=Tryz.prog)(s:Sat h S)(I:o.op=.makeSlice t x y)(ht:t=29)(hx:bq E x=some (.int .i64 0))(hy:bq E y=some (.int .i64 (c:Int)))(hc:c<1073741824): OpR C E h o fun v' h₁=>Sat h₁ (aQ v' []::S):=by
 grind[O9,OpR.of,wQ]
theorem OpR.G6 (J:C.P=Tryz.prog)(s:Sat h S)(I:o.op=.makeSlice t x y)(ht:t=29)(hx:bq E x=some (.int .i64 (c:Int)))(hy:bq E y=some (.int .i64 (c:Int)))(hc:c<1073741824): OpR C E h o fun v' h₁=>Sat h₁ (aQ v' (List.replicate c 0)::S):=by
 grind[O_,OpR.of,wQ]
theorem OpR.aaL {m:List Nat}{p:Nat}(hP:C.P=Tryz.prog)(s:Sat h (aQ v l::X::S))(hX:bX X (b5 u m))(I:o.op=.call cl)(hc:cl.callee=.builtin .copy)(J:cl.argTypes = #[29,29])(ha:lookArgs E cl.args.toList=some [slR v p q,u])
 (hpq:p<q)(hq:q≤l.length)(hm:1≤m.length): OpR C E h o fun _ h₁=>Sat h₁ (aQ v (aF l p (m.take (q-p)))::X::S):=by
 grind[H6,OpR.builtin,builtinV]
theorem OpR.A8 (J:C.P=Tryz.prog)(s:Sat h S)(I:o.op=.buildSlice t 1 ps)(ht:t=29)(hx:lookParts E ps.toList=some [(0,.int .u8 (n:Int))])(hn:n<256): OpR C E h o fun v' h₁=>Sat h₁ (aQ v' [n]::S):=by
 grind[Pb,OpR.of,gI]
end
section
def lookL (n:Int): List (Int×α)→Option α
 |[]=>none
 |e::l=>if e.1=n then some e.2 else lookL n l
def cY (n:Int)(a:α): List (Int×α)→List (Int×α)
 |[]=>[(n,a)]
 |e::l=>if e.1=n then(n,a)::l else e::cY n a l
def nR (n:Int): List (Int×α)→List (Int×α)
 |[]=>[]
 |e::l=>if e.1=n then l else e::nR n l
theorem kT {n k:Int}{a:α}: ∀l:List (Int×α),lookL k (cY n a l)=if n=k then some a else lookL k l:=by
 intro l
 induction l<;>grind[cY,lookL]
theorem sx {n:Int}: ∀ {l:List (Int×α)},lookL n l=none↔n∉l.map (·.1):=by
 intro l
 induction l<;>grind[lookL]
theorem F_ {n k:Int}: ∀ {l:List (Int×α)},(l.map (·.1)).Nodup→lookL k (nR n l)=if n=k then none else lookL k l:=by
 intro l
 induction l<;>grind[nR,lookL,sx]
theorem tI {n:Int}{a:α}: ∀ {l:List (Int×α)} {k:Int},k∈(cY n a l).map (·.1)↔k=n∨k∈l.map (·.1):=by
 intro l
 induction l<;>grind[cY]
theorem mj {n:Int}{a:α}: ∀ {l:List (Int×α)},(l.map (·.1)).Nodup→((cY n a l).map (·.1)).Nodup:=by
 intro l
 induction l<;>grind[cY,tI]
theorem Sl {n:Int}: ∀ {l:List (Int×α)} {k:Int},k∈(nR n l).map (·.1)→k∈l.map (·.1):=by
 intro l
 induction l<;>grind[nR]
theorem wX {n:Int}: ∀ {l:List (Int×α)},(l.map (·.1)).Nodup→((nR n l).map (·.1)).Nodup:=by
 intro l
 induction l<;>grind[nR,Sl]
def iH (f:V→α→aI): iu→List (Int×α)→aI
 |[],[]=>.pu True
 |e::l,x::m=>.an (.an (.pu (e.1=x.1)) (f e.2.1 x.2)) (iH f l m)
 |_,_=>.pu False
variable {f:V→α→aI} {a b:PM}
theorem Dc : ∀ {l:iu} {m:List (Int×α)},(iH f l m).p a b→l.map (·.1)=m.map (·.1):=by
 intro l
 induction l with
 |nil=>intro m h;cases m with
  |nil=>rfl
  |cons x m=>exact h.elim
 |cons e l I=>intro m h;cases m with
  |nil=>exact h.elim
  |cons x m=>simp only[jb];rw[h.1.1,I h.2]
theorem sy {n:Int}: ∀ {l:iu} {m:List (Int×α)},(iH f l m).p a b→(lookE n l=none∧lookL n m=none)∨∃u x,lookE n l=some u∧lookL n m=some x∧(f u x).p a b:=by
 intro l
 induction l with
 |nil=>intro m h;cases m with
  |nil=>exact .inl ⟨rfl,rfl⟩
  |cons x m=>exact h.elim
 |cons e l J=>intro m h;cases m with
  |nil=>exact h.elim
  |cons x m =>
   obtain⟨⟨I,h2⟩,h3⟩:=h
   have I:e.1=x.1:=I
   grind[lookE,lookL]
theorem Pf {n:Int}{x:α}(hu:(f u x).p a b): ∀ {l:iu} {m:List (Int×α)},(iH f l m).p a b→(iH f (oD n u c l) (cY n x m)).p a b:=by
 intro l
 induction l with
 |nil=>intro m h;cases m with
  |nil=>exact⟨⟨rfl,hu⟩,aa⟩
  |cons x m=>exact h.elim
 |cons e l ih=>intro m h;cases m with
  |nil=>exact h.elim
  |cons y m =>
   obtain⟨⟨I,h2⟩,J⟩:=h
   have I:e.1=y.1:=I
   simp only[oD,cY,←I]
   by_cases he:e.1=n
   ·rw[aH he,aH he];exact⟨⟨he,hu⟩,J⟩
   ·rw[ax he,ax he];exact⟨⟨I,h2⟩,ih J⟩
theorem Pg {n:Int}: ∀ {l:iu} {m:List (Int×α)},(iH f l m).p a b→(iH f (qE n l) (nR n m)).p a b:=by
 intro l
 induction l with
 |nil=>intro m h;cases m with
  |nil=>trivial
  |cons x m=>exact h.elim
 |cons e l J=>intro m h;cases m with
  |nil=>exact h.elim
  |cons y m =>
   obtain⟨⟨I,h2⟩,h3⟩:=h
   have I:e.1=y.1:=I
   simp only[qE,nR,←I]
   by_cases he:e.1=n
   ·grind
   ·rw[ax he,ax he];exact⟨⟨I,h2⟩,J h3⟩
theorem aJ.Sn (I:∀u x,aJ (f u x)): ∀(l:iu) (m:List (Int×α)),aJ (iH f l m):=by
 intro l
 induction l with
 |nil=>intro m;cases m<;>exact aJ.pu _
 |cons e l J=>intro m;cases m with
  |nil=>exact aJ.pu _
  |cons x m=>exact aJ.an (aJ.an (aJ.pu _) (I _ _)) (J m)
def pY (c:Nat): Nat→iu→Prop
 |_,[]=>True
 |b,e::l=>b≤e.2.2∧e.2.2<c∧pY c (e.2.2+1) l
theorem MW : ∀ {l:iu} {b b':Nat},b'≤b→pY c b l→pY c b' l:=by
 intro l
 cases l with
 |nil=>intro b b' _ _;trivial
 |cons e l=>intro b b' h I;exact⟨cX h I.1,I.2⟩
theorem Ph {k:Int}(hn:n=c): ∀ {l:iu} {b:Nat},b≤c→pY c b l→pY (clkE k c l) b (oD k u n l):=by
 subst hn
 intro l
 induction l with
 |nil=>intro b J _;exact⟨J,sF _,aa⟩
 |cons e l ih =>
  intro b J h
  have I:=ih (b:=e.2.2+1) (by have:=h.2.1;omega) h.2.2
  by_cases he:e.1=k
  ·simp only[oD,clkE,lookE,aH he];exact h
  ·simp only[oD,clkE,lookE,ax he]
   refine⟨h.1,?_,I⟩
   have:=h.2.1
   split<;>omega
theorem Pj {k:Int}: ∀ {l:iu} {b:Nat},pY c b l→pY c b (qE k l):=by
 intro l
 induction l with
 |nil=>intro b h;exact h
 |cons e l I =>
  intro b h
  simp only[qE]
  by_cases he:e.1=k
  ·rw[aH he];exact MW (by have:=h.1;omega) h.2.2
  ·rw[ax he];exact⟨h.1,h.2.1,I h.2.2⟩
def pZ (κ:IntKind)(f:V→α→aI)(v:V)(m:List (Int×α)): aI :=
 xs fun id:Nat=>xs fun l:iu=>xs fun c:Nat=>star [.pu (v=.map id∧pY c 0 l∧(m.map (·.1)).Nodup),nc κ id l c,iH f l m]
abbrev nf {α:Type}(f:V→α→aI)(v:V)(m:List (Int×α)): aI:=pZ .i64 f v m
section
variable {v:V} {k:IntKind} {m:List (Int×α)} {n:Int} {x:α}
theorem jU : Sat h (pZ κ f v m::S)↔∃id l c,v=.map id∧pY c 0 l∧(m.map (·.1)).Nodup∧Sat h (nc κ id l c::iH f l m::S):=by
 simp[pZ,iC,cG,pT,and_assoc]
theorem uw : Sat h (nf f v m::S)↔∃id l c,v=.map id∧pY c 0 l∧(m.map (·.1)).Nodup∧Sat h (H_ id l c::iH f l m::S):=jU
theorem l_ (hf:∀u x,aJ (f u x))(s:Sat h (pZ κ f v m::S))(hu:P.underlying t=some (.map kt et))(I:P.underlying kt=some (.int k))(J:zeroT P et=some z):
  (lookL n m=none∧eU P h t v (.int κ n) true=some (.aW [z,.bool false])∧eU P h t v (.int κ n) false=some z) ∨
  ∃u x,lookL n m=some x∧eU P h t v (.int κ n) true=some (.aW [u,.bool true])∧eU P h t v (.int κ n) false=some u∧Sat h (f u x::pZ κ f v m::S):=by
 obtain⟨id,l,c,rfl,hb,hn,s1⟩:=jU.1 s
 have e2:=s1.aaJ (n:=n) (j:=0) rfl hu I J
 have e1:=s1.aaK (n:=n) (j:=0) rfl hu I J
 obtain⟨a,b,q1,q2,q3⟩:=s1.at (k:=1) rfl
 rcases sy (n:=n) q3 with⟨g1,g2⟩|⟨u,x,g1,g2,g3⟩
 ·grind
 ·rw[g1] at e1 e2
  refine .inr ⟨u,x,g2,e2,e1,?_⟩
  have s2:Sat h (iH f l m::nc κ id l c::S):=s1.pS [1]
  have s3:=s2.dup (aJ.Sn hf l m)
  have s4:Sat h (f u x::iH f l m::nc κ id l c::S):=s3.dG fun a' b' h'=>by
   grind[sy]
  have s5:Sat h (nc κ id l c::iH f l m::f u x::S):=s4.pS [2,1]
  exact(jU.2 ⟨id,l,c,rfl,hb,hn,s5⟩:Sat h (pZ κ f (.map id) m::f u x::S)).pS [1]
theorem mo (I:∀u x,aJ (f u x))(s:Sat h (f u x::pZ κ f v m::S))(hu:P.underlying t=some (.map kt et))(J:P.underlying kt=some (.int k)):
  ∃h',mapUpdateV P h t v (.int κ n) u=some h'∧Sat h' (pZ κ f v (cY n x m)::S):=by
 have s0:Sat h (pZ κ f v m::f u x::S):=s.pS [1]
 obtain⟨id,l,c,rfl,hb,hn,s1⟩:=jU.1 s0
 obtain⟨h',e1,e2⟩:=s1.update (n:=n) (v:=u) (j:=0) rfl hu J
 refine⟨h',e1,?_⟩
 have e3:Sat h' (f u x::iH f l m::nc κ id (oD n u c l) (clkE n c l)::S):=e2.pS [2,1]
 have e4:Sat h' (iH f (oD n u c l) (cY n x m)::nc κ id (oD n u c l) (clkE n c l)::S):=e3.map fun a b h=>by
  obtain⟨p1,p2,d1,d2,d3,d4,p3,p4,d5,d6,d7,d8,d9⟩:=h
  exact⟨fun _=>none,p4,fun _=>.inl rfl,fun _ _ h=>(by cases h),PM.le_trans d7 d3,Pf (I _ _ _ _ d4) (aJ.Sn I _ _ _ _ d8),d9⟩
 exact jU.2 ⟨id,_,_,rfl,Ph rfl (eN _) hb,mj hn,e4.pS [1]⟩
theorem Sq (s:Sat h (pZ κ f v m::S))(hu:P.underlying t=some (.map kt et))(I:P.underlying kt=some (.int k)):
  ∃h',oV P h t v (.int κ n)=some h'∧Sat h' (pZ κ f v (nR n m)::S):=by
 obtain⟨id,l,c,rfl,J,hn,s1⟩:=jU.1 s
 obtain⟨h',e1,e2⟩:=s1.delete (n:=n) (j:=0) rfl hu I
 refine⟨h',e1,?_⟩
 have e3:Sat h' (iH f l m::nc κ id (qE n l) c::S):=e2.pS [1]
 have e4:Sat h' (iH f (qE n l) (nR n m)::nc κ id (qE n l) c::S):=e3.dG fun a b h=>Pg h
 exact jU.2 ⟨id,_,_,rfl,Pj J,wX hn,e4.pS [1]⟩
theorem Sr (s:Sat h (pZ κ f v m::S))(hu:P.underlying t=some (.map kt et)): lenV P h t v=some (.int .i64 (m.length:Int)):=by
 obtain⟨id,l,c,rfl,J,hn,s1⟩:=jU.1 s
 have e:=s1.abN (j:=0) rfl hu
 obtain⟨a,b,q1,q2,I⟩:=s1.at (k:=1) rfl
 have:=dn List.length (Dc I)
 grind
theorem Ss (s:Sat h (pt id (.map [] 0)::S)): Sat h (pZ κ f (.map id) []::S):=by
 have s1:Sat h (iH f [] []::pt id (.map [] 0)::S):=s.fq aa
 exact jU.2 ⟨id,[],0,rfl,aa,by simp,s1.pS [1]⟩
theorem oE (s:Sat h (pt id (.map [] 0)::S)): Sat h (nf f (.map id) []::S):=Ss s
theorem Ia (s:Sat h S)(I:getA S j=some (pZ κ f v m)): ∃id,v=.map id:=by
 have s1:=s.take j I
 grind[jU]
end
end
theorem OpR.delete {o:Oper}{u:TypeId}{m k:V}(I:o.op=.call cl)(J:cl.callee=.builtin .delete)(hty:cl.argTypes = #[t,u])(ha:lookArgs E cl.args.toList=some [m,k])
 (ho:∃h₁,oV C.P h t m k=some h₁∧Sat h₁ S'): OpR C E h o fun _ h₁=>Sat h₁ S':=by
 obtain⟨h₁,e1,e2⟩:=ho
 refine OpR.builtin I J ha ⟨.aW [],h₁,?_,e2⟩<;>grind[builtinV]
end Go.Proofs.YtdonpgpfplgigaaGreat.Am
