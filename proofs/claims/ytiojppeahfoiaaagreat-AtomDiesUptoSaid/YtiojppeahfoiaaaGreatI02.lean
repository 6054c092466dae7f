/- AtomDies: a part of its proof; conditions: its statement's. -/
import Derived.Test.YtiojppeahfoiaaaGreatI01
import Derived.Scope
import Derived.Test.YtiojppeahfoiaaaGreatProg
import Derived.KernelRfl
import Derived.Shelf.SlIterI.Sorted
import Derived.Defers
import Derived.Recover
set_option linter.defProp false
namespace Go.Proofs.YtiojppeahfoiaaaGreat.Am
open Go
def aW:=@Tryz.underlying23
def BY:=@Tryz.func217
abbrev dI:=Nat→Option (List V→H→Option (V×H))
variable {ps:Array (Nat×Operand)} {ops:Array Oper} {ts:Array TypeId} {C:gy} {code:Code} {c₀:Ctx} {env:Env} {Q:Ex→List (Nat×V)→H→Prop} {fn:Func} {f:FuncId} {h h' σ h₁ ee:H} {E E':List (Nat×V)} {R:List (Nat×V)→H→Prop} {d₀:List Deferred} {hs:List H} {eL es l:List Nat} {L rest:List Oper} {args first cap vs cs ds:List V} {a b i c k id n d off j k' q:Nat} {Hs:Nat→H} {early:Nat→Option (Nat×FV)} {Fl:Nat→Prop} {vv:Nat→V} {o':Obj} {o:Oper} {x y:Operand} {P:Program} {φ:Prop} {self:Self} {s s':St} {α:Type} {td:TypeDesc} {t t' e kt et:TypeId} {r u z:V} {xS:V→H→Prop} {w₀ w:World}
theorem PU {a b:IntKind}(h:ikBeq a b=true): a=b:=by cases a<;>cases b<;>first|rfl|(simp[ikBeq] at h)
theorem uk {a b:Int}(h:intBeq a b=true): a=b:=by
 cases a<;>cases b<;>simp[intBeq] at h<;>rw[h]
theorem BZ : ∀ {a b:List Nat},natsBeq a b=true→a=b
 |[],[],_=>rfl
 |[],_::_,h=>by simp[natsBeq] at h
 |_::_,[],h=>by simp[natsBeq] at h
 |x::a,y::b,h=>by
  simp only[natsBeq] at h
  cases I:Nat.beq x y with
  |false=>grind
  |true=>rw[I,ak] at h;rw[beq_iff.1 I,BZ h]
theorem Nh {a b:Cap}(h:a.beq b=true): a=b:=by
 cases a<;>cases b<;>simp[Cap.beq] at h
 ·rw[h]
 ·grind
mutual
theorem DM : ∀(a b:V),V.beq a b=true→a=b
 |.bool a,b,h=>by cases b<;>simp[V.beq] at h;rw[h]
 |.int j a,b,h=>by
  cases b<;>simp[V.beq] at h
  rw[PU h.1,uk h.2]
 |.str a,b,h=>by cases b<;>simp[V.beq] at h;rw[BZ h]
 |.cH,b,h=>by cases b<;>simp[V.beq] at h;rfl
 |.ptr x y,b,h=>by cases b<;>simp[V.beq] at h;rw[h.1,h.2]
 |.bw,b,h=>by cases b<;>simp[V.beq] at h;rfl
 |.sl x y z u,b,h=>by
  cases b<;>simp[V.beq] at h
  rw[h.1.1.1,h.1.1.2,h.1.2,Nh h.2]
 |.lp,b,h=>by cases b<;>simp[V.beq] at h;rfl
 |.map x,b,h=>by cases b<;>simp[V.beq] at h;rw[h]
 |.fn f x y,b,h=>by
  cases f with
  |func k=>cases b with
   |fn g u v=>cases g with
    |func j =>
     simp[V.beq] at h
     rw[h.1.1,tF x u h.1.2,tF y v h.2]
    |_=>simp[V.beq] at h
   |_=>simp[V.beq] at h
  |_=>cases b<;>simp[V.beq] at h
 |.El,b,h=>by cases b<;>simp[V.beq] at h;rfl
 |.iface t v,b,h=>by
  cases b<;>simp[V.beq] at h
  rw[h.1,DM v _ h.2]
 |.mq,b,h=>by cases b<;>simp[V.beq] at h;rfl
 |.agg l,b,h=>by cases b<;>simp[V.beq] at h;rw[tF l _ h]
 |.bD l,b,h=>by cases b<;>simp[V.beq] at h;rw[tF l _ h]
 |.MJ _,b,h=>by cases b<;>simp[V.beq] at h
 |.sle a,b,h=>by cases b<;>simp[V.beq] at h;rw[h]
 |.tj k x,b,h=>by
  cases b with
  |tj j y =>
   simp[V.beq] at h
   rw[h.2]
   cases k<;>cases j<;>first|rfl|(simp[fkBeq] at h)
  |_=>simp[V.beq] at h
theorem tF : ∀(a b:List V),V.beqL a b=true→a=b
 |[],b,h=>by cases b<;>simp[V.beqL] at h;rfl
 |x::a,b,h=>by
  cases b with
  |nil=>simp[V.beqL] at h
  |cons y b =>
   simp only[V.beqL] at h
   cases I:V.beq x y with
   |false=>rw[I] at h;cases h
   |true=>rw[I,ak] at h;rw[DM x y I,tF a b h]
end
theorem DN {m:Nat}: ∀(es:List Nat),(∀idx p,idx<lq m es→es[idx]?=some p→bit m p=true)∧lq m es≤es.length:=by
 intro es
 induction es<;>grind[lq]
theorem PV {m:Nat}: ∀(es:List Nat),pY m es=true→∀(I J p q:Nat),I≤J→es[I]?=some p→es[J]?=some q→bit m q=true→bit m p=true:=by
 intro es
 induction es<;>grind[pY]
theorem J2 : ∀(es:List Nat),oo eL i es≤es.length∧∀p,es[oo eL i es]?=some p→bit ((nth eL p).getD 0) i=true:=by
 intro es
 induction es<;>grind[oo]
section
theorem Ni {x:Env×V}: ∀(l:List H),sameIn C self L o x l=true→wantedV L x.1 o=true→∀h∈l,∃h',evOp C self x.1 h o=some (x.2,h'):=by
 intro l
 induction l with
 |nil=>simp
 |cons y l I =>
  intro hs hw h hm
  simp only[sameIn,hw,ak] at hs
  cases he:evOp C self x.1 y o with
  |none=>grind
  |some r =>
   grind[DM]
theorem Ez : ∀(l:List Oper) (tr:List (Env×V)) (k:Nat),stayOk C self L eL es hs l tr k=true →
  ∀j o x,l[j]?=some o→tr[j]?=some x→isEff C o.op=false →
   pY ((nth eL (k+j)).getD 0) es=true∧(lq ((nth eL (k+j)).getD 0) es=oo eL (k+j) es ∨
    sameIn C self L o x ((hs.drop (lq ((nth eL (k+j)).getD 0) es)).take (oo eL (k+j) es+1-lq ((nth eL (k+j)).getD 0) es))=true):=by
 intro l
 induction l with
 |nil=>simp
 |cons y l I =>
  intro tr k h j o x ho J he
  cases tr with
  |nil=>grind
  |cons z tr =>
   simp only[stayOk] at h
   cases j<;>grind[beq_iff]
theorem TD {ops:List Oper}: ∀(l:List Oper) (tr:List (Env×V)),allW ops l tr=true→∀(i:Nat) (o:Oper) (x:Env×V),l[i]?=some o→tr[i]?=some x→isAlloc true o=true→wantedV ops x.1 o=true:=by
 intro l
 induction l with
 |nil=>simp
 |cons y l I =>
  intro tr h i o x ho J U
  cases tr<;>grind[allW]
theorem Fz (h:isAlloc false o=true): isAlloc true o=true∧o.guard=none:=by
 grind[isAlloc]
theorem PW {z:St}(hr:pZ C self L s=some z):
    ∃Fl st vv Hs,iy C self Fl L s st vv (eM C L 0) Hs∧st L.length=z∧L.all (fun o => !F7 o.op)=true:=by
  unfold pZ at hr
  cases Zl:trace C self L L s [s.h] with
  |none=>grind
  |some q =>
      obtain⟨tr,hs,z'⟩:=q
      simp only[Zl] at hr
      cases J:stayOk C self L (ancs L []) (eM C L 0) hs L tr 0 with
      |false=>grind
      |true =>
        rw[J,ak] at hr
        obtain⟨fl,fM,hW,hr⟩:∃fl,oN C fl L=true∧(∀(i:Nat) (o:Oper) (x:Env×V),L[i]?=some o→tr[i]?=some x→isAlloc fl o=true→isAlloc true o=true∧wantedV L x.1 o=true)∧z'=z:=by
          cases h0:oN C false L with
          |true =>
            rw[h0,ak] at hr
            refine⟨false,h0,fun i o x _ _ ha => ?_,cA hr⟩<;>grind[Fz,wantedV]
          |false =>
            grind[TD]
        subst hr
        simp only[oN,bS] at fM
        obtain⟨⟨⟨s1,s2⟩,s3⟩,s4⟩:=fM
        obtain⟨st,t1,t2,t3,t4,t5⟩:=PS L 0 s [s.h] tr hs z' Zl
        simp only[gw] at t2 t5
        have U:∀i o,L[i]?=some o→∀e∈o.after,gD e=true→e.on<i:=fun i o ho e he hb=>by
          have:=Gv L 0 s1 i o ho e he hb;omega
        have abX:∀i o,L[i]?=some o→∀j,bit ((nth (ancs L []) i).getD 0) j=true→j<i:=fun i o ho j hj =>
          (Gu U (fun _=>True) i o ho (fun _ _ _ _ _ _ _ _=>trivial) (fun _ _ _=>trivial) j hj).2
        have I:=(xQ (C:=C) L 0).1
        have JX:∀p,p∈eM C L 0↔∃o,L[p]?=some o∧isEff C o.op=true:=fun p=>by
          grind[Na]
        have hHs:∀k p,(eM C L 0)[k]?=some p→hs[k+1]?=some (st (p+1)).h:=fun k p hp=>by
          grind
        have hH0:hs[0]?=some s.h:=by grind
        have abL:hs.length=(eM C L 0).length+1:=by grind
        have sE:∀i o,L[i]?=some o→∃h,(st i).put o.dst (((tr[i]?).map (·.2)).getD cF) h=some (st (i+1)) ∧
            (wantedV L (st i).env o=true→evOp C self (st i).env (st i).h o=some (((tr[i]?).map (·.2)).getD cF,h))∧(wantedV L (st i).env o=false→((tr[i]?).map (·.2)).getD cF=cF∧h=(st i).h):=fun i o ho=>by
          grind
        -- all but 'same'; it is wanted for 'heapAt'
        have abY:(∀i o,L[i]?=some o→isEff C o.op=false→∀k,k≤(eM C L 0).length→(∀idx p,idx<k→(eM C L 0)[idx]?=some p→bit ((nth (ancs L []) p).getD 0) i=false) →
              (∀idx p,k≤idx→(eM C L 0)[idx]?=some p→bit ((nth (ancs L []) i).getD 0) p=false) →
              wantedV L (st i).env o=true→∃h',evOp C self (st i).env ((hs[k]?).getD s.h) o=some (((tr[i]?).map (·.2)).getD cF,h')) →
            iy C self (fun i=>∃o,L[i]?=some o∧isAlloc fl o=true) L s st (fun i=>((tr[i]?).map (·.2)).getD cF) (eM C L 0) (fun k=>(hs[k]?).getD s.h):=fun K9 =>
          { back:=U
            Li:=fun j o ho i x hi hx=>by
              have:=Lf L 0 s2 j o ho i x (by omega) hx
              grind
            z7:=fun i o ho ⟨o',Eu,ha⟩=>by
              grind
            Nc:=fun i o ho ⟨o',Eu,ha⟩ j u hu b8=>by
              rw[ho] at Eu
              obtain rfl:=cA Eu
              rcases IV L 0 s3 i o ho ha j u hu (by omega) with h|h<;>grind[Nb]
            rL:=JX
            sorted:=I
            start:=t1
            step:=sE
            Lj:=by grind
            BU:=fun k p hp=>by grind
            Zh:=fun i o ho he=>by
              obtain⟨v,h,e1,_⟩:=t5 i o ho
              have:=(Ez L tr 0 J i o _ ho e1 he).1
              grind[PV]
            same:=K9 }
        refine⟨_,st,_,_,abY ?_,t2,s4⟩
        intro i o ho he k hk h1 h2 hw
        obtain⟨v,h,e1,e2,e3,e4⟩:=t5 i o ho
        obtain⟨g1,g2⟩:=Ez L tr 0 J i o _ ho e1 he
        simp only[gw] at g1 g2
        have aak:lq ((nth (ancs L []) i).getD 0) (eM C L 0)≤k:=Dt fun b8=>by
          obtain⟨p,hp⟩:∃p,(eM C L 0)[k]?=some p:=⟨_,bn (by have:=(DN (m:=(nth (ancs L []) i).getD 0) (eM C L 0)).2;omega)⟩<;>grind[DN]
        have abZ:k≤oo (ancs L []) i (eM C L 0):=Dt fun b8=>by
          grind[J2]
        have PC:((tr[i]?).map (·.2)).getD cF=v:=by grind
        rw[PC]
        rcases g2 with g2|g2
        · -- its place is known
          have su:(st i).h=(hs[k]?).getD s.h:=by
            have BJ:k=oo (ancs L []) i (eM C L 0):=by omega
            have b8:∀idx p,idx<k→(eM C L 0)[idx]?=some p→p<i:=fun idx p b8 hp=>by
              grind[DN]
            have Vy:∀idx p,k≤idx→(eM C L 0)[idx]?=some p→i≤p:=fun idx p hle hp=>by
              obtain⟨q,hq⟩:∃q,(eM C L 0)[k]?=some q:=⟨_,bn (by grind)⟩
              have hb:=(J2 (eL:=ancs L []) (i:=i) (eM C L 0)).2 q (by grind)
              obtain⟨x,hx,_⟩:=(JX q).1 (bu hq)<;>grind[List.pairwise_iff_getElem]
            exact BV (Hs:=fun k=>(hs[k]?).getD s.h) sE (fun p=>JX p) I t1 (by grind) (fun k p hp=>by grind) i k (by grind) hk b8 Vy
          rw[←su]
          exact⟨h,e3 hw⟩
        · have hm:(hs[k]?).getD s.h∈(hs.drop (lq ((nth (ancs L []) i).getD 0) (eM C L 0))).take (oo (ancs L []) i (eM C L 0)+1-lq ((nth (ancs L []) i).getD 0) (eM C L 0)):=by
            have aal:k<hs.length:=by omega
            refine bu (i:=k-lq ((nth (ancs L []) i).getD 0) (eM C L 0)) ?_
            rw[List.getElem?_take,aE (by omega),ve,Nat.add_sub_cancel' aak,bn aal]
            simp
          exact Ni _ g2 hw _ hm
theorem TE {S:Nat→Prop}(hb:∀i o,L[i]?=some o→∀e∈o.after,gD e=true→e.on<i)(I:∀i o,¬ lG L S i o): ∀i,i<L.length→S i:=by
 intro i
 induction i using Nat.strongRecOn with
 |_ i ih =>
  intro hi
  refine u9 fun J => ?_
  refine I i L[i] ⟨bn hi,J,fun e he U => ?_⟩<;>grind
theorem gY.done {st:Nat→St}{c:Ctx}{S:Nat→Prop}{a:Act}
 (D:iy C self Fl L s st vv es Hs)(I:gY C self Fl L s st vv es Hs c₀ w₀ d₀ S early k c a w)(si:∀p,es[k]?=some p→¬ S p)(A7:∀i,i<L.length→S i):
  Rel c (st L.length).h w∧fD c (st L.length).env (st L.length).ax a:=by
 have b8:∀p∈es,p<L.length:=fun p J=>by
  obtain⟨o,ho,_⟩:=(D.rL p).1 J<;>grind
 have U:∀p,early p=none:=fun p=>by
  cases h:early p with
  |none=>rfl
  |some b =>
   obtain⟨_,idx,h1,h2⟩:=I.s_ p b h<;>grind
 refine⟨?_,?_⟩
 ·rw[D.Gw L.length k (aP _) I.JY (fun idx p _ J=>b8 p (bu J)) (fun idx p hle J=>by grind)]
  exact I.rel
 ·have hv:∀t,a.tmps.getD t undef=conc c ((st L.length).env.v t)∧wf c ((st L.length).env.v t):=fun t=>by
   rcases I.tmp t with⟨i,o,g1,g2,g3,g4,g5⟩|⟨g1,g2,g3⟩
   ·have:(st L.length).env.v t=vv i:=by
     rcases D.FI t L.length (aP _) with⟨j,oj,h1,h2,h3,h4,h5⟩|⟨h1,_⟩<;>grind
    rcases g5 with⟨b,e1,_⟩|⟨_,e2,e3⟩
    ·grind
    ·grind
   ·have:(st L.length).env.v t=s.env.v t:=by
     rcases D.FI t L.length (aP _) with⟨j,oj,h1,h2,h3,h4,h5⟩|⟨_,h⟩<;>grind
    rw[this];exact⟨g2,g3⟩
  exact⟨by rw[I.size,D.ax L.length (aP _)],fun t=>(hv t).1,fun t=>(hv t).2⟩
theorem gY.congr {st:Nat→St}{c:Ctx}{S S':Nat→Prop}{a:Act}
 (I:gY C self Fl L s st vv es Hs c₀ w₀ d₀ S early k c a w)(h:∀j,S j↔S' j): gY C self Fl L s st vv es Hs c₀ w₀ d₀ S' early k c a w:=by
 have:S=S':=funext fun j=>propext (h j)
 rw[←this];exact I
theorem PX (hS:je C.P self)(hT:ig C){r:Option Nat}(hL:ops.toList=L){Q:Exit→Act→World→Prop}{st:Nat→St}(D:iy C self Fl L s st vv es Hs)
 (hQ:∀c a w,Rel c (st L.length).h w→fD c (st L.length).env (st L.length).ax a→dH c₀ w₀ c w→a.defers=d₀→Q .normal a w):
  ∀(fuel:Nat) (J:Array Bool) (early:Nat→Option (Nat×FV)) (k:Nat) (c:Ctx) (a:Act) (w:World),J.size=L.length→J.count false≤fuel →
   gY C self Fl L s st vv es Hs c₀ w₀ d₀ (fun j=>J.getD j false=true) early k c a w→wpAnyIn (Fr r) 0 C.P .any ops Q fuel J a w:=by
 intro fuel
 induction fuel with
 |zero =>
  intro J early k c a w gW aam I
  have U:∀i,i<L.length→J.getD i false=true:=fun i hi=>by
   have h0:J.count false=0:=by omega
   have:false∉J:=Array.count_eq_zero.1 h0
   rw[u7,Df (by omega)]
   grind
  obtain⟨GA,k',c',I',si⟩:=gY.Ey D (es.length-k) k early c rfl I
  obtain⟨r1,r2⟩:=I'.done D si U
  refine⟨?_,hQ c' a w r1 r2 I'.JZ I'.defers⟩
  refine List.eq_nil_iff_forall_not_mem.2 fun j hj => ?_
  obtain⟨h1,o,h2,_⟩:=mem_ready.1 hj
  have b8:j<L.length:=by grind
  have h3:=U j b8
  rw[u7,Df (by omega)] at h1 h3
  simp at h1 h3
  rw[h1] at h3;cases h3
 |succ fuel ih =>
  intro J early k c a w gW aam I
  obtain⟨GA,k',c',I',si⟩:=gY.Ey D (es.length-k) k early c rfl I
  have Vz:∀j,j∈Region.ready .any ops J↔∃o,lG L (fun j=>J.getD j false=true) j o:=fun j=>by
   rw[mem_ready]
   constructor
   ·rintro⟨h1,o,h2,h3⟩
    refine⟨o,by grind,fun h4 => ?_,fun e he hb=>h3 e he ?_⟩
    ·grind
    ·rw[←hb];cases e;rename_i on g;cases g<;>rfl
   ·rintro⟨o,R⟩
    have h2:=R.at_
    rw[←hL,lM] at h2
    refine⟨?_,o,h2,fun e he hb=>R.Lm e he ?_⟩
    ·have b8:j<J.size:=by grind
     have h4:=R.not
     grind
    ·rw[←hb];cases e;rename_i on g;cases g<;>rfl
  refine⟨fun A5 => ?_,fun i hi => ?_⟩
  ·have U:=TE (S:=fun j=>J.getD j false=true) D.back (fun i o R=>by
    grind)
   obtain⟨r1,r2⟩:=I'.done D si U
   exact hQ c' a w r1 r2 I'.JZ I'.defers
  ·obtain⟨o,R⟩:=(Vz i).1 hi
   have b8:i<J.size:=by rw[gW];exact(List.getElem?_eq_some_iff.1 R.at_).1
   have abx:J[i]=false:=by
    have:=R.not
    rw[u7,Df b8] at this
    simpa using this
   refine I'.Vw hS hT hL D si R ?_
   intro TF k'' Nj AH BT I''
   refine ih (J.setIfInBounds i true) TF k'' Nj AH BT (by grind) ?_ (I''.congr fun j => ?_)
   ·grind
   ·by_cases VA:j=i
    ·subst VA
     simp[u7,b8]
    simp_all[qN]
theorem Nk (hS:je C.P self)(hT:ig C)(hm:C.P.follows .mixedOrders=true){r:Option Nat}(hr:pZ C self ops.toList s=some s'){Q:Exit→Act→World→Prop}{c:Ctx}{a:Act}(h:Rel c s.h w)(he:fD c s.env s.ax a)
 (hQ:∀c' J w',Rel c' s'.h w'→fD c' s'.env s'.ax J→dH c w c' w'→J.defers=a.defers→Q .normal J w'):
  (Code.region id ops true).wpIn (Fr r) 0 C.P Q a w:=by
 obtain⟨Fl,st,vv,Hs,D,hz,_⟩:=PW hr
 refine wpIn_region_any hm ?_
 have U:dH c w c { w with drawn:=w.drawn+1 }:=dH.drew c w
 have Gz:Rel c s.h { w with drawn:=w.drawn+1 }:=h.drew
 refine PX hS hT rfl D (c₀:=c) (w₀:=w) (d₀:=a.defers) (fun c' J w' r1 r2 r3 r4=>hQ c' J w' (by grind) (by grind) r3 r4)
  ops.size (Array.replicate ops.size false) (fun _=>none) 0 c a _ (by simp) (by simp) ?_
 have I:∀j,¬ (Array.replicate ops.size false).getD j false=true:=fun j=>by
  rw[u7,Array.getElem?_replicate];split<;>simp
 refine⟨fun i o hi=>absurd hi (I i),fun idx p h=>by omega,fZ _,fun idx p _ _ hp=>absurd hp (I p),(fun p b h=>by cases h),(by rw[D.Lj];exact Gz),he.size,
  fun t=>.inr ⟨fun j o hj=>absurd hj (I j),he.val t,he.vt t⟩,(fun p b h=>by cases h),(fun p q b b' h=>by cases h),U,rfl⟩
end
end Go.Proofs.YtiojppeahfoiaaaGreat.Am
namespace Go.Proofs.YtiojppeahfoiaaaGreat.Am
open Go
variable {ps:Array (Nat×Operand)} {ops:Array Oper} {ts:Array TypeId} {C:gy} {code:Code} {c₀:Ctx} {env:Env} {Q:Ex→List (Nat×V)→H→Prop} {fn:Func} {f:FuncId} {h h' σ h₁ ee:H} {E E':List (Nat×V)} {R:List (Nat×V)→H→Prop} {d₀:List Deferred} {hs:List H} {eL es l:List Nat} {L rest:List Oper} {args first cap vs cs ds:List V} {a b i c k id n d off j k' q:Nat} {Hs:Nat→H} {early:Nat→Option (Nat×FV)} {Fl:Nat→Prop} {vv:Nat→V} {o':Obj} {o:Oper} {x y:Operand} {P:Program} {φ:Prop} {self:Self} {s s':St} {α:Type} {td:TypeDesc} {t t' e kt et:TypeId} {r u z:V} {xS:V→H→Prop} {w₀ w:World}
section
variable {b:Frame} {a:Act} {k:List Item} {cs:List Frame}
theorem oB {c:Code}: step P (lone (b.atR a (.code (.scope c)::k)) cs w)=.next (lone (b.atR a (.code c::.inScope c::k)) cs w) :=
 by rfl
theorem FA {c:Code}: step P (lone (b.atR a (.inScope c::k)) cs w)=.next (lone (b.atR a k) cs w) :=
 by rfl
end
theorem Lo {r:Option Nat}{c:Code}{Q:Exit→Act→World→Prop}{a:Act}(h:c.wpIn (Fr r) 0 P (Exit.noGoto Q) a w): (Code.scope c).wpIn (Fr r) 0 P Q a w:=by
 intro b k cs hro hb hr
 obtain⟨e,J,U,hq,I⟩:=h b (.inScope c::k) cs hro hb hr
 cases e with
 |normal=>exact⟨.normal,J,U,hq,.of_steps (.one (fenced_calm hb hr rfl) oB) (StepsIn.trans I (.one (fenced_calm hb hr rfl) FA))⟩
 |exit id=>exact⟨.exit id,J,U,hq,.of_steps (.one (fenced_calm hb hr rfl) oB) ⟨fun k' hk=>I.1 k' (by simpa[exitTo] using hk),fun hr hk=>I.2 hr (by simpa[exitTo] using hk)⟩⟩
 |goto l=>exact hq.elim
 |ret=>exact⟨_,J,U,hq,.of_steps (.one (fenced_calm hb hr rfl) oB) I⟩
 |panic ch=>exact⟨_,J,U,hq,.of_steps (.one (fenced_calm hb hr rfl) oB) I⟩
 |outgrown=>exact⟨_,J,U,hq,.of_steps (.one (fenced_calm hb hr rfl) oB) I⟩
def B2 (P:Program)(self:Self)(m:Nat): Prop:=∀(b:Code) (s:St) (ex:Ex) (s':St),self (.loop b) s=some (ex,s') →
 ∀(r:Option Nat) (c:Ctx) (a:Act) (w:World) (Q:Exit→Act→World→Prop),Rel c s.h w→fD c s.env s.ax a →
  (∀e I w',(e=exOf ex∧I.defers=a.defers∧∃c',Rel c' s'.h w'∧fD c' s'.env s'.ax I∧dH c w c' w')→Q e I w')→Code.roundsIn (Fr r) 0 P b Q m a w
section
theorem AI {m:Nat}(hS:je C.P self)(hL:B2 C.P self m): B2 C.P (evStep C self) (m+1):=by
 intro b s ex s' U r c a w Q h he hQ
 unfold evStep at U
 simp only at U
 cases hb:self b s with
 |none=>grind
 |some q =>
  obtain⟨I,J⟩:=q
  rw[hb] at U
  refine wpIn_mono (hS b s I J hb r c a w h he) ?_
  rintro e IT Fy ⟨rfl,q2,c₁,q3,q4,q5⟩
  cases I with
  |normal =>
   refine hL b J ex s' U r c₁ IT Fy Q q3 q4 ?_
   rintro PI XP XQ ⟨p1,p2,c₂,p3,p4,p5⟩
   exact hQ _ _ _ ⟨p1,by grind,c₂,p3,p4,q5.trans p5⟩
  |exit i =>
   obtain⟨rfl,rfl⟩:=U
   exact hQ _ _ _ ⟨rfl,q2,c₁,q3,q4,q5⟩
  |ret =>
   obtain⟨rfl,rfl⟩:=U
   exact hQ _ _ _ ⟨rfl,q2,c₁,q3,q4,q5⟩
theorem Nl {m:Nat}(hm:C.P.follows .mixedOrders=true)(hT:ig C)(hS:je C.P self)(hL:B2 C.P self m): je C.P (evStep C self):=by
 intro code s ex s' I r c a w h he
 have same:∀ {ex:Ex} {s':St},(Ex.normal,s)=(ex,s')→exOf ex=.normal∧s'=s:=fun e=>by cases e;exact⟨rfl,rfl⟩
 cases code with
 |skip =>
  simp only[evStep,aG,bE] at I
  obtain⟨rfl,rfl⟩:=I
  exact wpIn_skip ⟨rfl,rfl,c,h,he,dH.refl c w⟩
 |label l =>
  simp only[evStep,aG,bE] at I
  obtain⟨rfl,rfl⟩:=I
  exact wpIn_label ⟨rfl,rfl,c,h,he,dH.refl c w⟩
 |region id ops draw =>
  unfold evStep at I
  simp only at I
  cases draw with
  |true =>
   rw[ak] at I
   cases hd:pZ C self ops.toList s with
   |none=>simp[hd] at I
   |some J =>
    simp only[hd,aG,bE] at I
    obtain⟨rfl,rfl⟩:=I
    exact Nk hS hT hm hd h he fun c' a' w' r1 r2 r3 r4=>⟨rfl,r4,c',r1,r2,r3⟩
  |false =>
   rw[bf] at I
   cases hd:evOps C self ops.toList ops.toList s with
   |none=>simp[hd] at I
   |some J =>
    simp only[hd,aG,bE] at I
    obtain⟨rfl,rfl⟩:=I
    refine wpIn_region ?_
    rw[List.range_eq_range',←Dj]
    exact PN hS hT ops.toList 0 s J c a w (fun j=>by rw[gw,lM]) hd h he fun c' a' w' r1 r2 r3 r4=>⟨rfl,r4,c',r1,r2,r3⟩
 |seq x y =>
  unfold evStep at I
  simp only at I
  cases hx:self x s with
  |none=>rw[hx] at I;simp at I
  |some r =>
   obtain⟨U,J⟩:=r
   rw[hx] at I
   refine wpIn_seq (wpIn_mono (hS x s U J hx r c a w h he) ?_)
   rintro e IT Fy ⟨rfl,q2,c₁,q3,q4,q5⟩
   cases U with
   |normal =>
    simp only at I
    refine wpIn_mono (hS y J ex s' I r c₁ IT Fy q3 q4) ?_
    rintro e XP XQ ⟨rfl,p2,c₂,p3,p4,p5⟩
    exact⟨rfl,by rw[p2,q2],c₂,p3,p4,q5.trans p5⟩
   |exit i =>
    simp only[aG,bE] at I
    obtain⟨rfl,rfl⟩:=I
    exact⟨rfl,q2,c₁,q3,q4,q5⟩
   |ret =>
    simp only[aG,bE] at I
    obtain⟨rfl,rfl⟩:=I
    exact⟨rfl,q2,c₁,q3,q4,q5⟩
 |cond x y z =>
  unfold evStep at I
  simp only at I
  split at I
  ·rename_i t hx
   obtain⟨e1,_⟩:=F_ he hx
   refine wpIn_cond (t:=t) (by rw[e1];rfl) ?_
   have:=hS (cond t y z) s ex s' I r c a w h he
   cases t<;>simpa using this
  ·cases I
 |block id b =>
  unfold evStep at I
  simp only at I
  cases hb:self b s with
  |none=>rw[hb] at I;simp at I
  |some r =>
   obtain⟨U,J⟩:=r
   rw[hb] at I
   refine wpIn_block (wpIn_mono (hS b s U J hb r c a w h he) ?_)
   rintro e IT Fy ⟨rfl,q2,c₁,q3,q4,q5⟩
   cases U with
   |normal =>
    simp only[aG,bE] at I
    obtain⟨rfl,rfl⟩:=I
    simp only[exOf,Exit.inBlock]
    exact⟨aa,q2,c₁,q3,q4,q5⟩
   |exit i =>
    simp only at I
    by_cases hi:i=id
    ·rw[qO hi,ak] at I
     simp only[aG,bE] at I
     obtain⟨rfl,rfl⟩:=I
     simp only[exOf,Exit.inBlock,hi,c_]
     exact⟨aa,q2,c₁,q3,q4,q5⟩
    ·rw[eF hi,bf] at I
     simp only[aG,bE] at I
     obtain⟨rfl,rfl⟩:=I
     simp only[exOf,Exit.inBlock,hi,fH]
     exact⟨aa,q2,c₁,q3,q4,q5⟩
   |ret =>
    simp only[aG,bE] at I
    obtain⟨rfl,rfl⟩:=I
    simp only[exOf,Exit.inBlock]
    exact⟨aa,q2,c₁,q3,q4,q5⟩
 |loop b =>
  exact wpIn_loop_rounds (m+1) (AI hS hL b s ex s' I r c a w _ h he (fun _ _ _ hq=>hq))
 |exit id =>
  simp only[evStep,aG,bE] at I
  obtain⟨rfl,rfl⟩:=I
  exact wpIn_exit ⟨rfl,rfl,c,h,he,dH.refl c w⟩
 |scope b =>
  unfold evStep at I
  simp only at I
  refine Lo (wpIn_mono (hS b s ex s' I r c a w h he) ?_)
  rintro e IT Fy ⟨rfl,q2,c₁,q3,q4,q5⟩
  cases ex<;>exact⟨rfl,q2,c₁,q3,q4,q5⟩
 |ret =>
  simp only[evStep,aG,bE] at I
  obtain⟨rfl,rfl⟩:=I
  exact wpIn_ret ⟨rfl,rfl,c,h,he,dH.refl c w⟩
 |_=>simp[evStep] at I
theorem GB (hm:C.P.follows .mixedOrders=true)(J:ig C): ∀n,je C.P (ev C n)∧B2 C.P (ev C n) n:=by
 intro n
 induction n with
 |zero=>exact⟨fun _ _ _ _ h=>by simp[ev] at h,fun _ _ _ _ h=>by simp[ev] at h⟩
 |succ n I=>exact⟨Nl hm J I.1 I.2,AI I.1 I.2⟩
theorem FJ (hm:C.P.follows .mixedOrders=true)(I:ig C)(n:Nat): Gp C.P (ev C n)∧True:=⟨(GB hm I n).1.wide,aa⟩
theorem B3 (hm:C.P.follows .mixedOrders=true)(J:ig C){v:V}(U:run C n f args h=some (v,h')){c:Ctx}
 (I:Rel c h w)(hw:∀x∈args,wf c x): fT C.P f args c w v h' :=
 (callF_ok (FJ hm J n).1 J U I hw).1
theorem Rel.empty (w:World): Rel ⟨fun _=>(0,0),fun _=>0,0,fun _=>false⟩ ⟨0,.lf⟩ w :=
 ⟨rfl,fun id o h=>by simp[T.tu] at h,fun id h=>absurd h (zG _),fun id h=>absurd h (zG _),fun i j o o' h=>by simp[T.tu] at h,fun id o h=>by simp[T.tu] at h,fun id cs st h=>by simp,fun id o h=>by simp⟩
end
def leftC : Code→Code
 |.seq a _=>a
 |c=>c
def cN : Code→Code
 |.seq _ b=>b
 |c=>c
def mM (f g:Self): Prop:=∀c s r,f c s=some r→g c s=some r
section
variable {f g:Self}
theorem sJ (h : mM f g) {r : V × H} (I : callF C f k args σ = some r) : callF C g k args σ = some r := by
 unfold callF at I ⊢
 cases J : C.told k with
 | some t => grind
 | none =>
  simp only [J] at I ⊢
  cases U : C.P.funcs[k]? with
  | none => grind
  | some fn =>
   simp only [U] at I ⊢
   cases hb : fn.body with
   | none => grind
   | some c =>
    simp only [hb] at I ⊢
    cases hq : (fn.name == "runtime.NumGoroutine" || Nat.blt fn.ntmps args.length) with
    | true => grind
    | false =>
     simp only [hq, bf] at I ⊢
     cases hs : f c ⟨bindArgs args 0 .lf, fn.ntmps, σ⟩ with
     | none => grind
     | some q => rw [h _ _ _ hs]; rw [hs] at I; exact I
theorem IW (h:mM f g){r:V×H}(J:roundV f id args σ=some r): roundV g id args σ=some r:=by
 unfold roundV at J ⊢
 cases ho:σ.tr.get id with
 |none=>grind
 |some o =>
  simp only[ho] at J ⊢
  cases o with
  |loop busy ax env ps eL bd =>
   cases busy with
   |true=>cases J
   |false =>
    cases he:bindPs ax ps args env with
    |none=>grind
    |some e =>
     simp only[he] at J ⊢
     cases h1:f eL ⟨e,ax,σ⟩ with
     |none=>grind
     |some q =>
      rw[h eL _ _ h1]
      simp only[h1] at J
      split at J
      ·rename_i aae hq
       split at J
       ·split at J
        ·rename_i U I
         rw[h bd _ _ I]
         exact J
        ·rename_i U I
         rw[h bd _ _ I]
         exact J
        ·grind
       ·cases J
      ·cases J
  |_=>cases J
theorem mu (h:mM f g){r:V×H}(I:evOp C f env σ o=some r): evOp C g env σ o=some r:=by
 unfold evOp at I ⊢
 cases J:o.op<;>simp only[J] at I ⊢<;>try exact I
 rename_i cl
 unfold evCall at I ⊢
 cases U:evArgs env cl.args.toList with
 |none=>grind
 |some args =>
  cases hc:cl.callee with
  |builtin b=>grind
  |value x =>
   cases hx:evO env x with
   |none=>grind
   |some fv =>
    unfold callV at I ⊢
    grind[sJ,IW]
  |invoke x m =>
   grind[sJ]
theorem sK (h:mM f g): ∀(l:List Oper) (s s':St),evOps C f L l s=some s'→evOps C g L l s=some s':=by
 intro l
 induction l with
 |nil=>intro s s' I;exact I
 |cons o l J =>
  intro s s' I
  simp only[evOps] at I ⊢
  cases hw:wantedV L s.env o with
  |true =>
   cases ho:evOp C f s.env s.h o with
   |none=>grind
   |some q =>
    grind[mu]
  |false =>
   grind
theorem wz (h:mM f g): ∀(l:List Oper) (s:St) (hs:List H) (r:List (Env×V)×List H×St),trace C f L l s hs=some r→trace C g L l s hs=some r:=by
 intro l
 induction l with
 |nil=>intro s hs r I;exact I
 |cons o l J =>
  intro s hs r I
  simp only[trace] at I ⊢
  have key:∀q,cond (wantedV L s.env o) (evOp C f s.env s.h o) (some (cF,s.h))=some q→cond (wantedV L s.env o) (evOp C g s.env s.h o) (some (cF,s.h))=some q:=by
   grind[mu]
  cases U:cond (wantedV L s.env o) (evOp C f s.env s.h o) (some (cF,s.h)) with
  |none=>grind
  |some q =>
   grind
theorem IX (h:mM f g){x:Env×V}: ∀(l:List H),sameIn C f L o x l=true→sameIn C g L o x l=true:=by
 intro l
 induction l with
 |nil=>intro I;exact I
 |cons y l J =>
  intro I
  simp only[sameIn] at I ⊢
  cases hw:wantedV L x.1 o with
  |false=>simp
  |true =>
   cases ho:evOp C f x.1 y o with
   |none=>grind
   |some q =>
    grind[mu]
theorem IY (h:mM f g): ∀(l:List Oper) (tr:List (Env×V)) (i:Nat),stayOk C f L eL es hs l tr i=true→stayOk C g L eL es hs l tr i=true:=by
 intro l
 induction l with
 |nil=>intro tr i I;cases tr<;>exact I
 |cons o l J =>
  intro tr i I
  cases tr<;>grind[stayOk,IX]
theorem IZ (h:mM f g)(I:pZ C f L s=some s'): pZ C g L s=some s':=by
 grind[pZ,wz,IY]
theorem I0 (h:mM f g): mM (evStep C f) (evStep C g):=by
 intro c s r I
 cases c with
 |region id ops draw =>
  grind[evStep,IZ,sK]
 |seq a b =>
  simp only[evStep] at I ⊢
  cases J:f a s with
  |none=>grind
  |some q =>
   obtain⟨ex,s1⟩:=q
   rw[h _ _ _ J]
   rw[J] at I
   cases ex with
   |normal=>exact h _ _ _ I
   |exit i=>exact I
   |ret=>exact I
 |cond x a b =>
  simp only[evStep] at I ⊢
  split at I
  ·exact h _ _ _ I
  ·cases I
 |block id b =>
  simp only[evStep] at I ⊢
  cases J:f b s with
  |none=>grind
  |some q=>rw[h _ _ _ J];rw[J] at I;exact I
 |loop b =>
  simp only[evStep] at I ⊢
  cases J:f b s with
  |none=>grind
  |some q =>
   obtain⟨ex,s1⟩:=q
   rw[h _ _ _ J]
   rw[J] at I
   cases ex with
   |normal=>exact h _ _ _ I
   |exit i=>exact I
   |ret=>exact I
 |scope b=>exact h _ _ _ I
 |_=>exact I
theorem Lp : ∀n,mM (ev C n) (ev C (n+1)):=by
 intro n
 induction n with
 |zero=>intro c s r I;cases I
 |succ n J=>exact I0 J
theorem gz {m:Nat}(hle:n≤m): mM (ev C n) (ev C m):=by
 induction hle with
 |refl=>intro c s r I;exact I
 |step _ J=>intro c s r I;exact Lp _ c s r (J c s r I)
end
def look : List (Nat×V)→Nat→Option V
 |[],_=>none
 |x::E,k=>cond (Nat.beq x.1 k) (some x.2) (look E k)
def kx (env:Env)(E:List (Nat×V)): Prop:=∀t v,look E t=some v→T.get env t=some v
theorem kx.set (h:kx env E)(d:Nat)(v:V): kx (env.set d (some v)) ((d,v)::E):=by
 intro t u I
 simp only[look] at I
 rw[bg]
 by_cases J:d=t
 ·simp_all
 ·rw[eF J,bf] at I
  rw[ah (fun e=>J e.symm)]
  exact h t u I
theorem kx.sub (h:kx env E)(hs:∀t v,look E' t=some v→look E t=some v): kx env E':=fun t v I=>h t v (hs t v I)
def bl (E:List (Nat×V)): Operand→Option V
 |.tmp t=>look E t
 |.const c=>ofValue c
 |.global _=>none
 |.func f=>some (.fn (.func f) [] [])
theorem bU (h:kx env E){v:V}(I:bl E x=some v): evO env x=some v:=by
 cases x with
 |tmp t=>simp only[evO,Env.v,h t v I]
 |const c=>exact I
 |global g=>cases I
 |func f=>exact I
def lookArgs (E:List (Nat×V)): List Operand→Option (List V)
 |[]=>some []
 |x::l=>match bl E x with
  |none=>none
  |some v=>match lookArgs E l with
   |none=>none
   |some m=>some (v::m)
theorem oC (h:kx env E): ∀ {l:List Operand} {m:List V},lookArgs E l=some m→evArgs env l=some m:=by
 intro l
 induction l<;>grind[lookArgs,evArgs,bU]
def lookParts (E:List (Nat×V)): List (Nat×Operand)→Option (List (Nat×V))
 |[]=>some []
 |x::l=>match bl E x.2 with
  |none=>none
  |some v=>match lookParts E l with
   |none=>none
   |some m=>some ((x.1,v)::m)
theorem xT (h:kx env E): ∀ {l:List (Nat×Operand)} {m:List (Nat×V)},lookParts E l=some m→evParts env l=some m:=by
 intro l
 induction l<;>grind[lookParts,evParts,bU]
def lookOpt (E:List (Nat×V)): Option Operand→Option (Option V)
 |none=>some none
 |some x=>match bl E x with
  |some v=>some (some v)
  |none=>none
theorem wA (h:kx env E){x:Option Operand}{v:Option V}(I:lookOpt E x=some v): optV env x=some v:=by
 cases x<;>grind[lookOpt,optV,bU]
section
variable (P:Program)
def jO (E:List (Nat×V))(x:Operand)(g:V→Option (V×H)): Option (V×H):=match bl E x with
 |some v=>g v
 |none=>none
def um (E:List (Nat×V))(x y:Operand)(g:V→V→Option (V×H)): Option (V×H):=match bl E x with
 |some v=>match bl E y with
  |some u=>g v u
  |none=>none
 |none=>none
noncomputable def opE (E:List (Nat×V))(h:H)(o:Op): Option (V×H):=match o with
 |.move x|.assign x=>jO E x fun v=>some (v,h)
 |.pick c a b=>jO E c fun v=>match v with
  |.bool t=>jO E (cond t a b) fun v=>some (v,h)
  |_=>none
 |.alloc t=>match zeroT P t with
  |some z=>some (.ptr h.next 0,newRow h z.cells)
  |none=>none
 |.box _ x=>jO E x fun v=>cond (v.cells.all storable) (some (.ptr h.next 0,newRow h v.cells)) none
 |.build t ps=>match lookParts E ps.toList with
  |some l=>bz (buildV P t l) h
  |none=>none
 |.buildSlice t n ps=>match lookParts E ps.toList with
  |some l=>buildSliceV P h t n l
  |none=>none
 |.load t a=>jO E a fun v=>bz (loadV P h t v) h
 |.store t a x=>um E a x fun p v=>sB (ic P h t p v)
 |.nilCheck x=>jO E x fun v=>match v with
  |.ptr a b=>some (.ptr a b,h)
  |_=>none
 |.binOp op t x y _=>um E x y fun a b=>bz (binV P h op t x y a b) h
 |.unOp op _ x=>jO E x fun a=>bz (unV op a) h
 |.convert s d x=>jO E x fun a=>match convV P h s d a with
   |some r=>some r
   |none=>convB P h s d a
 |.sliceToArrayPointer d x=>jO E x fun a=>bz (arrPtrV P d a) h
 |.makeInterface t x=>jO E x fun a=>bz (makeIfaceV P t a) h
 |.makeFunc f a b=>match lookArgs E a.toList with
  |some x=>match lookArgs E b.toList with
   |some y=>some (.fn f x y,h)
   |none=>none
  |none=>none
 |.makeMap _ r=>match r with
  |none=>some (.map h.next,h.new (.map [] 0))
  |some _=>none
 |.makeSlice t l c=>um E l c fun a b=>makeSliceV P h t a b
 |.slice t x lo hi mx=>jO E x fun v=>match lookOpt E lo with
  |some a=>match lookOpt E hi with
   |some b=>match lookOpt E mx with
    |some c=>match iA a with
     |some a=>match iA b with
      |some b=>match iA c with
       |some c=>bz (sliceV P h t v a b c) h
       |none=>none
      |none=>none
     |none=>none
    |none=>none
   |none=>none
  |none=>none
 |.fieldAddr t x i=>jO E x fun v=>bz (fieldAddrV P t v i) h
 |.field t x i=>jO E x fun v=>bz (rJ P t v i) h
 |.indexAddr t x i=>um E x i fun v j=>bz (indexAddrV P t v j) h
 |.index t x i=>um E x i fun v j=>bz (indexV P t v j) h
 |.lookup t x k ok=>um E x k fun m j=>bz (fC P h t m j ok) h
 |.extract t i=>jO E t fun v=>match v with
  |.bD l=>bz (nth l i) h
  |_=>none
 |.typeAssert x _ a ok=>jO E x fun v=>bz (assertV P v a ok) h
 |.call c=>match c.callee with
  |.builtin b=>match lookArgs E c.args.toList with
   |some args=>builtinV P h b c.argTypes args
   |none=>none
  |_=>none
 |_=>none
end
theorem iV {g:V→Option (V×H)}{r:V×H}(h:jO E x g=some r): ∃v,bl E x=some v∧g v=some r:=by
 grind[jO]
theorem tc {g:V→V→Option (V×H)}{r:V×H}(h:um E x y g=some r): ∃v u,bl E x=some v∧bl E y=some u∧g v u=some r:=by
 grind[um]
set_option maxHeartbeats 1000000 in
theorem B4 {r:V×H}(hE:kx env E)(U:opE C.P E h o.op=some r): evOp C self env h o=some r:=by
 unfold opE at U
 unfold evOp
 split at U
 ·rename_i x I;obtain⟨v,h1,J⟩:=iV U;simp only[I,bU hE h1,bz];exact J
 ·rename_i x I;obtain⟨v,h1,J⟩:=iV U;simp only[I,bU hE h1,bz];exact J
 ·rename_i c a b I
  obtain⟨v,h1,J⟩:=iV U
  split at J
  ·rename_i t
   obtain⟨u,h3,h4⟩:=iV J
   simp only[I,bU hE h1,bU hE h3,bz];exact h4
  ·cases J
 ·rename_i t I;simp only[I];exact U
 ·rename_i t x I;obtain⟨v,h1,J⟩:=iV U;simp only[I,bU hE h1];exact J
 ·rename_i t ps I
  cases hp:lookParts E ps.toList with
  |none=>simp[hp] at U
  |some l=>simp only[hp] at U;simp only[I,xT hE hp];exact U
 ·rename_i t n ps I
  cases hp:lookParts E ps.toList with
  |none=>simp[hp] at U
  |some l=>simp only[hp] at U;simp only[I,xT hE hp];exact U
 ·rename_i t a I;obtain⟨v,h1,J⟩:=iV U;simp only[I,bU hE h1];exact J
 ·rename_i t a x I;obtain⟨v,u,h1,J,h3⟩:=tc U;simp only[I,bU hE h1,bU hE J];exact h3
 ·rename_i x I
  obtain⟨v,h1,J⟩:=iV U
  split at J
  ·simp only[I,bU hE h1];exact J
  ·cases J
 ·rename_i op t x y u I;obtain⟨v,u,h1,J,h3⟩:=tc U;simp only[I,bU hE h1,bU hE J];exact h3
 ·rename_i op t x I;obtain⟨v,h1,J⟩:=iV U;simp only[I,bU hE h1];exact J
 ·rename_i s d x I;obtain⟨v,h1,J⟩:=iV U;simp only[I,bU hE h1];exact J
 ·rename_i d x I;obtain⟨v,h1,J⟩:=iV U;simp only[I,bU hE h1];exact J
 ·rename_i t x I;obtain⟨v,h1,J⟩:=iV U;simp only[I,bU hE h1];exact J
 ·rename_i f a b I
  cases ha:lookArgs E a.toList with
  |none=>simp[ha] at U
  |some x =>
   cases hb:lookArgs E b.toList with
   |none=>simp[ha,hb] at U
   |some y=>simp only[ha,hb] at U;simp only[I,oC hE ha,oC hE hb];exact U
 ·rename_i t r I
  simp only[I]
  exact U
 ·rename_i t l c I;obtain⟨v,u,h1,J,h3⟩:=tc U;simp only[I,bU hE h1,bU hE J];exact h3
 ·rename_i t x lo hi mx I
  obtain⟨v,h1,J⟩:=iV U
  cases ha:lookOpt E lo with
  |none=>simp[ha] at J
  |some a =>
   cases hb:lookOpt E hi with
   |none=>simp[ha,hb] at J
   |some b =>
    cases hc:lookOpt E mx with
    |none=>simp[ha,hb,hc] at J
    |some c =>
     simp only[ha,hb,hc] at J
     simp only[I,bU hE h1,wA hE ha,wA hE hb,wA hE hc]
     cases pa:iA a with
     |none=>simp[pa] at J
     |some a =>
      cases pb:iA b with
      |none=>simp[pa,pb] at J
      |some b =>
       cases pc:iA c with
       |none=>simp[pa,pb,pc] at J
       |some c=>simp only[pa,pb,pc] at J ⊢;exact J
 ·rename_i t x i I;obtain⟨v,h1,J⟩:=iV U;simp only[I,bU hE h1];exact J
 ·rename_i t x i I;obtain⟨v,h1,J⟩:=iV U;simp only[I,bU hE h1];exact J
 ·rename_i t x i I;obtain⟨v,u,h1,J,h3⟩:=tc U;simp only[I,bU hE h1,bU hE J];exact h3
 ·rename_i t x i I;obtain⟨v,u,h1,J,h3⟩:=tc U;simp only[I,bU hE h1,bU hE J];exact h3
 ·rename_i t x k ok I;obtain⟨v,u,h1,J,h3⟩:=tc U;simp only[I,bU hE h1,bU hE J];exact h3
 ·rename_i t i I
  obtain⟨v,h1,J⟩:=iV U
  split at J
  ·simp only[I,bU hE h1];exact J
  ·cases J
 ·rename_i x t a ok I;obtain⟨v,h1,J⟩:=iV U;simp only[I,bU hE h1];exact J
 ·rename_i cl I
  split at U
  ·rename_i b hc
   cases ha:lookArgs E cl.args.toList with
   |none=>simp[ha] at U
   |some args=>simp only[ha] at U;simp only[I,evCall,hc,oC hE ha];exact U
  ·cases U
 ·cases U
def ij (C:gy)(f:FuncId)(args:List V)(h:H)(v:V)(h':H): Prop:=∃N,callF C (ev C N) f args h=some (v,h')
def Call (C:gy)(f:FuncId)(args:List V)(h:H)(R:V→H→Prop): Prop:=∃v h',ij C f args h v h'∧R v h'
variable {cl:Go.Call}
theorem Call.mono {R I:V→H→Prop}(J:Call C f args h R)(U:∀v h',R v h'→I v h'): Call C f args h I:=by
 obtain⟨v,h',h1,h2⟩:=J
 exact⟨v,h',h1,U v h' h2⟩
theorem ij.told {g:List V→H→Option (V×H)}{v:V}(I:C.told f=some g)(J:C.P.funcs[f]?=some fn)(U:fn.body.isSome=true)(hr:g args h=some (v,h')): ij C f args h v h':=by
 refine⟨0,?_⟩<;>grind[callF,hasBody]
theorem ij.body {v:V}(I:ij C f args h v h'): hasBody C.P f=true:=by
 obtain⟨N,J⟩:=I<;>grind[callF,hasBody]
theorem kn (C:gy)(n:Nat)(c:Code)(s:St): ev C (n+1) c s=evStep C (ev C n) c s:=rfl
def WP (C:gy)(ax:Nat)(code:Code)(E:List (Nat×V))(h:H)(Q:Ex→List (Nat×V)→H→Prop): Prop :=
 ∀env,kx env E→∃N ex I h' E',ev C N code ⟨env,ax,h⟩=some (ex,⟨I,ax,h'⟩)∧kx I E'∧Q ex E' h'
def ay (C:gy)(ax:Nat)(L l:List Oper)(E:List (Nat×V))(h:H)(Q:List (Nat×V)→H→Prop): Prop :=
 ∀env,kx env E→∃N I h' E',evOps C (ev C N) L l ⟨env,ax,h⟩=some ⟨I,ax,h'⟩∧kx I E'∧Q E' h'
section
variable {ax:Nat} {l:List Oper}
theorem WP.sub {I:List (Nat×V)}(hs:∀t v,look I t=some v→look E t=some v)(hw:WP C ax code I h Q): WP C ax code E h Q:=fun env J=>hw env (J.sub hs)
theorem WP.skip (I:Q .normal E h): WP C ax .skip E h Q:=fun env J=>⟨1,.normal,env,h,E,rfl,J,I⟩
theorem WP.ret (I:Q .ret E h): WP C ax .ret E h Q:=fun env J=>⟨1,.ret,env,h,E,rfl,J,I⟩
theorem WP.exit (I:Q (.exit i) E h): WP C ax (.exit i) E h Q:=fun env J=>⟨1,.exit i,env,h,E,rfl,J,I⟩
theorem WP.region (hl:ops.toList=l)(hw:ay C ax l l E h fun E' h'=>Q .normal E' h'): WP C ax (.region id ops false) E h Q:=by
 intro env J
 obtain⟨N,I,h',E',h1,U,h3⟩:=hw env J
 refine⟨N+1,.normal,I,h',E',?_,U,h3⟩<;>grind[kn,evStep]
theorem WP.seq {a b:Code}(hw:WP C ax a E h fun ex E' h'=>match ex with
  |.normal=>WP C ax b E' h' Q
  |ex=>Q ex E' h'): WP C ax (.seq a b) E h Q:=by
 intro env hE
 obtain⟨N,ex,I,h',E',h1,U,h3⟩:=hw env hE
 cases ex with
 |normal =>
  obtain⟨M,R7,J,Nm,E2,g1,g2,g3⟩:=h3 I U
  refine⟨Nat.max N M+1,R7,J,Nm,E2,?_,g2,g3⟩
  rw[kn]
  simp only[evStep,gz (o9 N M) _ _ _ h1]
  exact gz (o8 N M) _ _ _ g1
 |exit i =>
  refine⟨N+1,.exit i,I,h',E',?_,U,h3⟩<;>grind[kn,evStep]
 |ret =>
  refine⟨N+1,.ret,I,h',E',?_,U,h3⟩<;>grind[kn,evStep]
theorem WP.cond {a b:Code}{t:Bool}(hx:bl E x=some (.bool t))(hw:WP C ax (_root_.cond t a b) E h Q): WP C ax (.cond x a b) E h Q:=by
 intro env J
 obtain⟨N,ex,I,h',E',h1,U,h3⟩:=hw env J
 refine⟨N+1,ex,I,h',E',?_,U,h3⟩<;>grind[kn,evStep,bU]
theorem WP.block {b:Code}(hw:WP C ax b E h fun ex E' h'=>match ex with
  |.exit j=>_root_.cond (Nat.beq j i) (Q .normal E' h') (Q (.exit j) E' h')
  |ex=>Q ex E' h'): WP C ax (.block i b) E h Q:=by
 intro env hE
 obtain⟨N,ex,I,h',E',h1,U,J⟩:=hw env hE
 cases ex with
 |exit j =>
  cases hj:Nat.beq j i with
  |true =>
   simp only[hj,ak] at J
   refine⟨N+1,.normal,I,h',E',?_,U,J⟩<;>grind[kn,evStep]
  |false =>
   simp only[hj,bf] at J
   refine⟨N+1,.exit j,I,h',E',?_,U,J⟩<;>grind[kn,evStep]
 |normal =>
  refine⟨N+1,.normal,I,h',E',?_,U,J⟩<;>grind[kn,evStep]
 |ret =>
  refine⟨N+1,.ret,I,h',E',?_,U,J⟩<;>grind[kn,evStep]
theorem WP.scope {b:Code}(hw:WP C ax b E h Q): WP C ax (.scope b) E h Q:=by
 intro env J
 obtain⟨N,ex,I,h',E',U,h2,h3⟩:=hw env J
 exact⟨N+1,ex,I,h',E',U,h2,h3⟩
theorem WP.loop {b:Code}(hw:WP C ax b E h fun ex E' h'=>match ex with
  |.normal=>WP C ax (.loop b) E' h' Q
  |ex=>Q ex E' h'): WP C ax (.loop b) E h Q:=by
 intro env hE
 obtain⟨N,ex,I,h',E',h1,U,h3⟩:=hw env hE
 cases ex with
 |normal =>
  obtain⟨M,R7,J,Nm,E2,g1,g2,g3⟩:=h3 I U
  refine⟨Nat.max N M+1,R7,J,Nm,E2,?_,g2,g3⟩
  rw[kn]
  simp only[evStep,gz (o9 N M) _ _ _ h1]
  exact gz (o8 N M) _ _ _ g1
 |exit i =>
  refine⟨N+1,.exit i,I,h',E',?_,U,h3⟩<;>grind[kn,evStep]
 |ret =>
  refine⟨N+1,.ret,I,h',E',?_,U,h3⟩<;>grind[kn,evStep]
theorem ay.nil (I:R E h): ay C ax L [] E h R:=fun env J=>⟨0,env,h,E,rfl,J,I⟩
def wantE (L:List Oper)(E:List (Nat×V))(g:Option (Nat×Bool)): Option Bool:=match g with
 |none=>some true
 |some (j,want)=>match (nth L j).bind (·.dst) with
  |some d=>match look E d with
   |some (.bool b)=>some (b == want)
   |some _=>some false
   |none=>none
  |none=>none
theorem kz {b:Bool}(J:kx env E)(hw:wantE L E o.guard=some b): wantedV L env o=b:=by
 unfold wantE at hw
 unfold wantedV
 split at hw
 ·grind
 ·rename_i j want U
  simp only[U]
  split at hw
  ·rename_i d hd
   simp only[hd]
   split at hw
   ·rename_i b' I
    simp only[Env.v,J d _ I]
    simpa using hw
   ·rename_i v p_ I
    simp only[Env.v,J d _ I]
    grind
   ·cases hw
  ·cases hw
theorem ay.op {v:V}(U:wantE L E o.guard=some true)(hd:o.dst=some d)(hn:Nat.blt d ax=true)(ho:opE C.P E h o.op=some (v,h₁))
 (hw:ay C ax L rest ((d,v)::E) h₁ R): ay C ax L (o::rest) E h R:=by
 intro env J
 obtain⟨N,I,h',E',h1,h2,h3⟩:=hw (env.set d (some v)) (J.set d v)<;>grind[evOps,kz,B4,St.put]
theorem ay.R8 {v:V}(U:wantE L E o.guard=some true)(hd:o.dst=none)(ho:opE C.P E h o.op=some (v,h₁))
 (hw:ay C ax L rest E h₁ R): ay C ax L (o::rest) E h R:=by
 intro env J
 obtain⟨N,I,h',E',h1,h2,h3⟩:=hw env J<;>grind[evOps,kz,B4,St.put]
theorem ay.no (U:wantE L E o.guard=some false)(hd:o.dst=some d)(hn:Nat.blt d ax=true)
 (hw:ay C ax L rest ((d,cF)::E) h R): ay C ax L (o::rest) E h R:=by
 intro env J
 obtain⟨N,I,h',E',h1,h2,h3⟩:=hw (env.set d (some cF)) (J.set d cF)<;>grind[evOps,kz,St.put]
theorem EA {k:FuncId}{v:V}(U:kx env E)(J:o.op=.call cl)(hc:cl.callee=.value x)
 (hx:bl E x=some (.fn (.func k) first cap))(ha:lookArgs E cl.args.toList=some args)(I:ij C k (first++(args++cap)) h v h₁):
  ∃N,evOp C (ev C N) env h o=some (v,h₁):=by
 have hb:=I.body
 obtain⟨N,hN⟩:=I
 refine⟨N,?_⟩
 simp only[evOp,J,evCall,oC U ha,hc,bU U hx,callV,hb,ak]
 exact hN
theorem ay.call {k:FuncId}(hg:wantE L E o.guard=some true)(hd:o.dst=some d)(hn:Nat.blt d ax=true)
 (U:o.op=.call cl)(hc:cl.callee=.value x)(hx:bl E x=some (.fn (.func k) first cap))(ha:lookArgs E cl.args.toList=some args)
 (I:Call C k (first++(args++cap)) h xS)(hw:∀v h₁,xS v h₁→ay C ax L rest ((d,v)::E) h₁ R): ay C ax L (o::rest) E h R:=by
 intro env hE
 obtain⟨v,h₁,B5,hr⟩:=I
 obtain⟨N,hN⟩:=EA hE U hc hx ha B5
 obtain⟨M,J,h',E',h1,h2,h3⟩:=hw v h₁ hr (env.set d (some v)) (hE.set d v)
 refine⟨Nat.max N M,J,h',E',?_,h2,h3⟩
 simp only[evOps,kz hE hg,ak,mu (gz (o9 N M)) hN,St.put,hd,hn]
 exact sK (gz (o8 N M)) _ _ _ h1
end
def Has (E:List (Nat×V)): List (Nat×V)→Prop
 |[]=>True
 |p::F=>look E p.1=some p.2∧Has E F
theorem Has.sub : ∀ {F:List (Nat×V)},Has E F→∀t v,look F t=some v→look E t=some v:=by
 intro F
 induction F with
 |nil=>intro _ t v h;cases h
 |cons p F U =>
  intro I t v h
  simp only[look] at h
  by_cases J:p.1=t
  ·subst J
   rw[qO rfl,ak] at h
   rw[I.1];exact h
  ·rw[eF J,bf] at h
   exact U I.2 t v h
theorem WP.has {ax:Nat}{F:List (Nat×V)}(I:Has E F)(hw:WP C ax code F h Q): WP C ax code E h Q:=WP.sub I.sub hw
theorem XT (I:kx s.env E){t:Nat}{v:V}(h:look E t=some v): resV P s (.tmp t)=some v:=by
 simp only[resV,Env.v,I t v h]
noncomputable def resE (P:Program)(E:List (Nat×V))(h:H): ResultVar→Option V
 |.tmp t=>look E t
 |.cell a t=>match look E a with
  |some p=>loadV P h t p
  |none=>none
theorem TG (J:kx s.env E){x:ResultVar}{v:V}(I:resE P E s.h x=some v): resV P s x=some v:=by
 cases x with
 |tmp t=>exact XT J I
 |cell a t =>
  simp only[resE] at I
  cases U:look E a with
  |none=>grind
  |some p=>simp only[U] at I;simp only[resV,Env.v,J a p U];exact I
noncomputable def resLE (P:Program)(E:List (Nat×V))(h:H)(rs:List ResultVar): Option V:=match mapO (resE P E h) rs with
 |some [v]=>some v
 |some vs=>some (.bD vs)
 |none=>none
theorem DO (I:kx s.env E): ∀ {rs:List ResultVar} {vs:List V},mapO (resE P E s.h) rs=some vs→mapO (resV P s) rs=some vs:=by
 intro rs
 induction rs<;>grind[mapO,TG]
def argE : List V→Nat→List (Nat×V)
 |[],_=>[]
 |v::l,k=>(k,v)::argE l (k+1)
theorem Nn : ∀(l:List V) (k t:Nat),look (argE l k) t=if k≤t∧t<k+l.length then l[t-k]? else none:=by
 intro l
 induction l with
 |nil=>simp[argE,look]
 |cons v l I =>
  intro k t
  simp only[argE,look]
  by_cases h:k=t
  ·simp_all
  grind[eF]
theorem Aa (l:List V): kx (bindArgs l 0 .lf) (argE l 0):=by
 intro t v h
 grind[Nn,tC]
theorem Call.of_wp {R : V → H → Prop} (ht : C.told f = none) (hf : C.P.funcs[f]? = some fn) (hb : fn.body = some code)
  (hq : (fn.name == "runtime.NumGoroutine" || Nat.blt fn.ntmps args.length) = false)
  (hw : WP C fn.ntmps code (argE args 0) h fun ex E' h' => (match ex with | .exit _ => False | _ => True) ∧ ∃ v, resLE C.P E' h' fn.results.toList = some v ∧ R v h') : Call C f args h R := by
 obtain ⟨N, ex, I, h', E', h1, J, h3, v, U, h5⟩ := hw _ (Aa args)
 refine ⟨v, h', ⟨N, ?_⟩, h5⟩
 unfold callF
 unfold resLE at U
 cases hm : mapO (resE C.P E' h') fn.results.toList with
 | none => grind
 | some vs =>
  have GC := DO (P := C.P) (s := ⟨I, fn.ntmps, h'⟩) J hm
  cases ex with
  | exit i => grind
  | normal =>
   grind
  | ret =>
   grind
noncomputable section
end
def crcStep : Nat→Nat→Nat
 |r,0=>r
 |r,k+1=>crcStep (cond (Nat.beq (r%2) 1) (Nat.xor (r/2) 3988292384) (r/2)) k
def crcL : Nat→List Nat→Nat
 |r,[]=>r
 |r,b::l=>crcL (crcStep (Nat.xor r b) 8) l
def bytesIn : List V→Option (List Nat)
 |[]=>some []
 |.int .u8 n::l=>cond (decide (0≤n)&&decide (n<256)) (match bytesIn l with
  |some m=>some (n.toNat::m)
  |none=>none) none
 |_=>none
def vB (s:Int)(l:List Nat): V:=.int .u32 ((Nat.xor (crcL (Nat.xor s.toNat 4294967295) l) 4294967295:Nat):Int)
noncomputable def toldMore : List V→H→Option (V×H)
 |[.int .u32 s,.sl id off len _],h=>cond (decide (0≤s)&&decide (s<4294967296)&&Nat.ble len 4611686018427387904) (match rdN h id off len with
  |some cs=>match bytesIn cs with
   |some l=>some (vB s l,h)
   |none=>none
  |none=>none) none
 |[.int .u32 s,.bw],h=>cond (decide (0≤s)&&decide (s<4294967296)) (some (vB s [],h)) none
 |[.int .u32 s,.sle _],h=>cond (decide (0≤s)&&decide (s<4294967296)) (some (vB s [],h)) none
 |_,_=>none
theorem wrap_u32 (h:n<4294967296): IntKind.wrap .u32 (n:Int)=(n:Int):=by
 grind[IntKind.wrap,IntKind.bits,IntKind.signed]
theorem EB (h:n<4294967296): ((n:Int)%(2^(IntKind.u32).bits:Int)).toNat=n:=by
 grind[IntKind.bits]
theorem oD (I:a<4294967296)(J:b<4294967296): Nat.xor a b<4294967296:=Nat.xor_lt_two_pow (n:=32) I J
theorem wB (I:a<4294967296)(J:b<4294967296): intV .xor .u32 (a:Int) (b:Int)=some (.int .u32 ((Nat.xor a b:Nat):Int)):=by
 grind[intV,bitsV,EB,wrap_u32,oD]
theorem No (I:a<4294967296): intV .and .u32 (a:Int) 1=some (.int .u32 ((a%2:Nat):Int)):=by
 have J:((1:Int)%(2^(IntKind.u32).bits:Int)).toNat=1:=by rfl
 simp only[intV,bitsV]
 rw[EB I,J]
 have:Nat.land a 1=a%2:=Nat.and_one_is_mod a
 rw[this,wrap_u32 (by omega)]
theorem B6 : shiftV .shr .u32 (a:Int) 1=some (.int .u32 ((a/2:Nat):Int)):=by
 grind[shiftV,IntKind.bits]
theorem TH {c:Ctx}(h:Rel c σ w)(I:rdN σ id off k=some vs): vs.length=k∧∀j,j<k→xG σ id (off+j)=vs[j]?:=by
 unfold rdN at I
 split at I
 ·rename_i n cs st J
  have U:n=cs.length:=(h.obj id _ J).1
  grind[aZ,beq_iff,xG,gj]
 ·cases I
def unblk : Code→Code
 |.block _ c=>c
 |c=>c
def unloop : Code→Code
 |.loop c=>c
 |c=>c
noncomputable def jT : Code:=(Tryz.f217.body).getD .skip
noncomputable def jP : Code:=unloop (unblk (cN (leftC (cN (cN jT)))))
noncomputable def nR : Code:=unblk (leftC (cN (cN jP)))
noncomputable def oE : Code:=unloop (unblk (cN (cN (cN nR))))
theorem h_ (C:gy)(n:Nat)(c:Code)(s:St): ev C (n+1) c s=evStep C (ev C n) c s:=rfl
theorem wrap_i64 (h:n<9223372036854775808): IntKind.wrap .i64 (n:Int)=(n:Int):=by
 grind[IntKind.bits,IntKind.wrap]
theorem xU (h:n<9223372036854775807): intV .add .i64 (n:Int) 1=some (.int .i64 ((n+1:Nat):Int)):=by
 have:((n:Int)+1)=((n+1:Nat):Int):=by omega
 simp only[intV,this,wrap_i64 (show n+1<9223372036854775808 by omega)]
section
theorem bY (J:o.guard=none)(U:o.dst=some d)(I:Nat.blt d n=true):
  evOps C self L (o::rest) ⟨env,n,h⟩=(evOp C self env h o).bind fun r=>evOps C self L rest ⟨env.set d (some r.1),n,r.2⟩:=by
 grind[evOps,wantedV,St.put]
end
noncomputable def VB : Code:=leftC oE
noncomputable def uo : Code:=cN (cN oE)
noncomputable def VC : Code:=leftC (unblk (leftC uo))
noncomputable def VD : Code:=cN (unblk (leftC uo))
noncomputable def PY : Code:=cN uo
section
variable (n:Nat) (env:Env) (h:H)
theorem Np (I:T.get env 20=some (.int .i64 j)): ev C (n+1) VB ⟨env,34,h⟩=some (.normal,⟨env.set 21 (some (.bool (decide ((j:Int)<8)))),34,h⟩):=by
 simp only[VB,oE,nR,jP,jT,Tryz.f217,g_,leftC,cN,unblk,unloop,h_,evStep,bf]
 rw[bY rfl rfl rfl]
 simp only[evOp,evO,Env.v,I,ofValue,ofScalar,binV,ikBeq,ak,intV,bz,dm,evOps]
theorem VE {x:Nat}(J:x<4294967296)(U:T.get env 5=some (.int .u32 x)):
  ∃I,ev C (n+1) VC ⟨env,34,h⟩=some (.normal,⟨I,34,h⟩)∧T.get I 24=some (.bool (Nat.beq (x%2) 1))∧∀t,t≠22→t≠23→t≠24→T.get I t=T.get env t:=by
 refine⟨((env.set 22 (some (.int .u32 x))).set 23 (some (.int .u32 ((x%2:Nat):Int)))).set 24 (some (.bool (Nat.beq (x%2) 1))),?_,by simp[bg],fun t h1 h2 h3=>by simp[bg,h1,h2,h3]⟩
 simp only[VC,uo,oE,nR,jP,jT,Tryz.f217,g_,leftC,cN,unblk,unloop,h_,evStep,bf]
 rw[bY rfl rfl rfl]
 simp only[evOp,evO,Env.v,U,bz,dm]
 rw[bY rfl rfl rfl]
 simp only[evOp,evO,Env.v,bg,c_,ofValue,ofScalar,binV,ikBeq,ak,No J,bz,dm]
 rw[bY rfl rfl rfl]
 simp only[evOp,evO,Env.v,bg,c_,ofValue,ofScalar,binV,ikBeq,ak,intV,bz,dm,evOps]
 rfl
theorem Nq {x:Nat}(I:x<4294967296): Nat.xor (x/2) 3988292384<4294967296:=oD (by omega) (by omega)
theorem VF {x:Nat}{b:Bool}(hx:x<4294967296)(U:T.get env 5=some (.int .u32 x))(I:T.get env 24=some (.bool b)):
  ∃J,ev C (n+2) VD ⟨env,34,h⟩=some (.normal,⟨J,34,h⟩)∧T.get J 5=some (.int .u32 ((cond b (Nat.xor (x/2) 3988292384) (x/2):Nat):Int))∧∀t,t<25→t≠5→T.get J t=T.get env t:=by
 simp only[VD,uo,oE,nR,jP,jT,Tryz.f217,g_,leftC,cN,unblk,unloop,h_,evStep,evO,Env.v,I]
 cases b with
 |true =>
  refine⟨(((env.set 25 (some (.int .u32 x))).set 26 (some (.int .u32 ((x/2:Nat):Int)))).set 27 (some (.int .u32 ((Nat.xor (x/2) 3988292384:Nat):Int)))).set 5 (some (.int .u32 ((Nat.xor (x/2) 3988292384:Nat):Int))),?_,by simp[bg],fun t h1 h2 => ?_⟩
  ·simp only[ak,bf]
   rw[bY rfl rfl rfl]
   simp only[evOp,evO,Env.v,U,bz,dm]
   rw[bY rfl rfl rfl]
   simp only[evOp,evO,Env.v,bg,c_,ofValue,ofScalar,binV,B6,bz,dm]
   rw[bY rfl rfl rfl]
   have:=wB (a:=x/2) (b:=3988292384) (by omega) (by omega)
   rw[show((3988292384:Nat):Int)=3988292384 from rfl] at this
   simp only[evOp,evO,Env.v,bg,c_,ofValue,ofScalar,binV,ikBeq,ak,this,bz,dm]
   rw[bY rfl rfl rfl]
   simp only[evOp,evO,Env.v,bg,c_,bz,dm,evOps]
  grind[bg]
 |false =>
  refine⟨((env.set 28 (some (.int .u32 x))).set 29 (some (.int .u32 ((x/2:Nat):Int)))).set 5 (some (.int .u32 ((x/2:Nat):Int))),?_,by simp[bg],fun t h1 h2 => ?_⟩
  ·simp only[bf]
   rw[bY rfl rfl rfl]
   simp only[evOp,evO,Env.v,U,bz,dm]
   rw[bY rfl rfl rfl]
   simp only[evOp,evO,Env.v,bg,c_,ofValue,ofScalar,binV,B6,bz,dm]
   rw[bY rfl rfl rfl]
   simp only[evOp,evO,Env.v,bg,c_,bz,dm,evOps]
  grind[bg]
theorem TI (hj:j<8)(I:T.get env 20=some (.int .i64 j)):
  ∃J,ev C (n+1) PY ⟨env,34,h⟩=some (.normal,⟨J,34,h⟩)∧T.get J 20=some (.int .i64 ((j+1:Nat):Int))∧∀t,t≠20→t≠30→T.get J t=T.get env t:=by
 refine⟨(env.set 30 (some (.int .i64 ((j+1:Nat):Int)))).set 20 (some (.int .i64 ((j+1:Nat):Int))),?_,by simp[bg],fun t U h2=>by simp[bg,U,h2]⟩
 simp only[PY,uo,oE,nR,jP,jT,Tryz.f217,g_,leftC,cN,unblk,unloop,h_,evStep,bf]
 rw[bY rfl rfl rfl]
 simp only[evOp,evO,Env.v,I,ofValue,ofScalar,binV,ikBeq,ak,xU (show j<9223372036854775807 by omega),bz,dm]
 rw[bY rfl rfl rfl]
 simp only[evOp,evO,Env.v,bg,c_,bz,dm,evOps]
section
variable {n:Nat}
theorem kA {a b:Code}(I:ev C n a s=some (.normal,s')): ev C (n+1) (.seq a b) s=ev C n b s':=by grind[h_,evStep]
theorem uP {a b:Code}(I:ev C n a s=some (.exit i,s')): ev C (n+1) (.seq a b) s=some (.exit i,s'):=by grind[h_,evStep]
theorem vC {a b:Code}{t:Bool}(I:evO s.env x=some (.bool t)): ev C (n+1) (.cond x a b) s=ev C n (cond t a b) s:=by grind[h_,evStep]
theorem GD {c:Code}(h:ev C n c s=some (.normal,s')): ev C (n+1) (.block i c) s=some (.normal,s'):=by grind[h_,evStep]
theorem xu {c:Code}(h:ev C n c s=some (.exit i,s')): ev C (n+1) (.block i c) s=some (.normal,s'):=by simp_all[h_,evStep]
theorem J3 {b:Code}(h:ev C n b s=some (.normal,s')): ev C (n+1) (.loop b) s=ev C n (.loop b) s':=by grind[h_,evStep]
theorem tG {b:Code}(h:ev C n b s=some (.exit i,s')): ev C (n+1) (.loop b) s=some (.exit i,s'):=by grind[h_,evStep]
end
theorem ED : oE=.seq VB (.seq (.cond (.tmp 21) .skip (.exit 2)) uo):=rfl
theorem PZ : uo=.seq (.block 3 (.seq VC VD)) PY:=rfl
theorem Lq {x:Nat}(hx:x<4294967296)(hj:j<8)(h5:T.get env 5=some (.int .u32 x))(U:T.get env 20=some (.int .i64 j)):
  ∃J,ev C (n+9) oE ⟨env,34,h⟩=some (.normal,⟨J,34,h⟩)∧T.get J 5=some (.int .u32 ((crcStep x 1:Nat):Int))∧T.get J 20=some (.int .i64 ((j+1:Nat):Int)) ∧
   ∀t,t<20→t≠5→T.get J t=T.get env t:=by
 have b8:decide ((j:Int)<8)=true:=by grind
 have q7:=Np (C:=C) (n+7) env h U
 rw[b8] at q7
 have g5:T.get (env.set 21 (some (.bool true))) 5=some (.int .u32 x):=by simp[bg,h5]
 obtain⟨e8,q8,q8a,q8b⟩:=VE (C:=C) (n+3) (env.set 21 (some (.bool true))) h hx g5
 have g5':T.get e8 5=some (.int .u32 x):=by grind
 obtain⟨e9,q9,q9a,q9b⟩:=VF (C:=C) (n+2) e8 h hx g5' q8a
 have g20:T.get e9 20=some (.int .i64 j):=by
  grind[bg]
 obtain⟨VG,q11,I,ab0⟩:=TI (C:=C) (n+5) e9 h hj g20
 refine⟨VG,?_,?_,I,fun t h1 h2 => ?_⟩
 ·rw[ED,kA q7,kA (s':=⟨env.set 21 (some (.bool true)),34,h⟩) (by rw[vC (t:=true) (by simp[evO,Env.v,bg])];rfl),PZ,
   kA (GD (by rw[kA q8];exact q9)),q11]
 ·grind[crcStep]
 ·grind[bg]
theorem Lr : ∀(k n:Nat) (env:Env) (x:Nat),k≤8→x<4294967296→T.get env 5=some (.int .u32 x)→T.get env 20=some (.int .i64 ((8-k:Nat):Int)) →
  ∃J,ev C (n+10+k) (.loop oE) ⟨env,34,h⟩=some (.exit 2,⟨J,34,h⟩)∧T.get J 5=some (.int .u32 ((crcStep x k:Nat):Int))∧∀t,t<20→t≠5→T.get J t=T.get env t:=by
 intro k
 induction k with
 |zero =>
  intro n env x _ hx U I
  have q7:=Np (C:=C) (n+7) env h I
  refine⟨env.set 21 (some (.bool false)),?_,by simp[bg,U,crcStep],fun t h1 h2 => ?_⟩
  ·refine tG ?_
   rw[ED,kA q7]
   exact uP (by rw[vC (t:=false) (by simp[evO,Env.v,bg])];rfl)
  grind[bg]
 |succ k ih =>
  intro n env x hk hx U I
  obtain⟨e1,q1,q2,q3,q4⟩:=Lq (C:=C) (n+1+k) env h hx (show 8-(k+1)<8 by omega) U I
  have h8:8-(k+1)+1=8-k:=by omega
  rw[h8] at q3
  have B7:crcStep x 1<4294967296:=by
   grind[crcStep,Nq]
  obtain⟨e2,p1,p2,p3⟩:=ih n e1 (crcStep x 1) (by omega) B7 q2 q3
  refine⟨e2,?_,?_,fun t h1 h2=>by grind⟩
  ·grind[J3]
  ·rw[p2];simp only[crcStep]
end
noncomputable def VH : Code:=leftC jP
noncomputable def FK : Code:=cN (cN jP)
noncomputable def P0 : Code:=cN FK
noncomputable def VI : Code:=leftC nR
noncomputable def VJ : Code:=leftC (cN nR)
noncomputable def Zm : Code:=leftC (cN (cN nR))
theorem P3 : nR=.seq VI (.seq VJ (.seq Zm (.block 2 (.loop oE)))):=rfl
theorem xV : jP=.seq VH (.seq (.cond (.tmp 13) .skip (.exit 0)) FK):=rfl
theorem P4 : FK=.seq (.block 1 nR) P0:=rfl
theorem gF : bB Tryz.prog 5=some 1:=by kernel_rfl
theorem J4 : isAggT Tryz.prog 5=some false:=by kernel_rfl
section
variable {told:dI} (n:Nat) (env:Env) (h:H)
theorem GF {len:Nat}(I:T.get env 12=some (.int .i64 i))(J:T.get env 11=some (.int .i64 len)):
  ev ⟨Tryz.prog,told⟩ (n+1) VH ⟨env,34,h⟩=some (.normal,⟨env.set 13 (some (.bool (decide ((i:Int)<(len:Int))))),34,h⟩):=by
 simp only[VH,jP,jT,Tryz.f217,g_,leftC,cN,unblk,unloop,h_,evStep,bf]
 rw[bY rfl rfl rfl]
 simp_all[evOp,evO,Env.v,binV,ikBeq,intV,bz,evOps]
theorem VK {len:Nat}{cap:Cap}(hi:i<len)(I:T.get env 12=some (.int .i64 i))(J:T.get env 10=some (.sl id off len cap))(hb:xG h id (off+i)=some (.int .u8 b)):
  ∃U,ev ⟨Tryz.prog,told⟩ (n+1) VI ⟨env,34,h⟩=some (.normal,⟨U,34,h⟩)∧T.get U 7=some (.int .u8 b)∧∀t,t≠7→t≠14→t≠15→T.get U t=T.get env t:=by
 refine⟨((env.set 14 (some (.ptr id (off+i)))).set 15 (some (.int .u8 b))).set 7 (some (.int .u8 b)),?_,by simp[bg],fun t h1 h2 h3=>by simp[bg,h1,h2,h3]⟩
 simp only[VI,nR,jP,jT,Tryz.f217,g_,leftC,cN,unblk,unloop,h_,evStep,bf]
 rw[bY rfl rfl rfl]
 have d1:decide ((0:Int)≤(i:Int))=true:=by simp
 have d2:decide ((i:Int)<(len:Int))=true:=by grind
 simp only[evOp,evO,Env.v,J,I,indexAddrV,aW,gF,d1,d2,jA,ak,eD,e_,bz,dm]
 rw[bY rfl rfl rfl]
 simp only[evOp,evO,Env.v,bg,c_,loadV,J4,hb,bz,dm]
 rw[bY rfl rfl rfl]
 simp only[evOp,evO,Env.v,bg,c_,bz,dm,evOps]
theorem VL {x:Nat}(hx:x<4294967296)(hb:b<256)(h5:T.get env 5=some (.int .u32 x))(h7:T.get env 7=some (.int .u8 b)):
  ∃I,ev ⟨Tryz.prog,told⟩ (n+1) VJ ⟨env,34,h⟩=some (.normal,⟨I,34,h⟩)∧T.get I 5=some (.int .u32 ((Nat.xor x b:Nat):Int))∧∀t,t<16→t≠5→T.get I t=T.get env t:=by
 refine⟨((((env.set 16 (some (.int .u32 x))).set 17 (some (.int .u8 b))).set 18 (some (.int .u32 b))).set 19 (some (.int .u32 ((Nat.xor x b:Nat):Int)))).set 5 (some (.int .u32 ((Nat.xor x b:Nat):Int))),?_,by simp[bg],fun t h1 h2 => ?_⟩
 ·simp only[VJ,nR,jP,jT,Tryz.f217,g_,leftC,cN,unblk,unloop,h_,evStep,bf]
  rw[bY rfl rfl rfl]
  simp only[evOp,evO,Env.v,h5,bz,dm]
  rw[bY rfl rfl rfl]
  have g7:T.get (env.set 16 (some (.int .u32 x))) 7=some (.int .u8 b):=by simp[bg,h7]
  simp only[evOp,evO,Env.v,g7,bz,dm]
  rw[bY rfl rfl rfl]
  simp only[evOp,evO,Env.v,bg,c_,convV,Tryz.underlying5,Tryz.underlying285,wrap_u32 (show b<4294967296 by omega),dm]
  rw[bY rfl rfl rfl]
  have J:T.get (((env.set 16 (some (.int .u32 x))).set 17 (some (.int .u8 b))).set 18 (some (.int .u32 b))) 16=some (.int .u32 x):=by simp[bg]
  have U:T.get (((env.set 16 (some (.int .u32 x))).set 17 (some (.int .u8 b))).set 18 (some (.int .u32 b))) 18=some (.int .u32 b):=by simp[bg]
  simp only[evOp,evO,Env.v,J,U,binV,ikBeq,ak,wB hx (show b<4294967296 by omega),bz,dm]
  rw[bY rfl rfl rfl]
  simp only[evOp,evO,Env.v,bg,c_,bz,dm,evOps]
 grind[bg]
theorem VM : ev ⟨Tryz.prog,told⟩ (n+1) Zm ⟨env,34,h⟩=some (.normal,⟨env.set 20 (some (.int .i64 0)),34,h⟩):=by
 rfl
theorem TJ (hi:i<9223372036854775807)(I:T.get env 12=some (.int .i64 i)):
  ∃J,ev ⟨Tryz.prog,told⟩ (n+1) P0 ⟨env,34,h⟩=some (.normal,⟨J,34,h⟩)∧T.get J 12=some (.int .i64 ((i+1:Nat):Int))∧∀t,t≠12→t≠31→T.get J t=T.get env t:=by
 refine⟨(env.set 31 (some (.int .i64 ((i+1:Nat):Int)))).set 12 (some (.int .i64 ((i+1:Nat):Int))),?_,by simp[bg],fun t U h2=>by simp[bg,U,h2]⟩
 simp only[P0,FK,jP,jT,Tryz.f217,g_,leftC,cN,unblk,unloop,h_,evStep,bf]
 rw[bY rfl rfl rfl]
 simp only[evOp,evO,Env.v,I,ofValue,ofScalar,binV,ikBeq,ak,xU hi,bz,dm]
 rw[bY rfl rfl rfl]
 simp only[evOp,evO,Env.v,bg,c_,bz,dm,evOps]
theorem B8 : ∀(k x:Nat),x<4294967296→crcStep x k<4294967296:=by
 intro k
 induction k<;>grind[crcStep,Nq]
theorem P5 {x len:Nat}{cap:Cap}(hx:x<4294967296)(hb:b<256)(hi:i<len)(h5:T.get env 5=some (.int .u32 x))(I:T.get env 12=some (.int .i64 i))(J:T.get env 10=some (.sl id off len cap))
 (hr:xG h id (off+i)=some (.int .u8 b)):
  ∃U,ev ⟨Tryz.prog,told⟩ (n+22) nR ⟨env,34,h⟩=some (.normal,⟨U,34,h⟩)∧T.get U 5=some (.int .u32 ((crcStep (Nat.xor x b) 8:Nat):Int))∧∀t,t=10∨t=11∨t=12→T.get U t=T.get env t:=by
 obtain⟨e4,q4,VN,q4b⟩:=VK (told:=told) (n+20) env h hi I J hr
 obtain⟨e5,q5,q5a,q5b⟩:=VL (told:=told) (n+19) e4 h hx hb (by grind) VN
 have q6:=VM (told:=told) (n+18) e5 h
 obtain⟨e2,q2,R9,R_⟩:=Lr (C:=⟨Tryz.prog,told⟩) h 8 n (e5.set 20 (some (.int .i64 0))) (Nat.xor x b) (by omega) (oD hx (by omega)) (by simp[bg,q5a]) (by simp[bg])<;>simp_all[bg,P3,kA,xu]
theorem Ls {len:Nat}{cap:Cap}(hlen:len<9223372036854775807): ∀(l:List Nat) (i n:Nat) (env:Env) (x:Nat),i+l.length=len→x<4294967296→(∀b∈l,b<256) →
  (∀j b:Nat,l[j]?=some b→xG h id (off+(i+j))=some (.int .u8 (b:Int)))→T.get env 5=some (.int .u32 x)→T.get env 12=some (.int .i64 i)→T.get env 10=some (.sl id off len cap)→T.get env 11=some (.int .i64 len) →
  ∃e',ev ⟨Tryz.prog,told⟩ (n+30+l.length) (.loop jP) ⟨env,34,h⟩=some (.exit 0,⟨e',34,h⟩)∧T.get e' 5=some (.int .u32 ((crcL x l:Nat):Int)):=by
 intro l
 induction l with
 |nil =>
  intro i n env x hi hx _ _ h5 I Zn U
  have q3:=GF (told:=told) (n+27) env h I U
  have hd:decide ((i:Int)<(len:Int))=false:=by grind
  rw[hd] at q3
  refine⟨env.set 13 (some (.bool false)),?_,by simp[bg,h5,crcL]⟩
  refine tG ?_
  rw[xV,kA q3]
  exact uP (by rw[vC (t:=false) (by simp[evO,Env.v,bg])];rfl)
 |cons b l ih =>
  intro i n env x hi hx EE pE h5 I Zn U
  simp only[bI] at hi
  have q3:=GF (told:=told) (n+l.length+28) env h I U
  have hd:decide ((i:Int)<(len:Int))=true:=by grind
  rw[hd] at q3
  have hb:b<256:=EE b (by simp)
  have hr:=pE 0 b (by simp)
  rw[qM] at hr
  obtain⟨e1,q1,Zo,q1b⟩:=P5 (told:=told) (cap:=cap) (n+l.length+4) (env.set 13 (some (.bool true))) h hx hb (show i<len by omega) (by simp[bg,h5]) (by simp[bg,I]) (by simp[bg,Zn]) hr
  obtain⟨e2,q2,R9,R_⟩:=TJ (told:=told) (n+l.length+26) e1 h (show i<9223372036854775807 by omega) (by grind[bg])
  have kV:crcStep (Nat.xor x b) 8<4294967296:=B8 8 _ (oD hx (by omega))
  obtain⟨e3,q3',VO⟩:=ih (i+1) n e2 (crcStep (Nat.xor x b) 8) (by omega) kV (fun c hc=>EE c (by grind)) (fun j c hj=>by
   have:=pE (j+1) c (by grind)
   rwa [show i+(j+1)=i+1+j from by omega] at this) (by grind) R9 (by grind[bg]) (by grind[bg])
  refine⟨e3,?_,by rw[VO];simp only[crcL]⟩
  have J:ev ⟨Tryz.prog,told⟩ (n+l.length+30) jP ⟨env,34,h⟩=some (.normal,⟨e2,34,h⟩):=by
   rw[xV,kA q3,kA (s':=⟨env.set 13 (some (.bool true)),34,h⟩) (by rw[vC (t:=true) (by simp[evO,Env.v,bg])];rfl),P4,
    kA (GD q1),q2]
  rw[bI,show n+30+(l.length+1)=(n+l.length+30)+1 from by omega,J3 J,show n+l.length+30=n+30+l.length from by omega]
  exact q3'
noncomputable def Zp : Code:=leftC jT
noncomputable def VQ : Code:=leftC (cN jT)
noncomputable def VR : Code:=leftC (leftC (cN (cN jT)))
noncomputable def P6 : Code:=cN (cN (cN jT))
theorem P7 : jT=.seq Zp (.seq VQ (.seq (.seq VR (.block 0 (.loop jP))) P6)):=rfl
theorem VS : ev ⟨Tryz.prog,told⟩ (n+1) Zp ⟨env,34,h⟩=some (.normal,⟨env.set 4 (some (.int .u32 0)),34,h⟩):=by
 rfl
theorem VT {x:Nat}(J:x<4294967296)(U:T.get env 0=some (.int .u32 x)):
  ∃I,ev ⟨Tryz.prog,told⟩ (n+1) VQ ⟨env,34,h⟩=some (.normal,⟨I,34,h⟩)∧T.get I 5=some (.int .u32 ((Nat.xor x 4294967295:Nat):Int))∧∀t,t≠5→t≠8→t≠9→T.get I t=T.get env t:=by
 refine⟨((env.set 8 (some (.int .u32 x))).set 9 (some (.int .u32 ((Nat.xor x 4294967295:Nat):Int)))).set 5 (some (.int .u32 ((Nat.xor x 4294967295:Nat):Int))),?_,by simp[bg],fun t h1 h2 h3=>by simp[bg,h1,h2,h3]⟩
 simp only[VQ,jT,Tryz.f217,g_,leftC,cN,h_,evStep,bf]
 rw[bY rfl rfl rfl]
 simp only[evOp,evO,Env.v,U,bz,dm]
 rw[bY rfl rfl rfl]
 have:=wB (a:=x) (b:=4294967295) J (by omega)
 rw[show((4294967295:Nat):Int)=4294967295 from rfl] at this
 simp only[evOp,evO,Env.v,bg,c_,ofValue,ofScalar,binV,ikBeq,ak,this,bz,dm]
 rw[bY rfl rfl rfl]
 simp only[evOp,evO,Env.v,bg,c_,bz,dm,evOps]
theorem VU {x:V}{len:Nat}(J:T.get env 1=some x)(U:lenV Tryz.prog h 23 x=some (.int .i64 len)):
  ∃I,ev ⟨Tryz.prog,told⟩ (n+1) VR ⟨env,34,h⟩=some (.normal,⟨I,34,h⟩)∧T.get I 10=some x∧T.get I 11=some (.int .i64 len)∧T.get I 12=some (.int .i64 ((0:Nat):Int))∧T.get I 5=T.get env 5:=by
 refine⟨((env.set 10 (some x)).set 11 (some (.int .i64 len))).set 12 (some (.int .i64 0)),?_,by simp[bg],by simp[bg],by simp[bg],by simp[bg]⟩
 simp only[VR,jT,Tryz.f217,g_,leftC,cN,h_,evStep,bf]
 rw[bY rfl rfl rfl]
 simp only[evOp,evO,Env.v,J,bz,dm]
 rw[bY rfl rfl rfl]
 simp only[evOp,evCall,evArgs,evO,Env.v,bg,c_,builtinV,U,mR,dm]
 rw[bY rfl rfl rfl]
 simp only[evOp,evO,ofValue,ofScalar,bz,dm,evOps]
theorem TK {x:Nat}(J:x<4294967296)(U:T.get env 5=some (.int .u32 x)):
  ∃I,ev ⟨Tryz.prog,told⟩ (n+2) P6 ⟨env,34,h⟩=some (.ret,⟨I,34,h⟩)∧T.get I 4=some (.int .u32 ((Nat.xor x 4294967295:Nat):Int)):=by
 refine⟨((env.set 32 (some (.int .u32 x))).set 33 (some (.int .u32 ((Nat.xor x 4294967295:Nat):Int)))).set 4 (some (.int .u32 ((Nat.xor x 4294967295:Nat):Int))),?_,by simp[bg]⟩
 simp only[P6,jT,Tryz.f217,g_,cN,h_,evStep,bf]
 rw[bY rfl rfl rfl]
 simp only[evOp,evO,Env.v,U,bz,dm]
 rw[bY rfl rfl rfl]
 have:=wB (a:=x) (b:=4294967295) J (by omega)
 rw[show((4294967295:Nat):Int)=4294967295 from rfl] at this
 simp only[evOp,evO,Env.v,bg,c_,ofValue,ofScalar,binV,ikBeq,ak,this,bz,dm]
 rw[bY rfl rfl rfl]
 simp only[evOp,evO,Env.v,bg,c_,bz,dm,evOps]
end
theorem Lt : ∀(cs:List V) (l:List Nat),bytesIn cs=some l→cs=l.map (fun(b:Nat)=>V.int .u8 (b:Int))∧∀b∈l,b<256:=by
 intro cs
 induction cs with
 |nil=>grind[bytesIn]
 |cons v cs I =>
  intro l h
  unfold bytesIn at h
  grind
theorem DP : ∀(l:List Nat) (x:Nat),x<4294967296→(∀b∈l,b<256)→crcL x l<4294967296:=by
 intro l
 induction l with
 |nil=>intro x I _;exact I
 |cons b l U =>
  intro x I J
  have h1:=J b (by simp)
  exact U _ (B8 8 _ (oD I (by omega))) (fun c hc=>J c (by grind))
theorem A8 {s : Int} {x : V} {len : Nat} (hs0 : 0 ≤ s) (Gj : s < 4294967296) (hl : lenV Tryz.prog σ 23 x = some (.int .i64 len)) (hlen : len = l.length) (si : len < 9223372036854775807)
  (hb : ∀ b ∈ l, b < 256) (hx : l = [] ∨ ∃ id off cap, x = .sl id off len cap ∧ ∀ j b : Nat, l[j]? = some b → xG σ id (off + (0 + j)) = some (.int .u8 (b : Int))) :
  run ⟨Tryz.prog, fun _ => none⟩ (l.length + 40) 217 [.int .u32 s, x] σ = some (vB s l, σ) := by
 obtain ⟨u, rfl⟩ : ∃ u : Nat, s = (u : Int) := ⟨s.toNat, by omega⟩
 have hu : u < 4294967296 := by omega
 have q0 := VS (told := fun _ => none) (l.length + 38) (bindArgs [.int .u32 u, x] 0 .lf) σ
 obtain ⟨e1, q1, Zo, q1b⟩ := VT (told := fun _ => none) (l.length + 37) ((bindArgs [.int .u32 u, x] 0 .lf).set 4 (some (.int .u32 0))) σ hu (by rfl)
 obtain ⟨e2, q2, R9, R_, Zq, q2d⟩ := VU (told := fun _ => none) (l.length + 35) e1 σ (x := x) (by grind [bg, bindArgs]) hl
 have I : Nat.xor u 4294967295 < 4294967296 := oD hu (by omega)
 have J : ∃ e', ev ⟨Tryz.prog, fun _ => none⟩ (5 + 30 + l.length) (.loop jP) ⟨e2, 34, σ⟩ = some (.exit 0, ⟨e', 34, σ⟩) ∧ T.get e' 5 = some (.int .u32 ((crcL (Nat.xor u 4294967295) l : Nat) : Int)) := by
  rcases hx with rfl | ⟨id, off, cap, rfl, pE⟩
  ·have q3 := GF (told := fun _ => none) 32 e2 σ Zq R_
   have hd : decide ((((0 : Nat) : Int)) < (len : Int)) = false := by grind
   rw [hd] at q3
   refine ⟨e2.set 13 (some (.bool false)), ?_, by simp [bg, q2d, Zo, crcL]⟩
   refine tG ?_
   rw [xV, kA q3]
   exact uP (by rw [vC (t := false) (by simp [evO, Env.v, bg])]; rfl)
  ·exact Ls σ si l 0 5 e2 _ (by omega) I hb pE (by grind) Zq R9 R_
 obtain ⟨e3, q3, VO⟩ := J
 obtain ⟨e4, q4, VN⟩ := TK (told := fun _ => none) (l.length + 35) e3 σ (DP l _ I hb) VO
 have U : ev ⟨Tryz.prog, fun _ => none⟩ (l.length + 40) jT ⟨bindArgs [.int .u32 u, x] 0 .lf, 34, σ⟩ = some (.ret, ⟨e4, 34, σ⟩) := by
  rw [P7, kA q0, kA q1, kA (s' := ⟨e3, 34, σ⟩) (by
   rw [kA q2]
   grind [xu]), q4]
 unfold run callF
 simp only [BY]
 rw [show Tryz.f217.body = some jT from rfl]
 rw [show (Tryz.f217.name == "runtime.NumGoroutine" || Nat.blt Tryz.f217.ntmps [V.int .u32 (u : Int), x].length) = false from rfl]
 simp only [bf]
 rw [show Tryz.f217.ntmps = 34 from rfl, U]
 simp only
 rw [show Tryz.f217.results = #[.tmp 4] from rfl]
 simp only [mapO, resV, Env.v, VN, vB, eD]
section
variable {c:Ctx}
theorem I1 (hP:C.P=Tryz.prog)(hm:C.P.follows .mixedOrders=true){v:V}(J:toldMore args σ=some (v,ee))(h:Rel c σ w)(hw:∀x∈args,wf c x):
  fT C.P 217 args c w v ee:=by
 rw[hP] at hm ⊢
 have hT:ig ⟨Tryz.prog,fun _=>none⟩:=fun f g hg=>by cases hg
 unfold toldMore at J
 split at J
 ·rename_i s id off len cap
  cases U:(decide (0≤s)&&decide (s<4294967296)&&Nat.ble len 4611686018427387904) with
  |false=>grind
  |true =>
   rw[U,ak] at J
   simp only[bS,gN,aZ] at U
   obtain⟨I,si⟩:=U
   cases pE:rdN σ id off len with
   |none=>grind
   |some cs =>
    simp only[pE] at J
    cases hb:bytesIn cs with
    |none=>grind
    |some l =>
     simp only[hb,aG,bE] at J
     obtain⟨rfl,rfl⟩:=J
     obtain⟨b1,b2⟩:=Lt cs l hb
     obtain⟨d1,d2⟩:=TH h pE
     have hl:len=l.length:=by grind
     refine B3 (C:=⟨Tryz.prog,fun _=>none⟩) hm hT (A8 I.1 I.2 (len:=len) (by simp[lenV,aW]) hl (by omega) b2 (.inr ⟨id,off,cap,rfl,fun j b hj => ?_⟩)) h hw
     ·grind
 ·rename_i s
  cases I:(decide (0≤s)&&decide (s<4294967296)) with
  |false=>grind
  |true =>
   rw[I,ak] at J
   simp only[bS,gN] at I
   obtain⟨rfl,rfl⟩:=J
   exact B3 (C:=⟨Tryz.prog,fun _=>none⟩) hm hT (A8 I.1 I.2 (len:=0) (l:=[]) (by simp[lenV,aW]) rfl (by omega) (by simp) (.inl rfl)) h hw
 ·rename_i s _
  cases I:(decide (0≤s)&&decide (s<4294967296)) with
  |false=>grind
  |true =>
   rw[I,ak] at J
   simp only[bS,gN] at I
   obtain⟨rfl,rfl⟩:=J
   exact B3 (C:=⟨Tryz.prog,fun _=>none⟩) hm hT (A8 I.1 I.2 (len:=0) (l:=[]) (by simp[lenV,aW]) rfl (by omega) (by simp) (.inl rfl)) h hw
 ·cases J
end
end Go.Proofs.YtiojppeahfoiaaaGreat.Am
namespace Go.Proofs.YtiojppeahfoiaaaGreat.Am
open Go Go.Maps Go.RowKit
variable {ps:Array (Nat×Operand)} {ops:Array Oper} {ts:Array TypeId} {C:gy} {code:Code} {c₀:Ctx} {env:Env} {Q:Ex→List (Nat×V)→H→Prop} {fn:Func} {f:FuncId} {cl:Go.Call} {h h' σ h₁ ee:H} {E E':List (Nat×V)} {R:List (Nat×V)→H→Prop} {d₀:List Deferred} {hs:List H} {eL es l:List Nat} {L rest:List Oper} {args first cap vs cs ds:List V} {a b i c k id n d off j k' q:Nat} {Hs:Nat→H} {early:Nat→Option (Nat×FV)} {Fl:Nat→Prop} {vv:Nat→V} {o':Obj} {o:Oper} {x y:Operand} {P:Program} {φ:Prop} {self:Self} {s s':St} {α:Type} {td:TypeDesc} {t t' e kt et:TypeId} {r u z:V} {xS:V→H→Prop} {w₀ w:World}
def keyInts : List (V×V×Nat)→Option (List Int)
 |[]=>some []
 |(.int .i64 n,_,_)::l=>cond (Lit.int .i64 n).wf (match keyInts l with
  |some m=>some (n::m)
  |none=>none) none
 |_=>none
def bornUp (clock:Nat): Nat→List (V×V×Nat)→Bool
 |_,[]=>true
 |b,(_,_,x)::l=>cond (Nat.ble b x&&Nat.blt x clock) (bornUp clock (x+1) l) false
def insI (x:Int): List Int→List Int
 |[]=>[x]
 |y::l=>cond (decide (x≤y)) (x::y::l) (y::insI x l)
def m7 : List Int→List Int
 |[]=>[]
 |x::l=>insI x (m7 l)
def rM : List Int→Bool
 |[]=>true
 |x::l=>l.all (fun y=>decide (x<y))&&rM l
def eS (l:List Int): List V:=l.map (V.int .i64)
noncomputable def toldSorted (gs:List Nat): List V→H→Option (V×H)
 |[.fn (.func g) [] [.ptr b 0]],h=>match h.tr.get b with
  |some (.cells n [.map id] false)=>match h.tr.get id with
   |some (.map es clock)=>cond (Nat.beq n 1&&v7 gs g&&bornUp clock 0 es&&Nat.ble es.length 1048576) (match keyInts es with
    |some ks=>cond (rM (m7 ks)) (match ks with
     |[]=>some (.bw,h)
     |_=>some (.sl h.next 0 ks.length (.rest 1 0),newRow h (eS (m7 ks)))) none
    |none=>none) none
   |_=>none
  |_=>none
 |_,_=>none
theorem xW (x:Int): ∀l:List Int,(insI x l).Perm (x::l)
 |[]=>.refl _
 |y::l=>by
  simp only[insI]
  cases decide (x≤y) with
  |true=>rfl
  |false=>exact((xW x l).cons y).trans (.swap x y l)
theorem en : ∀l:List Int,(m7 l).Perm l
 |[]=>.refl _
 |x::l=>(xW x _).trans ((en l).cons x)
theorem EF : ∀l:List Int,rM l=true→l.Pairwise (· < ·)
 |[],_=>.nil
 |x::l,h=>by
  simp only[rM,bS,qK,gN] at h
  exact List.pairwise_cons.2 ⟨h.1,EF l h.2⟩
theorem vD : ∀ {l m:List Int},l.Perm m→l.Pairwise (· ≤ ·)→m.Pairwise (· ≤ ·)→l=m
 |[],m,I,_,_=>I.nil_eq
 |a::r,[],I,_,_=>absurd I.symm.nil_eq (by simp)
 |a::r,b::s,I,U,h2=>by
  obtain⟨a1,a2⟩:=List.pairwise_cons.1 U
  obtain⟨b1,b2⟩:=List.pairwise_cons.1 h2
  have J:a=b:=by
   have ha:a∈b::s:=I.mem_iff.1 (by simp)
   have hb:b∈a::r:=I.mem_iff.2 (by simp)
   grind
  subst J
  rw[vD (List.Perm.cons_inv I) a2 b2]
theorem EG {clock:Nat}: ∀(l:List (V×V×Nat)) (b:Nat),bornUp clock b l=true→(∀x∈l,b≤x.2.2∧x.2.2<clock)∧(l.map (·.2.2)).Nodup
 |[],_,_=>⟨by simp,by simp⟩
 |(k,v,x)::l,b,h=>by
  simp only[bornUp] at h
  cases I:(Nat.ble b x&&Nat.blt x clock) with
  |false=>grind
  |true =>
   rw[I,ak] at h
   simp only[bS,aZ,jD] at I
   obtain⟨i1,i2⟩:=EG l (x+1) h<;>grind
theorem B9 {c:Ctx}: ∀(l:List (V×V×Nat)) (ks:List Int),keyInts l=some ks→l.map (fun x=>conc c x.1)=ks.map (Value.int .i64)∧∀n∈ks,(Lit.int .i64 n).wf=true
 |[],ks,h=>by grind[keyInts]
 |(k,v,b)::l,ks,h=>by
  unfold keyInts at h
  split at h
  ·grind
  ·rename_i n v' I J he
   obtain⟨⟨rfl,rfl,rfl⟩,rfl⟩:=he
   cases hw:(Lit.int .i64 n).wf with
   |false=>grind
   |true =>
    cases hm:keyInts l with
    |none=>grind
    |some m =>
     simp[hw,hm] at h
     obtain⟨i1,i2⟩:=B9 (c:=c) l m hm<;>grind[conc]
  ·cases h
section
variable {c:Ctx} {w':World}
theorem Rel.below (h:Rel c σ w)(I:Below w.heap.size w w'): Rel c σ w'∧dH c w c w':=by
 have rows:∀b,b<w.heap.size→rowSize w' b=rowSize w b:=fun b J=>by unfold rowSize;rw[I.block b J]
 refine⟨⟨h.next,h.live,fun id hi=>g9 (h.lB id hi) I.size,fun id hi=>by rw[rows _ (h.lB id hi)];exact h.zz id hi,h.inj,
  fun id o ho=>(h.obj id o ho).later (Ext.refl c) (h.live id o ho) (I.block _ (h.lB id (h.live id o ho))),h.one,h.fx⟩,
  ⟨Ext.refl c,I.size,rows,fun b J _=>I.block b J,fun id U h2=>by omega,I.os,I.output⟩⟩
theorem Rel.take {C:Array Value}{T:TypeId}(h:Rel c σ w)(hb:b<w.heap.size)(hr:∀id,id<c.N→(c.ρ id).1≠b)(J:∀v∈cs,wf c v∧storable v=true)
 (hg:w.heap[b]?=some (.cells C T (0,0)))(hC:C.toList.take cs.length=cs.map (conc c)): Rel (c.grow b 0 C.size) (Am.newRow σ cs) w:=by
 have e:=rA hr 0 C.size
 have hN:(c.grow b 0 C.size).N=c.N+1:=rfl
 have hle:cs.length≤C.size:=by
  have:=kO List.length hC
  simp at this
  omega
 have key:∀i o,(Am.newRow σ cs).tr.get i=some o→(i=c.N∧o=.cells cs.length cs false)∨(i<c.N∧σ.tr.get i=some o):=by
  intro i o hi
  rw[Am.newRow,ga,h.next] at hi
  by_cases h1:i=c.N
  ·grind
  ·simp[h1] at hi;exact .inr ⟨h.live i o hi,hi⟩
 refine⟨by simp[Am.newRow,H.new,Ctx.grow,h.next],fun i o hi => ?_,fun i hi => ?_,fun i hi => ?_,fun i j o o' hi hj he => ?_,fun i o hi => ?_,fun i U qE hi hx => ?_,fun i o hi hx => ?_⟩
 ·grind
 ·by_cases h1:i=c.N
  ·grind[bF]
  ·rw[dA c _ _ _ (by omega)];exact h.lB i (by omega)
 ·by_cases h1:i=c.N
  ·grind[Ctx.grow,rowSize]
  ·rw[dA c _ _ _ (by omega),←h.zz i (by omega)];simp[Ctx.grow,hr i (by omega)]
 ·rcases key i o hi with⟨I,_⟩|⟨I,a2⟩<;>rcases key j o' hj with⟨b1,_⟩|⟨b1,b2⟩
  ·omega
  ·grind[bF,dA]
  ·grind[bF,dA]
  ·rw[dA c _ _ _ I,dA c _ _ _ b1] at he;rw[gn c _ _ _ I,gn c _ _ _ b1];exact h.inj i j _ _ a2 b2 he
 ·rcases key i o hi with⟨rfl,rfl⟩|⟨I,a2⟩
  ·refine⟨rfl,fun v hv=>⟨(cu e v (J v hv).1).2,(J v hv).2⟩,C,T,(0,0),by rw[bF];exact hg,by grind[bF],fun j v hj => ?_,rfl⟩
   rw[bF,(cu e v (J v (bu hj)).1).1]
   have h1:(C.toList.take cs.length)[j]?=some (conc c v):=by grind
   grind
  ·exact(h.obj i o a2).later e I rfl
 ·rcases key i _ hi with⟨rfl,_⟩|⟨I,a2⟩
  ·rw[bF]
  ·rw[gn c _ _ _ I] at hx
   rw[dA c _ _ _ I];exact h.one i U qE a2 hx
 ·rcases key i o hi with⟨rfl,_⟩|⟨I,a2⟩
  ·grind[we]
  ·rw[gn c _ _ _ I] at hx;exact h.fx i o a2 hx
def oF (_:Value): Option (DataW Unit×List MemPlace):=some (.nil,[])
def EH (P:Program)(f K:Nat)(gs:List Nat): Prop:=∀g∈gs,∀(U b nn:Nat) (I:DataW Unit) (w:World),U<w.heap.size→w.cell? ⟨U,0,none⟩=some (.map (some b)) →
 w.ownsMap P K oF b nn I→Maps.size I≤maxLen→Maps.size I*8≤140737488355328 →
 Calls P f #[.func (.func g) #[] #[.pointer (some ⟨U,0,none⟩)]] w fun e w'=>∃(v:Value) (J:List Int),e=.returned v∧J.Perm (intKeys I) ∧
  w'.ownsRow w.heap.size K 1 v J.length ((J.mergeSort (fun x y=>decide (x≤y))).map encZ)∧(v=.slice none 0 0↔J=[])∧Below w.heap.size w w'
theorem FB {f K:Nat}{gs:List Nat}(hK:P.underlying K=some (.int .i64))(hS:EH P f K gs){v:V}(I:toldSorted gs args σ=some (v,ee))
 (h:Rel c σ w): fT P f args c w v ee:=by
 unfold toldSorted at I
 split at I
 ·rename_i g b
  split at I
  ·rename_i n id Sa
   split at I
   ·rename_i es clock hgm
    cases hq:(Nat.beq n 1&&v7 gs g&&bornUp clock 0 es&&Nat.ble es.length 1048576) with
    |false=>grind
    |true =>
     rw[hq,ak] at I
     simp only[bS,beq_iff,aZ,A6] at hq
     obtain⟨⟨⟨q1,q2⟩,q3⟩,q4⟩:=hq
     subst q1
     cases hk:keyInts es with
     |none=>grind
     |some ks =>
      simp only[hk] at I
      cases J:rM (m7 ks) with
      |false=>grind
      |true =>
       simp only[J,ak] at I
       obtain⟨k1,k2⟩:=B9 (c:=c) es ks hk
       obtain⟨b1,b2⟩:=EG es 0 q3
       have b8:=EF _ J
       have mL:ks.Nodup:=(en ks).nodup_iff.1 (b8.imp fun {a b} sx=>by omega)
       have U:=h.one b _ _ Sa (h.F9 Sa (by simp))
       have z_:=cell_of h Sa (j:=0) (v:=.map id) rfl
       have aan:g8 c b 0=⟨(c.ρ b).1,0,none⟩:=by simp[g8,U]
       rw[aan] at z_
       have VV:w.cell? ⟨(c.ρ b).1,0,none⟩=some (.map (some (c.ρ id).1)):=by simpa[conc] using z_
       obtain⟨m1,m2⟩:=h.obj id _ hgm
       have XU:∀x∈es,∃n,n∈ks∧(cL c x).key=.int .i64 n:=fun x hx=>by
        have:conc c x.1∈ks.map (Value.int .i64):=by grind
        obtain⟨n,hn,he⟩:=List.mem_map.1 this
        exact⟨n,hn,he.symm⟩
       have pE:∀x∈es,∀n,(cL c x).key=.int .i64 n→n∈ks→WideElems.rd P K oF (cL c x)=some (.int .i64 n,.nil):=fun x hx n hn hm=>by
        grind[WideElems.rd,Maps.keyOf_int_mk,oF]
       have aao:w.ownsMap P K oF (c.ρ id).1 es.length (.map (((es.map (cL c)).toArray.toList.map (WideElems.rg P K oF)).foldr DataW.insert [])):=by
        refine⟨(es.map (cL c)).toArray,clock,m2,⟨by simp[maxLen];omega,⟨fun x hx => ?_,?_,?_⟩,fun x hx => ?_⟩,by simp,rfl⟩
        ·simp only[List.mem_map] at hx
         obtain⟨y,hy,rfl⟩:=hx
         exact(b1 y hy).2
        ·grind[cL]
        ·have:(es.map (cL c)).toArray.toList.map (·.key)=ks.map (Value.int .i64):=by simp_all[cL,Function.comp_def]
         grind
        grind
       have gW:Maps.size (H:=Unit) (.map (((es.map (cL c)).toArray.toList.map (WideElems.rg P K oF)).foldr DataW.insert []))=es.length:=by
        rw[Maps.size_eq,(WideShapes.sorted_perm _).length_eq];simp
       have FL:(intKeys (H:=Unit) (.map (((es.map (cL c)).toArray.toList.map (WideElems.rg P K oF)).foldr DataW.insert []))).Perm ks:=by
        refine((WideShapes.sorted_perm _).map _).trans ?_
        have:(((es.map (cL c)).toArray.toList.map (WideElems.rg P K oF)).map fun p=>intOf p.1)=ks:=by
         have Zr:∀x∈es,Value.int .i64 (intOf (WideElems.rg P K oF (cL c x)).1)=conc c x.1:=fun x hx=>by
          obtain⟨n,hn,he⟩:=XU x hx
          rw[WideElems.rg_of (pE x hx n he hn)]
          exact he.symm
         have h1:((((es.map (cL c)).toArray.toList.map (WideElems.rg P K oF)).map fun p=>intOf p.1).map (Value.int .i64))=ks.map (Value.int .i64):=by
          grind[List.map_congr_left]
         grind[List.map_inj_right]
        rw[this]
       have XV:=hS g q2 (c.ρ b).1 (c.ρ id).1 es.length _ w (h.lB b (h.live b _ Sa)) VV aao (by rw[gW];simp[maxLen];omega) (by omega)
       have Sb:([V.fn (.func g) [] [.ptr b 0]].map (conc c)).toArray = #[.func (.func g) #[] #[.pointer (some ⟨(c.ρ b).1,0,none⟩)]]:=by simp[conc,concL,U]
       unfold fT
       rw[Sb]
       refine XV.mono ?_
       rintro e w' ⟨rv,ss,rfl,s1,s2,s3,s4⟩
       obtain⟨g1,g2⟩:=h.below s4
       have Zs:ss.Perm ks:=s1.trans FL
       have hms:ss.mergeSort (fun x y=>decide (x≤y))=m7 ks:=by
        refine vD (((List.mergeSort_perm ss _).trans Zs).trans (en ks).symm) ?_ (b8.imp fun {a b} sx=>by omega)<;>grind[List.pairwise_mergeSort]
       rw[hms] at s2
       split at I
       ·-- no key
        have A5:ss=[]:=by simp_all
        grind[conc,wf]
       ·obtain⟨rfl,rfl⟩:=I
        have ab1:ss≠[]:=fun e=>by
         simp_all
        have lC:ss.length=ks.length:=Zs.length_eq
        rcases s2.2 with⟨e1,_⟩|⟨gb,cap,cur,rfl,l1,l2,l3,l4,l5,l6⟩
        ·grind
        have aap:gb<w'.heap.size:=(Array.getElem?_eq_some_iff.1 l2).1
        have Eo:∀i,i<c.N→(c.ρ i).1≠gb:=fun i hi e=>by have:=h.lB i hi;omega
        have pq:∀x∈eS (m7 ks),wf c x∧storable x=true:=fun x hx=>by
         obtain⟨n,_,rfl⟩:=List.mem_map.1 hx<;>grind[wf,storable]
        have EJ:(eS (m7 ks)).length=ks.length:=by simp[eS,(en ks).length_eq]
        have XW:cur.toList.take (eS (m7 ks)).length=(eS (m7 ks)).map (conc c):=by
         simp_all[eS,conc]
        have R:=g1.take aap Eo pq l2 XW
        have K4:(c.grow gb 0 cur.size).room σ.next 0 1=cap:=by
         simp only[Ctx.room,h.next,Ctx.grow,c_]
         simp[l5]
        refine⟨c.grow gb 0 cur.size,?_,?_,R,g2.FH Eo l1⟩
        ·simp only[conc,K4]
         simp[h.next,Ctx.grow,lC]
        ·exact⟨by rw[h.next];simp[Ctx.grow],aP _,by omega⟩
   ·cases I
  ·cases I
 ·cases I
end
end Go.Proofs.YtiojppeahfoiaaaGreat.Am
namespace Go.Proofs.YtiojppeahfoiaaaGreat.Am
open Go
variable {ps:Array (Nat×Operand)} {ops:Array Oper} {ts:Array TypeId} {C:gy} {code:Code} {c₀:Ctx} {env:Env} {Q:Ex→List (Nat×V)→H→Prop} {fn:Func} {f:FuncId} {cl:Go.Call} {h h' σ h₁ ee:H} {E E':List (Nat×V)} {R:List (Nat×V)→H→Prop} {d₀:List Deferred} {hs:List H} {eL es l:List Nat} {L rest:List Oper} {args first cap vs cs ds:List V} {a b i c k id n d off j k' q:Nat} {Hs:Nat→H} {early:Nat→Option (Nat×FV)} {Fl:Nat→Prop} {vv:Nat→V} {o':Obj} {o:Oper} {x y:Operand} {P:Program} {φ:Prop} {self:Self} {s s':St} {α:Type} {td:TypeDesc} {t t' e kt et:TypeId} {r u z:V} {xS:V→H→Prop} {w₀ w:World}

/- Heaps compared. -/
def noIter : Option Obj→Option Obj
 |some (.iter _ _ _ _)=>none
 |v=>v
def flatM {α β:Type}(f:α→Option (List β)): List α→Option (List β)
 |[]=>some []
 |x::l=>match f x with
  |none=>none
  |some a=>match flatM f l with
   |none=>none
   |some b=>some (a++b)
theorem Nr {β:Type}{f:α→Option (List β)}: ∀(l:List α) (R:List β),flatM f l=some R→∀x∈l,∃r,f x=some r∧∀y∈r,y∈R:=by
 intro l
 induction l<;>grind[flatM]
section
variable (C:gy) (self:Self)
noncomputable def opAll (env:Env)(h:H)(o:Oper): Option (List (V×H)):=match o.op with
 |.next it false=>match evO env it with
  |some (.ptr r off)=>cond (Nat.beq off 0) (nextAll h r) none
  |_=>none
 |_=>match evOp C self env h o with
  |some q=>some [q]
  |none=>none
noncomputable def opsAll (ops:List Oper): List Oper→St→Option (List St)
 |[],s=>some [s]
 |o::l,s=>cond (wantedV ops s.env o)
  (match opAll C self s.env s.h o with
   |some I=>flatM (fun q=>match s.put o.dst q.1 q.2 with
    |some s'=>opsAll ops l s'
    |none=>none) I
   |none=>none)
  (match s.put o.dst cF s.h with
   |some s'=>opsAll ops l s'
   |none=>none)
end
section
theorem P8 (hS:je C.P self)(hT:ig C){c:Ctx}{a:Act}{U:List (V×H)}(h:Rel c σ w)(he:zX c env a o)(I:opAll C self env σ o=some U):
  (∃q∈U,wu C.P o a c w q.1 q.2)∧∀d,o.op≠.defer d:=by
 unfold opAll at I
 split at I
 ·rename_i it ho
  refine⟨?_,fun d hd=>by grind⟩
  split at I
  ·rename_i r off hx
   cases hq:Nat.beq off 0 with
   |false=>grind
   |true =>
    have:=beq_iff.1 hq
    subst this
    obtain⟨f1,f2⟩:=he it (by simp[ho,Op.operands]) _ hx
    obtain⟨q,J,hg⟩:=AG (P:=C.P) h I o.type
    exact⟨q,J,fF (s:=Instr.next (conc c (.ptr r 0)) false o.type) (by simp only[execOp,ho,f1]) hg⟩
  ·cases I
 ·cases tE:evOp C self env σ o with
  |none=>grind
  |some q =>
   grind[z6,nt]
theorem Ns (hS:je C.P self)(hT:ig C){Q:Exit→Act→World→Prop}: ∀(l:List Oper) (k:Nat) (s:St) (L:List St) (c:Ctx) (a:Act) (w:World),
  (∀j,l[j]?=ops[k+j]?)→opsAll C self ops.toList l s=some L→Rel c s.h w→fD c s.env s.ax a →
  (∀s'∈L,∀c' a' w',Rel c' s'.h w'→fD c' s'.env s'.ax a'→dH c w c' w'→a'.defers=a.defers→Q .normal a' w') →
  wpOpsIn (Fr none) 0 C.P ops Q (List.range' k l.length) a w:=by
 intro l
 induction l with
 |nil =>
  grind[opsAll,wpOpsIn,dH.refl]
 |cons o l ih =>
  intro k s L c a w hl J h he hQ
  have h0:ops[k]?=some o:=by simpa using(hl 0).symm
  have BS:∀j,l[j]?=ops[k+1+j]?:=fun j=>by have:=hl (j+1);grind
  simp only[bI,Dr,wpOpsIn,h0]
  rw[BR he]
  simp only[opsAll] at J
  cases hw:wantedV ops.toList s.env o with
  |true =>
   rw[hw,ak] at J
   cases ho:opAll C self s.env s.h o with
   |none=>grind
   |some qs =>
    simp only[ho] at J
    obtain⟨⟨q,hq,Sc⟩,mL⟩:=P8 hS hT h (he.JV o) ho
    obtain⟨r,tH,EK⟩:=Nr qs L J q hq
    refine Sc.wpIn mL ?_
    intro c' w' r1 r2 r3
    cases hp:s.put o.dst q.1 q.2 with
    |none=>grind
    |some I =>
     simp only[hp] at tH
     obtain⟨p1,p2,p3⟩:=St.BG (he.ext r2.ext) r3 hp
     refine ih (k+1) I r c' _ w' BS tH (by grind) p1 ?_
     intro s' U Nj AH BT q1 q2 q3 q4
     exact hQ s' (EK s' U) Nj AH BT q1 q2 (r2.trans q3) (by rw[q4];cases o.dst<;>rfl)
  |false =>
   rw[hw,bf] at J
   refine⟨fun _ _=>trivial,?_⟩
   cases hp:s.put o.dst cF s.h with
   |none=>grind
   |some I =>
    simp only[hp] at J
    obtain⟨p1,p2,p3⟩:=St.BG he (show wf c cF by simp[cF,wf,gK]) hp
    refine ih (k+1) I L c _ w BS J (by grind) p1 ?_
    intro s' U Nj AH BT q1 q2 q3 q4
    exact hQ s' U Nj AH BT q1 q2 q3 (by rw[q4];cases o.dst<;>rfl)
end
theorem Rel.XX {c:Ctx}(h:Rel c σ w)(I:ee.next=σ.next)(hs:∀id o,T.get ee.tr id=some o→T.get σ.tr id=some o): Rel c ee w :=
 ⟨I.trans h.next,fun id o ho=>h.live id o (hs id o ho),h.lB,h.zz,fun i j o o' hi J he=>h.inj i j o o' (hs i o hi) (hs j o' J) he,
  fun id o ho=>h.obj id o (hs id o ho),fun id cs st ho=>h.one id cs st (hs id _ ho),fun id o ho=>h.fx id o (hs id o ho)⟩
def lY (h:H): Prop:=∀id o,T.get h.tr id=some o→id<h.next
theorem lY.new (hw:lY h)(o:Obj): lY (h.new o):=by
 intro id q I
 rw[ga] at I
 show id<h.next+1
 split at I
 ·omega
 ·exact Nat.lt_succ_of_lt (hw id q I)
theorem lY.put (hw:lY h)(J:id<h.next)(o:Option Obj): lY (h.put id o):=by
 intro j q I
 rw[dO] at I
 show j<h.next
 split at I
 ·omega
 ·exact hw j q I
structure eG (k:Nat)(S:List Nat)(h h':H): Prop where
 wf:lY h'
 le:h.next≤h'.next
 bd:h'.next≤h.next+k
 get:∀id,id<h.next→id∉S→T.get h'.tr id=T.get h.tr id
theorem eG.refl (hw:lY h)(S:List Nat): eG 0 S h h:=⟨hw,aP _,aP _,fun _ _ _=>rfl⟩
theorem eG.trans {S S':List Nat}{I:H}(a:eG k S h h')(b:eG k' S' h' I)(hs:∀i∈S',i∈S∨h.next≤i): eG (k+k') S h I:=by
 refine⟨b.wf,b_ a.le b.le,by have:=a.bd;have:=b.bd;omega,fun id J U => ?_⟩
 rw[b.get id (g9 J a.le) (fun hm => ?_),a.get id J U]
 rcases hs id hm with h1|h1
 ·exact U h1
 ·omega
theorem eG.mono {S S':List Nat}(a:eG k S h h')(J:k≤k')(hs:∀i∈S,i∈S'): eG k' S' h h' :=
 ⟨a.wf,a.le,b_ a.bd (vb J _),fun id I U=>a.get id I (fun hm=>U (hs id hm))⟩
theorem eG.row {S:List Nat}(a:eG k S h h')(hw:lY h){o:Obj}(I:T.get h.tr id=some o)(J:id∉S): T.get h'.tr id=some o:=by
 rw[a.get id (hw id o I) J];exact I
theorem eG.Ab (hw:lY h)(o:Obj): eG 1 [] h (h.new o) :=
 ⟨hw.new o,hO _,aP _,fun id I _=>by rw[ga,ah (by omega)]⟩
theorem eG.Sd (hw:lY h)(I:id<h.next)(o:Option Obj): eG 0 [id] h (h.put id o) :=
 ⟨hw.put I o,aP _,aP _,fun j _ J=>by rw[dO,ah (fun e=>J (by simp[e]))]⟩
theorem fu (l:List Nat): (ofBytes l).length=l.length:=by simp[ofBytes]
theorem rB (l m:List Nat): ofBytes (l++m)=ofBytes l++ofBytes m:=by simp[ofBytes]
def View (h:H)(v:V)(l:List Nat): Prop:=(∀b∈l,b<256)∧(((v=.bw∨∃a,v=.sle a)∧l=[]) ∨
 ∃id off cap n cs st,v=.sl id off l.length cap∧T.get h.tr id=some (.cells n cs st)∧cs.length=n∧off+l.length≤n∧(cs.drop off).take l.length=ofBytes l ∧
  (match cap with|.exact c=>l.length≤c|.rest e _=>e=1))
def jE (h:H)(v:V)(l:List Nat): Prop:=(∀b∈l,b<256)∧((v=.bw∧l=[]) ∨
 (∃id cs c,v=.sl id 0 l.length (.exact c)∧T.get h.tr id=some (.cells c (ofBytes l++cs) false)∧l.length+cs.length=c) ∨
 (∃id,v=.sl id 0 l.length (.rest 1 0)∧T.get h.tr id=some (.cells l.length (ofBytes l) false)∧1≤l.length))
def rowIds : V→List Nat
 |.sl id _ _ _=>[id]
 |_=>[]
theorem jE.view {v:V}(I:jE h v l): View h v l:=by
 obtain⟨U,I⟩:=I
 refine⟨U,?_⟩
 rcases I with I|⟨id,cs,c,rfl,J,hc⟩|⟨id,rfl,J,h1⟩
 ·exact .inl ⟨.inl I.1,I.2⟩
 ·refine .inr ⟨id,0,.exact c,c,_,false,rfl,J,by simp[fu,hc],by omega,?_,by show l.length≤c;omega⟩
  rw[fY,lQ (fu l)]
 ·refine .inr ⟨id,0,.rest 1 0,_,_,false,rfl,J,fu l,by omega,?_,rfl⟩
  rw[fY]
  exact jy (by rw[fu];exact aP _)
theorem View.cO {S:List Nat}{v:V}(I:View h v l)(hw:lY h)(J:eG k S h h')(U:∀i∈rowIds v,i∉S): View h' v l:=by
 obtain⟨hl,I⟩:=I
 refine⟨hl,?_⟩
 rcases I with I|⟨id,off,cap,n,cs,st,rfl,hg,h1,h2,h3,h4⟩
 ·exact .inl I
 ·exact .inr ⟨id,off,cap,n,cs,st,rfl,J.row hw hg (U id (by simp[rowIds])),h1,h2,h3,h4⟩
theorem jE.cO {S:List Nat}{v:V}(I:jE h v l)(hw:lY h)(U:eG k S h h')(hn:∀i∈rowIds v,i∉S): jE h' v l:=by
 obtain⟨hl,I⟩:=I
 refine⟨hl,?_⟩
 rcases I with I|⟨id,cs,c,rfl,J,hc⟩|⟨id,rfl,J,h1⟩
 ·exact .inl I
 ·exact .inr (.inl ⟨id,cs,c,rfl,U.row hw J (hn id (by simp[rowIds])),hc⟩)
 ·exact .inr (.inr ⟨id,rfl,U.row hw J (hn id (by simp[rowIds])),h1⟩)
theorem View.len {v:V}(I:View h v l): lenV Tryz.prog h 23 v=some (.int .i64 l.length):=by
 obtain⟨_,I⟩:=I
 rcases I with⟨rfl|⟨J,rfl⟩,rfl⟩|⟨id,off,cap,n,cs,st,rfl,_⟩<;>simp[lenV,aW]
theorem View.rdN {len:Nat}{cap:Cap}(J:View h (.sl id off len cap) l): len=l.length∧rdN h id off len=some (ofBytes l):=by
 obtain⟨_,J⟩:=J
 rcases J with⟨I,_⟩|⟨BP,off',U,n,cs,st,I,hg,h1,h2,h3,h4⟩
 ·rcases I with I|⟨_,I⟩<;>cases I
 ·injection I with e1 e2 e3 e4
  subst e1;subst e2;subst e3
  refine⟨rfl,?_⟩
  unfold Am.rdN
  simp only[hg]
  rw[aZ.2 h2,ak]
  cases hc:(Nat.beq off 0&&Nat.beq l.length n) with
  |true =>
   simp only[bS,beq_iff] at hc
   obtain⟨rfl,hn⟩:=hc
   rw[ak,←h3,fY,jy (by omega)]
  |false=>rw[bf,h3]
theorem vE : ∃i,Tryz.prog.info? 5=some i∧i.size=1∧i.bytes=1:=by
 refine⟨_,(show Tryz.prog.info? 5=some ((Tryz.prog.info? 5).getD default) by kernel_rfl),by kernel_rfl,by kernel_rfl⟩
theorem qQ : zeroT Tryz.prog 5=some (.int .u8 0):=by kernel_rfl
theorem B_ {x:V}{m:List Nat}(J:View h x m): srcV h 1 x=some (ofBytes m,m.length):=by
 obtain⟨U,I⟩:=J
 rcases I with⟨rfl|⟨ea,rfl⟩,rfl⟩|⟨id,off,cap,n,cs,st,rfl,hg,h1,h2,h3,h4⟩
 ·rfl
 ·rfl
 ·simp only[srcV,e_]
  rw[(View.rdN (l:=m) ⟨U,.inr ⟨id,off,cap,n,cs,st,rfl,hg,h1,h2,h3,h4⟩⟩).2]
  rfl
theorem xX {s x:V}{m:List Nat}(hw:lY h)(hs:jE h s l)(hx:View h x m)(gW:l.length+m.length≤140737488355328):
  ∃v' h',appendV Tryz.prog h #[23,23] s x=some (v',h')∧jE h' v' (l++m)∧eG 1 (rowIds s) h h'∧(∀i∈rowIds v',i∈rowIds s∨h.next≤i):=by
 obtain⟨i,hi,i1,i2⟩:=vE
 have J:∀b∈l++m,b<256:=fun b hb=>by
  rcases List.mem_append.1 hb with hb|hb
  ·exact hs.1 b hb
  ·exact hx.1 b hb
 have Se:mK (l.length+m.length) 1=true:=wq.2 ⟨gW,by omega⟩
 unfold appendV
 simp only[aW,hi,qQ,i1,i2,V.cells,bI,dz,B_ hx]
 rw[show(Nat.ble 1 1&&Nat.ble 1 4096&&Nat.beq (0+1) 1)=true from rfl,ak]
 cases hm:Nat.beq m.length 0 with
 |true =>
  have J5:m=[]:=yU (beq_iff.1 hm)
  subst J5
  rw[ak,cS]
  have I:=hs
  obtain⟨_,I⟩:=I
  rcases I with⟨rfl,rfl⟩|⟨id,cs,c,rfl,hg,hc⟩|⟨id,rfl,hg,h1⟩
  ·exact⟨_,_,rfl,hs,(eG.refl hw _).mono (fZ _) (fun _ h=>h),fun i hi=>.inl hi⟩
  ·exact⟨_,_,rfl,hs,(eG.refl hw _).mono (fZ _) (fun _ h=>h),fun i hi=>.inl hi⟩
  ·exact⟨_,_,rfl,hs,(eG.refl hw _).mono (fZ _) (fun _ h=>h),fun i hi=>.inl hi⟩
 |false =>
  have J5:1≤m.length:=by
   rcases y8 m.length with h0|h0
   ·rw[qO h0] at hm;cases hm
   ·exact h0
  rw[bf]
  have U:∀(σ:H) (old:List Nat),lY σ→1≤(old++m).length→(∀b∈old++m,b<256)→jE (nP σ 1 (ofBytes old) (ofBytes m) (old.length+m.length)).2 (nP σ 1 (ofBytes old) (ofBytes m) (old.length+m.length)).1 (old++m):=by
   intro σ old _ h1 h2
   refine⟨h2,.inr (.inr ⟨σ.next,?_,?_,h1⟩)⟩
   ·simp only[nP,bT]
   ·simp only[nP]
    rw[ga,aE rfl,e_,bT,rB]
  have I:=hs
  obtain⟨_,I⟩:=I
  rcases I with⟨rfl,rfl⟩|⟨id,cs,c,rfl,hg,hc⟩|⟨id,rfl,hg,h1⟩
  ·simp only
   have aaq:mK m.length 1=true:=by simpa using Se
   rw[aaq,ak]
   have:=U h [] hw (by simpa using J5) (by simpa using hx.1)
   simp only[dz,gw,eE] at this
   exact⟨_,_,rfl,by rw[eE];exact this,(eG.Ab hw _).mono (aP _) (fun i hi=>by simp at hi),fun i hi=>.inr (by simp[rowIds] at hi;omega)⟩
  ·simp only[e_,gw]
   have hv:=jE.view hs
   cases hq:Nat.ble (l.length+m.length) c with
   |true =>
    have AB:=aZ.1 hq
    rw[ak]
    unfold wrN
    simp only[hg,fu]
    rw[hq,ak]
    simp only
    have tI:(cond (Nat.beq l.length 0&&Nat.beq m.length c) (ofBytes m) ((ofBytes l++cs).take l.length++(ofBytes m++(ofBytes l++cs).drop (l.length+m.length))))=ofBytes (l++m)++cs.drop m.length:=by
     have e1:(ofBytes l++cs).take l.length=ofBytes l:=lQ (fu l)
     have e2:(ofBytes l++cs).drop (l.length+m.length)=cs.drop m.length:=by
      rw[zD,fu,show l.length+m.length-l.length=m.length from by omega,kL (by rw[fu];omega),eE]
     cases hz:(Nat.beq l.length 0&&Nat.beq m.length c) with
     |true =>
      simp only[bS,beq_iff] at hz
      have JS:l=[]:=yU hz.1
      subst JS
      have pq:cs.drop m.length=[]:=kL (by simp at hc;omega)
      simp[pq]
     |false=>rw[bf,e1,e2,rB,cE]
    rw[tI]
    refine⟨_,_,rfl,⟨J,.inr (.inl ⟨id,cs.drop m.length,c,by simp,?_,by simp;omega⟩)⟩,(eG.Sd hw (hw id _ hg) _).mono (fZ _) (fun i hi=>by simpa[rowIds] using hi),fun i hi=>.inl (by simpa[rowIds] using hi)⟩
    rw[dO,aE rfl]
   |false =>
    rw[bf,Se,ak,hv.rdN.2]
    simp only
    exact⟨_,_,rfl,U h l hw (by simp;omega) J,(eG.Ab hw _).mono (aP _) (fun i hi=>by simp at hi),fun i hi=>.inr (by simp[rowIds] at hi;omega)⟩
  ·simp only[gx,ak,e_,gw]
   have hv:=jE.view hs
   have Gh:lS h id 0 1=l.length:=by simp[lS,hg]
   have hf:Nat.ble (l.length+m.length) l.length=false:=by
    cases hq:Nat.ble (l.length+m.length) l.length with
    |true=>have:=aZ.1 hq;omega
    |false=>rfl
   rw[Gh,hf,bf,Se,show Nat.ble 2 (l.length+m.length)=true from aZ.2 (by omega),jA,ak,hv.rdN.2,hg]
   simp only
   have qF:lY (h.put id none):=hw.put (hw id _ hg) _
   refine⟨_,_,rfl,U (h.put id none) l qF (by simp;omega) J,?_,fun i hi=>.inr (by simp[rowIds,H.put] at hi;omega)⟩
   refine((eG.Sd hw (hw id _ hg) none).trans (S':=[]) (eG.Ab qF _) (fun i hi=>by simp at hi)).mono (aP _) (fun i hi=>by simpa[rowIds] using hi)
section
variable {a b:Operand} {v:V}
theorem bj (I:bl E x=some v): opE P E h (.move x)=some (v,h):=by simp only[opE,jO,I]
theorem fy (I:bl E x=some v): opE P E h (.assign x)=some (v,h):=by simp only[opE,jO,I]
theorem jf (I:bl E x=some (.bool true))(J:bl E a=some v): opE P E h (.pick x a b)=some (v,h):=by simp only[opE,jO,I,ak,J]
theorem ko (I:bl E x=some (.bool false))(J:bl E b=some v): opE P E h (.pick x a b)=some (v,h):=by simp only[opE,jO,I,bf,J]
theorem jU {o:Nat}(I:bl E x=some (.ptr i o)): opE P E h (.nilCheck x)=some (.ptr i o,h):=by simp only[opE,jO,I]
theorem jg {t:Nat}(I:bl E x=some v)(J:fieldAddrV P t v i=some r): opE P E h (.fieldAddr t x i)=some (r,h):=by simp only[opE,jO,I,J,bz]
theorem aT (I:bl E x=some v)(J:loadV P h t v=some r): opE P E h (.load t x)=some (r,h):=by simp only[opE,jO,I,J,bz]
theorem vF (I:bl E x=some v)(J:bl E y=some u)(U:ic P h t v u=some h₁): opE P E h (.store t x y)=some (cF,h₁):=by simp only[opE,um,I,J,U,sB]
theorem aJ {op:BinOp}(I:bl E x=some v)(J:bl E y=some u)(U:binV P h op t x y v u=some r): opE P E h (.binOp op t x y t')=some (r,h):=by simp only[opE,um,I,J,U,bz]
theorem dQ {op:UnOp}(I:bl E x=some v)(J:unV op v=some r): opE P E h (.unOp op t x)=some (r,h):=by simp only[opE,jO,I,J,bz]
theorem cj {s d:TypeId}(I:bl E x=some v)(J:convV P h s d v=some (r,h₁)): opE P E h (.convert s d x)=some (r,h₁):=by simp only[opE,jO,I,J]
theorem dD (I:bl E x=some v)(J:bl E y=some u)(U:indexAddrV P t v u=some r): opE P E h (.indexAddr t x y)=some (r,h):=by simp only[opE,um,I,J,U,bz]
theorem DQ (I:bl E x=some v)(J:bl E y=some u)(U:indexV P t v u=some r): opE P E h (.index t x y)=some (r,h):=by simp only[opE,um,I,J,U,bz]
theorem bN {l:List V}(I:bl E x=some (.bD l))(J:nth l i=some r): opE P E h (.extract x i)=some (r,h):=by simp only[opE,jO,I,J,bz]
theorem dn {l:List (Nat×V)}(I:lookParts E ps.toList=some l)(J:buildV P t l=some r): opE P E h (.build t ps)=some (r,h):=by simp only[opE,I,J,bz]
theorem gP (I:bl E x=some v)(hs:v.cells.all storable=true): opE P E h (.box t x)=some (.ptr h.next 0,newRow h v.cells):=by simp only[opE,jO,I,hs,ak]
theorem cK (I:zeroT P t=some v): opE P E h (.alloc t)=some (.ptr h.next 0,newRow h v.cells):=by simp only[opE,I]
theorem Lu (I:bl E x=some v)(J:makeIfaceV P t v=some r): opE P E h (.makeInterface t x)=some (r,h):=by simp only[opE,jO,I,J,bz]
theorem Ac {f:Fn}{p q:Array Operand}{l m:List V}(I:lookArgs E p.toList=some l)(J:lookArgs E q.toList=some m): opE P E h (.makeFunc f p q)=some (.fn f l m,h):=by simp only[opE,I,J]
theorem aY {c:Go.Call}(I:c.callee=.builtin .len)(J:lookArgs E c.args.toList=some [v])(U:c.argTypes.toList=[t])(hf:lenV P h t v=some r): opE P E h (.call c)=some (r,h):=by
 simp only[opE,I,J,builtinV,U,hf,mR]
theorem mD {c:Go.Call}(I:c.callee=.builtin .append)(J:lookArgs E c.args.toList=some [v,u])(U:appendV P h c.argTypes v u=some (r,h₁)): opE P E h (.call c)=some (r,h₁):=by
 simp only[opE,I,J,builtinV,U]
theorem rC (I:bl E x=some v)(J:bl E y=some u)(U:makeSliceV P h t v u=some (r,h₁)): opE P E h (.makeSlice t x y)=some (r,h₁):=by simp only[opE,um,I,J,U]
theorem mE {t:Nat}{l:List (Nat×V)}(I:lookParts E ps.toList=some l)(J:buildSliceV P h t n l=some (r,h₁)): opE P E h (.buildSlice t n ps)=some (r,h₁):=by simp only[opE,I,J]
theorem cG {lo hi mx:Option Operand}{p q m:Option V}{p' q' m':Option Nat}(I:bl E x=some v)(J:lookOpt E lo=some p)(U:lookOpt E hi=some q)(h3:lookOpt E mx=some m)
 (g1:iA p=some p')(g2:iA q=some q')(g3:iA m=some m')(hf:sliceV P h t v p' q' m'=some r): opE P E h (.slice t x lo hi mx)=some (r,h):=by simp only[opE,jO,I,J,U,h3,g1,g2,g3,hf,bz]
theorem P9 {s:TypeId}{ok:Bool}(I:bl E x=some v)(J:assertV P v s ok=some r): opE P E h (.typeAssert x t s ok)=some (r,h):=by simp only[opE,jO,I,J,bz]
theorem GG {st:Bool}(I:isAggT P t=some false)(J:T.get h.tr id=some (.cells n cs st))(U:nth cs off=some v): loadV P h t (.ptr id off)=some v:=by
 simp only[loadV,I,xG,J,U]
theorem fN {st:Bool}(I:isAggT P t=some true)(hs:bB P t=some n)(J:T.get h.tr id=some (.cells n cs st)): loadV P h t (.ptr id 0)=some (.agg cs):=by
 simp only[loadV,I,hs,rdN,J,gw]
 rw[aZ.2 (aP n),ak,gx,gx]
 rfl
end
section
variable {ax:Nat}
theorem EM (hw:lY h)(I:b<256):
  ∃v h₁,buildSliceV Tryz.prog h 23 1 [(0,.int .u8 b)]=some (v,h₁)∧jE h₁ v [b]∧eG 1 [] h h₁∧∀i∈rowIds v,h.next≤i:=by
 refine⟨.sl h.next 0 1 (.exact 1),newRow h [.int .u8 b],?_,⟨by simpa using I,.inr (.inl ⟨h.next,[],1,rfl,?_,rfl⟩)⟩,eG.Ab hw _,fun i hi=>by simp[rowIds] at hi;omega⟩
 ·simp only[buildSliceV,aW,gF,qQ,V.cells]
  rfl
 ·rw[newRow,ga,aE rfl];rfl
theorem ay.Lx (J:C.P=Tryz.prog)(hw:lY h)(U:wantE L E o.guard=some true)(hd:o.dst=some d)(hn:Nat.blt d ax=true)(I:o.op=.buildSlice t 1 ps)(ht:t=23)
 (hx:lookParts E ps.toList=some [(0,.int .u8 (b:Int))])(hb:b<256)
 (hr:∀v h₁,jE h₁ v [b]→eG 1 [] h h₁→(∀i∈rowIds v,h.next≤i)→ay C ax L rest ((d,v)::E) h₁ R): ay C ax L (o::rest) E h R:=by
 obtain⟨v,h₁,e1,e2,e3,e4⟩:=EM hw hb
 refine ay.op U hd hn (v:=v) (h₁:=h₁) ?_ (hr v h₁ e2 e3 e4)
 rw[I,ht,J]
 exact mE hx e1
theorem ay.app {c:Go.Call}{s x:V}{m:List Nat}(hP:C.P=Tryz.prog)(hw:lY h)(hg:wantE L E o.guard=some true)(hd:o.dst=some d)(hn:Nat.blt d ax=true)(I:o.op=.call c)(hc:c.callee=.builtin .append)
 (J:c.argTypes = #[23,23])(ha:lookArgs E c.args.toList=some [s,x])(hs:jE h s l)(hx:View h x m)(U:l.length+m.length≤140737488355328)
 (hr:∀v h₁,jE h₁ v (l++m)→eG 1 (rowIds s) h h₁→(∀i∈rowIds v,i∈rowIds s∨h.next≤i)→ay C ax L rest ((d,v)::E) h₁ R): ay C ax L (o::rest) E h R:=by
 obtain⟨v,h₁,e1,e2,e3,e4⟩:=xX hw hs hx U
 refine ay.op hg hd hn (v:=v) (h₁:=h₁) ?_ (hr v h₁ e2 e3 e4)
 rw[I,hP]
 exact mD hc ha (by rw[J];exact e1)
theorem Ca (hw:lY h)(J:c<1073741824):
  ∃v h₁,makeSliceV Tryz.prog h 23 (.int .i64 0) (.int .i64 (c:Int))=some (v,h₁)∧jE h₁ v []∧eG 1 [] h h₁∧∀i∈rowIds v,h.next≤i:=by
 obtain⟨i,hi,i1,i2⟩:=vE
 refine⟨.sl h.next 0 0 (.exact c),h.new (.cells c (repeatL [.int .u8 0] c) false),?_,⟨by simp,.inr (.inl ⟨h.next,repeatL [.int .u8 0] c,c,rfl,?_,?_⟩)⟩,eG.Ab hw _,fun i hi=>by simp[rowIds] at hi;omega⟩
 ·simp only[makeSliceV,aW,hi,qQ,i1,i2,V.cells,bI,dz,eD,e_]
  rw[show(decide ((0:Int)≤0)&&decide ((0:Int)≤(c:Int))&&decide ((c:Int)<1073741824)&&Nat.ble 1 4096&&Nat.beq (0+1) 1&&Nat.ble 1 1)=true by simp;omega,ak]
  rfl
 ·rw[ga,aE rfl];rfl
 ·have:∀n,(repeatL [V.int .u8 0] n).length=n:=fun n=>by
   induction n with
   |zero=>rfl
   |succ n I=>simp[repeatL,I]
  simp[this]
end
section
variable {ax:Nat} {v:V} {a b:Operand}
theorem zm (e:(o.op,wantE L E o.guard,o.dst,Nat.blt d ax,bl E x)=(Op.move x,some true,some d,true,some v))(hw:ay C ax L rest ((d,v)::E) h R): ay C ax L (o::rest) E h R:=by
  simp only[bE] at e;exact ay.op e.2.1 e.2.2.1 e.2.2.2.1 (by rw[e.1];exact bj e.2.2.2.2) hw
theorem za (e:(o.op,wantE L E o.guard,o.dst,Nat.blt d ax,bl E x)=(Op.assign x,some true,some d,true,some v))(hw:ay C ax L rest ((d,v)::E) h R): ay C ax L (o::rest) E h R:=by
  simp only[bE] at e;exact ay.op e.2.1 e.2.2.1 e.2.2.2.1 (by rw[e.1];exact fy e.2.2.2.2) hw
theorem zn (e:(o.op,wantE L E o.guard,o.dst,Nat.blt d ax,bl E x)=(Op.nilCheck x,some true,some d,true,some (V.ptr j k)))(hw:ay C ax L rest ((d,.ptr j k)::E) h R): ay C ax L (o::rest) E h R:=by
  simp only[bE] at e;exact ay.op e.2.1 e.2.2.1 e.2.2.2.1 (by rw[e.1];exact jU e.2.2.2.2) hw
theorem zf (e:(o.op,wantE L E o.guard,o.dst,Nat.blt d ax,bl E x)=(Op.fieldAddr t x i,some true,some d,true,some v))(I:fieldAddrV C.P t v i=some r)(hw:ay C ax L rest ((d,r)::E) h R): ay C ax L (o::rest) E h R:=by
  simp only[bE] at e;exact ay.op e.2.1 e.2.2.1 e.2.2.2.1 (by rw[e.1];exact jg e.2.2.2.2 I) hw
theorem zl (e:(o.op,wantE L E o.guard,o.dst,Nat.blt d ax,bl E x)=(Op.load t x,some true,some d,true,some v))(I:loadV C.P h t v=some r)(hw:ay C ax L rest ((d,r)::E) h R): ay C ax L (o::rest) E h R:=by
  simp only[bE] at e;exact ay.op e.2.1 e.2.2.1 e.2.2.2.1 (by rw[e.1];exact aT e.2.2.2.2 I) hw
theorem ze {l:List V}(e:(o.op,wantE L E o.guard,o.dst,Nat.blt d ax,bl E x,nth l i)=(Op.extract x i,some true,some d,true,some (V.bD l),some r))(hw:ay C ax L rest ((d,r)::E) h R): ay C ax L (o::rest) E h R:=by
  simp only[bE] at e;exact ay.op e.2.1 e.2.2.1 e.2.2.2.1 (by rw[e.1];exact bN e.2.2.2.2.1 e.2.2.2.2.2) hw
theorem zp (e:(o.op,wantE L E o.guard,o.dst,Nat.blt d ax,bl E x,bl E b)=(Op.pick x a b,some true,some d,true,some (V.bool false),some v))(hw:ay C ax L rest ((d,v)::E) h R): ay C ax L (o::rest) E h R:=by
  simp only[bE] at e;exact ay.op e.2.1 e.2.2.1 e.2.2.2.1 (by rw[e.1];exact ko e.2.2.2.2.1 e.2.2.2.2.2) hw
theorem zq (e:(o.op,wantE L E o.guard,o.dst,Nat.blt d ax,bl E x,bl E a)=(Op.pick x a b,some true,some d,true,some (V.bool true),some v))(hw:ay C ax L rest ((d,v)::E) h R): ay C ax L (o::rest) E h R:=by
  simp only[bE] at e;exact ay.op e.2.1 e.2.2.1 e.2.2.2.1 (by rw[e.1];exact jf e.2.2.2.2.1 e.2.2.2.2.2) hw
theorem zb {op:BinOp}(e:(o.op,wantE L E o.guard,o.dst,Nat.blt d ax,bl E x,bl E y)=(Op.binOp op t x y t',some true,some d,true,some v,some u))(I:binV C.P h op t x y v u=some r)(hw:ay C ax L rest ((d,r)::E) h R): ay C ax L (o::rest) E h R:=by
  simp only[bE] at e;exact ay.op e.2.1 e.2.2.1 e.2.2.2.1 (by rw[e.1];exact aJ e.2.2.2.2.1 e.2.2.2.2.2 I) hw
theorem zx (e:(wantE L E o.guard,o.dst,Nat.blt d ax)=(some false,some d,true))(hw:ay C ax L rest ((d,cF)::E) h R): ay C ax L (o::rest) E h R:=by
  simp only[bE] at e;exact ay.no e.1 e.2.1 e.2.2 hw
theorem zo (e:(wantE L E o.guard,o.dst,Nat.blt d ax)=(some true,some d,true))(ho:opE C.P E h o.op=some (v,h₁))(hw:ay C ax L rest ((d,v)::E) h₁ R): ay C ax L (o::rest) E h R:=by
  simp only[bE] at e;exact ay.op e.1 e.2.1 e.2.2 ho hw
theorem zv (I:R E h): ay C ax L [] E h R:=ay.nil I
variable {c f:Code}
theorem zw (hw:WP C ax c E h fun ex E' h'=>match ex with
    |.normal=>WP C ax f E' h' Q
    |ex=>Q ex E' h'): WP C ax (.seq c f) E h Q:=WP.seq hw
theorem zr (I:ops.toList=L)(hw:ay C ax L L E h fun E' h'=>Q .normal E' h'): WP C ax (.region k ops false) E h Q:=WP.region I hw
theorem zg (I:ops.toList=L)(hw:ay C ax L L E h fun E' h'=>WP C ax f E' h' Q): WP C ax (.seq (.region k ops false) f) E h Q:=WP.seq (WP.region I hw)
theorem zi (I:bl E x=some (.bool true))(hw:WP C ax c E h Q): WP C ax (.cond x c f) E h Q:=WP.cond I hw
theorem zj (I:bl E x=some (.bool false))(hw:WP C ax f E h Q): WP C ax (.cond x c f) E h Q:=WP.cond I hw
end
inductive Md where
  |c (c:Code)
  |o (L l:List Oper)
def Cb (C:gy)(ax:Nat)(Q:Ex→List (Nat×V)→H→Prop): List Code→Ex→List (Nat×V)→H→Prop
  |[]=>Q
  |b::K=>fun ex E' h'=>match ex with
    |.normal=>WP C ax b E' h' (Cb C ax Q K)
    |ex=>Cb C ax Q K ex E' h'
def Sf : List (Nat×V)→Nat→Option V
  |[],_=>none
  |(d,v)::E,k=>cond (Nat.beq d k) (some v) (Sf E k)
theorem Nt : ∀(E:List (Nat×V)) (k:Nat),Sf E k=look E k
  |[],_=>rfl
  |(d,v)::E,k=>by simp only[Sf,look,Nt E k]
def Cc (E:List (Nat×V)): Operand→Option V
  |.tmp t=>Sf E t
  |.const c=>ofValue c
  |.global _=>none
  |.func f=>some (.fn (.func f) [] [])
theorem Nu (E:List (Nat×V))(x:Operand): Cc E x=bl E x:=by cases x<;>first|rfl|exact Nt _ _
def VW (E:List (Nat×V)): Op→Option V
  |.move x=>Cc E x
  |.assign x=>Cc E x
  |.nilCheck x=>match Cc E x with
    |some (.ptr j k)=>some (.ptr j k)
    |_=>none
  |.extract x i=>match Cc E x with
    |some (.bD l)=>nth l i
    |_=>none
  |.pick x a b=>match Cc E x with
    |some (.bool true)=>Cc E a
    |some (.bool false)=>Cc E b
    |_=>none
  |_=>none
def runM (ax:Nat): Nat→Md→List (Nat×V)→List Code→Option (Md×List (Nat×V)×List Code)
  |0,m,E,K=>some (m,E,K)
  |n+1,.o _ [],E,b::K=>runM ax n (.c b) E K
  |n+1,.o L (o::l),E,K=>match wantE L E o.guard,o.dst with
    |some false,some d=>cond (Nat.blt d ax) (runM ax n (.o L l) ((d,cF)::E) K) none
    |some true,some d=>match VW E o.op with
      |some v=>cond (Nat.blt d ax) (runM ax n (.o L l) ((d,v)::E) K) none
      |none=>none
    |_,_=>none
  |n+1,.c (.seq a b),E,K=>runM ax n (.c a) E (b::K)
  |n+1,.c (.region _ ops false),E,K=>runM ax n (.o ops.toList ops.toList) E K
  |n+1,.c (.cond x a b),E,K=>match Cc E x with
    |some (.bool true)=>runM ax n (.c a) E K
    |some (.bool false)=>runM ax n (.c b) E K
    |_=>none
  |n+1,.c .skip,E,b::K=>runM ax n (.c b) E K
  |_+1,_,_,_=>none
abbrev Gl (C:gy)(ax:Nat)(h:H)(Q:Ex→List (Nat×V)→H→Prop)(m:Md)(E:List (Nat×V))(K:List Code): Prop:=match m with
  |.c c=>WP C ax c E h (Cb C ax Q K)
  |.o L l=>ay C ax L l E h fun E' h'=>Cb C ax Q K .normal E' h'
class GH (C:gy)(ax:Nat)(R:List (Nat×V)→H→Prop)(Q:outParam (Ex→List (Nat×V)→H→Prop))where
  K:List Code
  eq:R=fun E' h'=>Cb C ax Q K .normal E' h'
class Sg (C:gy)(ax:Nat)(R:Ex→List (Nat×V)→H→Prop)(Q:outParam (Ex→List (Nat×V)→H→Prop))where
  K:List Code
  eq:R=Cb C ax Q K
instance (priority:=50) (C:gy) (ax:Nat) (R:List (Nat×V)→H→Prop):GH C ax R (fun _=>R):=⟨[],rfl⟩
instance (priority:=60) (C:gy) (ax:Nat) (Q:Ex→List (Nat×V)→H→Prop):GH C ax (fun E' h'=>Q .normal E' h') Q:=⟨[],rfl⟩
instance (priority:=70) (C:gy) (ax:Nat) (f:Code) (Q:Ex→List (Nat×V)→H→Prop) (K:List Code):GH C ax (fun E' h'=>WP C ax f E' h' (Cb C ax Q K)) Q:=⟨f::K,rfl⟩
instance (priority:=65) (C:gy) (ax:Nat) (f:Code) (Q:Ex→List (Nat×V)→H→Prop):GH C ax (fun E' h'=>WP C ax f E' h' Q) Q:=⟨[f],rfl⟩
instance (priority:=80) (C:gy) (ax:Nat) (K:List Code) (Q:Ex→List (Nat×V)→H→Prop):GH C ax (fun E' h'=>Cb C ax Q K .normal E' h') Q:=⟨K,rfl⟩
instance (priority:=50) (C:gy) (ax:Nat) (Q:Ex→List (Nat×V)→H→Prop):Sg C ax Q Q:=⟨[],rfl⟩
instance (priority:=80) (C:gy) (ax:Nat) (K:List Code) (Q:Ex→List (Nat×V)→H→Prop):Sg C ax (Cb C ax Q K) Q:=⟨K,rfl⟩
section
variable {ax:Nat} {l:List Oper} {m m':Md} {K K':List Code} {f:Code}
theorem VX {o:Op}{v:V}(e:VW E o=some v): opE C.P E h o=some (v,h):=by
  unfold VW at e
  simp only[Nu] at e
  split at e
  · exact bj e
  · exact fy e
  · split at e
    · rename_i I
      cases e;exact jU I
    · cases e
  · split at e
    · rename_i I
      exact bN I e
    · cases e
  · split at e
    · rename_i I;exact jf I e
    · rename_i I;exact ko I e
    · cases e
  · cases e
theorem J6 : ∀(n:Nat) (m:Md) (E:List (Nat×V)) (K:List Code),runM ax n m E K=some (m',E',K')→Gl C ax h Q m' E' K'→Gl C ax h Q m E K:=by
  intro n
  induction n with
  |zero=>intro m E K e hw;simp only[runM,aG,bE] at e;obtain⟨rfl,rfl,rfl⟩:=e;exact hw
  |succ n I =>
    intro m E K e hw
    unfold runM at e
    split at e
    · rename_i he;cases he
    · rename_i he;cases he
      exact ay.nil (I _ _ _ e hw)
    · rename_i he;cases he
      split at e
      · rename_i d U hd
        cases J:Nat.blt d ax with
        |false=>rw[J] at e;cases e
        |true=>rw[J] at e;exact ay.no U hd J (I _ _ _ e hw)
      · rename_i d U hd
        split at e
        · rename_i v hv
          cases J:Nat.blt d ax with
          |false=>rw[J] at e;cases e
          |true=>rw[J] at e;exact ay.op U hd J (VX hv) (I _ _ _ e hw)
        · cases e
      · cases e
    · rename_i he;cases he
      exact WP.seq (I _ _ _ e hw)
    · rename_i he;cases he
      exact WP.region rfl (I _ _ _ e hw)
    · rename_i he;cases he
      rw[Nu] at e
      split at e
      · rename_i hx;exact WP.cond hx (I _ _ _ e hw)
      · rename_i hx;exact WP.cond hx (I _ _ _ e hw)
      · cases e
    · rename_i he;cases he
      exact WP.skip (I _ _ _ e hw)
    · cases e
theorem zk (n:Nat)[a:GH C ax R Q](e:runM ax n (.o L l) E (GH.K C ax R)=some (m',E',K'))(hw:Gl C ax h Q m' E' K'): ay C ax L l E h R:=by
  rw[a.eq];exact J6 n (.o L l) E _ e hw
theorem zK {I:Ex→List (Nat×V)→H→Prop}(n:Nat)[a:Sg C ax I Q](e:runM ax n (.c f) E (Sg.K C ax I)=some (m',E',K'))(hw:Gl C ax h Q m' E' K'): WP C ax f E h I:=by
  rw[a.eq];exact J6 n (.c f) E _ e hw
end
section
variable {ax:Nat} {l:List Oper}
def OpR (C:gy)(E:List (Nat×V))(h:H)(o:Oper)(R:V→H→Prop): Prop:=∃v h₁,R v h₁∧∀env,kx env E→∃N,evOp C (ev C N) env h o=some (v,h₁)
theorem OpR.call {k:FuncId}{R:V→H→Prop}(J:o.op=.call cl)(hc:cl.callee=.value x)(hx:bl E x=some (.fn (.func k) first cap))
 (ha:lookArgs E cl.args.toList=some args)(I:Am.Call C k (first++(args++cap)) h R): OpR C E h o R:=by
 obtain⟨v,h₁,U,hr⟩:=I
 exact⟨v,h₁,hr,fun env hE=>EA hE J hc hx ha U⟩
theorem OpR.of {v:V}{R:V→H→Prop}(ho:opE C.P E h o.op=some (v,h₁))(I:R v h₁): OpR C E h o R:=⟨v,h₁,I,fun _ J=>⟨0,B4 J ho⟩⟩
theorem ay.any (hg:wantE L E o.guard=some true)(hd:o.dst=some d)(hn:Nat.blt d ax=true)(ho:OpR C E h o xS)
 (hw:∀v h₁,xS v h₁→ay C ax L rest ((d,v)::E) h₁ R): ay C ax L (o::rest) E h R:=by
 intro env J
 obtain⟨v,h₁,hr,U⟩:=ho
 obtain⟨N,hN⟩:=U env J
 obtain⟨M,I,h',E',h1,h2,h3⟩:=hw v h₁ hr (env.set d (some v)) (J.set d v)
 refine⟨Nat.max N M,I,h',E',?_,h2,h3⟩
 simp only[evOps,kz J hg,ak,mu (gz (o9 N M)) hN,St.put,hd,hn]
 exact sK (gz (o8 N M)) _ _ _ h1
def Lz : List (Env×V)→List (List (Nat×V)×V)→Prop
 |[],[]=>True
 |x::l,y::m=>kx x.1 y.1∧x.2=y.2∧Lz l m
 |_,_=>False
def au (C:gy)(ax:Nat)(L l:List Oper)(E:List (Nat×V))(h:H)(hs:List H)(Q:List (Nat×V)→H→List (List (Nat×V)×V)→List H→Prop): Prop :=
 ∀env,kx env E→∃N I h' E' tr ts J,trace C (ev C N) L l ⟨env,ax,h⟩ hs=some (tr,J,⟨I,ax,h'⟩)∧kx I E'∧Lz tr ts∧Q E' h' ts J
variable {Q:List (Nat×V)→H→List (List (Nat×V)×V)→List H→Prop}
theorem au.nil (I:Q E h [] hs): au C ax L [] E h hs Q:=fun env J=>⟨0,env,h,E,[],[],hs,rfl,J,aa,I⟩
theorem au.any {e:Bool}(hg:wantE L E o.guard=some true)(hd:o.dst=some d)(hn:Nat.blt d ax=true)(he:isEff C o.op=e)(ho:OpR C E h o xS)
 (hw:∀v h₁,xS v h₁→au C ax L rest ((d,v)::E) h₁ (cond e (hs++[h₁]) hs) fun E' h' ts I=>Q E' h' ((E,v)::ts) I): au C ax L (o::rest) E h hs Q:=by
 intro env U
 obtain⟨v,h₁,hr,tE⟩:=ho
 obtain⟨N,hN⟩:=tE env U
 obtain⟨M,J,h',E',tr,ts,I,h1,h2,h3,h4⟩:=hw v h₁ hr (env.set d (some v)) (U.set d v)
 refine⟨Nat.max N M,J,h',E',(env,v)::tr,(E,v)::ts,I,?_,h2,⟨U,rfl,h3⟩,h4⟩
 simp only[trace,kz U hg,ak,mu (gz (o9 N M)) hN,St.put,hd,hn,he]
 rw[wz (gz (o8 N M)) _ _ _ _ h1]
theorem au.ik {e:Bool}(hg:wantE L E o.guard=some true)(hd:o.dst=none)(he:isEff C o.op=e)(ho:OpR C E h o xS)
 (hw:∀v h₁,xS v h₁→au C ax L rest E h₁ (cond e (hs++[h₁]) hs) fun E' h' ts I=>Q E' h' ((E,v)::ts) I): au C ax L (o::rest) E h hs Q:=by
 intro env U
 obtain⟨v,h₁,hr,tE⟩:=ho
 obtain⟨N,hN⟩:=tE env U
 obtain⟨M,J,h',E',tr,ts,I,h1,h2,h3,h4⟩:=hw v h₁ hr env U
 refine⟨Nat.max N M,J,h',E',(env,v)::tr,(E,v)::ts,I,?_,h2,⟨U,rfl,h3⟩,h4⟩
 simp only[trace,kz U hg,ak,mu (gz (o9 N M)) hN,St.put,hd,he]
 rw[wz (gz (o8 N M)) _ _ _ _ h1]
theorem au.op {v:V}(J:wantE L E o.guard=some true)(U:o.dst=some d)(hn:Nat.blt d ax=true)(he:isEff C o.op=false)(ho:opE C.P E h o.op=some (v,h))
 (hw:au C ax L rest ((d,v)::E) h hs fun E' h' ts I=>Q E' h' ((E,v)::ts) I): au C ax L (o::rest) E h hs Q :=
 au.any J U hn he (OpR.of (R:=fun v' h'=>v'=v∧h'=h) ho ⟨rfl,rfl⟩) (fun v' h' hr=>by obtain⟨rfl,rfl⟩:=hr;exact hw)
theorem au.no {e:Bool}(hg:wantE L E o.guard=some false)(hd:o.dst=some d)(hn:Nat.blt d ax=true)(he:isEff C o.op=e)
 (hw:au C ax L rest ((d,cF)::E) h (cond e (hs++[h]) hs) fun E' h' ts I=>Q E' h' ((E,cF)::ts) I): au C ax L (o::rest) E h hs Q:=by
 intro env U
 obtain⟨M,J,h',E',tr,ts,I,h1,h2,h3,h4⟩:=hw (env.set d (some cF)) (U.set d cF)
 refine⟨M,J,h',E',(env,cF)::tr,(E,cF)::ts,I,?_,h2,⟨U,rfl,h3⟩,h4⟩
 simp only[trace,kz U hg,bf,St.put,hd,hn,ak,he]
 rw[h1]
def GI (C:gy)(L:List Oper)(o:Oper)(x:List (Nat×V)×V)(h:H): Prop :=
 wantE L x.1 o.guard=some false∨(wantE L x.1 o.guard=some true∧(∃h',opE C.P x.1 h o.op=some (x.2,h'))∧x.2.beq x.2=true)
def FN (C:gy)(L:List Oper)(an es:List Nat)(hs:List H): List Oper→List (List (Nat×V)×V)→Nat→Prop
 |o::l,x::tr,i=>(isEff C o.op=true∨(pY ((nth an i).getD 0) es&&Nat.beq (lq ((nth an i).getD 0) es) (oo an i es))=true ∨
   (pY ((nth an i).getD 0) es=true∧∀h∈(hs.drop (lq ((nth an i).getD 0) es)).take (oo an i es+1-lq ((nth an i).getD 0) es),GI C L o x h))∧FN C L an es hs l tr (i+1)
 |[],[],_=>True
 |_,_,_=>False
theorem Nv {x:Env×V}{y:List (Nat×V)×V}(J:kx x.1 y.1)(hv:x.2=y.2): ∀(hs:List H),(∀h∈hs,GI C L o y h)→sameIn C self L o x hs=true:=by
 intro hs
 induction hs with
 |nil=>intro _;rfl
 |cons h hs ih =>
  intro I
  simp only[sameIn]
  rcases I h cn with U|⟨U,⟨h',ho⟩,hb⟩
  ·rw[kz J U,bf]
  ·rw[kz J U,ak,B4 J ho]
   simp only
   rw[hv,hb,ak]
   exact ih (fun h hh=>I h (b9 _ hh))
theorem Nw {an:List Nat}: ∀(l:List Oper) (tr:List (Env×V)) (ts:List (List (Nat×V)×V)) (i:Nat),Lz tr ts→FN C L an es hs l ts i→stayOk C self L an es hs l tr i=true:=by
 intro l
 induction l with
 |nil=>intro tr ts i U J;cases tr<;>cases ts<;>first|rfl|(exact J.elim)|(exact U.elim)
 |cons o l ih =>
  intro tr ts i U J
  cases tr with
  |nil=>cases ts with
   |nil=>exact J.elim
   |cons y ts=>exact U.elim
  |cons x tr =>
   cases ts with
   |nil=>exact U.elim
   |cons y ts =>
    obtain⟨n1,n2,n3⟩:=U
    obtain⟨s1,s2⟩:=J
    simp only[stayOk]
    have I:=ih tr ts (i+1) n3 s2
    cases he:isEff C o.op with
    |true=>rw[ak];exact I
    |false =>
     rw[bf]
     rcases s1 with s1|s1|⟨s1,s3⟩
     ·rw[he] at s1;cases s1
     ·rw[s1,ak];exact I
     ·cases hq:(pY ((nth an i).getD 0) es&&Nat.beq (lq ((nth an i).getD 0) es) (oo an i es)) with
      |true=>rw[ak];exact I
      |false=>rw[bf,s1,Nv n1 n2 _ s3,jA,ak];exact I
theorem WP.draw {Q:Ex→List (Nat×V)→H→Prop}(U:ops.toList=L)(J:oN C false L=true)
 (hw:au C ax L L E h [h] fun E' h' ts hs=>FN C L (ancs L []) (eM C L 0) hs L ts 0∧Q .normal E' h'): WP C ax (.region id ops true) E h Q:=by
 intro env hE
 obtain⟨N,I,h',E',tr,ts,Zt,h1,h2,h3,h4,h5⟩:=hw env hE
 refine⟨N+1,.normal,I,h',E',?_,h2,h5⟩
 subst U
 rw[kn]
 simp only[evStep,ak,pZ,J,h1,Nw _ _ _ _ h3 h4]
end
def planOk (C:gy)(an es:List Nat): List Oper→List (Option (Nat×Nat))→Nat→Bool
 |[],[],_=>true
 |o::l,p::ps,i=>(match p with
   |none=>isEff C o.op||(pY ((nth an i).getD 0) es&&Nat.beq (lq ((nth an i).getD 0) es) (oo an i es))
   |some (lo,n)=>pY ((nth an i).getD 0) es&&Nat.beq lo (lq ((nth an i).getD 0) es)&&Nat.beq n (oo an i es+1-lq ((nth an i).getD 0) es))&&planOk C an es l ps (i+1)
 |_,_,_=>false
def Cd (C:gy)(L:List Oper)(hs:List H): List Oper→List (List (Nat×V)×V)→List (Option (Nat×Nat))→Prop
 |o::l,x::tr,p::ps=>(match p with
   |none=>True
   |some (lo,n)=>∀h∈(hs.drop lo).take n,GI C L o x h)∧Cd C L hs l tr ps
 |[],[],_=>True
 |_,_,_=>False
theorem Cd.stay {an:List Nat}: ∀(l:List Oper) (ts:List (List (Nat×V)×V)) (ps:List (Option (Nat×Nat))) (i:Nat),planOk C an es l ps i=true→Cd C L hs l ts ps→FN C L an es hs l ts i:=by
 intro l
 induction l with
 |nil=>intro ts ps i U J;cases ts with
  |nil=>trivial
  |cons x ts=>exact J.elim
 |cons o l ih =>
  intro ts ps i U J
  cases ts with
  |nil=>cases ps<;>exact J.elim
  |cons x ts =>
   cases ps with
   |nil=>exact J.elim
   |cons p ps =>
    simp only[planOk,bS] at U
    obtain⟨I,a2⟩:=U
    obtain⟨b1,b2⟩:=J
    refine⟨?_,ih ts ps (i+1) a2 b2⟩
    cases p with
    |none =>
     simp only[Dv] at I
     rcases I with I|I
     ·exact .inl I
     ·exact .inr (.inl I)
    |some q =>
     obtain⟨lo,n⟩:=q
     simp only[bS,beq_iff] at I
     obtain⟨⟨c1,c2⟩,c3⟩:=I
     refine .inr (.inr ⟨c1,?_⟩)
     subst c2
     subst c3
     exact b1
theorem WP.drawn {ax:Nat}(ps:List (Option (Nat×Nat)))(hl:ops.toList=L)(J:oN C false L=true)
 (hp:planOk C (ancs L []) (eM C L 0) L ps 0=true)
 (hw:au C ax L L E h [h] fun E' h' ts hs=>Cd C L hs L ts ps∧Q .normal E' h'): WP C ax (.region id ops true) E h Q:=by
 refine WP.draw hl J ?_
 intro env hE
 obtain⟨N,I,h',E',tr,ts,U,h1,h2,h3,h4,h5⟩:=hw env hE
 exact⟨N,I,h',E',tr,ts,U,h1,h2,h3,Cd.stay _ _ _ _ hp h4,h5⟩
theorem dR {a b:H}{l:List H}{p:H→Prop}(J:p a)(U:p b): ∀x∈((a::b::l).drop 0).take 2,p x:=by
 intro x I
 simp only[fY,List.take_succ_cons,List.take_zero,mT,nM,sW] at I
 rcases I with rfl|rfl
 ·exact J
 ·exact U
theorem rN {a b c:H}{l:List H}{p:H→Prop}(J:p a)(U:p b)(hc:p c): ∀x∈((a::b::c::l).drop 0).take 3,p x:=by
 intro x I
 simp only[fY,List.take_succ_cons,List.take_zero,mT,nM,sW] at I
 rcases I with rfl|rfl|rfl
 ·exact J
 ·exact U
 ·exact hc
theorem dL (k:IntKind): ikBeq k k=true:=by cases k<;>rfl
theorem lu (n:Int): intBeq n n=true:=by cases n<;>simp[intBeq]
theorem AJ (c:Cap): c.beq c=true:=by cases c<;>simp[Cap.beq]
theorem Ce (a b c:Nat)(d:Cap): (V.sl a b c d).beq (.sl a b c d)=true:=by simp[V.beq,AJ]
theorem dr {v:V}(I:View h v l): v.beq v=true:=by
 obtain⟨_,I⟩:=I
 rcases I with⟨rfl|⟨J,rfl⟩,_⟩|⟨id,off,cap,n,cs,st,rfl,_⟩
 ·simp[V.beq]
 ·simp[V.beq]
 ·exact Ce _ _ _ _
section
variable {ax:Nat} {Q:List (Nat×V)→H→List (List (Nat×V)×V)→List H→Prop} {v:V} {a b:Operand}
theorem zM (e:(o.op,wantE L E o.guard,o.dst,Nat.blt d ax,isEff C o.op,bl E x)=(Op.move x,some true,some d,true,false,some v))(hw:au C ax L rest ((d,v)::E) h hs fun E' h' ts I=>Q E' h' ((E,v)::ts) I): au C ax L (o::rest) E h hs Q:=by
  simp only[bE] at e;exact au.op e.2.1 e.2.2.1 e.2.2.2.1 e.2.2.2.2.1 (by rw[e.1];exact bj e.2.2.2.2.2) hw
theorem zA (e:(o.op,wantE L E o.guard,o.dst,Nat.blt d ax,isEff C o.op,bl E x)=(Op.assign x,some true,some d,true,false,some v))(hw:au C ax L rest ((d,v)::E) h hs fun E' h' ts I=>Q E' h' ((E,v)::ts) I): au C ax L (o::rest) E h hs Q:=by
  simp only[bE] at e;exact au.op e.2.1 e.2.2.1 e.2.2.2.1 e.2.2.2.2.1 (by rw[e.1];exact fy e.2.2.2.2.2) hw
theorem zN (e:(o.op,wantE L E o.guard,o.dst,Nat.blt d ax,isEff C o.op,bl E x)=(Op.nilCheck x,some true,some d,true,false,some (V.ptr j k)))(hw:au C ax L rest ((d,.ptr j k)::E) h hs fun E' h' ts I=>Q E' h' ((E,.ptr j k)::ts) I): au C ax L (o::rest) E h hs Q:=by
  simp only[bE] at e;exact au.op e.2.1 e.2.2.1 e.2.2.2.1 e.2.2.2.2.1 (by rw[e.1];exact jU e.2.2.2.2.2) hw
theorem zF (e:(o.op,wantE L E o.guard,o.dst,Nat.blt d ax,isEff C o.op,bl E x)=(Op.fieldAddr t x i,some true,some d,true,false,some v))(J:fieldAddrV C.P t v i=some r)(hw:au C ax L rest ((d,r)::E) h hs fun E' h' ts I=>Q E' h' ((E,r)::ts) I): au C ax L (o::rest) E h hs Q:=by
  simp only[bE] at e;exact au.op e.2.1 e.2.2.1 e.2.2.2.1 e.2.2.2.2.1 (by rw[e.1];exact jg e.2.2.2.2.2 J) hw
theorem zL (e:(o.op,wantE L E o.guard,o.dst,Nat.blt d ax,isEff C o.op,bl E x)=(Op.load t x,some true,some d,true,false,some v))(J:loadV C.P h t v=some r)(hw:au C ax L rest ((d,r)::E) h hs fun E' h' ts I=>Q E' h' ((E,r)::ts) I): au C ax L (o::rest) E h hs Q:=by
  simp only[bE] at e;exact au.op e.2.1 e.2.2.1 e.2.2.2.1 e.2.2.2.2.1 (by rw[e.1];exact aT e.2.2.2.2.2 J) hw
theorem zO (e:(wantE L E o.guard,o.dst,Nat.blt d ax,isEff C o.op)=(some true,some d,true,false))(ho:opE C.P E h o.op=some (v,h))(hw:au C ax L rest ((d,v)::E) h hs fun E' h' ts I=>Q E' h' ((E,v)::ts) I): au C ax L (o::rest) E h hs Q:=by
  simp only[bE] at e;exact au.op e.1 e.2.1 e.2.2.1 e.2.2.2 ho hw
end
abbrev PM := Nat→Option Obj
variable {m m':PM}
def PM.le (a b:PM): Prop:=∀i o,a i=some o→b i=some o
def PM.dj (a b:PM): Prop:=∀i,a i=none∨b i=none
def PM.upd (m:PM)(id:Nat)(o:Option Obj): PM:=fun i=>if i=id then o else m i
def PM.un (a b:PM): PM:=fun i=>(a i).orElse fun _=>b i
theorem PM.le_refl (a:PM): a.le a:=fun _ _ h=>h
theorem PM.le_trans {a b c:PM}(x:a.le b)(y:b.le c): a.le c:=fun i o h=>y i o (x i o h)
theorem PM.nu {a b I J:PM}(hd:a.dj b)(ha:I.le a)(hb:J.le b): I.dj J:=by
 intro i
 rcases hd i with h|h
 ·left
  cases U:I i with
  |none=>rfl
  |some o=>rw[ha i o U] at h;cases h
 ·right
  cases U:J i with
  |none=>rfl
  |some o=>rw[hb i o U] at h;cases h
theorem PM.pG {a b:PM}(h:a.dj b): b.dj a:=fun i=>(h i).symm
theorem PM.GJ (a b:PM): a.le (a.un b):=fun i o h=>by simp[PM.un,h]
theorem PM.GK {a b:PM}(I:a.dj b): b.le (a.un b):=fun i o h=>by
 rcases I i with J|J<;>grind[PM.un]
theorem PM.Cf {a b c:PM}(J:a.le c)(U:b.le c): (a.un b).le c:=fun i o h=>by
 simp only[PM.un] at h
 cases I:a i with
 |none=>rw[I] at h;exact U i o h
 |some x=>rw[I] at h;injection h with h;subst h;exact J i _ I
theorem PM.Cg {a b c:PM}(I:a.dj c)(J:b.dj c): (a.un b).dj c:=fun i=>by
 rcases I i with h|h
 ·rcases J i with U|U<;>grind[PM.un]
 ·grind
def ViewM (m:PM)(v:V)(l:List Nat): Prop:=(∀b∈l,b<256)∧(((v=.bw∨∃a,v=.sle a)∧l=[]) ∨
 ∃id off cap n cs st,v=.sl id off l.length cap∧m id=some (.cells n cs st)∧cs.length=n∧off+l.length≤n∧(cs.drop off).take l.length=ofBytes l ∧
  (match cap with|.exact c=>l.length≤c|.rest e _=>e=1))
def sj (m:PM)(v:V)(l:List Nat): Prop:=(∀b∈l,b<256)∧((v=.bw∧l=[]) ∨
 (∃id cs c,v=.sl id 0 l.length (.exact c)∧m id=some (.cells c (ofBytes l++cs) false)∧l.length+cs.length=c) ∨
 (∃id,v=.sl id 0 l.length (.rest 1 0)∧m id=some (.cells l.length (ofBytes l) false)∧1≤l.length))
theorem ViewM.up {v:V}(h:ViewM m v l)(hm:PM.le m m'): ViewM m' v l:=by
 obtain⟨J,I⟩:=h
 refine⟨J,?_⟩
 rcases I with I|⟨id,off,cap,n,cs,st,e,U,h3⟩
 ·grind
 ·exact .inr ⟨id,off,cap,n,cs,st,e,hm _ _ U,h3⟩
theorem sj.up {v:V}(h:sj m v l)(hm:PM.le m m'): sj m' v l:=by
 obtain⟨h1,U⟩:=h
 refine⟨h1,?_⟩
 rcases U with U|⟨id,cs,c,e,I,J⟩|⟨id,e,I,J⟩
 ·grind
 ·exact .inr (.inl ⟨id,cs,c,e,hm _ _ I,J⟩)
 ·exact .inr (.inr ⟨id,e,hm _ _ I,J⟩)
theorem sj.view {v:V}(I:sj m v l): ViewM m v l:=by
 obtain⟨J,I⟩:=I
 refine⟨J,?_⟩<;>grind[fu]
def uQ (m:PM)(k:Nat)(v:V)(cs:List V): Prop:=cs.all storable=true∧((v=.bw∧cs=[]) ∨
 ∃id n cap N rest,v=.sl id 0 n cap∧m id=some (.cells N (cs++rest) false)∧cs.length=n*k∧cs.length+rest.length=N∧rest.all storable=true ∧
  (match cap with|.exact c=>N=c*k∧n≤c|.rest e alt=>e=k∧alt=0∧rest=[]∧1≤n))
theorem uQ.up {v:V}(h:uQ m k v cs)(hm:PM.le m m'): uQ m' k v cs:=by
 obtain⟨J,I⟩:=h
 refine⟨J,?_⟩
 rcases I with I|⟨id,n,cap,N,rest,e,U,h3⟩
 ·grind
 ·exact .inr ⟨id,n,cap,N,rest,e,hm _ _ U,h3⟩
inductive aS : Type 1 where
 |pt (id:Nat) (o:Obj)
 |ro (id:Nat) (o:Obj)
 |pu (φ:Prop)
 |buf (v:V) (l:List Nat)
 |cm (v:V) (l:List Nat)
 |VY (v:V) (l:List Nat)
 |arr (k:Nat) (v:V) (cs:List V)
 |an (A B:aS)
 |xs {α:Type} (f:α→aS)
 |all {α:Type} (f:α→aS)
 |se (A B:aS)
variable {A B X:aS} {S S':List aS}
abbrev pt := aS.pt
abbrev ro := aS.ro
abbrev pu := aS.pu
abbrev xs {α:Type}(f:α→aS): aS:=aS.xs f
abbrev bH := aS.buf
abbrev AK := aS.cm
abbrev dc := aS.VY
def aS.p : aS→PM→PM→Prop
 |.pt id o,m,_=>m id=some o
 |.ro id o,_,r=>r id=some o
 |.pu φ,_,_=>φ
 |.buf v l,m,_=>sj m v l
 |.cm v l,_,r=>ViewM r v l
 |.VY v l,m,r=>ViewM m v l∨ViewM r v l
 |.arr k v cs,m,_=>uQ m k v cs
 |.an A B,m,r=>A.p m r∧B.p m r
 |.xs f,m,r=>∃x,(f x).p m r
 |.all f,m,r=>∀x,(f x).p m r
 |.se A B,m,r=>∃a b,PM.dj a b∧PM.le a m∧PM.le b m∧A.p a r∧B.p b r
theorem aS.mono : ∀(A:aS) (m m' r J:PM),PM.le m m'→PM.le r J→A.p m r→A.p m' J:=by
 intro A
 induction A with
 |pt id o=>intro m m' r J hm I h;exact hm _ _ h
 |ro id o=>intro m m' r J hm I h;exact I _ _ h
 |pu φ=>intro m m' r J hm I h;exact h
 |buf v l=>intro m m' r J hm I h;exact sj.up h hm
 |cm v l=>intro m m' r J hm I h;exact ViewM.up h I
 |VY v l =>
  intro m m' r J hm I h
  rcases h with h|h
  ·exact .inl (ViewM.up h hm)
  ·exact .inr (ViewM.up h I)
 |arr k v cs=>intro m m' r J hm I h;exact uQ.up h hm
 |an A B U ib=>intro m m' r J hm I h;exact⟨U _ _ _ _ hm I h.1,ib _ _ _ _ hm I h.2⟩
 |xs f ih=>intro m m' r J hm I h;obtain⟨x,hx⟩:=h;exact⟨x,ih x _ _ _ _ hm I hx⟩
 |all f ih=>intro m m' r J hm I h x;exact ih x _ _ _ _ hm I (h x)
 |se A B U ib =>
  intro m m' r J hm I h
  obtain⟨a,b,h1,h2,h3,h4,h5⟩:=h
  exact⟨a,b,h1,PM.le_trans h2 hm,PM.le_trans h3 hm,U _ _ _ _ (PM.le_refl _) I h4,ib _ _ _ _ (PM.le_refl _) I h5⟩
def star : List aS→aS
 |[]=>.pu True
 |A::L=>.se A (star L)
theorem aS.up {r I:PM}(h:A.p m r)(hm:m.le m')(J:r.le I): A.p m' I:=A.mono m m' r I hm J h
def cX (A B:aS): Prop:=∀m r,A.p m r→B.p m r
def aF (A:aS): Prop:=∀m r,A.p m r→A.p (fun _=>none) r
theorem aF.ro (id:Nat)(o:Obj): aF (.ro id o):=fun _ _ h=>h
theorem aF.pu (φ:Prop): aF (.pu φ):=fun _ _ h=>h
theorem aF.xs {f:α→aS}(h:∀x,aF (f x)): aF (.xs f):=fun m r ⟨x,I⟩=>⟨x,h x m r I⟩
theorem aF.an (I:aF A)(J:aF B): aF (.an A B):=fun m r h=>⟨I m r h.1,J m r h.2⟩
def getA : List aS→Nat→Option aS
 |[],_=>none
 |A::_,0=>some A
 |_::L,k+1=>getA L k
theorem tf (I:getA S k=some X): getA (A::S) (k+1)=some X:=I
def setA : List aS→Nat→aS→List aS
 |[],_,_=>[]
 |_::L,0,B=>B::L
 |A::L,k+1,B=>A::setA L k B
def aQ : List aS→Nat→List aS
 |[],_=>[]
 |_::L,0=>L
 |A::L,k+1=>A::aQ L k
def bringA (S:List aS): List Nat→List aS
 |[]=>S
 |k::ks=>match getA S k with
  |some A=>A::bringA (aQ S k) ks
  |none=>[]
def LA (k:Nat): List Nat→Nat
 |[]=>0
 |x::l=>cond (Nat.blt x k) (LA k l+1) (LA k l)
def VZ : List Nat→List Nat→List Nat
 |_,[]=>[]
 |seen,k::ks=>(k-LA k seen)::VZ (k::seen) ks
theorem Nx {L:List aS}{r:PM}(h:(star (A::B::L)).p m r): (star (B::A::L)).p m r:=by
 obtain⟨a,b,U,h2,h3,h4,c,d,g1,g2,g3,g4,g5⟩:=h
 have J:a.dj c:=PM.nu U (PM.le_refl _) g2
 have I:a.dj d:=PM.nu U (PM.le_refl _) g3
 exact⟨c,a.un d,PM.pG (PM.Cg J (PM.pG g1)),PM.le_trans g2 h3,PM.Cf h2 (PM.le_trans g3 h3),g4,a,d,I,PM.GJ _ _,PM.GK I,h4,g5⟩
theorem xY {L I:List aS}(h:∀m r,(star L).p m r→(star I).p m r){r:PM}(hs:(star (A::L)).p m r): (star (A::I)).p m r:=by
 obtain⟨a,b,J,U,h3,h4,h5⟩:=hs
 exact⟨a,b,J,U,h3,h4,h _ _ h5⟩
theorem xZ : ∀ {S:List aS} {k:Nat} {A:aS},getA S k=some A→∀m r,(star S).p m r→(star (A::aQ S k)).p m r:=by
 intro S
 induction S with
 |nil=>intro k A h;cases h
 |cons B S I =>
  intro k A h m r hs
  cases k with
  |zero=>injection h with h;subst h;exact hs
  |succ k =>
   exact Nx (xY (I h) hs)
theorem x_ {L:List aS}{r:PM}(h:(star (A::L)).p m r): (star L).p m r:=by
 obtain⟨a,b,I,J,U,h4,h5⟩:=h<;>grind[aS.up,PM.le_refl]
theorem Ny {L:List aS}{r:PM}(h:(star (A::L)).p m r): A.p m r:=by
 obtain⟨a,b,I,J,U,h4,h5⟩:=h<;>grind[aS.up,PM.le_refl]
theorem Ch : ∀(ks:List Nat) (S:List aS) (m r:PM),(star S).p m r→(bringA S ks=[]∨True)→(star (bringA S ks)).p m r:=by
 intro ks
 induction ks with
 |nil=>intro S m r h _;exact h
 |cons k ks I =>
  intro S m r h _
  simp only[bringA]
  cases J:getA S k with
  |none=>trivial
  |some A=>exact xY (fun m r h=>I _ m r h (.inr aa)) (xZ J m r h)
theorem GL {L:List aS}: ∀m r,(star (star L::S)).p m r↔(star (L++S)).p m r:=by
 induction L with
 |nil =>
  intro m r
  constructor
  ·intro h;exact x_ h
  ·intro h;exact⟨fun _=>none,m,fun _=>.inl rfl,fun _ _ h=>(by cases h),PM.le_refl _,aa,h⟩
 |cons A L ih =>
  intro m r
  constructor
  ·rintro⟨a,b,J,h2,h3,⟨c,d,g1,U,g3,g4,g5⟩,h5⟩
   have I:c.dj b:=PM.nu J U (PM.le_refl _)
   have AL:d.dj b:=PM.nu J g3 (PM.le_refl _)
   exact⟨c,d.un b,PM.pG (PM.Cg (PM.pG g1) (PM.pG I)),PM.le_trans U h2,PM.Cf (PM.le_trans g3 h2) h3,g4,(ih _ _).1 ⟨d,b,AL,PM.GJ _ _,PM.GK AL,g5,h5⟩⟩
  ·rintro⟨c,e,J,h2,h3,h4,h5⟩
   obtain⟨d,b,g1,U,g3,g4,g5⟩:=(ih _ _).2 h5
   have ya:c.dj d:=PM.nu J (PM.le_refl _) U
   have I:c.dj b:=PM.nu J (PM.le_refl _) g3
   exact⟨c.un d,b,PM.Cg I g1,PM.Cf h2 (PM.le_trans U h3),PM.le_trans g3 h3,⟨c,d,ya,PM.GJ _ _,PM.GK ya,h4,g4⟩,g5⟩
structure Sat (h:H)(S:List aS): Prop where
 wf:lY h
 ok:∃m r,PM.le m (T.get h.tr)∧PM.le r (T.get h.tr)∧PM.dj m r∧(star S).p m r
section
theorem Sat.map (s:Sat h S)(I:∀m r,(star S).p m r→(star S').p m r): Sat h S':=by
 obtain⟨m,r,J,U,h3,h4⟩:=s.ok
 exact⟨s.wf,m,r,J,U,h3,I _ _ h4⟩
theorem Sat.at (s:Sat h S)(I:getA S k=some A): ∃m r,PM.le m (T.get h.tr)∧PM.le r (T.get h.tr)∧A.p m r:=by
 obtain⟨m,r,J,U,h3,h4⟩:=s.ok
 exact⟨m,r,J,U,Ny (xZ I m r h4)⟩
theorem Sat.take (k:Nat)(s:Sat h S)(I:getA S k=some A): Sat h (A::aQ S k):=s.map (xZ I)
theorem Sat.qf (ks:List Nat)(s:Sat h S): Sat h (bringA S (VZ [] ks)):=s.map fun m r h=>Ch _ S m r h (.inr aa)
theorem Sat.ae (ks:List Nat)(s:Sat h S): Sat h (bringA S ks):=s.map fun m r h=>Ch _ S m r h (.inr aa)
theorem Sat.drop (s:Sat h (A::S)): Sat h S:=s.map fun _ _ h=>x_ h
theorem P_ : ∀(S:List aS) (k:Nat) (m r:PM),(star S).p m r→(star (aQ S k)).p m r:=by
 intro S
 induction S with
 |nil=>intro k m r h;exact h
 |cons B S I =>
  intro k m r h
  cases k with
  |zero=>exact x_ h
  |succ k=>exact xY (I k) h
theorem Sat.del (k:Nat)(s:Sat h S): Sat h (aQ S k):=s.map (P_ S k)
theorem Sat.fR (s:Sat h (A::S))(he:cX A B): Sat h (B::S):=s.map fun m r ⟨a,b,I,J,U,h4,h5⟩=>⟨a,b,I,J,U,he _ _ h4,h5⟩
theorem Sat.dup (s:Sat h (A::S))(J:aF A): Sat h (A::A::S):=s.map fun m r hs=>by
 obtain⟨a,b,U,h2,h3,I,h5⟩:=hs
 exact⟨fun _=>none,m,fun _=>.inl rfl,fun _ _ h=>(by cases h),PM.le_refl _,J _ _ I,a,b,U,h2,h3,I,h5⟩
theorem Sat.gB (s:Sat h S)(I:φ): Sat h (pu φ::S):=s.map fun m _ hs=>⟨fun _=>none,m,fun _=>.inl rfl,fun _ _ h=>(by cases h),PM.le_refl _,I,hs⟩
theorem Sat.two {C:aS}(s:Sat h (A::B::S))(I:aF A)(J:aF B)(U:∀m r,A.p m r→B.p m r→C.p m r): Sat h (C::S):=s.map fun m r hs=>by
 obtain⟨a,b,h1,h2,h3,h4,c,d,g1,g2,g3,g4,g5⟩:=hs
 exact⟨fun _=>none,d,fun _=>.inl rfl,fun _ _ h=>(by cases h),PM.le_trans g3 h3,U _ _ (I _ _ h4) (J _ _ g4),g5⟩
theorem fU {f:α→aS}: Sat h (xs f::S)↔∃x,Sat h (f x::S):=by
 constructor
 ·intro s
  obtain⟨m,r,I,J,U,a,b,g1,g2,g3,⟨x,g4⟩,g5⟩:=s.ok
  exact⟨x,s.wf,m,r,I,J,U,a,b,g1,g2,g3,g4,g5⟩
 ·rintro⟨x,s⟩
  exact s.fR fun m r h=>⟨x,h⟩
theorem eP : Sat h (pu φ::S)↔φ∧Sat h S:=by
 constructor
 ·intro s
  obtain⟨m,r,I,U,h3,a,b,g1,g2,g3,J,g5⟩:=s.ok
  exact⟨J,s.drop⟩
 ·rintro⟨I,s⟩;exact s.gB I
theorem ej {L:List aS}: Sat h (star L::S)↔Sat h (L++S) :=
 ⟨fun s=>s.map fun m r hs=>(GL m r).1 hs,fun s=>s.map fun m r hs=>(GL m r).2 hs⟩
theorem Sat.row {o:Obj}(s:Sat h S)(I:getA S k=some (pt id o)): T.get h.tr id=some o:=by
 obtain⟨m,r,J,h2,U⟩:=s.at I
 exact J _ _ U
theorem Sat.ne {o:Obj}(s:Sat h (pt i o::pt j o'::S)): i≠j:=by
 rintro rfl
 obtain⟨m,r,h1,h2,h3,a,b,I,g2,g3,J,c,d,k1,k2,k3,U,k5⟩:=s.ok
 have e1:a i=some o:=J
 have e2:b i=some o':=k2 _ _ U
 rcases I i with e|e
 ·grind
 ·grind
theorem V0 {t:T Obj}{o:Option Obj}(hm:m.le (T.get t)): (m.upd id o).le (T.get (t.set id o)):=by
 intro i x I
 rw[bg]
 simp only[PM.upd] at I
 split
 ·grind
 ·rename_i e;rw[ah e] at I;exact hm i x I
theorem GM {o:Option Obj}(hm:m.le (T.get h.tr))(J:m id=none): m.le (T.get (h.put id o).tr):=by
 intro i x I
 rw[dO]
 split
 ·grind
 ·exact hm i x I
theorem Qa : ∀ {S:List aS} {k id:Nat} {o o':Obj},getA S k=some (pt id o)→∀m r,(star S).p m r→m id=some o∧(star (setA S k (pt id o'))).p (m.upd id (some o')) r:=by
 intro S
 induction S with
 |nil=>intro k id o o' h;cases h
 |cons B S ih =>
  intro k id o o' J m r hs
  obtain⟨a,b,U,h2,h3,h4,h5⟩:=hs
  cases k with
  |zero =>
   injection J with J
   subst J
   have ha:a id=some o:=h4
   have hb:b id=none:=by
    rcases U id with e|e
    ·grind
    ·exact e
   refine⟨h2 _ _ ha,a.upd id (some o'),b,fun i => ?_,fun i x I => ?_,fun i x I => ?_,?_,h5⟩
   ·by_cases e:i=id
    ·grind
    ·simp only[PM.upd,ah e];exact U i
   ·simp only[PM.upd] at I ⊢
    split
    ·grind
    ·rename_i e;rw[ah e] at I;exact h2 i x I
   ·simp only[PM.upd]
    split
    ·grind
    ·exact h3 i x I
   ·show(a.upd id (some o')) id=some o'
    simp[PM.upd]
  |succ k =>
   obtain⟨g1,g2⟩:=ih (o':=o') J b r h5
   have ha:a id=none:=by
    rcases U id with e|e
    ·exact e
    ·grind
   refine⟨h3 _ _ g1,a,b.upd id (some o'),fun i => ?_,fun i x I => ?_,fun i x I => ?_,h4,g2⟩
   ·by_cases e:i=id
    ·grind
    ·simp only[PM.upd,ah e];exact U i
   ·simp only[PM.upd]
    split
    ·grind
    ·exact h2 i x I
   ·simp only[PM.upd] at I ⊢
    split
    ·grind
    ·rename_i e;rw[ah e] at I;exact h3 i x I
theorem Sat.put {o:Obj}(s:Sat h S)(U:getA S k=some (pt id o)): Sat (h.put id (some o')) (setA S k (pt id o')):=by
 obtain⟨m,r,I,h2,J,h4⟩:=s.ok
 obtain⟨g1,g2⟩:=Qa (o':=o') U m r h4
 have hr:r id=none:=by
  rcases J id with e|e
  ·grind
  ·exact e
 refine⟨s.wf.put (s.wf _ _ (I _ _ g1)) _,m.upd id (some o'),r,V0 I,GM h2 hr,fun i => ?_,g2⟩
 by_cases e:i=id
 ·grind
 ·simp only[PM.upd,ah e];exact J i
theorem Sat.new (s:Sat h S)(o:Obj): Sat (h.new o) (pt h.next o::S):=by
 obtain⟨m,r,U,h2,h3,h4⟩:=s.ok
 have hm:m h.next=none:=by
  cases e:m h.next with
  |none=>rfl
  |some x=>exact absurd (s.wf _ _ (U _ _ e)) (Nat.lt_irrefl _)
 have hr:r h.next=none:=by
  cases e:r h.next with
  |none=>rfl
  |some x=>exact absurd (s.wf _ _ (h2 _ _ e)) (Nat.lt_irrefl _)
 have J:∀(q:PM),q.le (T.get h.tr)→q h.next=none→q.le (T.get (h.new o).tr):=fun q hq hn i x I=>by
  rw[ga]
  split
  ·grind
  ·exact hq i x I
 refine⟨s.wf.new o,m.upd h.next (some o),r,fun i x I => ?_,J r h2 hr,fun i => ?_,fun i=>if i=h.next then some o else none,m,fun i => ?_,fun i x I => ?_,fun i x I => ?_,?_,h4⟩
 ·rw[ga]
  simp only[PM.upd] at I
  split
  ·grind
  ·rename_i e;rw[ah e] at I;exact U i x I
 ·by_cases e:i=h.next
  ·grind
  ·simp only[PM.upd,ah e];exact h3 i
 ·grind
 ·grind[PM.upd]
 ·grind[PM.upd]
 ·show(if h.next=h.next then some o else none)=some o
  simp
theorem Sat.kill {o:Obj}(s:Sat h (pt id o::S)): Sat (h.put id none) S:=by
 obtain⟨m,r,I,h2,J,a,b,g1,U,g3,g4,g5⟩:=s.ok
 have ha:a id=some o:=g4
 have hb:b id=none:=by
  rcases g1 id with e|e
  ·grind
  ·exact e
 have hr:r id=none:=by
  rcases J id with e|e
  ·rw[U _ _ ha] at e;cases e
  ·exact e
 exact⟨s.wf.put (s.wf _ _ (I _ _ (U _ _ ha))) _,b,r,GM (PM.le_trans g3 I) hb,GM h2 hr,PM.nu J g3 (PM.le_refl _),g5⟩
theorem Sat.freeze {o:Obj}(s:Sat h (pt id o::S)): Sat h (ro id o::S):=by
 obtain⟨m,r,J,h2,U,a,b,g1,g2,g3,g4,g5⟩:=s.ok
 have ha:a id=some o:=g4
 have hb:b id=none:=by
  rcases g1 id with e|e
  ·grind
  ·exact e
 have hr:r id=none:=by
  rcases U id with e|e
  ·rw[g2 _ _ ha] at e;cases e
  ·exact e
 have hle:r.le (r.upd id (some o)):=fun i x I=>by
  grind[PM.upd]
 refine⟨s.wf,b,r.upd id (some o),PM.le_trans g3 J,fun i x I => ?_,fun i => ?_,fun _=>none,b,fun _=>.inl rfl,fun _ _ h=>(by cases h),PM.le_refl _,?_,aS.up g5 (PM.le_refl _) hle⟩
 ·simp only[PM.upd] at I
  split at I
  ·rename_i e;subst e;injection I with I;subst I;exact J _ _ (g2 _ _ ha)
  ·exact h2 i x I
 ·by_cases e:i=id
  ·grind
  ·simp only[PM.upd,ah e];exact PM.nu U g3 (PM.le_refl _) i
 ·show(r.upd id (some o)) id=some o
  simp[PM.upd]
theorem Sat.cO (s:Sat h S)(J:eG k [] h h'): Sat h' S:=by
 obtain⟨m,r,h1,h2,h3,h4⟩:=s.ok
 have I:∀(q:PM),q.le (T.get h.tr)→q.le (T.get h'.tr):=fun q U i x hx=>by
  rw[J.get i (s.wf _ _ (U _ _ hx)) nM]
  exact U _ _ hx
 exact⟨J.wf,m,r,I m h1,I r h2,h3,h4⟩
theorem Sat.V1 {X:List Nat}{m₀:PM}(s:Sat h (A::S))(hk:eG k X h h')(hX:∀m r,PM.le m (T.get h.tr)→PM.le r (T.get h.tr)→A.p m r→∀i∈X,m i≠none)
 (hm:PM.le m₀ (T.get h'.tr))(hB:∀r,B.p m₀ r)(hn:∀i,m₀ i≠none→i∈X∨h.next≤i): Sat h' (B::S):=by
 obtain⟨m,r,h1,h2,h3,a,b,g1,g2,g3,g4,g5⟩:=s.ok
 have hXa:∀i∈X,a i≠none:=hX a r (PM.le_trans g2 h1) h2 g4
 have U:∀i∈X,b i=none:=fun i hi=>by
  rcases g1 i with e|e<;>grind
 have Zu:∀i∈X,r i=none:=fun i hi=>by
  cases e:a i with
  |none=>grind
  |some o =>
   rcases h3 i with J|J
   ·rw[g2 _ _ e] at J;cases J
   ·exact J
 have Zv:∀(q:PM),q.le (T.get h.tr)→(∀i∈X,q i=none)→q.le (T.get h'.tr):=fun q hq hz i x hx=>by
  rw[hk.get i (s.wf _ _ (hq _ _ hx)) (fun hi=>by grind)]
  exact hq _ _ hx
 have I:∀(q:PM),q.le (T.get h.tr)→(∀i∈X,q i=none)→m₀.dj q:=fun q hq hz i=>by
  cases e:m₀ i with
  |none=>simp
  |some x =>
   right
   rcases hn i (by grind) with hi|hi
   ·grind
   ·cases J:q i with
    |none=>rfl
    |some y=>exact absurd (s.wf _ _ (hq _ _ J)) (Nat.not_lt.2 hi)
 have oA:=Zv b (PM.le_trans g3 h1) U
 have hd:=I b (PM.le_trans g3 h1) U
 exact⟨hk.wf,m₀.un b,r,PM.Cf hm oA,Zv r h2 Zu,PM.Cg (I r h2 Zu) (PM.nu h3 g3 (PM.le_refl _)),m₀,b,hd,PM.GJ _ _,PM.GK hd,hB r,g5⟩
end
theorem bJ (v:V)(l:List Nat): cX (bH v l) (dc v l):=fun _ _ h=>.inl (sj.view h)
theorem cI (v:V)(l:List Nat): cX (AK v l) (dc v l):=fun _ _ h=>.inr h
theorem aF.cm (v:V)(l:List Nat): aF (.cm v l):=fun _ _ h=>h
section
variable {v:V}
theorem Sat.aL (s:Sat h S)(J:getA S k=some X)(U:cX X (dc v l)): View h v l:=by
 obtain⟨m,r,h1,h2,h3⟩:=s.at J
 rcases U _ _ h3 with I|I
 ·exact ViewM.up I h1
 ·exact ViewM.up I h2
theorem Sat.buf (s:Sat h S)(I:getA S k=some (bH v l)): jE h v l:=by
 obtain⟨m,r,J,h2,U⟩:=s.at I
 exact sj.up (l:=l) U J
theorem J7 (I:sj m v l): ∀i∈rowIds v,m i≠none:=by
 obtain⟨_,J⟩:=I<;>grind[rowIds]
theorem J8 (I:jE h v l): sj (fun i=>if i∈rowIds v then T.get h.tr i else none) v l:=by
 obtain⟨J,U⟩:=I
 refine⟨J,?_⟩<;>grind[rowIds]
theorem Nz (L:List Nat): PM.le (fun i=>if i∈L then T.get h.tr i else none) (T.get h.tr):=fun i x I=>by
 grind
theorem Sat.GN (s:Sat h S)(I:eG k [] h h')(J:jE h' v l)(U:∀i∈rowIds v,h.next≤i): Sat h' (bH v l::S):=by
 have s':Sat h (pu True::S):=s.gB aa
 refine s'.V1 (B:=bH v l) (m₀:=fun i=>if i∈rowIds v then T.get h'.tr i else none) I (fun _ _ _ _ _ i hi=>by cases hi) (Nz _) (fun _=>J8 J) (fun i hi=>.inr ?_)<;>grind
theorem Sat.Ad {v':V}{I:List Nat}(s:Sat h (bH v l::S))(J:eG k (rowIds v) h h')(U:jE h' v' I)(hn:∀i∈rowIds v',i∈rowIds v∨h.next≤i): Sat h' (bH v' I::S):=by
 refine s.V1 (B:=bH v' I) (m₀:=fun i=>if i∈rowIds v' then T.get h'.tr i else none) J (fun _ _ _ _ h=>J7 h) (Nz _) (fun _=>J8 U) (fun i hi => ?_)<;>grind
theorem Sat.fO (s:Sat h (bH v l::S)): Sat h (AK v l::S):=by
 obtain⟨m,r,J,h2,U,a,b,g1,g2,g3,g4,g5⟩:=s.ok
 have I:r.dj a:=PM.pG (PM.nu U g2 (PM.le_refl _))
 refine⟨s.wf,b,r.un a,PM.le_trans g3 J,PM.Cf h2 (PM.le_trans g2 J),PM.pG (PM.Cg (PM.pG (PM.nu U g3 (PM.le_refl _))) g1),fun _=>none,b,fun _=>.inl rfl,fun _ _ h=>(by cases h),PM.le_refl _,?_,aS.up g5 (PM.le_refl _) (PM.GJ _ _)⟩
 exact(sj.view g4).up (PM.GK I)
end
theorem V2 {a b c d:H}{l:List H}{p:H→Prop}(I:p a)(J:p b)(U:p c)(hd:p d): ∀x∈((a::b::c::d::l).drop 0).take 4,p x:=by
 grind
section
variable {st:Bool} {v:V}
theorem Sat.ld (s:Sat h S)(I:getA S k=some (pt id (.cells n cs st)))(J:isAggT P t=some false)(U:nth cs off=some v): loadV P h t (.ptr id off)=some v:=GG J (s.row I) U
theorem Sat.fN (s:Sat h S)(I:getA S k=some (pt id (.cells n cs st)))(J:isAggT P t=some true)(hs:bB P t=some n): loadV P h t (.ptr id 0)=some (.agg cs):=Am.fN J hs (s.row I)
theorem Sat.dV (s:Sat h S)(J:getA S k=some (pt id (.cells n cs false)))(hs:bB P t=some 1)(hl:cs.length=n)(ho:off<n)(hv:v.cells=[v])(I:storable v=true):
  ∃h₁,ic P h t (.ptr id off) v=some h₁∧Sat h₁ (setA S k (pt id (.cells n (cs.set off v) false))):=by
 refine⟨h.put id (some (.cells n (cs.set off v) false)),?_,s.put J⟩
 simp only[ic,hs,hv,bI,dz,jB,jC,I,Bool.and_true]
 rw[show Nat.beq (0+1) 1=true from rfl,ak]
 simp only[wrN,s.row J,bI,dz]
 rw[aZ.2 (show off+(0+1)≤n by omega),ak]
 congr 3
 rw[JM,aE (by omega)]
 cases U:(Nat.beq off 0&&Nat.beq (0+1) n) with
 |true =>
  simp only[bS,beq_iff] at U
  obtain⟨rfl,rfl⟩:=U
  rw[ak]
  have:cs.drop (0+1)=[]:=kL (by omega)
  simp[this]
 |false=>rw[bf];rfl
theorem Sat.stN {l:List V}(s:Sat h S)(J:getA S k=some (pt id (.cells n cs false)))(hs:bB P t=some l.length)(U:cs.length=n)(ho:off+l.length≤n)(I:l.all storable=true):
  ∃h₁,ic P h t (.ptr id off) (.agg l)=some h₁∧Sat h₁ (setA S k (pt id (.cells n (cs.take off++(l++cs.drop (off+l.length))) false))):=by
 refine⟨h.put id (some (.cells n (cs.take off++(l++cs.drop (off+l.length))) false)),?_,s.put J⟩
 simp only[ic,hs,V.cells,I,gx,jA,ak,wrN,s.row J]
 grind[aZ,beq_iff,List.drop_eq_nil_of_le]
end
section
variable {ax:Nat}
theorem ay.cV (s:Sat h S)(I:wantE L E o.guard=some true)(J:o.dst=some d)(U:Nat.blt d ax=true)(ho:opE C.P E h o.op=some (.ptr h.next 0,newRow h cs))
 (hr:∀id h₁,Sat h₁ (pt id (.cells cs.length cs false)::S)→ay C ax L rest ((d,.ptr id 0)::E) h₁ R): ay C ax L (o::rest) E h R :=
 ay.op I J U ho (hr _ _ (s.new _))
theorem ay.dg {v:V}(J:wantE L E o.guard=some true)(U:o.dst=none)(I:o.op=.store t x y)(hx:bl E x=some v)(hy:bl E y=some u)
 (ho:∃h₁,ic C.P h t v u=some h₁∧Sat h₁ S')(hr:∀h₁,Sat h₁ S'→ay C ax L rest E h₁ R): ay C ax L (o::rest) E h R:=by
 obtain⟨h₁,e1,e2⟩:=ho
 exact ay.R8 J U (by rw[I];exact vF hx hy e1) (hr h₁ e2)
theorem WP.label {l:Nat}(I:Q .normal E h): WP C ax (.label l) E h Q:=fun env J=>⟨1,.normal,env,h,E,rfl,J,I⟩
theorem WP.split {a b:Code}{t:Bool}(I:bl E x=some (.bool t))(J:t=true→WP C ax a E h Q)(U:t=false→WP C ax b E h Q): WP C ax (.cond x a b) E h Q:=by
 grind[WP.cond]
theorem WP.LB {a b:Code}{t:Bool}(I:bl E x=some (.bool t))(J:t=true)(U:WP C ax a E h Q): WP C ax (.cond x a b) E h Q:=by
 subst J;exact WP.cond I U
theorem WP.Si {a b:Code}{t:Bool}(I:bl E x=some (.bool t))(J:t=false)(U:WP C ax b E h Q): WP C ax (.cond x a b) E h Q:=by
 subst J;exact WP.cond I U
end
section
variable {a b:Operand} {v:V}
theorem Sj {t:Nat}(I:bl E x=some v)(J:rJ P t v i=some r): opE P E h (.field t x i)=some (r,h):=by grind[opE,jO,bz]
theorem XY : opE P E h (.makeMap t none)=some (.map h.next,h.new (.map [] 0)):=rfl
theorem gX {ok:Bool}(I:bl E x=some v)(J:bl E y=some u)(U:fC P h t v u ok=some r): opE P E h (.lookup t x y ok)=some (r,h):=by grind[opE,um,bz]
theorem Sk {t:Nat}(I:rJ P t (.agg cs) i=nth cs off)(J:nth cs off=some r): rJ P t (.agg cs) i=some r:=by grind
theorem js {s d:TypeId}{k k':IntKind}{n:Int}(hs:P.underlying s=some td)(I:P.underlying d=some (.int k'))(J:k'.wrap n=n): convV P h s d (.int k n)=some (.int k' n,h):=by simp only[convV,hs,I,J]
theorem Ci {o:Nat}{c:Cap}(hu:P.underlying t=some (.slice e)): lenV P h t (.sl i o n c)=some (.int .i64 n):=by simp only[lenV,hu]
theorem J9 (hu:P.underlying t=some (.slice e)): lenV P h t .bw=some (.int .i64 0):=by simp only[lenV,hu]
theorem bk (hu:P.underlying t=some (.slice e))(I:View h v l): lenV P h t v=some (.int .i64 l.length):=by
 obtain⟨_,I⟩:=I
 rcases I with⟨rfl|⟨J,rfl⟩,rfl⟩|⟨id,off,cap,n,cs,st,rfl,_⟩<;>simp[lenV,hu]
theorem mki_of (hu:P.underlying t=some td)(I:(match td with|.interface _=>false|_=>true)=true): makeIfaceV P t v=some (.iface t v):=by
 grind[makeIfaceV]
end
section
theorem aV {n:Int}(I : -9223372036854775808≤n)(J:n<9223372036854775808): IntKind.wrap .i64 n=n:=by
 grind[IntKind.bits,IntKind.wrap,IntKind.signed]
theorem fe {n:Int}(I:0≤n)(J:n<18446744073709551616): IntKind.wrap .u64 n=n:=by
 grind[IntKind.wrap,IntKind.bits,IntKind.signed]
theorem TL {n:Int}(I:0≤n)(J:n<4294967296): IntKind.wrap .u32 n=n:=by
 grind[IntKind.wrap,IntKind.bits,IntKind.signed]
theorem V3 {n:Int}(I:0≤n)(J:n<256): IntKind.wrap .u8 n=n:=by
 grind[IntKind.wrap,IntKind.bits,IntKind.signed]
variable {a b:Int}
theorem bP {k:IntKind}(hw:k.wrap (a+b)=a+b): binV P h .add t x y (.int k a) (.int k b)=some (.int k (a+b)):=by
 simp_all[binV,dL,intV]
theorem jV {k:IntKind}(hw:k.wrap (a-b)=a-b): binV P h .sub t x y (.int k a) (.int k b)=some (.int k (a-b)):=by
 simp_all[binV,dL,intV]
theorem A9 {k:IntKind}(hw:k.wrap (a*b)=a*b): binV P h .mul t x y (.int k a) (.int k b)=some (.int k (a*b)):=by
 simp_all[binV,dL,intV]
theorem bZ {k:IntKind}: binV P h .eql t x y (.int k a) (.int k b)=some (.bool (decide (a=b))):=by
 simp only[binV,dL,ak,intV]
 cases I:intBeq a b with
 |true=>simp[uk I]
 |false =>
  by_cases he:a=b
  ·grind[lu]
  ·grind
theorem aX {k:IntKind}: binV P h .neq t x y (.int k a) (.int k b)=some (.bool (!decide (a=b))):=by
 simp only[binV,dL,ak,intV]
 cases I:intBeq a b with
 |true=>simp[uk I]
 |false =>
  by_cases he:a=b
  ·grind[lu]
  ·grind
theorem bq {k:IntKind}: binV P h .lss t x y (.int k a) (.int k b)=some (.bool (decide (a<b))):=by simp[binV,dL,intV]
theorem LC {k:IntKind}: binV P h .leq t x y (.int k a) (.int k b)=some (.bool (decide (a≤b))):=by simp[binV,dL,intV]
theorem dS {k:IntKind}: binV P h .gtr t x y (.int k a) (.int k b)=some (.bool (decide (a>b))):=by simp[binV,dL,intV]
theorem kK {k:IntKind}: binV P h .geq t x y (.int k a) (.int k b)=some (.bool (decide (a≥b))):=by simp[binV,dL,intV]
theorem uR : ∀ {l m:List Nat},natsBeq l m=decide (l=m):=by
 intro l
 induction l with
 |nil=>grind[natsBeq]
 |cons a l I =>
  intro m
  cases m<;>grind[natsBeq,Nat.beq_refl,eF]
theorem wC {m:List Nat}: binV P h .eql t x y (.str l) (.str m)=some (.bool (decide (l=m))):=by simp[binV,strV,uR]
end
section
variable {ax:Nat} {p:Bool}
theorem ay.oc (I:wantE L E o.guard=some true)(J:o.dst=some d)(U:Nat.blt d ax=true)(ho:opE C.P E h o.op=some (.bool p,h))(hp:p=true)(hw:ay C ax L rest ((d,.bool true)::E) h R): ay C ax L (o::rest) E h R:=by
 grind[ay.op]
theorem ay.mN (I:wantE L E o.guard=some true)(J:o.dst=some d)(U:Nat.blt d ax=true)(ho:opE C.P E h o.op=some (.bool p,h))(hp:p=false)(hw:ay C ax L rest ((d,.bool false)::E) h R): ay C ax L (o::rest) E h R:=by
 grind[ay.op]
theorem ay.V4 (I:wantE L E o.guard=some true)(J:o.dst=some d)(U:Nat.blt d ax=true)(ho:opE C.P E h o.op=some (.bool p,h))(ht:p=true→ay C ax L rest ((d,.bool true)::E) h R)(hf:p=false→ay C ax L rest ((d,.bool false)::E) h R): ay C ax L (o::rest) E h R:=by
 cases p<;>grind[ay.op]
theorem ay.yb (s:Sat h S)(J:wantE L E o.guard=some true)(U:o.dst=some d)(hn:Nat.blt d ax=true)(I:o.op=.makeMap t none)
 (hr:∀id h₁,Sat h₁ (pt id (.map [] 0)::S)→ay C ax L rest ((d,.map id)::E) h₁ R): ay C ax L (o::rest) E h R :=
 ay.op J U hn (by rw[I];exact XY) (hr _ _ (s.new _))
theorem ay.ik (hg:wantE L E o.guard=some true)(hd:o.dst=none)(ho:OpR C E h o xS)
 (hw:∀v h₁,xS v h₁→ay C ax L rest E h₁ R): ay C ax L (o::rest) E h R:=by
 intro env J
 obtain⟨v,h₁,hr,U⟩:=ho
 obtain⟨N,hN⟩:=U env J
 obtain⟨M,I,h',E',h1,h2,h3⟩:=hw v h₁ hr env J
 refine⟨Nat.max N M,I,h',E',?_,h2,h3⟩
 simp only[evOps,kz J hg,ak,mu (gz (o9 N M)) hN,St.put,hd]
 exact sK (gz (o8 N M)) _ _ _ h1
variable {Q:List (Nat×V)→H→List (List (Nat×V)×V)→List H→Prop}
theorem au.oc (J:wantE L E o.guard=some true)(U:o.dst=some d)(hn:Nat.blt d ax=true)(he:isEff C o.op=false)(ho:opE C.P E h o.op=some (.bool p,h))(hp:p=true)
 (hw:au C ax L rest ((d,.bool true)::E) h hs fun E' h' ts I=>Q E' h' ((E,.bool true)::ts) I): au C ax L (o::rest) E h hs Q:=by
 grind[au.op]
theorem au.mN (J:wantE L E o.guard=some true)(U:o.dst=some d)(hn:Nat.blt d ax=true)(he:isEff C o.op=false)(ho:opE C.P E h o.op=some (.bool p,h))(hp:p=false)
 (hw:au C ax L rest ((d,.bool false)::E) h hs fun E' h' ts I=>Q E' h' ((E,.bool false)::ts) I): au C ax L (o::rest) E h hs Q:=by
 grind[au.op]
theorem au.V4 (J:wantE L E o.guard=some true)(U:o.dst=some d)(hn:Nat.blt d ax=true)(he:isEff C o.op=false)(ho:opE C.P E h o.op=some (.bool p,h))
 (ht:p=true→au C ax L rest ((d,.bool true)::E) h hs fun E' h' ts I=>Q E' h' ((E,.bool true)::ts) I)
 (hf:p=false→au C ax L rest ((d,.bool false)::E) h hs fun E' h' ts I=>Q E' h' ((E,.bool false)::ts) I): au C ax L (o::rest) E h hs Q:=by
 cases p<;>grind[au.op]
theorem OpR.dg {v:V}(I:o.op=.store t x y)(U:bl E x=some v)(hy:bl E y=some u)
 (ho:∃h₁,ic C.P h t v u=some h₁∧Sat h₁ S'): OpR C E h o fun w h₁=>w=cF∧Sat h₁ S':=by
 obtain⟨h₁,e1,J⟩:=ho
 exact OpR.of (by grind[vF]) ⟨rfl,J⟩
theorem OpR.cV (s:Sat h S)(ho:opE C.P E h o.op=some (.ptr h.next 0,newRow h cs)):
  OpR C E h o fun v h₁=>∃id,v=.ptr id 0∧Sat h₁ (pt id (.cells cs.length cs false)::S) :=
 OpR.of ho ⟨_,rfl,s.new _⟩
end
theorem FO {t:Nat}{p v w:V}(I:look E a=some p)(J:loadV P h t p=some v)(U:look E b=some w): resLE P E h [.cell a t,.tmp b]=some (.bD [v,w]):=by grind[resLE,mapO,resE]
theorem ny {t:Nat}{v:V}(I:look E t=some v): resLE P E h [.tmp t]=some v:=by grind[resLE,mapO,resE]
def aar : Code→Nat→Code
 |.seq a _,0=>a
 |.seq _ b,_=>b
 |.cond _ a _,0=>a
 |.cond _ _ b,_=>b
 |.block _ a,_=>a
 |.loop a,_=>a
 |.scope a,_=>a
 |c,_=>c
def cC : List Nat→Code→Code
 |[],c=>c
 |k::ks,c=>cC ks (aar c k)
section
variable {ax:Nat} {v:V} {p:Bool}
theorem zc {k:FuncId}(e:(wantE L E o.guard,o.dst,Nat.blt d ax,o.op,cl.callee,bl E x,lookArgs E cl.args.toList)=(some true,some d,true,Op.call cl,Callee.value x,some (.fn (.func k) first cap),some args))
 (I:Call C k (first++(args++cap)) h xS)(hw:∀v h₁,xS v h₁→ay C ax L rest ((d,v)::E) h₁ R): ay C ax L (o::rest) E h R:=by
  simp only[bE] at e;exact ay.call e.1 e.2.1 e.2.2.1 e.2.2.2.1 e.2.2.2.2.1 e.2.2.2.2.2.1 e.2.2.2.2.2.2 I hw
theorem zt (e:(wantE L E o.guard,o.dst,Nat.blt d ax)=(some true,some d,true))(ho:opE C.P E h o.op=some (.bool p,h))(I:p=true)(hw:ay C ax L rest ((d,.bool true)::E) h R): ay C ax L (o::rest) E h R:=by
  simp only[bE] at e;exact ay.oc e.1 e.2.1 e.2.2 ho I hw
theorem zh (e:(wantE L E o.guard,o.dst,Nat.blt d ax)=(some true,some d,true))(ho:opE C.P E h o.op=some (.bool p,h))(I:p=false)(hw:ay C ax L rest ((d,.bool false)::E) h R): ay C ax L (o::rest) E h R:=by
  simp only[bE] at e;exact ay.mN e.1 e.2.1 e.2.2 ho I hw
theorem zd (e:(wantE L E o.guard,o.dst,Nat.blt d ax)=(some true,some d,true))(ho:opE C.P E h o.op=some (.bool p,h))(I:p=true→ay C ax L rest ((d,.bool true)::E) h R)(J:p=false→ay C ax L rest ((d,.bool false)::E) h R): ay C ax L (o::rest) E h R:=by
  simp only[bE] at e;exact ay.V4 e.1 e.2.1 e.2.2 ho I J
theorem zB {op:BinOp}(e:(o.op,wantE L E o.guard,o.dst,Nat.blt d ax,bl E x,bl E y)=(Op.binOp op t x y t',some true,some d,true,some v,some u))(I:binV C.P h op t x y v u=some (.bool p))(J:p=true)(hw:ay C ax L rest ((d,.bool true)::E) h R): ay C ax L (o::rest) E h R:=by
  simp only[bE] at e;exact ay.oc e.2.1 e.2.2.1 e.2.2.2.1 (by rw[e.1];exact aJ e.2.2.2.2.1 e.2.2.2.2.2 I) J hw
theorem zC {op:BinOp}(e:(o.op,wantE L E o.guard,o.dst,Nat.blt d ax,bl E x,bl E y)=(Op.binOp op t x y t',some true,some d,true,some v,some u))(I:binV C.P h op t x y v u=some (.bool p))(J:p=false)(hw:ay C ax L rest ((d,.bool false)::E) h R): ay C ax L (o::rest) E h R:=by
  simp only[bE] at e;exact ay.mN e.2.1 e.2.2.1 e.2.2.2.1 (by rw[e.1];exact aJ e.2.2.2.2.1 e.2.2.2.2.2 I) J hw
theorem zy {st:Bool}(s:Sat h S)(k:Nat)(I:isAggT C.P t=some false)(e:(o.op,wantE L E o.guard,o.dst,Nat.blt d ax,bl E x,getA S k,nth cs off)=(Op.load t x,some true,some d,true,some (V.ptr id off),some (pt id (.cells n cs st)),some v))(hw:ay C ax L rest ((d,v)::E) h R): ay C ax L (o::rest) E h R:=by
  simp only[bE] at e;exact ay.op e.2.1 e.2.2.1 e.2.2.2.1 (by rw[e.1];exact aT e.2.2.2.2.1 (s.ld e.2.2.2.2.2.1 I e.2.2.2.2.2.2)) hw
theorem zY {J:Oper}{U:Operand}{aby:TypeId}{I:Nat}{st:Bool}(s:Sat h S)(k:Nat)(hf:∀a b:Nat,fieldAddrV C.P aby (.ptr a b) i=some (.ptr a (b+j)))(ha:isAggT C.P t=some false)
 (e:(J.op,wantE L E J.guard,J.dst,Nat.blt I ax,bl E U,o.op,wantE L ((I,.ptr a (b+j))::E) o.guard,o.dst,Nat.blt d ax,bl ((I,.ptr a (b+j))::E) x,getA S k,nth cs (b+j))=(Op.fieldAddr aby U i,some true,some I,true,some (V.ptr a b),Op.load t x,some true,some d,true,some (V.ptr a (b+j)),some (pt a (.cells n cs st)),some v))
 (hw:ay C ax L rest ((d,v)::(I,.ptr a (b+j))::E) h R): ay C ax L (J::o::rest) E h R:=by
  simp only[bE] at e
  obtain⟨e1,e2,e3,e4,e5,e6,e7,e8,e9,e10,VG,e12⟩:=e
  exact ay.op e2 e3 e4 (by rw[e1];exact jg e5 (hf a b)) (ay.op e7 e8 e9 (by rw[e6];exact aT e10 (s.ld VG ha e12)) hw)
theorem zS (e:(wantE L E o.guard,o.dst,o.op,bl E x,bl E y)=(some true,none,Op.store t x y,some v,some u))(ho:∃h₁,ic C.P h t v u=some h₁∧Sat h₁ S')(I:∀h₁,Sat h₁ S'→ay C ax L rest E h₁ R): ay C ax L (o::rest) E h R:=by
  simp only[bE] at e;exact ay.dg e.1 e.2.1 e.2.2.1 e.2.2.2.1 e.2.2.2.2 ho I
end
theorem jt : bB Tryz.prog 3=some 1:=by kernel_rfl
theorem dy : isAggT Tryz.prog 3=some false:=by kernel_rfl
theorem EN : zeroT Tryz.prog 3=some (.int .i64 0):=by kernel_rfl
theorem xw : bB Tryz.prog 4=some 1:=by kernel_rfl
theorem jQ : isAggT Tryz.prog 4=some false:=by kernel_rfl
theorem Zw : zeroT Tryz.prog 4=some (.bool false):=by kernel_rfl
theorem Sl : bB Tryz.prog 5=some 1:=by kernel_rfl
theorem Zx : zeroT Tryz.prog 5=some (.int .u8 0):=by kernel_rfl
theorem Sm : bB Tryz.prog 9=some 1:=by kernel_rfl
theorem Zy : isAggT Tryz.prog 9=some false:=by kernel_rfl
theorem V5 : zeroT Tryz.prog 9=some (.str []):=by kernel_rfl
theorem ju : bB Tryz.prog 23=some 1:=by kernel_rfl
theorem bL : isAggT Tryz.prog 23=some false:=by kernel_rfl
theorem yc : zeroT Tryz.prog 23=some .bw:=by kernel_rfl
theorem jK : isAggT Tryz.prog 25=some false:=by kernel_rfl
theorem A_ : isAggT Tryz.prog 26=some false:=by kernel_rfl
theorem DR : bB Tryz.prog 30=some 1:=by kernel_rfl
theorem LF : isAggT Tryz.prog 30=some false:=by kernel_rfl
theorem Qb : zeroT Tryz.prog 30=some .bw:=by kernel_rfl
theorem ot : bB Tryz.prog 32=some 1:=by kernel_rfl
theorem fA : isAggT Tryz.prog 32=some false:=by kernel_rfl
theorem GO : zeroT Tryz.prog 32=some (.int .u64 0):=by kernel_rfl
theorem aas : zeroT Tryz.prog 34=some (.int .i64 0):=by kernel_rfl
theorem Qc : isAggT Tryz.prog 37=some false:=by kernel_rfl
theorem aat : bB Tryz.prog 39=some 4:=by kernel_rfl
theorem aau : isAggT Tryz.prog 39=some true:=by kernel_rfl
theorem NA (a b:Nat): fieldAddrV Tryz.prog 39 (.ptr a b) 0=some (.ptr a (b+0)):=by kernel_rfl
theorem GP (a b:Nat): fieldAddrV Tryz.prog 39 (.ptr a b) 1=some (.ptr a (b+1)):=by kernel_rfl
theorem GQ (a b:Nat): fieldAddrV Tryz.prog 39 (.ptr a b) 2=some (.ptr a (b+2)):=by kernel_rfl
theorem Cj (a b:Nat): fieldAddrV Tryz.prog 39 (.ptr a b) 3=some (.ptr a (b+3)):=by kernel_rfl
theorem nA : isAggT Tryz.prog 40=some false:=by kernel_rfl
theorem V6 : bB Tryz.prog 78=some 1:=by kernel_rfl
theorem GR : isAggT Tryz.prog 78=some false:=by kernel_rfl
theorem FP : bB Tryz.prog 102=some 1:=by kernel_rfl
theorem qg : isAggT Tryz.prog 102=some false:=by kernel_rfl
theorem fE : bB Tryz.prog 104=some 6:=by kernel_rfl
theorem kY : isAggT Tryz.prog 104=some true:=by kernel_rfl
theorem nT : zeroT Tryz.prog 104=some (.agg [(.int .i64 0),(.int .u64 0),(.int .u64 0),(.int .u64 0),.bw,.bw]):=by kernel_rfl
theorem qR (a b:Nat): fieldAddrV Tryz.prog 104 (.ptr a b) 0=some (.ptr a (b+0)):=by kernel_rfl
theorem J_ (a b:Nat): fieldAddrV Tryz.prog 104 (.ptr a b) 1=some (.ptr a (b+1)):=by kernel_rfl
theorem Ka (a b:Nat): fieldAddrV Tryz.prog 104 (.ptr a b) 2=some (.ptr a (b+2)):=by kernel_rfl
theorem Kb (a b:Nat): fieldAddrV Tryz.prog 104 (.ptr a b) 3=some (.ptr a (b+3)):=by kernel_rfl
theorem vG (a b:Nat): fieldAddrV Tryz.prog 104 (.ptr a b) 4=some (.ptr a (b+4)):=by kernel_rfl
theorem kP (a b:Nat): fieldAddrV Tryz.prog 104 (.ptr a b) 5=some (.ptr a (b+5)):=by kernel_rfl
theorem sL (ps:List (Nat×V)): buildV Tryz.prog 104 ps=(fillV (nth [(0,1),(1,1),(2,1),(3,1),(4,1),(5,1)]) ((.agg [(.int .i64 0),(.int .u64 0),(.int .u64 0),(.int .u64 0),.bw,.bw]):V).cells ps).map .agg:=by kernel_rfl
theorem rD : isAggT Tryz.prog 106=some false:=by kernel_rfl
theorem Sn (a b l:Nat)(c:Cap)(k:IntKind)(n:Int): indexAddrV Tryz.prog 106 (.sl a b l c) (.int k n)=cond (decide (0≤n)&&decide (n<(l:Int))) (some (.ptr a (b+n.toNat*1))) none:=by kernel_rfl
theorem Sq : bB Tryz.prog 107=some 1:=by kernel_rfl
theorem Ck : isAggT Tryz.prog 107=some false:=by kernel_rfl
theorem jF : isAggT Tryz.prog 108=some false:=by kernel_rfl
theorem XZ : bB Tryz.prog 109=some 1:=by kernel_rfl
theorem FQ : isAggT Tryz.prog 109=some false:=by kernel_rfl
theorem Kc (a b:Nat): fieldAddrV Tryz.prog 111 (.ptr a b) 0=some (.ptr a (b+0)):=by kernel_rfl
theorem mV (a b:Nat): fieldAddrV Tryz.prog 111 (.ptr a b) 1=some (.ptr a (b+1)):=by kernel_rfl
theorem tg (a b:Nat): fieldAddrV Tryz.prog 111 (.ptr a b) 2=some (.ptr a (b+2)):=by kernel_rfl
theorem Ae (a b:Nat): fieldAddrV Tryz.prog 111 (.ptr a b) 3=some (.ptr a (b+3)):=by kernel_rfl
theorem jh (a b:Nat): fieldAddrV Tryz.prog 111 (.ptr a b) 4=some (.ptr a (b+4)):=by kernel_rfl
theorem nU (a b:Nat): fieldAddrV Tryz.prog 111 (.ptr a b) 5=some (.ptr a (b+5)):=by kernel_rfl
theorem vH (a b:Nat): fieldAddrV Tryz.prog 111 (.ptr a b) 6=some (.ptr a (b+6)):=by kernel_rfl
theorem vI (a b:Nat): fieldAddrV Tryz.prog 111 (.ptr a b) 7=some (.ptr a (b+7)):=by kernel_rfl
theorem Af (a b:Nat): fieldAddrV Tryz.prog 111 (.ptr a b) 8=some (.ptr a (b+8)):=by kernel_rfl
theorem ji (a b:Nat): fieldAddrV Tryz.prog 111 (.ptr a b) 9=some (.ptr a (b+9)):=by kernel_rfl
theorem tJ (a b:Nat): fieldAddrV Tryz.prog 111 (.ptr a b) 10=some (.ptr a (b+10)):=by kernel_rfl
theorem Ba (a b:Nat): fieldAddrV Tryz.prog 111 (.ptr a b) 11=some (.ptr a (b+11)):=by kernel_rfl
theorem X0 (ps:List (Nat×V)): buildV Tryz.prog 111 ps=(fillV (nth [(0,1),(1,1),(2,1),(3,1),(4,1),(5,1),(6,1),(7,1),(8,1),(9,1),(10,1),(11,1)]) ((.agg [(.int .i64 0),.bw,.bw,.lp,.bw,(.int .i64 0),.bw,(.int .i64 0),(.int .i64 0),(.bool false),.cH,.bw]):V).cells ps).map .agg:=by kernel_rfl
theorem rE : isAggT Tryz.prog 115=some false:=by kernel_rfl
theorem Sr : bB Tryz.prog 118=some 2:=by kernel_rfl
theorem X1 : isAggT Tryz.prog 118=some true:=by kernel_rfl
theorem X2 : zeroT Tryz.prog 118=some (.agg [(.int .i64 0),.bw]):=by kernel_rfl
theorem pH (a b:Nat): fieldAddrV Tryz.prog 118 (.ptr a b) 0=some (.ptr a (b+0)):=by kernel_rfl
theorem Ag (a b:Nat): fieldAddrV Tryz.prog 118 (.ptr a b) 1=some (.ptr a (b+1)):=by kernel_rfl
theorem pI (a b:Nat): fieldAddrV Tryz.prog 121 (.ptr a b) 0=some (.ptr a (b+0)):=by kernel_rfl
theorem jG (a b:Nat): fieldAddrV Tryz.prog 121 (.ptr a b) 1=some (.ptr a (b+1)):=by kernel_rfl
theorem mW (a b:Nat): fieldAddrV Tryz.prog 121 (.ptr a b) 2=some (.ptr a (b+2)):=by kernel_rfl
theorem qS (a b:Nat): fieldAddrV Tryz.prog 121 (.ptr a b) 3=some (.ptr a (b+3)):=by kernel_rfl
theorem DS (a b:Nat): fieldAddrV Tryz.prog 121 (.ptr a b) 4=some (.ptr a (b+4)):=by kernel_rfl
theorem Ah (a b:Nat): fieldAddrV Tryz.prog 121 (.ptr a b) 5=some (.ptr a (b+5)):=by kernel_rfl
theorem Ss (ps:List (Nat×V)): buildV Tryz.prog 121 ps=(fillV (nth [(0,1),(1,1),(2,1),(3,1),(4,1),(5,1)]) ((.agg [.cH,.cH,.cH,.cH,.bw,(.int .u64 0)]):V).cells ps).map .agg:=by kernel_rfl
theorem LG : bB Tryz.prog 122=some 1:=by kernel_rfl
theorem ng : isAggT Tryz.prog 122=some false:=by kernel_rfl
theorem pJ (a b:Nat): fieldAddrV Tryz.prog 124 (.ptr a b) 0=some (.ptr a (b+0)):=by kernel_rfl
theorem gQ (a b:Nat): fieldAddrV Tryz.prog 124 (.ptr a b) 1=some (.ptr a (b+1)):=by kernel_rfl
theorem eH (a b:Nat): fieldAddrV Tryz.prog 124 (.ptr a b) 2=some (.ptr a (b+2)):=by kernel_rfl
theorem iW (a b:Nat): fieldAddrV Tryz.prog 124 (.ptr a b) 3=some (.ptr a (b+3)):=by kernel_rfl
theorem pK (a b:Nat): fieldAddrV Tryz.prog 124 (.ptr a b) 4=some (.ptr a (b+4)):=by kernel_rfl
theorem pL (a b:Nat): fieldAddrV Tryz.prog 124 (.ptr a b) 5=some (.ptr a (b+5)):=by kernel_rfl
theorem Su (ps:List (Nat×V)): buildV Tryz.prog 124 ps=(fillV (nth [(0,1),(1,1),(2,1),(3,1),(4,1),(5,1)]) ((.agg [.cH,(.int .u64 0),.bw,.bw,(.int .i64 0),(.int .u64 0)]):V).cells ps).map .agg:=by kernel_rfl
theorem Cl : bB Tryz.prog 128=some 2:=by kernel_rfl
theorem Sv : isAggT Tryz.prog 128=some true:=by kernel_rfl
theorem FR : zeroT Tryz.prog 128=some (.agg [(.int .i64 0),.bw]):=by kernel_rfl
theorem DT (a b:Nat): fieldAddrV Tryz.prog 128 (.ptr a b) 0=some (.ptr a (b+0)):=by kernel_rfl
theorem DU (a b:Nat): fieldAddrV Tryz.prog 128 (.ptr a b) 1=some (.ptr a (b+1)):=by kernel_rfl
theorem X3 (ps:List (Nat×V)): buildV Tryz.prog 128 ps=(fillV (nth [(0,1),(1,1)]) ((.agg [(.int .i64 0),.bw]):V).cells ps).map .agg:=by kernel_rfl
theorem X4 : bB Tryz.prog 174=some 3:=by kernel_rfl
theorem qT (a b:Nat): fieldAddrV Tryz.prog 174 (.ptr a b) 0=some (.ptr a (b+0)):=by kernel_rfl
theorem qU (a b:Nat): fieldAddrV Tryz.prog 174 (.ptr a b) 1=some (.ptr a (b+1)):=by kernel_rfl
theorem DV (a b:Nat): fieldAddrV Tryz.prog 174 (.ptr a b) 2=some (.ptr a (b+2)):=by kernel_rfl
theorem X5 (ps:List (Nat×V)): buildV Tryz.prog 174 ps=(fillV (nth [(0,1),(1,1),(2,1)]) ((.agg [.cH,.lp,(.bool false)]):V).cells ps).map .agg:=by kernel_rfl
theorem dW : bB Tryz.prog 176=some 1:=by kernel_rfl
theorem gR : isAggT Tryz.prog 176=some true:=by kernel_rfl
theorem oJ : zeroT Tryz.prog 176=some (.agg [.bw]):=by kernel_rfl
theorem pM (a b:Nat): fieldAddrV Tryz.prog 176 (.ptr a b) 0=some (.ptr a (b+0)):=by kernel_rfl
theorem Cm (ps:List (Nat×V)): buildV Tryz.prog 176 ps=(fillV (nth [(0,1)]) ((.agg [.bw]):V).cells ps).map .agg:=by kernel_rfl
theorem LH : bB Tryz.prog 210=some 2:=by kernel_rfl
theorem X6 : isAggT Tryz.prog 210=some true:=by kernel_rfl
theorem FT : zeroT Tryz.prog 210=some (.agg [(.int .i64 0),(.int .u64 0)]):=by kernel_rfl
theorem TM (a b:Nat): fieldAddrV Tryz.prog 210 (.ptr a b) 1=some (.ptr a (b+1)):=by kernel_rfl
theorem X7 (ps:List (Nat×V)): buildV Tryz.prog 210 ps=(fillV (nth [(0,1),(1,1)]) ((.agg [(.int .i64 0),(.int .u64 0)]):V).cells ps).map .agg:=by kernel_rfl
theorem wD : isAggT Tryz.prog 213=some false:=by kernel_rfl
theorem oK : isAggT Tryz.prog 214=some false:=by kernel_rfl
theorem X8 (a b l:Nat)(c:Cap)(k:IntKind)(n:Int): indexAddrV Tryz.prog 214 (.sl a b l c) (.int k n)=cond (decide (0≤n)&&decide (n<(l:Int))) (some (.ptr a (b+n.toNat*5))) none:=by kernel_rfl
theorem rF : isAggT Tryz.prog 215=some false:=by kernel_rfl
theorem vJ (a b:Nat): fieldAddrV Tryz.prog 217 (.ptr a b) 0=some (.ptr a (b+0)):=by kernel_rfl
theorem TN (a b:Nat): fieldAddrV Tryz.prog 217 (.ptr a b) 1=some (.ptr a (b+1)):=by kernel_rfl
theorem kQ (a b:Nat): fieldAddrV Tryz.prog 217 (.ptr a b) 2=some (.ptr a (b+2)):=by kernel_rfl
theorem qV (a b:Nat): fieldAddrV Tryz.prog 217 (.ptr a b) 3=some (.ptr a (b+3)):=by kernel_rfl
theorem mX (a b:Nat): fieldAddrV Tryz.prog 217 (.ptr a b) 4=some (.ptr a (b+4)):=by kernel_rfl
theorem DW (a b:Nat): fieldAddrV Tryz.prog 217 (.ptr a b) 5=some (.ptr a (b+5)):=by kernel_rfl
theorem X9 (ps:List (Nat×V)): buildV Tryz.prog 217 ps=(fillV (nth [(0,1),(1,1),(2,1),(3,1),(4,1),(5,1)]) ((.agg [.cH,.cH,.bw,.lp,.lp,(.int .i64 0)]):V).cells ps).map .agg:=by kernel_rfl
theorem uq : bB Tryz.prog 220=some 2:=by kernel_rfl
theorem LI : isAggT Tryz.prog 220=some true:=by kernel_rfl
theorem wE : zeroT Tryz.prog 220=some (.agg [(.int .u64 0),(.bool false)]):=by kernel_rfl
theorem DX (a b:Nat): fieldAddrV Tryz.prog 220 (.ptr a b) 0=some (.ptr a (b+0)):=by kernel_rfl
theorem Ke (cs:List V): rJ Tryz.prog 220 (.agg cs) 0=nth cs 0:=by kernel_rfl
theorem DY (a b:Nat): fieldAddrV Tryz.prog 220 (.ptr a b) 1=some (.ptr a (b+1)):=by kernel_rfl
theorem X_ (ps:List (Nat×V)): buildV Tryz.prog 220 ps=(fillV (nth [(0,1),(1,1)]) ((.agg [(.int .u64 0),(.bool false)]):V).cells ps).map .agg:=by kernel_rfl
theorem Ya (a b l:Nat)(c:Cap)(k:IntKind)(n:Int): indexAddrV Tryz.prog 223 (.sl a b l c) (.int k n)=cond (decide (0≤n)&&decide (n<(l:Int))) (some (.ptr a (b+n.toNat*1))) none:=by kernel_rfl
theorem Cn : bB Tryz.prog 230=some 5:=by kernel_rfl
theorem Yb : isAggT Tryz.prog 230=some true:=by kernel_rfl
theorem Yc : zeroT Tryz.prog 230=some (.agg [(.int .i64 0),.bw,(.int .i64 0),(.bool false),(.bool false)]):=by kernel_rfl
theorem pN (a b:Nat): fieldAddrV Tryz.prog 230 (.ptr a b) 0=some (.ptr a (b+0)):=by kernel_rfl
theorem Ai (a b:Nat): fieldAddrV Tryz.prog 230 (.ptr a b) 1=some (.ptr a (b+1)):=by kernel_rfl
theorem qW (a b:Nat): fieldAddrV Tryz.prog 230 (.ptr a b) 2=some (.ptr a (b+2)):=by kernel_rfl
theorem DZ (a b:Nat): fieldAddrV Tryz.prog 230 (.ptr a b) 3=some (.ptr a (b+3)):=by kernel_rfl
theorem D1 (a b:Nat): fieldAddrV Tryz.prog 230 (.ptr a b) 4=some (.ptr a (b+4)):=by kernel_rfl
theorem FU (ps:List (Nat×V)): buildV Tryz.prog 230 ps=(fillV (nth [(0,1),(1,1),(2,1),(3,1),(4,1)]) ((.agg [(.int .i64 0),.bw,(.int .i64 0),(.bool false),(.bool false)]):V).cells ps).map .agg:=by kernel_rfl
theorem Sw : isAggT Tryz.prog 232=some false:=by kernel_rfl
theorem pO (a b:Nat): fieldAddrV Tryz.prog 234 (.ptr a b) 0=some (.ptr a (b+0)):=by kernel_rfl
theorem Kf (a b:Nat): fieldAddrV Tryz.prog 234 (.ptr a b) 1=some (.ptr a (b+1)):=by kernel_rfl
theorem Sx (ps:List (Nat×V)): buildV Tryz.prog 234 ps=(fillV (nth [(0,1),(1,1)]) ((.agg [.lp,.lp]):V).cells ps).map .agg:=by kernel_rfl
theorem oL : bB Tryz.prog 237=some 4:=by kernel_rfl
theorem FW : isAggT Tryz.prog 237=some true:=by kernel_rfl
theorem nV : zeroT Tryz.prog 237=some (.agg [(.int .i64 0),(.int .i64 0),(.bool false),.bw]):=by kernel_rfl
theorem nW (a b:Nat): fieldAddrV Tryz.prog 237 (.ptr a b) 0=some (.ptr a (b+0)):=by kernel_rfl
theorem pP (a b:Nat): fieldAddrV Tryz.prog 237 (.ptr a b) 1=some (.ptr a (b+1)):=by kernel_rfl
theorem vK (a b:Nat): fieldAddrV Tryz.prog 237 (.ptr a b) 2=some (.ptr a (b+2)):=by kernel_rfl
theorem mY (a b:Nat): fieldAddrV Tryz.prog 237 (.ptr a b) 3=some (.ptr a (b+3)):=by kernel_rfl
theorem LJ (ps:List (Nat×V)): buildV Tryz.prog 237 ps=(fillV (nth [(0,1),(1,1),(2,1),(3,1)]) ((.agg [(.int .i64 0),(.int .i64 0),(.bool false),.bw]):V).cells ps).map .agg:=by kernel_rfl
theorem Sy (a b:Nat)(k:IntKind)(n:Int): indexAddrV Tryz.prog 264 (.ptr a b) (.int k n)=cond (decide (0≤n)&&decide (n<(512:Nat))) (some (.ptr a (b+n.toNat*1))) none:=by kernel_rfl
theorem Yd : bB Tryz.prog 281=some 512:=by kernel_rfl
theorem Ye : isAggT Tryz.prog 281=some true:=by kernel_rfl
theorem lZ (a b:Nat): fieldAddrV Tryz.prog 320 (.ptr a b) 0=some (.ptr a (b+0)):=by kernel_rfl
theorem Yf (ps:List (Nat×V)): buildV Tryz.prog 320 ps=(fillV (nth [(0,1)]) ((.agg [.bw]):V).cells ps).map .agg:=by kernel_rfl
theorem Yg (ps:List (Nat×V)): buildV Tryz.prog 334 ps=(fillV (fun i=>some (i*1,1)) ((.agg [(.int .u64 0),(.int .u64 0),(.int .u64 0)]):V).cells ps).map .agg:=by kernel_rfl
theorem LK : bB Tryz.prog 344=some 1:=by kernel_rfl
theorem LL : isAggT Tryz.prog 344=some false:=by kernel_rfl
theorem Yh (ps:List (Nat×V)): buildV Tryz.prog 345 ps=(fillV (fun i=>some (i*1,1)) ((.agg [.cH,.cH,.cH]):V).cells ps).map .agg:=by kernel_rfl
def slR (v:V)(a b:Nat): V:=match v with
 |.sl id off _ (.exact c)=>.sl id (cond (Nat.beq c a) off (off+a*1)) (b-a) (.exact (c-a))
 |.sl id off _ (.rest _ alt)=>.sl id (off+a*1) (b-a) (.rest 1 (cond (Nat.beq a 0) alt (cond (Nat.blt a b) (off+a*1) off)))
 |v=>v
theorem iM {v:V}(hv:View h v l)(sx:a≤b)(hb:b≤l.length):
  sliceV Tryz.prog h 23 v (some a) (some b) none=some (slR v a b)∧View h (slR v a b) ((l.take b).drop a)∧∀i∈rowIds (slR v a b),i∈rowIds v:=by
 have I:∀x∈(l.take b).drop a,x<256:=fun x hx=>hv.1 x (lN (oY hx))
 have hlen:((l.take b).drop a).length=b-a:=by grind
 obtain⟨hl,J⟩:=hv
 rcases J with⟨rfl|⟨ea,rfl⟩,rfl⟩|⟨id,off,cap,n,cs,st,rfl,hg,h1,h2,h3,h4⟩
 ·simp only[dz] at hb
  have:b=0:=by omega
  have:a=0:=by omega
  subst_vars
  refine⟨?_,⟨by simp,.inl ⟨.inl rfl,by simp⟩⟩,fun i hi=>hi⟩
  simp only[sliceV,aW,gF]
  rfl
 ·simp only[dz] at hb
  have:b=0:=by omega
  have:a=0:=by omega
  subst_vars
  refine⟨?_,⟨by simp,.inl ⟨.inr ⟨ea,rfl⟩,by simp⟩⟩,fun i hi=>hi⟩
  simp only[sliceV,aW,gF]
  rfl
 ·have U:∀o,o=off+a∨b-a=0→(cs.drop o).take (b-a)=ofBytes ((l.take b).drop a):=by
   grind[ofBytes,List.map_drop,List.map_take,List.drop_take,List.drop_drop]
  cases cap with
  |exact c =>
   refine⟨?_,⟨I,.inr ⟨id,_,_,n,cs,st,by rw[hlen];rfl,hg,h1,?_,?_,?_⟩⟩,fun i hi=>by simpa[rowIds,slR] using hi⟩
   ·simp only[sliceV,slR,aW,gF,g_]
    grind[aZ]
   ·grind
   ·grind[eF]
   ·omega
  |rest e alt =>
   have he:e=1:=h4
   subst he
   refine⟨?_,⟨I,.inr ⟨id,_,_,n,cs,st,by rw[hlen];rfl,hg,h1,by omega,by grind,rfl⟩⟩,fun i hi=>by simpa[rowIds,slR] using hi⟩
   simp only[sliceV,slR,aW,gF,g_,gx]
   grind[aZ]
theorem eA {v:V}(J:View h v l)(ha:a≤l.length):
  sliceV Tryz.prog h 23 v (some a) none none=some (slR v a l.length)∧View h (slR v a l.length) (l.drop a)∧∀i∈rowIds (slR v a l.length),i∈rowIds v:=by
 obtain⟨U,h2,h3⟩:=iM J ha (aP _)
 refine⟨?_,by grind,h3⟩
 obtain⟨_,I⟩:=J
 rcases I with⟨rfl|⟨ea,rfl⟩,rfl⟩|⟨id,off,cap,n,cs,st,rfl,hg,g1,g2,g3,g4⟩
 ·simpa[sliceV,aW,gF] using U
 ·simpa[sliceV,aW,gF] using U
 ·simp_all[sliceV]
theorem iC {v:V}(J:View h v l)(hb:b≤l.length):
  sliceV Tryz.prog h 23 v none (some b) none=some (slR v 0 b)∧View h (slR v 0 b) (l.take b)∧∀i∈rowIds (slR v 0 b),i∈rowIds v:=by
 obtain⟨U,h2,h3⟩:=iM J (fZ b) hb
 refine⟨?_,by grind,h3⟩
 obtain⟨_,I⟩:=J
 rcases I with⟨rfl|⟨ea,rfl⟩,rfl⟩|⟨id,off,cap,n,cs,st,rfl,hg,g1,g2,g3,g4⟩
 ·simpa[sliceV,aW,gF] using U
 ·simpa[sliceV,aW,gF] using U
 ·simp_all[sliceV]
theorem iz {v:V}(J:View h v l)(hi:l[i]?=some b):
  ∃id off,indexAddrV Tryz.prog 23 v (.int .i64 (i:Int))=some (.ptr id off)∧loadV Tryz.prog h 5 (.ptr id off)=some (.int .u8 (b:Int)):=by
 obtain⟨hl,I⟩:=J
 rcases I with⟨_,rfl⟩|⟨id,off,cap,n,cs,st,rfl,U,h1,h2,h3,h4⟩
 ·grind
 ·refine⟨id,off+i*1,?_,?_⟩
  ·simp only[indexAddrV,aW,gF,eD]
   grind
  ·simp only[loadV,J4,xG,U,gj,e_]
   have e:=kO (fun q=>q[i]?) h3
   grind[ofBytes]
theorem View.cells {v:V}(I:View h v l): v.cells=[v]∧Am.storable v=true:=by
 obtain⟨_,I⟩:=I
 rcases I with⟨rfl|⟨J,rfl⟩,_⟩|⟨id,off,cap,n,cs,st,rfl,_⟩<;>exact⟨rfl,rfl⟩
def plain1 : V→Bool
 |.bool _|.int _ _|.str _|.cH|.ptr _ _|.bw|.sl _ _ _ _|.lp|.map _|.El|.mq|.tj _ _=>true
 |.fn (.func _) [] []=>true
 |_=>false
def V7 : V→Bool
 |.agg l=>l.all plain1
 |.bD l=>l.all plain1
 |.iface _ v=>plain1 v
 |v=>plain1 v
theorem LM (k:FloatKind): fkBeq k k=true:=by cases k<;>rfl
theorem GS : ∀l:List Nat,natsBeq l l=true:=by grind[uR]
theorem Qd (v:V)(h:plain1 v=true): v.beq v=true:=by
 cases v<;>simp[plain1,V.beq,dL,lu,AJ,GS,LM] at h ⊢
 rename_i f a b
 cases f<;>cases a<;>cases b<;>simp[plain1,V.beq,V.beqL] at h ⊢
theorem Sz : ∀(l:List V),l.all plain1=true→V.beqL l l=true:=by
 intro l
 induction l<;>grind[V.beqL,Qd]
theorem aU (v:V)(h:V7 v=true): v.beq v=true:=by
 cases v with
 |agg l=>exact Sz l h
 |bD l=>exact Sz l h
 |iface t v=>simp only[V.beq,gx,Bool.true_and];exact Qd v h
 |_=>exact Qd _ h
section
variable {v w:V} {m:List Nat}
theorem Co (s:Sat h (bH v l::X::S))(J:cX X (dc w m))(I:l.length+m.length≤140737488355328):
  ∃v' h',appendV Tryz.prog h #[23,23] v w=some (v',h')∧Sat h' (bH v' (l++m)::X::S):=by
 obtain⟨v',h',U,e2,e3,e4⟩:=xX s.wf (s.buf (k:=0) rfl) (s.aL (k:=1) rfl J) I
 exact⟨v',h',U,s.Ad e3 e2 e4⟩
theorem EO (s:Sat h S)(I:c<1073741824):
  ∃v h',makeSliceV Tryz.prog h 23 (.int .i64 0) (.int .i64 (c:Int))=some (v,h')∧Sat h' (bH v []::S):=by
 obtain⟨v,h',J,U,e3,e4⟩:=Ca s.wf I
 exact⟨v,h',J,s.GN e3 U e4⟩
theorem TO : ∀n:Nat,repeatL [V.int .u8 0] n=ofBytes (List.replicate n 0):=by
 intro n
 induction n<;>grind[repeatL,ofBytes]
theorem NB (s:Sat h S)(J:c<1073741824):
  ∃v h',makeSliceV Tryz.prog h 23 (.int .i64 (c:Int)) (.int .i64 (c:Int))=some (v,h')∧Sat h' (bH v (List.replicate c 0)::S):=by
 obtain⟨i,hi,i1,i2⟩:=vE
 have I:jE (h.new (.cells c (repeatL [.int .u8 0] c) false)) (.sl h.next 0 c (.exact c)) (List.replicate c 0):=by
  refine⟨fun b I=>by grind,.inr (.inl ⟨h.next,[],c,by simp,?_,by simp⟩)⟩<;>grind[ga,TO]
 refine⟨.sl h.next 0 c (.exact c),h.new (.cells c (repeatL [.int .u8 0] c) false),?_,s.GN (eG.Ab s.wf _) I fun i hi=>by simp[rowIds] at hi;omega⟩
 grind[makeSliceV,Tryz.underlying23,qQ,V.cells,Nat.ble,Nat.beq]
theorem NC (s:Sat h S)(I:b<256): ∃v h',buildSliceV Tryz.prog h 23 1 [(0,.int .u8 b)]=some (v,h')∧Sat h' (bH v [b]::S):=by
 obtain⟨v,h',J,U,e3,e4⟩:=EM s.wf I
 exact⟨v,h',J,s.GN e3 U e4⟩
theorem Sat.kq (s:Sat h (bH v l::S))(hl:1≤l.length): ∃id c cap rest,v=.sl id 0 l.length cap∧Sat h (pt id (.cells c (ofBytes l++rest) false)::S)∧l.length+rest.length=c ∧
  (∀(h':H) (I:List Nat),I.length=l.length→(∀b∈I,b<256)→Sat h' (pt id (.cells c (ofBytes I++rest) false)::S)→Sat h' (bH v I::S)):=by
 obtain⟨m,r,h1,h2,h3,a,b,g1,g2,g3,⟨gl,g4⟩,g5⟩:=s.ok
 rcases g4 with⟨rfl,rfl⟩|⟨id,cs,c,rfl,J,hc⟩|⟨id,rfl,J,h5⟩
 ·grind
 ·refine⟨id,c,_,cs,rfl,⟨s.wf,m,r,h1,h2,h3,a,b,g1,g2,g3,J,g5⟩,hc,fun h' I U e2 s'=>s'.fR ?_⟩
  intro m' r' hm
  exact⟨e2,.inr (.inl ⟨id,cs,c,by rw[U],hm,by omega⟩)⟩
 ·refine⟨id,l.length,_,[],rfl,⟨s.wf,m,r,h1,h2,h3,a,b,g1,g2,g3,by rw[cS];exact J,g5⟩,by simp,fun h' I U e2 s'=>s'.fR ?_⟩
  intro m' r' hm
  have GC:m' id=some (.cells l.length (ofBytes I++[]) false):=hm
  exact⟨e2,.inr (.inr ⟨id,by rw[U],by grind,by omega⟩)⟩
theorem yf (l:List Nat)(n:Nat): (ofBytes l).take n=ofBytes (l.take n):=by simp[ofBytes,List.map_take]
theorem GU (l:List Nat)(n:Nat): (ofBytes l).drop n=ofBytes (l.drop n):=by simp[ofBytes,List.map_drop]
def dJ (l:List Nat)(a:Nat)(m:List Nat): List Nat:=l.take a++(m++l.drop (a+m.length))
theorem jm (h:a+m.length≤l.length): (dJ l a m).length=l.length:=by simp[dJ];omega
theorem yg (I:∀b∈l,b<256)(hm:∀b∈m,b<256): ∀b∈dJ l a m,b<256:=by grind[dJ]
theorem GV (s:Sat h (bH v l::X::S))(hX:cX X (dc w m))(sx:a<b)(hb:b≤l.length)(hm:1≤m.length):
  ∃h',copyV Tryz.prog h 23 (slR v a b) w=some (.int .i64 (min m.length (b-a):Nat),h')∧Sat h' (bH v (dJ l a (m.take (b-a)))::X::S):=by
 have hw:=s.aL (k:=1) rfl hX
 have V8:=hw.1
 have hv:=(s.buf (k:=0) rfl).1
 obtain⟨id,c,cap,rest,rfl,s1,hc,hf⟩:=s.kq (by omega)
 have lC:∃J,slR (.sl id 0 l.length cap) a b=.sl id a (b-a) J:=by
  cases cap with
  |exact c =>
   refine⟨.exact (c-a),?_⟩
   simp only[slR]
   by_cases hca:c=a
   ·obtain⟨m',r,h1,h2,h3⟩:=s.at (k:=0) rfl
    rcases h3.2 with⟨e,_⟩|⟨BP,cs',c',e,hg,EP⟩|⟨BP,e,_⟩
    ·cases e
    ·grind
    ·grind
   grind[eF]
  |rest e alt=>simp[slR]
 obtain⟨J,lC⟩:=lC
 rw[lC]
 have qF:=hw
 rcases qF.2 with⟨_,rfl⟩|⟨nh,I,U,n2,Kg,Zz,rfl,SA,q1,q2,q3,q4⟩
 ·grind
 ·have Qe:Nat.min m.length (b-a)=(m.take (b-a)).length:=by
   grind
  have pE:rdN h nh I (Nat.min m.length (b-a)*1)=some (ofBytes (m.take (b-a))):=by
   have kB:View h (.sl nh I (m.take (b-a)).length U) (m.take (b-a)):=by
    refine⟨fun x hx=>V8 x (lN hx),.inr ⟨nh,I,U,n2,Kg,Zz,rfl,SA,q1,?_,?_,?_⟩⟩
    ·grind
    ·rw[←yf,←q3,List.take_take,gv]
    ·grind
   rw[e_,Qe]
   exact kB.rdN.2
  simp only[copyV,aW,gF,pE]
  have hlen:(m.take (b-a)).length≤b-a:=by grind
  have tK:wrN h id a (ofBytes (m.take (b-a)))=some (h.put id (some (.cells c (ofBytes (dJ l a (m.take (b-a)))++rest) false))):=by
   simp only[wrN,s1.row (k:=0) rfl,fu]
   rw[aZ.2 (by omega),ak]
   have e0:(ofBytes l++rest).take a++(ofBytes (m.take (b-a))++(ofBytes l++rest).drop (a+(m.take (b-a)).length))=ofBytes (dJ l a (m.take (b-a)))++rest:=by
    grind[fu,yf,GU,dJ,rB]
   cases ER:(Nat.beq a 0&&Nat.beq (m.take (b-a)).length c)<;>grind[beq_iff,List.drop_eq_nil_of_le,fu]
  rw[tK]
  refine⟨_,rfl,hf _ _ (jm (by omega)) (yg hv (fun x hx=>V8 x (lN hx))) ?_⟩
  exact s1.put (k:=0) rfl
end
section
variable {v w x:V}
theorem SB {st:Bool}(I:isAggT P t=some true)(hs:bB P t=some q)(J:T.get h.tr id=some (.cells n cs st))(U:cs.length=n)(hb:off+q≤n):
  loadV P h t (.ptr id off)=some (.agg ((cs.drop off).take q)):=by
 grind[loadV,rdN,aZ,beq_iff]
theorem Sat.TP (s:Sat h (.arr k v cs::S))(I:cs≠[]): ∃id n cap N rest,v=.sl id 0 n cap∧cs.length=n*k∧N=cs.length+rest.length∧Sat h (pt id (.cells N (cs++rest) false)::S) ∧
  (∀(h':H) (cs':List V) (S':List aS),cs'.length=cs.length→cs'.all storable=true→Sat h' (pt id (.cells N (cs'++rest) false)::S')→Sat h' (.arr k v cs'::S')):=by
 obtain⟨m,r,J,U,h3,a,b,g1,g2,g3,⟨gl,g4⟩,g5⟩:=s.ok
 rcases g4 with⟨_,e⟩|⟨id,n,cap,N,rest,rfl,hg,q1,q2,q3,q4⟩
 ·grind
 ·refine⟨id,n,cap,N,rest,rfl,q1,q2.symm,⟨s.wf,m,r,J,U,h3,a,b,g1,g2,g3,hg,g5⟩,fun h' cs' S' e1 e2 s'=>s'.fR ?_⟩
  intro m' r' hm
  exact⟨e2,.inr ⟨id,n,cap,N,rest,rfl,hm,by omega,by omega,q3,q4⟩⟩
theorem Sat.SC (s:Sat h S)(I:getA S j=some (.arr k v cs)): cs.all storable=true:=by
 obtain⟨m,r,U,h2,J⟩:=s.at I
 exact J.1
theorem Sat.jW (s:Sat h S)(I:getA S j=some (.arr k v cs)): v.cells=[v]∧storable v=true∧v.beq v=true:=by
 obtain⟨m,r,U,h2,J⟩:=s.at I
 rcases J.2 with⟨rfl,_⟩|⟨id,n,cap,N,rest,rfl,_⟩
 ·exact⟨rfl,rfl,rfl⟩
 ·exact⟨rfl,rfl,Ce _ _ _ _⟩
theorem Sat.iG (s:Sat h S)(U:getA S j=some (.arr k v cs))(hn:cs.length=n*k)(J:1≤k)(hu:P.underlying t=some (.slice e)): lenV P h t v=some (.int .i64 n):=by
 obtain⟨m,r,h1,h2,h3⟩:=s.at U
 rcases h3.2 with⟨rfl,rfl⟩|⟨id,n',cap,N,rest,rfl,_,q,_⟩
 ·have:n=0:=by
   rcases y8 n with I|I
   ·exact I
   ·have:=qL I J
    simp at hn
    omega
  simp_all[lenV]
 ·have:n'=n:=JO J (by omega)
  subst this
  simp only[lenV,hu]
theorem uS (z:List V)(n:Nat): (repeatL z n).length=n*z.length:=by
 induction n<;>grind[repeatL]
theorem Cp {z:List V}(I:z.all storable=true)(n:Nat): (repeatL z n).all storable=true:=by
 induction n<;>grind[repeatL]
theorem ur (s:Sat h S){i:TypeInfo}(hu:P.underlying t=some (.slice e))(hi:P.info? e=some i)(hz:zeroT P e=some z)(hk:i.size=k)(hb:i.bytes≤4096)(J:z.cells.length=k)(I:z.cells.all storable=true)
 (h1:1≤k)(U:n≤c)(hc:c<1073741824):
  ∃v h',makeSliceV P h t (.int .i64 (n:Int)) (.int .i64 (c:Int))=some (v,h')∧Sat h' (.arr k v (repeatL z.cells n)::S):=by
 refine⟨.sl h.next 0 n (.exact c),h.new (.cells (c*k) (repeatL z.cells c) false),?_,(s.new _).fR fun m r hm => ?_⟩
 ·grind[makeSliceV,aZ,Nat.beq_refl]
 ·refine⟨Cp I n,.inr ⟨h.next,n,.exact c,c*k,repeatL z.cells (c-n),rfl,?_,by rw[uS,J],?_,Cp I _,rfl,U⟩⟩
  ·have:repeatL z.cells n++repeatL z.cells (c-n)=repeatL z.cells c:=by
    have:∀a b,repeatL z.cells a++repeatL z.cells b=repeatL z.cells (a+b):=fun a b=>by
     induction a<;>grind[repeatL]
    rw[this,show n+(c-n)=c by omega]
   rw[this];exact hm
  ·rw[uS,uS,J,←pe,show n+(c-n)=c by omega]
theorem TQ (I:T.get h.tr id=some (.cells n cs false))(J:cs.length=n)(U:off+vs.length≤n):
  wrN h id off vs=some (h.put id (some (.cells n (cs.take off++(vs++cs.drop (off+vs.length))) false))):=by
 grind[wrN,aZ,beq_iff,List.drop_eq_nil_of_le]
theorem Cq {st:Bool}(I:T.get h.tr id=some (.cells n cs st))(J:cs.length=n)(U:off+q≤n): rdN h id off q=some ((cs.drop off).take q):=by
 grind[rdN,aZ,beq_iff]
def Kh (X:aS)(k:Nat)(v:V)(cs:List V): Prop:=∀m r,X.p m r→uQ m k v cs∨uQ r k v cs
theorem V9 (k:Nat)(v:V)(cs:List V): Kh (.arr k v cs) k v cs:=fun _ _ h=>.inl h
theorem Sat.yh (s:Sat h S)(I:getA S j=some X)(J:Kh X k v cs): uQ (T.get h.tr) k v cs:=by
 obtain⟨m,r,U,h2,h3⟩:=s.at I
 rcases J _ _ h3 with q|q
 ·exact q.up U
 ·exact q.up h2
theorem Cs (a:uQ (T.get h.tr) k v cs)(J:cs.length=n*k)(U:1≤k)(hu:P.underlying t=some (.slice e)): lenV P h t v=some (.int .i64 n):=by
 rcases a.2 with⟨rfl,rfl⟩|⟨id,n',cap,N,rest,rfl,_,q,_⟩
 ·have:n=0:=by
   rcases y8 n with I|I
   ·exact I
   ·have:=qL I U
    simp at J
    omega
  subst this
  exact J9 hu
 grind[Nat.eq_of_mul_eq_mul_right,Ci]
theorem aav (a:uQ (T.get h.tr) k v cs)(hi:i*k+k≤cs.length)(J:1≤k)(hu:P.underlying t=some (.slice e))(I:bB P e=some k):
  ∃id off,indexAddrV P t v (.int .i64 (i:Int))=some (.ptr id off)∧∀m c t',((cs.drop (i*k)).take k)[m]?=some c→isAggT P t'=some false→loadV P h t' (.ptr id (off+m))=some c:=by
 rcases a.2 with⟨_,rfl⟩|⟨id,n,cap,N,rest,rfl,U,e1,e2,_⟩
 ·grind
 ·refine⟨id,i*k,?_,fun m c t' hc ht=>GG ht U ?_⟩
  ·simp only[indexAddrV,hu,I,eD]
   have:i<n:=by
    have h4:i*k+k=(i+1)*k:=by grind
    rw[h4,e1] at hi
    exact y9 (yX hi J)
   grind
  grind[gj]
theorem GW (hX:Kh X k w ds)(s:Sat h (.arr k v cs::X::S)){i:TypeInfo}(hu:P.underlying t=some (.slice e))(hi:P.info? e=some i)(hz:zeroT P e=some z)(hk:i.size=k)(hb:i.bytes≤4096)(hl:z.cells.length=k)
 (h1:1≤k)(gW:cs.length+ds.length≤1073741824):
  ∃v' h',appendV P h #[t,t] v w=some (v',h')∧Sat h' (.arr k v' (cs++ds)::X::S):=by
 have V_:=s.SC (j:=0) rfl
 have am:=s.yh (j:=1) rfl hX
 have Qf:=am.1
 have A7:(cs++ds).all storable=true:=by grind
 -- what is appended
 have U:∃m,srcV h k w=some (ds,m)∧ds.length=m*k:=by
  rcases am.2 with⟨rfl,rfl⟩|⟨id,n,cap,N,rest,rfl,J,e1,e2,e3,e4⟩
  ·exact⟨0,rfl,by simp⟩
  ·refine⟨n,?_,e1⟩
   simp only[srcV]
   rw[Cq J (by grind) (by omega)]
   grind
 obtain⟨m,U,hm⟩:=U
 have I:∀n:Nat,n*k=cs.length→mK (n+m) i.bytes=true:=fun n hn=>by
  have e2:n+m≤(n+m)*k:=Nat.le_mul_of_pos_right _ h1
  have e3:(n+m)*i.bytes≤(n+m)*4096:=Nat.mul_le_mul_left _ hb
  grind[wq]
 have Gn:∀(σ:H) (n:Nat) (T:List aS),Sat σ T→n*k=cs.length→1≤m→Sat (nP σ k cs ds (n+m)).2 (.arr k (nP σ k cs ds (n+m)).1 (cs++ds)::T):=by
  intro σ n T sT hn xx
  refine(sT.new (.cells ((n+m)*k) (cs++ds) false)).fR fun a r GC=>⟨A7,.inr ⟨σ.next,n+m,.rest k 0,(n+m)*k,[],rfl,by rw[cS];exact GC,by grind,by grind,rfl,rfl,rfl,rfl,by omega⟩⟩
 unfold appendV
 simp only[hu,hi,hz,hk,hl,U]
 rw[show(Nat.ble 1 k&&Nat.ble i.bytes 4096&&Nat.beq k k)=true by simp_all,ak]
 cases J5:Nat.beq m 0 with
 |true =>
  have:m=0:=beq_iff.1 J5
  subst this
  have hd0:ds=[]:=yU (by omega)
  subst hd0
  obtain⟨m,r,q1,q2,q3⟩:=s.at (k:=0) rfl
  rcases q3.2 with⟨rfl,rfl⟩|⟨id,n,cap,N,rest,rfl,J,e1,e2,e3,e4⟩
  ·grind
  ·grind
 |false =>
  have xx:1≤m:=by
   grind[qO]
  obtain⟨a,r,q1,q2,q3⟩:=s.at (k:=0) rfl
  rcases q3.2 with⟨rfl,rfl⟩|⟨id,n,cap,N,rest,rfl,J,e1,e2,e3,e4⟩
  ·have J:=I 0 (by simp)
   rw[gw] at J
   simp only[J,ak]
   have:=Gn h 0 (.arr k .bw []::X::S) s (by simp) xx
   rw[gw] at this
   refine⟨_,_,rfl,?_⟩
   exact(this.qf [1]).drop
  ·cases cap with
   |exact c =>
    obtain⟨e4,e5⟩:=e4
    simp only[gw]
    have pq:(cs++rest).take cs.length=cs:=lQ rfl
    cases hq:Nat.ble (n+m) c with
    |true =>
     have AB:=aZ.1 hq
     have lX:n*k+ds.length≤N:=by rw[hm,←pe,e4];exact qJ _ AB
     rw[TQ (q1 _ _ J) (by grind) lX]
     obtain⟨m',r',p1,p2,p3,x1,x2,x3,x4,x5,⟨_,x6⟩,x7⟩:=s.ok
     have tI:x1 id=some (.cells N (cs++rest) false):=by
      rcases x6 with⟨x6,_⟩|⟨BP,n',aac,N',abM,x6,x8,x9,x10,_⟩
      ·cases x6
      ·injection x6 with y1 y2 y3 y4
       subst y1
       rw[x8]
       have:=p1 _ _ (x4 _ _ x8)
       rw[q1 _ _ J] at this
       injection this with this
       rw[this]
     have s0:Sat h (pt id (.cells N (cs++rest) false)::X::S):=⟨s.wf,m',r',p1,p2,p3,x1,x2,x3,x4,x5,tI,x7⟩
     have s1:=s0.put (k:=0) (o':=.cells N ((cs++rest).take (n*k)++(ds++(cs++rest).drop (n*k+ds.length))) false) rfl
     refine⟨_,_,rfl,Sat.fR s1 fun a' r'' ha=>⟨A7,.inr ⟨id,n+m,.exact c,N,rest.drop ds.length,rfl,?_,by grind,by grind,?_,e4,AB⟩⟩⟩
     ·have Wa:a' id=some (.cells N ((cs++rest).take (n*k)++(ds++(cs++rest).drop (n*k+ds.length))) false):=ha
      simp_all[zD]
     ·grind
    |false =>
     rw[bf,I n e1.symm,ak,Cq (q1 _ _ J) (by grind) (by omega)]
     rw[fY,←e1,pq]
     have:=Gn h n _ s e1.symm xx
     exact⟨_,_,rfl,(this.qf [1]).drop⟩
   |rest e' alt =>
    obtain⟨ek,rfl,rfl,e7⟩:=e4
    have ek:=ek.symm
    subst ek
    simp only[gx,ak,cS,gw] at J e2 ⊢
    have Gh:lS h id 0 k=n:=by
     simp only[lS,q1 _ _ J]
     grind[Nat.mul_div_cancel]
    rw[Gh]
    rw[show Nat.ble (n+m) n=false by
     grind[aZ],bf,I n e1.symm,show Nat.ble 2 ((n+m)*k)=true from aZ.2 (by
      have:2*1≤(n+m)*k:=qL (by omega) h1
      omega),jA,ak,Cq (q1 _ _ J) (by omega) (by omega),q1 _ _ J]
    simp only
    obtain⟨m',r',p1,p2,p3,x1,x2,x3,x4,x5,⟨_,x6⟩,x7⟩:=s.ok
    have tI:x1 id=some (.cells N cs false):=by
     grind
    have s0:Sat h (pt id (.cells N cs false)::X::S):=⟨s.wf,m',r',p1,p2,p3,x1,x2,x3,x4,x5,tI,x7⟩
    have:=Gn (h.put id none) n _ s0.kill e1.symm xx
    rw[fY,jy (by omega)]
    exact⟨_,_,rfl,this⟩
theorem iN (s:Sat h (.arr k v cs::.arr k w ds::S)){i:TypeInfo}(hu:P.underlying t=some (.slice e))(hi:P.info? e=some i)(J:zeroT P e=some z)(U:i.size=k)(hb:i.bytes≤4096)(hl:z.cells.length=k)
 (h1:1≤k)(I:cs.length+ds.length≤1073741824):
  ∃v' h',appendV P h #[t,t] v w=some (v',h')∧Sat h' (.arr k v' (cs++ds)::.arr k w ds::S):=GW (V9 _ _ _) s hu hi J U hb hl h1 I
def roH (k:Nat)(v:V)(cs:List V): aS:=.xs fun o:Option (Nat×Nat×Cap×Nat×List V)=>match o with
 |none=>.pu (cs.all storable=true∧v=.bw∧cs=[])
 |some (id,n,cap,N,rest)=>.an (.ro id (.cells N (cs++rest) false)) (.pu (cs.all storable=true∧v=.sl id 0 n cap∧cs.length=n*k∧cs.length+rest.length=N∧rest.all storable=true ∧
  (match cap with|.exact c=>N=c*k∧n≤c|.rest e alt=>e=k∧alt=0∧rest=[]∧1≤n)))
theorem aF.roH (k:Nat)(v:V)(cs:List V): aF (Am.roH k v cs):=aF.xs fun o=>by
 grind[aF.pu,aF.an,aF.ro]
theorem rO (k:Nat)(v:V)(cs:List V): Kh (roH k v cs) k v cs:=fun m r h=>by
 obtain⟨_|⟨id,n,cap,N,rest⟩,h⟩:=h
 ·exact .inr ⟨h.1,.inl h.2⟩
 ·exact .inr ⟨h.2.1,.inr ⟨id,n,cap,N,rest,h.2.2.1,h.1,h.2.2.2⟩⟩
theorem Sat.yj (s:Sat h (.arr k v cs::S)): Sat h (roH k v cs::S):=by
 obtain⟨m,r,J,U,h3,a,b,g1,g2,g3,⟨I,g4⟩,g5⟩:=s.ok
 rcases g4 with⟨e1,e2⟩|⟨id,n,cap,N,rest,e,hg,q⟩
 ·exact fU.2 ⟨none,s.drop.gB ⟨I,e1,e2⟩⟩
 ·have s1:Sat h (pt id (.cells N (cs++rest) false)::S):=⟨s.wf,m,r,J,U,h3,a,b,g1,g2,g3,hg,g5⟩
  exact fU.2 ⟨some (id,n,cap,N,rest),s1.freeze.fR fun a b hq=>⟨hq,I,e,q⟩⟩
end
section
variable {v w x:V}
theorem Sat.iq {l:List V}(s:Sat h S)(J:getA S j=some (pt id (.cells n cs false)))(hs:bB P t=some n)(U:l.length=n)(I:l.all storable=true):
  ∃h₁,ic P h t (.ptr id 0) (.agg l)=some h₁∧Sat h₁ (setA S j (pt id (.cells n l false))):=by
 refine⟨h.put id (some (.cells n l false)),?_,s.put J⟩
 simp only[ic,hs,V.cells,I,U,gx,jA,ak,wrN,s.row J]
 grind[aZ]
theorem kr (s:Sat h S)(hu:P.underlying t=some (.slice e))(U:zeroT P e=some z)(hk:bB P e=some k)(hl:z.cells.length=k)(h1:1≤k)(h2:k≤65536)(J:x.cells.length=k)(I:x.cells.all storable=true):
  ∃v h',buildSliceV P h t 1 [(0,x)]=some (v,h')∧Sat h' (.arr k v x.cells::S):=by
 refine⟨.sl h.next 0 1 (.exact 1),newRow h x.cells,?_,?_⟩
 ·grind[buildSliceV,repeatL,fillV,Nat.beq_refl,aZ]
 ·refine(s.new _).fR fun m r hm=>⟨I,.inr ⟨h.next,1,.exact 1,k,[],rfl,?_,by omega,by omega,rfl,by omega,aP _⟩⟩
  rw[hm,J,cS]
end
section
variable {v w x:V}
theorem ViewM.slice (hv:ViewM m v l)(sx:a≤b)(hb:b≤l.length): ViewM m (slR v a b) ((l.take b).drop a):=by
 have I:∀x∈(l.take b).drop a,x<256:=fun x hx=>hv.1 x (lN (oY hx))
 have hlen:((l.take b).drop a).length=b-a:=by grind
 obtain⟨hl,J⟩:=hv
 rcases J with⟨rfl|⟨ea,rfl⟩,rfl⟩|⟨id,off,cap,n,cs,st,rfl,hg,h1,h2,h3,h4⟩
 ·simp at hb
  subst_vars
  exact⟨by simp,.inl ⟨.inl rfl,by simp⟩⟩
 ·simp at hb
  subst_vars
  exact⟨by simp,.inl ⟨.inr ⟨ea,rfl⟩,by simp⟩⟩
 ·have U:∀o,o=off+a∨b-a=0→(cs.drop o).take (b-a)=ofBytes ((l.take b).drop a):=by
   grind[ofBytes,List.map_take,List.map_drop,List.drop_take,List.drop_drop]
  cases cap with
  |exact c =>
   refine⟨I,.inr ⟨id,_,_,n,cs,st,by rw[hlen];rfl,hg,h1,?_,?_,?_⟩⟩<;>grind[eF]
  |rest e alt =>
   exact⟨I,.inr ⟨id,_,_,n,cs,st,by rw[hlen];rfl,hg,h1,by omega,by grind,rfl⟩⟩
theorem mF (U:cX X (dc v l))(I:a≤b)(J:b≤l.length): cX X (dc (slR v a b) ((l.take b).drop a)):=fun m r hm =>
 (U m r hm).imp (fun h=>ViewM.slice h I J) (fun h=>ViewM.slice h I J)
theorem nX (I:cX X (dc v l))(J:a≤l.length): cX X (dc (slR v a l.length) (l.drop a)):=by
 grind[mF,List.take_length]
theorem wF (I:cX X (dc v l))(J:b≤l.length): cX X (dc (slR v 0 b) (l.take b)):=by
 have:=mF I (fZ b) J
 rwa [fY] at this
theorem Sat.qh (s:Sat h S): Sat h (.arr k .bw []::S):=(s.gB aa).fR fun _ _ _=>⟨rfl,.inl ⟨rfl,rfl⟩⟩
theorem Sat.yl (s:Sat h S): Sat h (bH .bw []::S):=(s.gB aa).fR fun _ _ _=>⟨by simp,.inl ⟨rfl,rfl⟩⟩
theorem Sat.rG (s:Sat h S): Sat h (AK .bw []::S):=(s.gB aa).fR fun _ _ _=>⟨by simp,.inl ⟨.inl rfl,rfl⟩⟩
theorem ym (s:Sat h S){i:TypeInfo}(hu:P.underlying t=some (.slice e))(hi:P.info? e=some i)(I:zeroT P e=some z)(J:i.size=k)(U:i.bytes≤4096)(hl:z.cells.length=k)
 (h1:1≤k)(hn:n<1073741824):
  ∃id h',makeSliceV P h t (.int .i64 (n:Int)) (.int .i64 (n:Int))=some (.sl id 0 n (.exact n),h')∧Sat h' (pt id (.cells (n*k) (repeatL z.cells n) false)::S):=by
 refine⟨h.next,h.new (.cells (n*k) (repeatL z.cells n) false),?_,s.new _⟩<;>grind[makeSliceV,aZ,Nat.beq_refl]
theorem pQ {o:Nat}{c:Cap}(I:v=.sl i o n c)(hu:P.underlying t=some (.slice e)): lenV P h t v=some (.int .i64 n):=by subst I;exact Ci hu
theorem aaw {a b:Int}: builtinV P h .max ts [.int .i64 a,.int .i64 b]=some (.int .i64 (max a b),h):=by
 grind[builtinV,foldV,maxV,ikBeq]
theorem Wb {k:IntKind}{a b:Int}: builtinV P h .min ts [.int k a,.int k b]=some (.int k (min a b),h):=by
 grind[builtinV,foldV,A4,dL]
theorem LN {c:Go.Call}{b:Builtin}(I:c.callee=.builtin b)(J:lookArgs E c.args.toList=some args)(U:builtinV P h b c.argTypes args=some (r,h')): opE P E h (.call c)=some (r,h'):=by
 simp only[opE,I,J,U]
end
def slR3 (v:V)(a b m:Nat): V:=match v with
 |.sl id off _ _=>.sl id (cond (Nat.beq m a) off (off+a*1)) (b-a) (.exact (m-a))
 |v=>v
section
variable {v w x:V}
theorem ViewM.slice3 (hv:ViewM m v l)(sx:a≤b)(hb:b≤c)(hc:c≤l.length)(hl:1≤l.length): ViewM m (slR3 v a b c) ((l.take b).drop a):=by
 have I:∀x∈(l.take b).drop a,x<256:=fun x hx=>hv.1 x (lN (oY hx))
 have hlen:((l.take b).drop a).length=b-a:=by grind
 obtain⟨_,J⟩:=hv
 rcases J with⟨_,rfl⟩|⟨id,off,cap,n,cs,st,rfl,hg,h1,h2,h3,h4⟩
 ·grind
 ·have U:∀o,o=off+a∨b-a=0→(cs.drop o).take (b-a)=ofBytes ((l.take b).drop a):=by
   grind[ofBytes,List.map_take,List.map_drop,List.drop_take,List.drop_drop]
  refine⟨I,.inr ⟨id,_,_,n,cs,st,by rw[hlen];rfl,hg,h1,?_,?_,?_⟩⟩<;>grind[eF]
theorem ND (hX:cX X (dc v l))(I:a≤b)(J:b≤c)(U:c≤l.length)(hl:1≤l.length): cX X (dc (slR3 v a b c) ((l.take b).drop a)):=fun m r hm =>
 (hX m r hm).imp (fun h=>ViewM.slice3 h I J U hl) (fun h=>ViewM.slice3 h I J U hl)
theorem I2 (J:View h v l)(U:a≤b)(hb:b≤c)(hc:c≤l.length)(hl:1≤l.length): sliceV Tryz.prog h 23 v (some a) (some b) (some c)=some (slR3 v a b c):=by
 obtain⟨_,I⟩:=J
 rcases I with⟨_,rfl⟩|⟨id,off,cap,n,cs,st,rfl,hg,h1,h2,h3,h4⟩
 ·grind
 ·cases cap with
  |exact q =>
   simp only[sliceV,slR3,aW,gF,g_]
   grind[aZ]
  |rest e alt =>
   have he:e=1:=h4
   subst he
   simp only[sliceV,slR3,aW,gF,g_,gx]
   grind[Nat.blt,aZ]
theorem ku (I:View h v l)(J:1≤l.length): ∃id off cap,v=.sl id off l.length cap:=by
 rcases I.2 with⟨_,rfl⟩|⟨id,off,cap,_,_,_,rfl,_⟩<;>grind
theorem gG {k:IntKind}{n:Int}(I:0≤n): iA (some (V.int k n))=some (some n.toNat):=by
 grind[iA,bndV]
end
section
variable {v w x:V} {m:List Nat}
theorem GX (s:Sat h S)(J:getA S j=some (.arr q v cs))(hi:i*q+q≤cs.length)(U:1≤q)(hu:P.underlying t=some (.slice e))(I:bB P e=some q):
  ∃id off,indexAddrV P t v (.int .i64 (i:Int))=some (.ptr id off)∧(isAggT P e=some true→loadV P h e (.ptr id off)=some (.agg ((cs.drop (i*q)).take q))):=by
 obtain⟨m,r,h1,h2,h3⟩:=s.at J
 rcases h3.2 with⟨_,rfl⟩|⟨id,n,cap,N,rest,rfl,hg,e1,e2,_⟩
 ·grind
 ·refine⟨id,i*q,?_,fun ht => ?_⟩
  ·simp only[indexAddrV,hu,I,eD]
   have:i<n:=by
    have h4:i*q+q=(i+1)*q:=by grind
    rw[h4,e1] at hi
    exact y9 (yX hi U)
   grind
  ·rw[SB ht I (h1 _ _ hg) (by grind) (by omega)]
   grind
theorem Sat.Wc (s:Sat h (bH v l::X::S))(hX:cX X (dc w m)): ∀i∈rowIds w,i∉rowIds v:=by
 intro i hi J
 obtain⟨a,r,h1,h2,h3,b,c,g1,g2,g3,g4,d,e,k1,k2,k3,k4,k5⟩:=s.ok
 have hb:=J7 g4 i J
 have hw:∀q:PM,ViewM q w m→q i≠none:=fun q U=>by
  rcases U.2 with⟨rfl|⟨ea,rfl⟩,_⟩|⟨id,off,cap,n,cs,st,rfl,hg,_⟩<;>grind[rowIds]
 rcases hX _ _ k4 with U|U
 ·cases hd:d i with
  |none=>grind
  |some o =>
   rcases g1 i with I|I
   ·grind
   ·rw[k2 _ _ hd] at I;cases I
 ·cases NF:b i with
  |none=>grind
  |some o =>
   rcases h3 i with I|I
   ·rw[g2 _ _ NF] at I;cases I
   ·grind
end
abbrev cx := List (Int×V×Nat)
def eN (e:Int×V×Nat): V×V×Nat:=(.int .i64 e.1,e.2)
def lookE (n:Int): cx→Option V
 |[]=>none
 |e::l=>if e.1=n then some e.2.1 else lookE n l
def jX (n:Int)(v:V)(c:Nat): cx→cx
 |[]=>[(n,v,c)]
 |e::l=>if e.1=n then(e.1,v,e.2.2)::l else e::jX n v c l
def m8 (n:Int): cx→cx
 |[]=>[]
 |e::l=>if e.1=n then l else e::m8 n l
def clkE (n:Int)(c:Nat)(l:cx): Nat:=match lookE n l with
 |some _=>c
 |none=>c+1
abbrev fV (id:Nat)(l:cx)(c:Nat): aS:=pt id (.map (l.map eN) c)
def idxE (n:Int): cx→Nat→Option (Nat×V)
 |[],_=>none
 |e::l,i=>if e.1=n then some (i,e.2.1) else idxE n l (i+1)
theorem nY (a b:Int): intBeq a b=decide (a=b):=by
 grind[uk,lu]
theorem qX {k:IntKind}{n:Int}: ∀(l:cx) (i:Nat),findK (.int k) (.int .i64 n) (l.map eN) i=some (idxE n l i):=by
 intro l
 induction l<;>grind[findK,eN,keyBeq,dL,nY,idxE]
theorem pR {n:Int}: ∀(l:cx) (i:Nat),(idxE n l i).map (·.2)=lookE n l:=by
 intro l
 induction l<;>grind[idxE,lookE]
theorem Ki {n:Int}: ∀(l:cx) (i j:Nat) (v:V),idxE n l i=some (j,v)→i≤j:=by
 intro l
 induction l<;>grind[idxE]
theorem Yi {n:Int}{v:V}: ∀(l:cx) (i j:Nat) (u:V),idxE n l i=some (j,u)→setNth (l.map eN) (j-i) (fun e=>(e.1,v,e.2.2))=(jX n v c l).map eN:=by
 intro l
 induction l with
 |nil=>intro i j u h;cases h
 |cons e l J =>
  intro i j u h
  simp only[idxE] at h
  simp only[jX,gO,setNth]
  by_cases he:e.1=n
  ·rw[aE he] at h;injection h with h;injection h with I U
   subst I
   rw[aE he,Nat.sub_self]
   rfl
  ·rw[ah he] at h
   have h3:=Ki _ _ _ _ h
   grind[eF]
theorem Wd {n:Int}: ∀(l:cx) (i j:Nat) (u:V),idxE n l i=some (j,u)→lT (l.map eN) (j-i)=(m8 n l).map eN:=by
 intro l
 induction l with
 |nil=>intro i j u h;cases h
 |cons e l I =>
  intro i j u h
  simp only[idxE] at h
  simp only[m8,gO,lT]
  by_cases he:e.1=n
  ·simp_all
  ·rw[ah he] at h
   have J:=Ki _ _ _ _ h
   grind[eF]
theorem TR {n:Int}{v:V}: ∀(l:cx),lookE n l=none→jX n v c l=l++[(n,v,c)]:=by
 intro l
 induction l<;>grind[lookE,jX]
theorem Qg {n:Int}: ∀(l:cx),lookE n l=none→m8 n l=l:=by
 intro l
 induction l<;>grind[lookE,m8]
section
variable {v:V} {k:IntKind} {l:cx} {n:Int}
theorem Sat.SD (s:Sat h S)(I:getA S j=some (fV id l c))(hu:P.underlying t=some (.map kt et))(J:P.underlying kt=some (.int k))(U:zeroT P et=some z):
  fC P h t (.map id) (.int .i64 n) true=some (match lookE n l with|some v=>.bD [v,.bool true]|none=>.bD [z,.bool false]):=by
 have hg:=s.row I
 simp only[fC,lookupV,hu,J,U,hg,keyBeq,dL,ak,qX]
 rw[←pR l 0]
 cases idxE n l 0<;>grind
theorem Sat.Yj (s:Sat h S)(I:getA S j=some (fV id l c))(hu:P.underlying t=some (.map kt et))(J:P.underlying kt=some (.int k))(U:zeroT P et=some z):
  fC P h t (.map id) (.int .i64 n) false=some (match lookE n l with|some v=>v|none=>z):=by
 have hg:=s.row I
 simp only[fC,lookupV,hu,J,U,hg,keyBeq,dL,ak,qX]
 rw[←pR l 0]
 cases idxE n l 0<;>grind
theorem Sat.update (s:Sat h S)(U:getA S j=some (fV id l c))(hu:P.underlying t=some (.map kt et))(hk:P.underlying kt=some (.int k)):
  ∃h',mapUpdateV P h t (.map id) (.int .i64 n) v=some h'∧Sat h' (setA S j (fV id (jX n v c l) (clkE n c l))):=by
 have hg:=s.row U
 refine⟨h.put id (some (.map ((jX n v c l).map eN) (clkE n c l))),?_,s.put U⟩
 simp only[mapUpdateV,hu,hk,hg,keyBeq,dL,ak,qX]
 have I:=pR (n:=n) l 0
 cases J:idxE n l 0 with
 |none =>
  rw[J] at I
  have I:lookE n l=none:=I.symm
  simp only[clkE,I,TR l I,List.map_append]
  rfl
 |some q =>
  obtain⟨i,u⟩:=q
  rw[J] at I
  have I:lookE n l=some u:=I.symm
  simp only[clkE,I]
  rw[←Yi (v:=v) (c:=c) l 0 i u J,lR]
theorem Sat.delete (s:Sat h S)(J:getA S j=some (fV id l c))(hu:P.underlying t=some (.map kt et))(hk:P.underlying kt=some (.int k)):
  ∃h',mU P h t (.map id) (.int .i64 n)=some h'∧Sat h' (setA S j (fV id (m8 n l) c)):=by
 have hg:=s.row J
 simp only[mU,hu,hk,hg,keyBeq,dL,ak,qX]
 have I:=pR (n:=n) l 0
 cases U:idxE n l 0 with
 |none =>
  rw[U] at I
  have I:lookE n l=none:=I.symm
  refine⟨h,rfl,?_⟩
  rw[Qg l I]
  have:∀(S:List aS) (j:Nat) (A:aS),getA S j=some A→setA S j A=S:=by
   intro S
   induction S with
   |nil=>intro j A h;cases h
   |cons B S ih =>
    intro j A h
    cases j<;>grind[getA,setA]
  rw[this S j _ J]
  exact s
 |some q =>
  obtain⟨i,u⟩:=q
  refine⟨_,rfl,?_⟩
  have e:=Wd l 0 i u U
  rw[lR] at e
  rw[e]
  exact s.put J
theorem Sat.aax (s:Sat h S)(I:getA S j=some (fV id l c))(hu:P.underlying t=some (.map kt et)): lenV P h t (.map id)=some (.int .i64 (l.length:Int)):=by
 have J:=s.row I
 simp_all[lenV]
end
section
variable {z:Operand} {a b v:V}
theorem OpR.upd (J:∀env,kx env E→evOp C (ev C 0) env h o=(match mapUpdateV C.P h t a b v with|some h'=>some (cF,h')|none=>none))
 (ho:∃h₁,mapUpdateV C.P h t a b v=some h₁∧Sat h₁ S'): OpR C E h o fun _ h₁=>Sat h₁ S':=by
 obtain⟨h₁,U,I⟩:=ho
 exact⟨cF,h₁,I,fun env he=>⟨0,by grind⟩⟩
theorem OpR.mapUpdate (I:o.op=.mapUpdate t x y z)(J:bl E x=some a)(U:bl E y=some b)(hz:bl E z=some v)
 (ho:∃h₁,mapUpdateV C.P h t a b v=some h₁∧Sat h₁ S'): OpR C E h o fun _ h₁=>Sat h₁ S':=by
 refine OpR.upd (t:=t) (a:=a) (b:=b) (v:=v) (fun env he => ?_) ho
 simp only[evOp,I,bU he J,bU he U,bU he hz,sB]
 cases mapUpdateV C.P h t a b v<;>rfl
theorem OpR.builtin {bi:Builtin}{R:V→H→Prop}(I:o.op=.call cl)(J:cl.callee=.builtin bi)(U:lookArgs E cl.args.toList=some args)(ho:∃v h₁,builtinV C.P h bi cl.argTypes args=some (v,h₁)∧R v h₁): OpR C E h o R:=by
 grind[OpR.of,opE]
theorem OpR.oO {m:List Nat}(hP:C.P=Tryz.prog)(s:Sat h (bH v l::X::S))(hX:cX X (dc u m))(I:o.op=.call cl)(hc:cl.callee=.builtin .append)(J:cl.argTypes = #[23,23])(ha:lookArgs E cl.args.toList=some [v,u])
 (U:l.length+m.length≤140737488355328): OpR C E h o fun v' h₁=>Sat h₁ (bH v' (l++m)::X::S):=by
 grind[Co,OpR.builtin,builtinV]
theorem OpR.vL (J:C.P=Tryz.prog)(s:Sat h S)(I:o.op=.makeSlice t x y)(U:t=23)(hx:bl E x=some (.int .i64 0))(hy:bl E y=some (.int .i64 (c:Int)))(hc:c<1073741824): OpR C E h o fun v' h₁=>Sat h₁ (bH v' []::S):=by
 grind[EO,OpR.of,rC]
theorem OpR.FX (J:C.P=Tryz.prog)(s:Sat h S)(I:o.op=.makeSlice t x y)(U:t=23)(hx:bl E x=some (.int .i64 (c:Int)))(hy:bl E y=some (.int .i64 (c:Int)))(hc:c<1073741824): OpR C E h o fun v' h₁=>Sat h₁ (bH v' (List.replicate c 0)::S):=by
 grind[NB,OpR.of,rC]
theorem OpR.Yk {m:List Nat}{p:Nat}(hP:C.P=Tryz.prog)(s:Sat h (bH v l::X::S))(hX:cX X (dc u m))(I:o.op=.call cl)(hc:cl.callee=.builtin .copy)(J:cl.argTypes = #[23,23])(ha:lookArgs E cl.args.toList=some [slR v p q,u])
 (U:p<q)(hq:q≤l.length)(hm:1≤m.length): OpR C E h o fun _ h₁=>Sat h₁ (bH v (dJ l p (m.take (q-p)))::X::S):=by
 grind[GV,OpR.builtin,builtinV]
theorem OpR.LO (J:C.P=Tryz.prog)(s:Sat h S)(I:o.op=.buildSlice t 1 ps)(U:t=23)(hx:lookParts E ps.toList=some [(0,.int .u8 (n:Int))])(hn:n<256): OpR C E h o fun v' h₁=>Sat h₁ (bH v' [n]::S):=by
 grind[NC,OpR.of,mE]
end
section
def lookL (n:Int): List (Int×α)→Option α
 |[]=>none
 |e::l=>if e.1=n then some e.2 else lookL n l
def cY (n:Int)(a:α): List (Int×α)→List (Int×α)
 |[]=>[(n,a)]
 |e::l=>if e.1=n then(n,a)::l else e::cY n a l
def ou (n:Int): List (Int×α)→List (Int×α)
 |[]=>[]
 |e::l=>if e.1=n then l else e::ou n l
theorem gH {n k:Int}{a:α}: ∀l:List (Int×α),lookL k (cY n a l)=if n=k then some a else lookL k l:=by
 intro l
 induction l<;>grind[cY,lookL]
theorem ff {n:Int}: ∀ {l:List (Int×α)},lookL n l=none↔n∉l.map (·.1):=by
 intro l
 induction l<;>grind[lookL]
theorem ES {n k:Int}: ∀ {l:List (Int×α)},(l.map (·.1)).Nodup→lookL k (ou n l)=if n=k then none else lookL k l:=by
 intro l
 induction l<;>grind[ou,lookL,ff]
theorem oP {n:Int}{a:α}: ∀ {l:List (Int×α)} {k:Int},k∈(cY n a l).map (·.1)↔k=n∨k∈l.map (·.1):=by
 intro l
 induction l<;>grind[cY]
theorem iO {n:Int}{a:α}: ∀ {l:List (Int×α)},(l.map (·.1)).Nodup→((cY n a l).map (·.1)).Nodup:=by
 intro l
 induction l<;>grind[cY,oP]
theorem Qh {n:Int}: ∀ {l:List (Int×α)} {k:Int},k∈(ou n l).map (·.1)→k∈l.map (·.1):=by
 intro l
 induction l<;>grind[ou]
theorem wG {n:Int}: ∀ {l:List (Int×α)},(l.map (·.1)).Nodup→((ou n l).map (·.1)).Nodup:=by
 intro l
 induction l<;>grind[ou,Qh]
def eT (f:V→α→aS): cx→List (Int×α)→aS
 |[],[]=>.pu True
 |e::l,x::m=>.an (.an (.pu (e.1=x.1)) (f e.2.1 x.2)) (eT f l m)
 |_,_=>.pu False
variable {f:V→α→aS} {a b:PM}
theorem sM : ∀ {l:cx} {m:List (Int×α)},(eT f l m).p a b→l.map (·.1)=m.map (·.1):=by
 intro l
 induction l with
 |nil=>intro m h;cases m with
  |nil=>rfl
  |cons x m=>exact h.elim
 |cons e l I=>intro m h;cases m with
  |nil=>exact h.elim
  |cons x m=>simp only[gO];rw[h.1.1,I h.2]
theorem sN {n:Int}: ∀ {l:cx} {m:List (Int×α)},(eT f l m).p a b→(lookE n l=none∧lookL n m=none)∨∃u x,lookE n l=some u∧lookL n m=some x∧(f u x).p a b:=by
 intro l
 induction l with
 |nil=>intro m h;cases m with
  |nil=>exact .inl ⟨rfl,rfl⟩
  |cons x m=>exact h.elim
 |cons e l J=>intro m h;cases m with
  |nil=>exact h.elim
  |cons x m =>
   obtain⟨⟨I,U⟩,h3⟩:=h
   have I:e.1=x.1:=I
   grind[lookE,lookL]
theorem ET {n:Int}{x:α}(hu:(f u x).p a b): ∀ {l:cx} {m:List (Int×α)},(eT f l m).p a b→(eT f (jX n u c l) (cY n x m)).p a b:=by
 intro l
 induction l with
 |nil=>intro m h;cases m with
  |nil=>exact⟨⟨rfl,hu⟩,aa⟩
  |cons x m=>exact h.elim
 |cons e l U=>intro m h;cases m with
  |nil=>exact h.elim
  |cons y m =>
   obtain⟨⟨I,h2⟩,J⟩:=h
   have I:e.1=y.1:=I
   simp only[jX,cY,←I]
   by_cases he:e.1=n
   ·rw[aE he,aE he];exact⟨⟨he,hu⟩,J⟩
   ·rw[ah he,ah he];exact⟨⟨I,h2⟩,U J⟩
theorem NG {n:Int}: ∀ {l:cx} {m:List (Int×α)},(eT f l m).p a b→(eT f (m8 n l) (ou n m)).p a b:=by
 intro l
 induction l with
 |nil=>intro m h;cases m with
  |nil=>trivial
  |cons x m=>exact h.elim
 |cons e l J=>intro m h;cases m with
  |nil=>exact h.elim
  |cons y m =>
   obtain⟨⟨I,U⟩,h3⟩:=h
   have I:e.1=y.1:=I
   simp only[m8,ou,←I]
   by_cases he:e.1=n
   ·grind
   ·rw[ah he,ah he];exact⟨⟨I,U⟩,J h3⟩
theorem aF.GY (I:∀u x,aF (f u x)): ∀(l:cx) (m:List (Int×α)),aF (eT f l m):=by
 intro l
 induction l with
 |nil=>intro m;cases m<;>exact aF.pu _
 |cons e l J=>intro m;cases m with
  |nil=>exact aF.pu _
  |cons x m=>exact aF.an (aF.an (aF.pu _) (I _ _)) (J m)
def fg (c:Nat): Nat→cx→Prop
 |_,[]=>True
 |b,e::l=>b≤e.2.2∧e.2.2<c∧fg c (e.2.2+1) l
theorem Ct : ∀ {l:cx} {b I:Nat},I≤b→fg c b l→fg c I l:=by
 intro l
 cases l with
 |nil=>intro b I _ _;trivial
 |cons e l=>intro b I h J;exact⟨b_ h J.1,J.2⟩
theorem yn {k:Int}(U:n=c): ∀ {l:cx} {b:Nat},b≤c→fg c b l→fg (clkE k c l) b (jX k u n l):=by
 subst U
 intro l
 induction l with
 |nil=>intro b J _;exact⟨J,Ds _,aa⟩
 |cons e l ih =>
  intro b J h
  have I:=ih (b:=e.2.2+1) (by have:=h.2.1;omega) h.2.2
  by_cases he:e.1=k
  ·simp only[jX,clkE,lookE,aE he];exact h
  ·simp only[jX,clkE,lookE,ah he]
   refine⟨h.1,?_,I⟩
   have:=h.2.1
   split<;>omega
theorem NH {k:Int}: ∀ {l:cx} {b:Nat},fg c b l→fg c b (m8 k l):=by
 intro l
 induction l with
 |nil=>intro b h;exact h
 |cons e l I =>
  intro b h
  simp only[m8]
  by_cases he:e.1=k
  ·rw[aE he];exact Ct (by have:=h.1;omega) h.2.2
  ·rw[ah he];exact⟨h.1,h.2.1,I h.2.2⟩
def jc (f:V→α→aS)(v:V)(m:List (Int×α)): aS :=
 xs fun id:Nat=>xs fun l:cx=>xs fun c:Nat=>star [.pu (v=.map id∧fg c 0 l∧(m.map (·.1)).Nodup),fV id l c,eT f l m]
section
variable {v:V} {k:IntKind} {m:List (Int×α)} {n:Int} {x:α}
theorem eB : Sat h (jc f v m::S)↔∃id l c,v=.map id∧fg c 0 l∧(m.map (·.1)).Nodup∧Sat h (fV id l c::eT f l m::S):=by
 simp[jc,fU,ej,eP,and_assoc]
theorem mw (hf:∀u x,aF (f u x))(s:Sat h (jc f v m::S))(hu:P.underlying t=some (.map kt et))(I:P.underlying kt=some (.int k))(J:zeroT P et=some z):
  (lookL n m=none∧fC P h t v (.int .i64 n) true=some (.bD [z,.bool false])∧fC P h t v (.int .i64 n) false=some z) ∨
  ∃u x,lookL n m=some x∧fC P h t v (.int .i64 n) true=some (.bD [u,.bool true])∧fC P h t v (.int .i64 n) false=some u∧Sat h (f u x::jc f v m::S):=by
 obtain⟨id,l,c,rfl,hb,hn,s1⟩:=eB.1 s
 have U:=s1.SD (n:=n) (j:=0) rfl hu I J
 have e1:=s1.Yj (n:=n) (j:=0) rfl hu I J
 obtain⟨a,b,q1,q2,q3⟩:=s1.at (k:=1) rfl
 rcases sN (n:=n) q3 with⟨g1,g2⟩|⟨u,x,g1,g2,g3⟩
 ·grind
 ·rw[g1] at e1 U
  refine .inr ⟨u,x,g2,U,e1,?_⟩
  have s2:Sat h (eT f l m::fV id l c::S):=s1.qf [1]
  have s3:=s2.dup (aF.GY hf l m)
  have s4:Sat h (f u x::eT f l m::fV id l c::S):=s3.fR fun a' b' h'=>by
   grind[sN]
  have s5:Sat h (fV id l c::eT f l m::f u x::S):=s4.qf [2,1]
  exact(eB.2 ⟨id,l,c,rfl,hb,hn,s5⟩:Sat h (jc f (.map id) m::f u x::S)).qf [1]
theorem oQ (I:∀u x,aF (f u x))(s:Sat h (f u x::jc f v m::S))(hu:P.underlying t=some (.map kt et))(J:P.underlying kt=some (.int k)):
  ∃h',mapUpdateV P h t v (.int .i64 n) u=some h'∧Sat h' (jc f v (cY n x m)::S):=by
 have U:Sat h (jc f v m::f u x::S):=s.qf [1]
 obtain⟨id,l,c,rfl,hb,hn,s1⟩:=eB.1 U
 obtain⟨h',e1,e2⟩:=s1.update (n:=n) (v:=u) (j:=0) rfl hu J
 refine⟨h',e1,?_⟩
 have e3:Sat h' (f u x::eT f l m::fV id (jX n u c l) (clkE n c l)::S):=e2.qf [2,1]
 have e4:Sat h' (eT f (jX n u c l) (cY n x m)::fV id (jX n u c l) (clkE n c l)::S):=e3.map fun a b h=>by
  obtain⟨p1,p2,d1,d2,d3,d4,p3,p4,d5,d6,d7,d8,d9⟩:=h
  exact⟨fun _=>none,p4,fun _=>.inl rfl,fun _ _ h=>(by cases h),PM.le_trans d7 d3,ET (I _ _ _ _ d4) (aF.GY I _ _ _ _ d8),d9⟩
 exact eB.2 ⟨id,_,_,rfl,yn rfl (fZ _) hb,iO hn,e4.qf [1]⟩
theorem Qi (s:Sat h (jc f v m::S))(hu:P.underlying t=some (.map kt et))(I:P.underlying kt=some (.int k)):
  ∃h',mU P h t v (.int .i64 n)=some h'∧Sat h' (jc f v (ou n m)::S):=by
 obtain⟨id,l,c,rfl,J,U,s1⟩:=eB.1 s
 obtain⟨h',e1,e2⟩:=s1.delete (n:=n) (j:=0) rfl hu I
 refine⟨h',e1,?_⟩
 have e3:Sat h' (eT f l m::fV id (m8 n l) c::S):=e2.qf [1]
 have e4:Sat h' (eT f (m8 n l) (ou n m)::fV id (m8 n l) c::S):=e3.fR fun a b h=>NG h
 exact eB.2 ⟨id,_,_,rfl,NH J,wG U,e4.qf [1]⟩
theorem Bb (s:Sat h (jc f v m::S))(hu:P.underlying t=some (.map kt et)): lenV P h t v=some (.int .i64 (m.length:Int)):=by
 obtain⟨id,l,c,rfl,J,U,s1⟩:=eB.1 s
 have e:=s1.aax (j:=0) rfl hu
 obtain⟨a,b,q1,q2,I⟩:=s1.at (k:=1) rfl
 have:=kO List.length (sM I)
 grind
theorem tL (s:Sat h (pt id (.map [] 0)::S)): Sat h (jc f (.map id) []::S):=by
 have s1:Sat h (eT f [] []::pt id (.map [] 0)::S):=s.gB aa
 exact eB.2 ⟨id,[],0,rfl,aa,by simp,s1.qf [1]⟩
theorem yo (s:Sat h S)(I:getA S j=some (jc f v m)): ∃id,v=.map id:=by
 have s1:=s.take j I
 grind[eB]
end
end
theorem OpR.delete {u:TypeId}{m k:V}(I:o.op=.call cl)(J:cl.callee=.builtin .delete)(U:cl.argTypes = #[t,u])(ha:lookArgs E cl.args.toList=some [m,k])
 (ho:∃h₁,mU C.P h t m k=some h₁∧Sat h₁ S'): OpR C E h o fun _ h₁=>Sat h₁ S':=by
 obtain⟨h₁,e1,e2⟩:=ho
 refine OpR.builtin I J ha ⟨.bD [],h₁,?_,e2⟩<;>grind[builtinV]
end Go.Proofs.YtiojppeahfoiaaaGreat.Am
