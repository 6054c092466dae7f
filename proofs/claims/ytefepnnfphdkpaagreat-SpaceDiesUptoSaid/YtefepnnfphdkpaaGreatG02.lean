/- SpaceDies: a part of its proof; conditions: its statement's. -/
import Derived.Test.YtefepnnfphdkpaaGreatG01
import Derived.Scope
import Derived.Test.YtefepnnfphdkpaaGreatProg
import Derived.KernelRfl
import Derived.Shelf.SlIterI.Sorted
import Derived.Defers
import Derived.Recover
set_option linter.defProp false
namespace Go.Proofs.YtefepnnfphdkpaaGreat.Am
open Go
def aT:=@Tryz.underlying28
def CM:=@Tryz.func178
abbrev dc:=Nat→Option (List V→H→Option (V×H))
variable {ps:Array (Nat×Operand)} {ops:Array Oper} {C:fH} {code:Code} {c₀:Ctx} {env:Env} {Q:Ex→List (Nat×V)→H→Prop} {fn:Func} {f:FuncId} {h h' σ h₁ dH:H} {E E':List (Nat×V)} {R:List (Nat×V)→H→Prop} {d₀:List Deferred} {hs:List H} {eN es l:List Nat} {L rest:List Oper} {args first cap vs cs ds:List V} {a b i c k id n d off j g nE k' q:Nat} {Hs:Nat→H} {early:Nat→Option (Nat×FV)} {Fl:Nat→Prop} {vv:Nat→V} {o':Obj} {o:Oper} {x y:Operand} {P:Program} {φ:Prop} {self:Self} {s s':St} {α:Type} {td:TypeDesc} {t t' e kt et:TypeId} {r u z:V} {yR:V→H→Prop} {w₀:World}
theorem Rr {a b:IntKind}(h:ikBeq a b=true): a=b:=by cases a<;>cases b<;>first|rfl|(simp[ikBeq] at h)
theorem uV {a b:Int}(h:intBeq a b=true): a=b:=by
 cases a<;>cases b<;>simp[intBeq] at h<;>rw[h]
theorem CN : ∀ {a b:List Nat},natsBeq a b=true→a=b
 |[],[],_=>rfl
 |[],_::_,h=>by simp[natsBeq] at h
 |_::_,[],h=>by simp[natsBeq] at h
 |x::a,y::b,h=>by
  simp only[natsBeq] at h
  cases I:Nat.beq x y with
  |false=>grind
  |true=>rw[I,aj] at h;rw[beq_iff.1 I,CN h]
theorem Ou {a b:Cap}(h:a.beq b=true): a=b:=by
 cases a<;>cases b<;>simp[Cap.beq] at h
 ·rw[h]
 ·grind
mutual
theorem Ey : ∀(a b:V),V.beq a b=true→a=b
 |.bool a,b,h=>by cases b<;>simp[V.beq] at h;rw[h]
 |.int j a,b,h=>by
  cases b<;>simp[V.beq] at h
  rw[Rr h.1,uV h.2]
 |.str a,b,h=>by cases b<;>simp[V.beq] at h;rw[CN h]
 |.cy,b,h=>by cases b<;>simp[V.beq] at h;rfl
 |.ptr x y,b,h=>by cases b<;>simp[V.beq] at h;rw[h.1,h.2]
 |.bC,b,h=>by cases b<;>simp[V.beq] at h;rfl
 |.sl x y z u,b,h=>by
  cases b<;>simp[V.beq] at h
  rw[h.1.1.1,h.1.1.2,h.1.2,Ou h.2]
 |.lz,b,h=>by cases b<;>simp[V.beq] at h;rfl
 |.map x,b,h=>by cases b<;>simp[V.beq] at h;rw[h]
 |.fn f x y,b,h=>by
  cases f with
  |func k=>cases b with
   |fn g u v=>cases g with
    |func j =>
     simp[V.beq] at h
     rw[h.1.1,uc x u h.1.2,uc y v h.2]
    |_=>simp[V.beq] at h
   |_=>simp[V.beq] at h
  |_=>cases b<;>simp[V.beq] at h
 |.Fe,b,h=>by cases b<;>simp[V.beq] at h;rfl
 |.iface t v,b,h=>by
  cases b<;>simp[V.beq] at h
  rw[h.1,Ey v _ h.2]
 |.jN,b,h=>by cases b<;>simp[V.beq] at h;rfl
 |.agg l,b,h=>by cases b<;>simp[V.beq] at h;rw[uc l _ h]
 |.bf l,b,h=>by cases b<;>simp[V.beq] at h;rw[uc l _ h]
 |.NJ _,b,h=>by cases b<;>simp[V.beq] at h
 |.sle a,b,h=>by cases b<;>simp[V.beq] at h;rw[h]
 |.tQ k x,b,h=>by
  cases b with
  |tQ j y =>
   simp[V.beq] at h
   rw[h.2]
   cases k<;>cases j<;>first|rfl|(simp[fkBeq] at h)
  |_=>simp[V.beq] at h
theorem uc : ∀(a b:List V),V.beqL a b=true→a=b
 |[],b,h=>by cases b<;>simp[V.beqL] at h;rfl
 |x::a,b,h=>by
  cases b with
  |nil=>simp[V.beqL] at h
  |cons y b =>
   simp only[V.beqL] at h
   cases I:V.beq x y with
   |false=>rw[I] at h;cases h
   |true=>rw[I,aj] at h;rw[Ey x y I,uc a b h]
end
theorem Ez {m:Nat}: ∀(es:List Nat),(∀idx p,idx<lB m es→es[idx]?=some p→bit m p=true)∧lB m es≤es.length:=by
 intro es
 induction es<;>grind[lB]
theorem Rs {m:Nat}: ∀(es:List Nat),qo m es=true→∀(I J p q:Nat),I≤J→es[I]?=some p→es[J]?=some q→bit m q=true→bit m p=true:=by
 intro es
 induction es<;>grind[qo]
theorem KP : ∀(es:List Nat),oB eN i es≤es.length∧∀p,es[oB eN i es]?=some p→bit ((nth eN p).getD 0) i=true:=by
 intro es
 induction es<;>grind[oB]
section
theorem Ov {x:Env×V}: ∀(l:List H),sameIn C self L o x l=true→wantedV L x.1 o=true→∀h∈l,∃h',evOp C self x.1 h o=some (x.2,h'):=by
 intro l
 induction l with
 |nil=>simp
 |cons y l I =>
  intro hs hw h hm
  simp only[sameIn,hw,aj] at hs
  cases he:evOp C self x.1 y o with
  |none=>grind
  |some r =>
   grind[Ey]
theorem Fs : ∀(l:List Oper) (tr:List (Env×V)) (k:Nat),stayOk C self L eN es hs l tr k=true →
  ∀j o x,l[j]?=some o→tr[j]?=some x→isEff C o.op=false →
   qo ((nth eN (k+j)).getD 0) es=true∧(lB ((nth eN (k+j)).getD 0) es=oB eN (k+j) es ∨
    sameIn C self L o x ((hs.drop (lB ((nth eN (k+j)).getD 0) es)).take (oB eN (k+j) es+1-lB ((nth eN (k+j)).getD 0) es))=true):=by
 intro l
 induction l with
 |nil=>simp
 |cons y l I =>
  intro tr k h j o x ho J he
  cases tr with
  |nil=>grind
  |cons z tr =>
   simp only[stayOk] at h
   cases j<;>grind[beq_iff]
theorem Vm {ops:List Oper}: ∀(l:List Oper) (tr:List (Env×V)),allW ops l tr=true→∀(i:Nat) (o:Oper) (x:Env×V),l[i]?=some o→tr[i]?=some x→isAlloc true o=true→wantedV ops x.1 o=true:=by
 intro l
 induction l with
 |nil=>simp
 |cons y l I =>
  intro tr h i o x ho J ha
  cases tr<;>grind[allW]
theorem Gv (h:isAlloc false o=true): isAlloc true o=true∧o.guard=none:=by
 grind[isAlloc]
theorem Ru {z:St}(hr:qp C self L s=some z):
    ∃Fl st vv Hs,iF C self Fl L s st vv (eO C L 0) Hs∧st L.length=z∧L.all (fun o => !G6 o.op)=true:=by
  unfold qp at hr
  cases htr:trace C self L L s [s.h] with
  |none=>grind
  |some q =>
      obtain⟨tr,hs,z'⟩:=q
      simp only[htr] at hr
      cases J:stayOk C self L (ancs L []) (eO C L 0) hs L tr 0 with
      |false=>grind
      |true =>
        rw[J,aj] at hr
        obtain⟨fl,dZ,hW,hr⟩:∃fl,oY C fl L=true∧(∀(i:Nat) (o:Oper) (x:Env×V),L[i]?=some o→tr[i]?=some x→isAlloc fl o=true→isAlloc true o=true∧wantedV L x.1 o=true)∧z'=z:=by
          cases h0:oY C false L with
          |true =>
            rw[h0,aj] at hr
            refine⟨false,h0,fun i o x _ _ ha => ?_,cx hr⟩<;>grind[Gv,wantedV]
          |false =>
            grind[Vm]
        subst hr
        simp only[oY,bK] at dZ
        obtain⟨⟨⟨s1,s2⟩,s3⟩,s4⟩:=dZ
        obtain⟨st,t1,t2,t3,t4,t5⟩:=Rp L 0 s [s.h] tr hs z' htr
        simp only[gK] at t2 t5
        have TZ:∀i o,L[i]?=some o→∀e∈o.after,gO e=true→e.on<i:=fun i o ho e he hb=>by
          have:=Ht L 0 s1 i o ho e he hb;omega
        have acH:∀i o,L[i]?=some o→∀j,bit ((nth (ancs L []) i).getD 0) j=true→j<i:=fun i o ho j hj =>
          (Hr TZ (fun _=>True) i o ho (fun _ _ _ _ _ _ _ _=>trivial) (fun _ _ _=>trivial) j hj).2
        have I:=(yP (C:=C) L 0).1
        have KK:∀p,p∈eO C L 0↔∃o,L[p]?=some o∧isEff C o.op=true:=fun p=>by
          grind[Oj]
        have hHs:∀k p,(eO C L 0)[k]?=some p→hs[k+1]?=some (st (p+1)).h:=fun k p hp=>by
          grind
        have hH0:hs[0]?=some s.h:=by grind
        have acu:hs.length=(eO C L 0).length+1:=by grind
        have sV:∀i o,L[i]?=some o→∃h,(st i).put o.dst (((tr[i]?).map (·.2)).getD cu) h=some (st (i+1)) ∧
            (wantedV L (st i).env o=true→evOp C self (st i).env (st i).h o=some (((tr[i]?).map (·.2)).getD cu,h))∧(wantedV L (st i).env o=false→((tr[i]?).map (·.2)).getD cu=cu∧h=(st i).h):=fun i o ho=>by
          grind
        -- all but 'same'; it is wanted for 'heapAt'
        have acI:(∀i o,L[i]?=some o→isEff C o.op=false→∀k,k≤(eO C L 0).length→(∀idx p,idx<k→(eO C L 0)[idx]?=some p→bit ((nth (ancs L []) p).getD 0) i=false) →
              (∀idx p,k≤idx→(eO C L 0)[idx]?=some p→bit ((nth (ancs L []) i).getD 0) p=false) →
              wantedV L (st i).env o=true→∃h',evOp C self (st i).env ((hs[k]?).getD s.h) o=some (((tr[i]?).map (·.2)).getD cu,h')) →
            iF C self (fun i=>∃o,L[i]?=some o∧isAlloc fl o=true) L s st (fun i=>((tr[i]?).map (·.2)).getD cu) (eO C L 0) (fun k=>(hs[k]?).getD s.h):=fun LZ =>
          { back:=TZ
            Mb:=fun j o ho i x hi hx=>by
              have:=L_ L 0 s2 j o ho i x (by omega) hx
              grind
            A2:=fun i o ho ⟨o',Fo,ha⟩=>by
              grind
            Om:=fun i o ho ⟨o',Fo,ha⟩ j u hu cE=>by
              rw[ho] at Fo
              obtain rfl:=cx Fo
              rcases JM L 0 s3 i o ho ha j u hu (by omega) with h|h<;>grind[Ol]
            rS:=KK
            sorted:=I
            start:=t1
            step:=sV
            Mc:=by grind
            CI:=fun k p hp=>by grind
            gap:=fun i o ho he=>by
              obtain⟨v,h,e1,_⟩:=t5 i o ho
              have:=(Fs L tr 0 J i o _ ho e1 he).1
              grind[Rs]
            same:=LZ }
        refine⟨_,st,_,_,acI ?_,t2,s4⟩
        intro i o ho he k hk h1 h2 hw
        obtain⟨v,h,e1,e2,e3,e4⟩:=t5 i o ho
        obtain⟨g1,g2⟩:=Fs L tr 0 J i o _ ho e1 he
        simp only[gK] at g1 g2
        have aa2:lB ((nth (ancs L []) i).getD 0) (eO C L 0)≤k:=AG fun cE=>by
          obtain⟨p,hp⟩:∃p,(eO C L 0)[k]?=some p:=⟨_,bA (by have:=(Ez (m:=(nth (ancs L []) i).getD 0) (eO C L 0)).2;omega)⟩<;>grind[Ez]
        have acJ:k≤oB (ancs L []) i (eO C L 0):=AG fun cE=>by
          grind[KP]
        have Ra:((tr[i]?).map (·.2)).getD cu=v:=by grind
        rw[Ra]
        rcases g2 with g2|g2
        · -- its place is known
          have Fg:(st i).h=(hs[k]?).getD s.h:=by
            have Hh:k=oB (ancs L []) i (eO C L 0):=by omega
            have cE:∀idx p,idx<k→(eO C L 0)[idx]?=some p→p<i:=fun idx p cE hp=>by
              grind[Ez]
            have Xz:∀idx p,k≤idx→(eO C L 0)[idx]?=some p→i≤p:=fun idx p hle hp=>by
              obtain⟨q,hq⟩:∃q,(eO C L 0)[k]?=some q:=⟨_,bA (by grind)⟩
              have hb:=(KP (eN:=ancs L []) (i:=i) (eO C L 0)).2 q (by grind)
              obtain⟨x,hx,_⟩:=(KK q).1 (bI hq)<;>grind[List.pairwise_iff_getElem]
            exact CJ (Hs:=fun k=>(hs[k]?).getD s.h) sV (fun p=>KK p) I t1 (by grind) (fun k p hp=>by grind) i k (by grind) hk cE Xz
          rw[←Fg]
          exact⟨h,e3 hw⟩
        · have hm:(hs[k]?).getD s.h∈(hs.drop (lB ((nth (ancs L []) i).getD 0) (eO C L 0))).take (oB (ancs L []) i (eO C L 0)+1-lB ((nth (ancs L []) i).getD 0) (eO C L 0)):=by
            have aa3:k<hs.length:=by omega
            refine bI (i:=k-lB ((nth (ancs L []) i).getD 0) (eO C L 0)) ?_
            rw[D7,aJ (by omega),List.getElem?_drop,Nat.add_sub_cancel' aa2,bA aa3]
            simp
          exact Ov _ g2 hw _ hm
theorem Vn {S:Nat→Prop}(hb:∀i o,L[i]?=some o→∀e∈o.after,gO e=true→e.on<i)(I:∀i o,¬ lN L S i o): ∀i,i<L.length→S i:=by
 intro i
 induction i using Nat.strongRecOn with
 |_ i ih =>
  intro hi
  refine vP fun J => ?_
  refine I i L[i] ⟨bA hi,J,fun e he T0 => ?_⟩<;>grind
theorem ig.done {st:Nat→St}{c:Ctx}{w:World}{S:Nat→Prop}{a:Act}
 (D:iF C self Fl L s st vv es Hs)(I:ig C self Fl L s st vv es Hs c₀ w₀ d₀ S early k c a w)(kH:∀p,es[k]?=some p→¬ S p)(sD:∀i,i<L.length→S i):
  Rel c (st L.length).h w∧dX c (st L.length).env (st L.length).au a:=by
 have cE:∀p∈es,p<L.length:=fun p J=>by
  obtain⟨o,ho,_⟩:=(D.rS p).1 J<;>grind
 have ace:∀p,early p=none:=fun p=>by
  cases h:early p with
  |none=>rfl
  |some b =>
   obtain⟨_,idx,h1,h2⟩:=I.tK p b h<;>grind
 refine⟨?_,?_⟩
 ·rw[D.Hu L.length k (aU _) I.KL (fun idx p _ J=>cE p (bI J)) (fun idx p hle J=>by grind)]
  exact I.rel
 ·have hv:∀t,a.tmps.getD t undef=conc c ((st L.length).env.v t)∧wf c ((st L.length).env.v t):=fun t=>by
   rcases I.tmp t with⟨i,o,g1,g2,g3,g4,g5⟩|⟨g1,g2,g3⟩
   ·have:(st L.length).env.v t=vv i:=by
     rcases D.GL t L.length (aU _) with⟨j,oj,h1,h2,h3,h4,h5⟩|⟨h1,_⟩<;>grind
    rcases g5 with⟨b,e1,_⟩|⟨_,e2,e3⟩
    ·grind
    ·grind
   ·have:(st L.length).env.v t=s.env.v t:=by
     rcases D.GL t L.length (aU _) with⟨j,oj,h1,h2,h3,h4,h5⟩|⟨_,h⟩<;>grind
    rw[this];exact⟨g2,g3⟩
  exact⟨by rw[I.size,D.au L.length (aU _)],fun t=>(hv t).1,fun t=>(hv t).2⟩
theorem ig.congr {st:Nat→St}{c:Ctx}{w:World}{S S':Nat→Prop}{a:Act}
 (I:ig C self Fl L s st vv es Hs c₀ w₀ d₀ S early k c a w)(h:∀j,S j↔S' j): ig C self Fl L s st vv es Hs c₀ w₀ d₀ S' early k c a w:=by
 have:S=S':=funext fun j=>propext (h j)
 rw[←this];exact I
theorem Rv (hS:jm C.P self)(hT:fO C){r:Option Nat}(hL:ops.toList=L){Q:Exit→Act→World→Prop}{st:Nat→St}(D:iF C self Fl L s st vv es Hs)
 (hQ:∀c a w,Rel c (st L.length).h w→dX c (st L.length).env (st L.length).au a→cV c₀ w₀ c w→a.defers=d₀→Q .normal a w):
  ∀(fuel:Nat) (J:Array Bool) (early:Nat→Option (Nat×FV)) (k:Nat) (c:Ctx) (a:Act) (w:World),J.size=L.length→J.count false≤fuel →
   ig C self Fl L s st vv es Hs c₀ w₀ d₀ (fun j=>J.getD j false=true) early k c a w→wpAnyIn (Fr r) 0 C.P .any ops Q fuel J a w:=by
 intro fuel
 induction fuel with
 |zero =>
  intro J early k c a w fU aa4 I
  have sD:∀i,i<L.length→J.getD i false=true:=fun i hi=>by
   have h0:J.count false=0:=by omega
   have:false∉J:=Array.count_eq_zero.1 h0
   rw[vN,D4 (by omega)]
   grind
  obtain⟨nD,k',c',I',kH⟩:=ig.Fq D (es.length-k) k early c rfl I
  obtain⟨r1,r2⟩:=I'.done D kH sD
  refine⟨?_,hQ c' a w r1 r2 I'.KM I'.defers⟩
  refine List.eq_nil_iff_forall_not_mem.2 fun j hj => ?_
  obtain⟨h1,o,h2,_⟩:=mem_ready.1 hj
  have cE:j<L.length:=by grind
  have h3:=sD j cE
  rw[vN,D4 (by omega)] at h1 h3
  simp at h1 h3
  rw[h1] at h3;cases h3
 |succ fuel ih =>
  intro J early k c a w fU aa4 I
  obtain⟨nD,k',c',I',kH⟩:=ig.Fq D (es.length-k) k early c rfl I
  have XA:∀j,j∈Region.ready .any ops J↔∃o,lN L (fun j=>J.getD j false=true) j o:=fun j=>by
   rw[mem_ready]
   constructor
   ·rintro⟨h1,o,h2,h3⟩
    refine⟨o,by grind,fun h4 => ?_,fun e he hb=>h3 e he ?_⟩
    ·grind
    ·rw[←hb];cases e;rename_i on g;cases g<;>rfl
   ·rintro⟨o,R⟩
    have h2:=R.at_
    rw[←hL,lR] at h2
    refine⟨?_,o,h2,fun e he hb=>R.Mg e he ?_⟩
    ·have cE:j<J.size:=by grind
     have h4:=R.not
     grind
    ·rw[←hb];cases e;rename_i on g;cases g<;>rfl
  refine⟨fun xk => ?_,fun i hi => ?_⟩
  ·have sD:=Vn (S:=fun j=>J.getD j false=true) D.back (fun i o R=>by
    grind)
   obtain⟨r1,r2⟩:=I'.done D kH sD
   exact hQ c' a w r1 r2 I'.KM I'.defers
  ·obtain⟨o,R⟩:=(XA i).1 hi
   have cE:i<J.size:=by rw[fU];exact(List.getElem?_eq_some_iff.1 R.at_).1
   have acf:J[i]=false:=by
    have:=R.not
    rw[vN,D4 cE] at this
    simpa using this
   refine I'.Xx hS hT hL D kH R ?_
   intro Vo k'' sJ yo yO I''
   refine ih (J.setIfInBounds i true) Vo k'' sJ yo yO (by grind) ?_ (I''.congr fun j => ?_)
   ·grind
   ·by_cases Ft:j=i
    ·subst Ft
     simp[vN,cE]
    simp_all[qU]
theorem Ow (hS:jm C.P self)(hT:fO C)(hm:C.P.follows .mixedOrders=true){r:Option Nat}(hr:qp C self ops.toList s=some s'){Q:Exit→Act→World→Prop}{c:Ctx}{a:Act}{w:World}(h:Rel c s.h w)(he:dX c s.env s.au a)
 (hQ:∀c' J w',Rel c' s'.h w'→dX c' s'.env s'.au J→cV c w c' w'→J.defers=a.defers→Q .normal J w'):
  (Code.region id ops true).wpIn (Fr r) 0 C.P Q a w:=by
 obtain⟨Fl,st,vv,Hs,D,hz,_⟩:=Ru hr
 refine wpIn_region_any hm ?_
 have aa5:cV c w c { w with drawn:=w.drawn+1 }:=cV.drew c w
 have vA:Rel c s.h { w with drawn:=w.drawn+1 }:=h.drew
 refine Rv hS hT rfl D (c₀:=c) (w₀:=w) (d₀:=a.defers) (fun c' J w' r1 r2 r3 r4=>hQ c' J w' (by grind) (by grind) r3 r4)
  ops.size (Array.replicate ops.size false) (fun _=>none) 0 c a _ (by simp) (by simp) ?_
 have I:∀j,¬ (Array.replicate ops.size false).getD j false=true:=fun j=>by
  rw[vN,Array.getElem?_replicate];split<;>simp
 refine⟨fun i o hi=>absurd hi (I i),fun idx p h=>by omega,fX _,fun idx p _ _ hp=>absurd hp (I p),(fun p b h=>by cases h),(by rw[D.Mc];exact vA),he.size,
  fun t=>.inr ⟨fun j o hj=>absurd hj (I j),he.val t,he.uN t⟩,(fun p b h=>by cases h),(fun p q b b' h=>by cases h),aa5,rfl⟩
end
end Go.Proofs.YtefepnnfphdkpaaGreat.Am
namespace Go.Proofs.YtefepnnfphdkpaaGreat.Am
open Go
variable {ps:Array (Nat×Operand)} {ops:Array Oper} {C:fH} {code:Code} {c₀:Ctx} {env:Env} {Q:Ex→List (Nat×V)→H→Prop} {fn:Func} {f:FuncId} {h h' σ h₁ dH:H} {E E':List (Nat×V)} {R:List (Nat×V)→H→Prop} {d₀:List Deferred} {hs:List H} {eN es l:List Nat} {L rest:List Oper} {args first cap vs cs ds:List V} {a b i c k id n d off j g nE k' q:Nat} {Hs:Nat→H} {early:Nat→Option (Nat×FV)} {Fl:Nat→Prop} {vv:Nat→V} {o':Obj} {o:Oper} {x y:Operand} {P:Program} {φ:Prop} {self:Self} {s s':St} {α:Type} {td:TypeDesc} {t t' e kt et:TypeId} {r u z:V} {yR:V→H→Prop} {w₀:World}
section
variable {b:Frame} {a:Act} {k:List Item} {cs:List Frame} {w:World}
theorem oJ {c:Code}: step P (lone (b.atR a (.code (.scope c)::k)) cs w)=.next (lone (b.atR a (.code c::.inScope c::k)) cs w) :=
 by rfl
theorem Gw {c:Code}: step P (lone (b.atR a (.inScope c::k)) cs w)=.next (lone (b.atR a k) cs w) :=
 by rfl
end
theorem Mh {r:Option Nat}{c:Code}{Q:Exit→Act→World→Prop}{a:Act}{w:World}(h:c.wpIn (Fr r) 0 P (Exit.noGoto Q) a w): (Code.scope c).wpIn (Fr r) 0 P Q a w:=by
 intro b k cs CO hb hr
 obtain⟨e,J,sY,hq,I⟩:=h b (.inScope c::k) cs CO hb hr
 cases e with
 |normal=>exact⟨.normal,J,sY,hq,.of_steps (.one (fenced_calm hb hr rfl) oJ) (StepsIn.trans I (.one (fenced_calm hb hr rfl) Gw))⟩
 |exit id=>exact⟨.exit id,J,sY,hq,.of_steps (.one (fenced_calm hb hr rfl) oJ) ⟨fun k' hk=>I.1 k' (by simpa[exitTo] using hk),fun hr hk=>I.2 hr (by simpa[exitTo] using hk)⟩⟩
 |goto l=>exact hq.elim
 |ret=>exact⟨_,J,sY,hq,.of_steps (.one (fenced_calm hb hr rfl) oJ) I⟩
 |panic ch=>exact⟨_,J,sY,hq,.of_steps (.one (fenced_calm hb hr rfl) oJ) I⟩
 |outgrown=>exact⟨_,J,sY,hq,.of_steps (.one (fenced_calm hb hr rfl) oJ) I⟩
def CP (P:Program)(self:Self)(m:Nat): Prop:=∀(b:Code) (s:St) (ex:Ex) (s':St),self (.loop b) s=some (ex,s') →
 ∀(r:Option Nat) (c:Ctx) (a:Act) (w:World) (Q:Exit→Act→World→Prop),Rel c s.h w→dX c s.env s.au a →
  (∀e I w',(e=exOf ex∧I.defers=a.defers∧∃c',Rel c' s'.h w'∧dX c' s'.env s'.au I∧cV c w c' w')→Q e I w')→Code.roundsIn (Fr r) 0 P b Q m a w
section
theorem BH {m:Nat}(hS:jm C.P self)(hL:CP C.P self m): CP C.P (evStep C self) (m+1):=by
 intro b s ex s' hr r c a w Q h he hQ
 unfold evStep at hr
 simp only at hr
 cases hb:self b s with
 |none=>grind
 |some q =>
  obtain⟨I,J⟩:=q
  rw[hb] at hr
  refine wpIn_mono (hS b s I J hb r c a w h he) ?_
  rintro e CF sY ⟨rfl,q2,c₁,q3,q4,q5⟩
  cases I with
  |normal =>
   refine hL b J ex s' hr r c₁ CF sY Q q3 q4 ?_
   rintro Rf Xo Xp ⟨p1,p2,c₂,p3,p4,p5⟩
   exact hQ _ _ _ ⟨p1,by grind,c₂,p3,p4,q5.trans p5⟩
  |exit i =>
   obtain⟨rfl,rfl⟩:=hr
   exact hQ _ _ _ ⟨rfl,q2,c₁,q3,q4,q5⟩
  |ret =>
   obtain⟨rfl,rfl⟩:=hr
   exact hQ _ _ _ ⟨rfl,q2,c₁,q3,q4,q5⟩
theorem Ox {m:Nat}(hm:C.P.follows .mixedOrders=true)(hT:fO C)(hS:jm C.P self)(hL:CP C.P self m): jm C.P (evStep C self):=by
 intro code s ex s' I r c a w h he
 have same:∀ {ex:Ex} {s':St},(Ex.normal,s)=(ex,s')→exOf ex=.normal∧s'=s:=fun e=>by cases e;exact⟨rfl,rfl⟩
 cases code with
 |skip =>
  simp only[evStep,aC,bL] at I
  obtain⟨rfl,rfl⟩:=I
  exact wpIn_skip ⟨rfl,rfl,c,h,he,cV.refl c w⟩
 |label l =>
  simp only[evStep,aC,bL] at I
  obtain⟨rfl,rfl⟩:=I
  exact wpIn_label ⟨rfl,rfl,c,h,he,cV.refl c w⟩
 |region id ops draw =>
  unfold evStep at I
  simp only at I
  cases draw with
  |true =>
   rw[aj] at I
   cases hd:qp C self ops.toList s with
   |none=>simp[hd] at I
   |some J =>
    simp only[hd,aC,bL] at I
    obtain⟨rfl,rfl⟩:=I
    exact Ow hS hT hm hd h he fun c' a' w' r1 r2 r3 r4=>⟨rfl,r4,c',r1,r2,r3⟩
  |false =>
   rw[a_] at I
   cases hd:evOps C self ops.toList ops.toList s with
   |none=>simp[hd] at I
   |some J =>
    simp only[hd,aC,bL] at I
    obtain⟨rfl,rfl⟩:=I
    refine wpIn_region ?_
    rw[D5,←AA]
    exact Rj hS hT ops.toList 0 s J c a w (fun j=>by rw[gK,lR]) hd h he fun c' a' w' r1 r2 r3 r4=>⟨rfl,r4,c',r1,r2,r3⟩
 |seq x y =>
  unfold evStep at I
  simp only at I
  cases hx:self x s with
  |none=>rw[hx] at I;simp at I
  |some r =>
   obtain⟨Fu,J⟩:=r
   rw[hx] at I
   refine wpIn_seq (wpIn_mono (hS x s Fu J hx r c a w h he) ?_)
   rintro e CF sY ⟨rfl,q2,c₁,q3,q4,q5⟩
   cases Fu with
   |normal =>
    simp only at I
    refine wpIn_mono (hS y J ex s' I r c₁ CF sY q3 q4) ?_
    rintro e Xo Xp ⟨rfl,p2,c₂,p3,p4,p5⟩
    exact⟨rfl,by rw[p2,q2],c₂,p3,p4,q5.trans p5⟩
   |exit i =>
    simp only[aC,bL] at I
    obtain⟨rfl,rfl⟩:=I
    exact⟨rfl,q2,c₁,q3,q4,q5⟩
   |ret =>
    simp only[aC,bL] at I
    obtain⟨rfl,rfl⟩:=I
    exact⟨rfl,q2,c₁,q3,q4,q5⟩
 |cond x y z =>
  unfold evStep at I
  simp only at I
  split at I
  ·rename_i t hx
   obtain⟨e1,_⟩:=yC he hx
   refine wpIn_cond (t:=t) (by rw[e1];rfl) ?_
   have:=hS (cond t y z) s ex s' I r c a w h he
   cases t<;>simpa using this
  ·cases I
 |block id b =>
  unfold evStep at I
  simp only at I
  cases hb:self b s with
  |none=>rw[hb] at I;simp at I
  |some r =>
   obtain⟨Fu,J⟩:=r
   rw[hb] at I
   refine wpIn_block (wpIn_mono (hS b s Fu J hb r c a w h he) ?_)
   rintro e CF sY ⟨rfl,q2,c₁,q3,q4,q5⟩
   cases Fu with
   |normal =>
    simp only[aC,bL] at I
    obtain⟨rfl,rfl⟩:=I
    simp only[exOf,Exit.inBlock]
    exact⟨aa,q2,c₁,q3,q4,q5⟩
   |exit i =>
    simp only at I
    by_cases hi:i=id
    ·rw[qq hi,aj] at I
     simp only[aC,bL] at I
     obtain⟨rfl,rfl⟩:=I
     simp only[exOf,Exit.inBlock,hi,cX]
     exact⟨aa,q2,c₁,q3,q4,q5⟩
    ·rw[eD hi,a_] at I
     simp only[aC,bL] at I
     obtain⟨rfl,rfl⟩:=I
     simp only[exOf,Exit.inBlock,hi,fM]
     exact⟨aa,q2,c₁,q3,q4,q5⟩
   |ret =>
    simp only[aC,bL] at I
    obtain⟨rfl,rfl⟩:=I
    simp only[exOf,Exit.inBlock]
    exact⟨aa,q2,c₁,q3,q4,q5⟩
 |loop b =>
  exact wpIn_loop_rounds (m+1) (BH hS hL b s ex s' I r c a w _ h he (fun _ _ _ hq=>hq))
 |exit id =>
  simp only[evStep,aC,bL] at I
  obtain⟨rfl,rfl⟩:=I
  exact wpIn_exit ⟨rfl,rfl,c,h,he,cV.refl c w⟩
 |scope b =>
  unfold evStep at I
  simp only at I
  refine Mh (wpIn_mono (hS b s ex s' I r c a w h he) ?_)
  rintro e CF sY ⟨rfl,q2,c₁,q3,q4,q5⟩
  cases ex<;>exact⟨rfl,q2,c₁,q3,q4,q5⟩
 |ret =>
  simp only[evStep,aC,bL] at I
  obtain⟨rfl,rfl⟩:=I
  exact wpIn_ret ⟨rfl,rfl,c,h,he,cV.refl c w⟩
 |_=>simp[evStep] at I
theorem CQ (hm:C.P.follows .mixedOrders=true)(J:fO C): ∀n,jm C.P (ev C n)∧CP C.P (ev C n) n:=by
 intro n
 induction n with
 |zero=>exact⟨fun _ _ _ _ h=>by simp[ev] at h,fun _ _ _ _ h=>by simp[ev] at h⟩
 |succ n I=>exact⟨Ox hm J I.1 I.2,BH I.1 I.2⟩
theorem xn (hm:C.P.follows .mixedOrders=true)(I:fO C)(n:Nat): Hp C.P (ev C n)∧True:=⟨(CQ hm I n).1.wide,aa⟩
theorem Hx (hm:C.P.follows .mixedOrders=true)(J:fO C){v:V}(hr:run C n f args h=some (v,h')){c:Ctx}{w:World}
 (I:Rel c h w)(hw:∀x∈args,wf c x): gq C.P f args c w v h' :=
 (callF_ok (xn hm J n).1 J hr I hw).1
theorem Rel.empty (w:World): Rel ⟨fun _=>(0,0),fun _=>0,0,fun _=>false⟩ ⟨0,.lf⟩ w :=
 ⟨rfl,fun id o h=>by simp[T.tS] at h,fun id h=>absurd h (AJ _),fun id h=>absurd h (AJ _),fun i j o o' h=>by simp[T.tS] at h,fun id o h=>by simp[T.tS] at h,fun id cs st h=>by simp,fun id o h=>by simp⟩
end
def leftC : Code→Code
 |.seq a _=>a
 |c=>c
def cP : Code→Code
 |.seq _ b=>b
 |c=>c
def mN (f g:Self): Prop:=∀c s r,f c s=some r→g c s=some r
section
variable {f g:Self}
theorem qu (h : mN f g) {r : V × H} (I : callF C f k args σ = some r) : callF C g k args σ = some r := by
 unfold callF at I ⊢
 cases J : C.told k with
 | some t => grind
 | none =>
  simp only [J] at I ⊢
  cases hf : C.P.funcs[k]? with
  | none => grind
  | some fn =>
   simp only [hf] at I ⊢
   cases hb : fn.body with
   | none => grind
   | some c =>
    simp only [hb] at I ⊢
    cases hq : (fn.name == "runtime.NumGoroutine" || Nat.blt fn.ntmps args.length) with
    | true => grind
    | false =>
     simp only [hq, a_] at I ⊢
     cases hs : f c ⟨bindArgs args 0 .lf, fn.ntmps, σ⟩ with
     | none => grind
     | some q => rw [h _ _ _ hs]; rw [hs] at I; exact I
theorem JN (h:mN f g){r:V×H}(J:roundV f id args σ=some r): roundV g id args σ=some r:=by
 unfold roundV at J ⊢
 cases ho:σ.tr.get id with
 |none=>grind
 |some o =>
  simp only[ho] at J ⊢
  cases o with
  |loop busy au env ps eN bd =>
   cases busy with
   |true=>cases J
   |false =>
    cases he:bindPs au ps args env with
    |none=>grind
    |some e =>
     simp only[he] at J ⊢
     cases h1:f eN ⟨e,au,σ⟩ with
     |none=>grind
     |some q =>
      rw[h eN _ _ h1]
      simp only[h1] at J
      split at J
      ·rename_i aaX hq
       split at J
       ·split at J
        ·rename_i L5 I
         rw[h bd _ _ I]
         exact J
        ·rename_i L5 I
         rw[h bd _ _ I]
         exact J
        ·grind
       ·cases J
      ·cases J
  |_=>cases J
theorem mB (h:mN f g){r:V×H}(I:evOp C f env σ o=some r): evOp C g env σ o=some r:=by
 unfold evOp at I ⊢
 cases J:o.op<;>simp only[J] at I ⊢<;>try exact I
 rename_i cl
 unfold evCall at I ⊢
 cases ha:evArgs env cl.args.toList with
 |none=>grind
 |some args =>
  cases hc:cl.callee with
  |builtin b=>grind
  |value x =>
   cases hx:evO env x with
   |none=>grind
   |some fv =>
    unfold callV at I ⊢
    grind[qu,JN]
  |invoke x m =>
   grind[qu]
theorem qv (h:mN f g): ∀(l:List Oper) (s s':St),evOps C f L l s=some s'→evOps C g L l s=some s':=by
 intro l
 induction l with
 |nil=>intro s s' I;exact I
 |cons o l J =>
  intro s s' I
  simp only[evOps] at I ⊢
  cases hw:wantedV L s.env o with
  |true =>
   cases ho:evOp C f s.env s.h o with
   |none=>grind
   |some q =>
    grind[mB]
  |false =>
   grind
theorem xo (h:mN f g): ∀(l:List Oper) (s:St) (hs:List H) (r:List (Env×V)×List H×St),trace C f L l s hs=some r→trace C g L l s hs=some r:=by
 intro l
 induction l with
 |nil=>intro s hs r I;exact I
 |cons o l J =>
  intro s hs r I
  simp only[trace] at I ⊢
  have key:∀q,cond (wantedV L s.env o) (evOp C f s.env s.h o) (some (cu,s.h))=some q→cond (wantedV L s.env o) (evOp C g s.env s.h o) (some (cu,s.h))=some q:=by
   grind[mB]
  cases hc:cond (wantedV L s.env o) (evOp C f s.env s.h o) (some (cu,s.h)) with
  |none=>grind
  |some q =>
   grind
theorem JO (h:mN f g){x:Env×V}: ∀(l:List H),sameIn C f L o x l=true→sameIn C g L o x l=true:=by
 intro l
 induction l with
 |nil=>intro I;exact I
 |cons y l J =>
  intro I
  simp only[sameIn] at I ⊢
  cases hw:wantedV L x.1 o with
  |false=>simp
  |true =>
   cases ho:evOp C f x.1 y o with
   |none=>grind
   |some q =>
    grind[mB]
theorem JP (h:mN f g): ∀(l:List Oper) (tr:List (Env×V)) (i:Nat),stayOk C f L eN es hs l tr i=true→stayOk C g L eN es hs l tr i=true:=by
 intro l
 induction l with
 |nil=>intro tr i I;cases tr<;>exact I
 |cons o l J =>
  intro tr i I
  cases tr<;>grind[stayOk,JO]
theorem JQ (h:mN f g)(I:qp C f L s=some s'): qp C g L s=some s':=by
 grind[qp,xo,JP]
theorem JR (h:mN f g): mN (evStep C f) (evStep C g):=by
 intro c s r I
 cases c with
 |region id ops draw =>
  grind[evStep,JQ,qv]
 |seq a b =>
  simp only[evStep] at I ⊢
  cases J:f a s with
  |none=>grind
  |some q =>
   obtain⟨ex,s1⟩:=q
   rw[h _ _ _ J]
   rw[J] at I
   cases ex with
   |normal=>exact h _ _ _ I
   |exit i=>exact I
   |ret=>exact I
 |cond x a b =>
  simp only[evStep] at I ⊢
  split at I
  ·exact h _ _ _ I
  ·cases I
 |block id b =>
  simp only[evStep] at I ⊢
  cases J:f b s with
  |none=>grind
  |some q=>rw[h _ _ _ J];rw[J] at I;exact I
 |loop b =>
  simp only[evStep] at I ⊢
  cases J:f b s with
  |none=>grind
  |some q =>
   obtain⟨ex,s1⟩:=q
   rw[h _ _ _ J]
   rw[J] at I
   cases ex with
   |normal=>exact h _ _ _ I
   |exit i=>exact I
   |ret=>exact I
 |scope b=>exact h _ _ _ I
 |_=>exact I
theorem Mi : ∀n,mN (ev C n) (ev C (n+1)):=by
 intro n
 induction n with
 |zero=>intro c s r I;cases I
 |succ n J=>exact JR J
theorem fP {m:Nat}(hle:n≤m): mN (ev C n) (ev C m):=by
 induction hle with
 |refl=>intro c s r I;exact I
 |step _ J=>intro c s r I;exact Mi _ c s r (J c s r I)
end
def look : List (Nat×V)→Nat→Option V
 |[],_=>none
 |x::E,k=>cond (Nat.beq x.1 k) (some x.2) (look E k)
def jI (env:Env)(E:List (Nat×V)): Prop:=∀t v,look E t=some v→T.get env t=some v
theorem jI.set (h:jI env E)(d:Nat)(v:V): jI (env.set d (some v)) ((d,v)::E):=by
 intro t u I
 simp only[look] at I
 rw[bk]
 by_cases J:d=t
 ·simp_all
 ·rw[eD J,a_] at I
  rw[ak (fun e=>J e.symm)]
  exact h t u I
theorem jI.sub (h:jI env E)(hs:∀t v,look E' t=some v→look E t=some v): jI env E':=fun t v I=>h t v (hs t v I)
def bB (E:List (Nat×V)): Operand→Option V
 |.tmp t=>look E t
 |.const c=>ofValue c
 |.global _=>none
 |.func f=>some (.fn (.func f) [] [])
theorem bX (h:jI env E){v:V}(I:bB E x=some v): evO env x=some v:=by
 cases x with
 |tmp t=>simp only[evO,Env.v,h t v I]
 |const c=>exact I
 |global g=>cases I
 |func f=>exact I
def lookArgs (E:List (Nat×V)): List Operand→Option (List V)
 |[]=>some []
 |x::l=>match bB E x with
  |none=>none
  |some v=>match lookArgs E l with
   |none=>none
   |some m=>some (v::m)
theorem nc (h:jI env E): ∀ {l:List Operand} {m:List V},lookArgs E l=some m→evArgs env l=some m:=by
 intro l
 induction l<;>grind[lookArgs,evArgs,bX]
def lookParts (E:List (Nat×V)): List (Nat×Operand)→Option (List (Nat×V))
 |[]=>some []
 |x::l=>match bB E x.2 with
  |none=>none
  |some v=>match lookParts E l with
   |none=>none
   |some m=>some ((x.1,v)::m)
theorem yS (h:jI env E): ∀ {l:List (Nat×Operand)} {m:List (Nat×V)},lookParts E l=some m→evParts env l=some m:=by
 intro l
 induction l<;>grind[lookParts,evParts,bX]
def lookOpt (E:List (Nat×V)): Option Operand→Option (Option V)
 |none=>some none
 |some x=>match bB E x with
  |some v=>some (some v)
  |none=>none
theorem xp (h:jI env E){x:Option Operand}{v:Option V}(I:lookOpt E x=some v): optV env x=some v:=by
 cases x<;>grind[lookOpt,optV,bX]
section
variable (P:Program)
def jO (E:List (Nat×V))(x:Operand)(g:V→Option (V×H)): Option (V×H):=match bB E x with
 |some v=>g v
 |none=>none
def uW (E:List (Nat×V))(x y:Operand)(g:V→V→Option (V×H)): Option (V×H):=match bB E x with
 |some v=>match bB E y with
  |some u=>g v u
  |none=>none
 |none=>none
noncomputable def opE (E:List (Nat×V))(h:H)(o:Op): Option (V×H):=match o with
 |.move x|.assign x=>jO E x fun v=>some (v,h)
 |.pick c a b=>jO E c fun v=>match v with
  |.bool t=>jO E (cond t a b) fun v=>some (v,h)
  |_=>none
 |.alloc t=>match zeroT P t with
  |some z=>some (.ptr h.next 0,newRow h z.cells)
  |none=>none
 |.box _ x=>jO E x fun v=>cond (v.cells.all storable) (some (.ptr h.next 0,newRow h v.cells)) none
 |.build t ps=>match lookParts E ps.toList with
  |some l=>bH (buildV P t l) h
  |none=>none
 |.buildSlice t n ps=>match lookParts E ps.toList with
  |some l=>buildSliceV P h t n l
  |none=>none
 |.load t a=>jO E a fun v=>bH (loadV P h t v) h
 |.store t a x=>uW E a x fun p v=>sQ (hG P h t p v)
 |.nilCheck x=>jO E x fun v=>match v with
  |.ptr a b=>some (.ptr a b,h)
  |_=>none
 |.binOp op t x y _=>uW E x y fun a b=>bH (binV P h op t x y a b) h
 |.unOp op _ x=>jO E x fun a=>bH (unV op a) h
 |.convert s d x=>jO E x fun a=>match convV P h s d a with
   |some r=>some r
   |none=>convB P h s d a
 |.sliceToArrayPointer d x=>jO E x fun a=>bH (arrPtrV P d a) h
 |.makeInterface t x=>jO E x fun a=>bH (makeIfaceV P t a) h
 |.makeFunc f a b=>match lookArgs E a.toList with
  |some x=>match lookArgs E b.toList with
   |some y=>some (.fn f x y,h)
   |none=>none
  |none=>none
 |.makeMap _ r=>match r with
  |none=>some (.map h.next,h.new (.map [] 0))
  |some _=>none
 |.makeSlice t l c=>uW E l c fun a b=>makeSliceV P h t a b
 |.slice t x lo hi mx=>jO E x fun v=>match lookOpt E lo with
  |some a=>match lookOpt E hi with
   |some b=>match lookOpt E mx with
    |some c=>match iW a with
     |some a=>match iW b with
      |some b=>match iW c with
       |some c=>bH (sliceV P h t v a b c) h
       |none=>none
      |none=>none
     |none=>none
    |none=>none
   |none=>none
  |none=>none
 |.fieldAddr t x i=>jO E x fun v=>bH (fieldAddrV P t v i) h
 |.field t x i=>jO E x fun v=>bH (rP P t v i) h
 |.indexAddr t x i=>uW E x i fun v j=>bH (indexAddrV P t v j) h
 |.index t x i=>uW E x i fun v j=>bH (indexV P t v j) h
 |.lookup t x k ok=>uW E x k fun m j=>bH (fN P h t m j ok) h
 |.extract t i=>jO E t fun v=>match v with
  |.bf l=>bH (nth l i) h
  |_=>none
 |.typeAssert x _ a ok=>jO E x fun v=>bH (assertV P v a ok) h
 |.call c=>match c.callee with
  |.builtin b=>match lookArgs E c.args.toList with
   |some args=>builtinV P h b c.argTypes args
   |none=>none
  |_=>none
 |_=>none
end
theorem jo {g:V→Option (V×H)}{r:V×H}(h:jO E x g=some r): ∃v,bB E x=some v∧g v=some r:=by
 grind[jO]
theorem tL {g:V→V→Option (V×H)}{r:V×H}(h:uW E x y g=some r): ∃v u,bB E x=some v∧bB E y=some u∧g v u=some r:=by
 grind[uW]
set_option maxHeartbeats 1000000 in
theorem CR {r:V×H}(hE:jI env E)(hr:opE C.P E h o.op=some r): evOp C self env h o=some r:=by
 unfold opE at hr
 unfold evOp
 split at hr
 ·rename_i x I;obtain⟨v,h1,J⟩:=jo hr;simp only[I,bX hE h1,bH];exact J
 ·rename_i x I;obtain⟨v,h1,J⟩:=jo hr;simp only[I,bX hE h1,bH];exact J
 ·rename_i c a b I
  obtain⟨v,h1,J⟩:=jo hr
  split at J
  ·rename_i t
   obtain⟨u,h3,h4⟩:=jo J
   simp only[I,bX hE h1,bX hE h3,bH];exact h4
  ·cases J
 ·rename_i t I;simp only[I];exact hr
 ·rename_i t x I;obtain⟨v,h1,J⟩:=jo hr;simp only[I,bX hE h1];exact J
 ·rename_i t ps I
  cases hp:lookParts E ps.toList with
  |none=>simp[hp] at hr
  |some l=>simp only[hp] at hr;simp only[I,yS hE hp];exact hr
 ·rename_i t n ps I
  cases hp:lookParts E ps.toList with
  |none=>simp[hp] at hr
  |some l=>simp only[hp] at hr;simp only[I,yS hE hp];exact hr
 ·rename_i t a I;obtain⟨v,h1,J⟩:=jo hr;simp only[I,bX hE h1];exact J
 ·rename_i t a x I;obtain⟨v,u,h1,J,h3⟩:=tL hr;simp only[I,bX hE h1,bX hE J];exact h3
 ·rename_i x I
  obtain⟨v,h1,J⟩:=jo hr
  split at J
  ·simp only[I,bX hE h1];exact J
  ·cases J
 ·rename_i op t x y u I;obtain⟨v,u,h1,J,h3⟩:=tL hr;simp only[I,bX hE h1,bX hE J];exact h3
 ·rename_i op t x I;obtain⟨v,h1,J⟩:=jo hr;simp only[I,bX hE h1];exact J
 ·rename_i s d x I;obtain⟨v,h1,J⟩:=jo hr;simp only[I,bX hE h1];exact J
 ·rename_i d x I;obtain⟨v,h1,J⟩:=jo hr;simp only[I,bX hE h1];exact J
 ·rename_i t x I;obtain⟨v,h1,J⟩:=jo hr;simp only[I,bX hE h1];exact J
 ·rename_i f a b I
  cases ha:lookArgs E a.toList with
  |none=>simp[ha] at hr
  |some x =>
   cases hb:lookArgs E b.toList with
   |none=>simp[ha,hb] at hr
   |some y=>simp only[ha,hb] at hr;simp only[I,nc hE ha,nc hE hb];exact hr
 ·rename_i t r I
  simp only[I]
  exact hr
 ·rename_i t l c I;obtain⟨v,u,h1,J,h3⟩:=tL hr;simp only[I,bX hE h1,bX hE J];exact h3
 ·rename_i t x lo hi mx I
  obtain⟨v,h1,J⟩:=jo hr
  cases ha:lookOpt E lo with
  |none=>simp[ha] at J
  |some a =>
   cases hb:lookOpt E hi with
   |none=>simp[ha,hb] at J
   |some b =>
    cases hc:lookOpt E mx with
    |none=>simp[ha,hb,hc] at J
    |some c =>
     simp only[ha,hb,hc] at J
     simp only[I,bX hE h1,xp hE ha,xp hE hb,xp hE hc]
     cases pa:iW a with
     |none=>simp[pa] at J
     |some a =>
      cases pb:iW b with
      |none=>simp[pa,pb] at J
      |some b =>
       cases pc:iW c with
       |none=>simp[pa,pb,pc] at J
       |some c=>simp only[pa,pb,pc] at J ⊢;exact J
 ·rename_i t x i I;obtain⟨v,h1,J⟩:=jo hr;simp only[I,bX hE h1];exact J
 ·rename_i t x i I;obtain⟨v,h1,J⟩:=jo hr;simp only[I,bX hE h1];exact J
 ·rename_i t x i I;obtain⟨v,u,h1,J,h3⟩:=tL hr;simp only[I,bX hE h1,bX hE J];exact h3
 ·rename_i t x i I;obtain⟨v,u,h1,J,h3⟩:=tL hr;simp only[I,bX hE h1,bX hE J];exact h3
 ·rename_i t x k ok I;obtain⟨v,u,h1,J,h3⟩:=tL hr;simp only[I,bX hE h1,bX hE J];exact h3
 ·rename_i t i I
  obtain⟨v,h1,J⟩:=jo hr
  split at J
  ·simp only[I,bX hE h1];exact J
  ·cases J
 ·rename_i x t a ok I;obtain⟨v,h1,J⟩:=jo hr;simp only[I,bX hE h1];exact J
 ·rename_i cl I
  split at hr
  ·rename_i b hc
   cases ha:lookArgs E cl.args.toList with
   |none=>simp[ha] at hr
   |some args=>simp only[ha] at hr;simp only[I,evCall,hc,nc hE ha];exact hr
  ·cases hr
 ·cases hr
def h_ (C:fH)(f:FuncId)(args:List V)(h:H)(v:V)(h':H): Prop:=∃N,callF C (ev C N) f args h=some (v,h')
def Call (C:fH)(f:FuncId)(args:List V)(h:H)(R:V→H→Prop): Prop:=∃v h',h_ C f args h v h'∧R v h'
variable {cl:Go.Call}
theorem Call.mono {R I:V→H→Prop}(J:Call C f args h R)(hr:∀v h',R v h'→I v h'): Call C f args h I:=by
 obtain⟨v,h',h1,h2⟩:=J
 exact⟨v,h',h1,hr v h' h2⟩
theorem h_.told {g:List V→H→Option (V×H)}{v:V}(I:C.told f=some g)(J:C.P.funcs[f]?=some fn)(hb:fn.body.isSome=true)(hr:g args h=some (v,h')): h_ C f args h v h':=by
 refine⟨0,?_⟩<;>grind[callF,hasBody]
theorem h_.body {v:V}(I:h_ C f args h v h'): hasBody C.P f=true:=by
 obtain⟨N,J⟩:=I<;>grind[callF,hasBody]
theorem jy (C:fH)(n:Nat)(c:Code)(s:St): ev C (n+1) c s=evStep C (ev C n) c s:=rfl
def WP (C:fH)(au:Nat)(code:Code)(E:List (Nat×V))(h:H)(Q:Ex→List (Nat×V)→H→Prop): Prop :=
 ∀env,jI env E→∃N ex I h' E',ev C N code ⟨env,au,h⟩=some (ex,⟨I,au,h'⟩)∧jI I E'∧Q ex E' h'
def ay (C:fH)(au:Nat)(L l:List Oper)(E:List (Nat×V))(h:H)(Q:List (Nat×V)→H→Prop): Prop :=
 ∀env,jI env E→∃N I h' E',evOps C (ev C N) L l ⟨env,au,h⟩=some ⟨I,au,h'⟩∧jI I E'∧Q E' h'
section
variable {au:Nat} {l:List Oper}
theorem WP.sub {I:List (Nat×V)}(hs:∀t v,look I t=some v→look E t=some v)(hw:WP C au code I h Q): WP C au code E h Q:=fun env J=>hw env (J.sub hs)
theorem WP.skip (I:Q .normal E h): WP C au .skip E h Q:=fun env J=>⟨1,.normal,env,h,E,rfl,J,I⟩
theorem WP.ret (I:Q .ret E h): WP C au .ret E h Q:=fun env J=>⟨1,.ret,env,h,E,rfl,J,I⟩
theorem WP.exit (I:Q (.exit i) E h): WP C au (.exit i) E h Q:=fun env J=>⟨1,.exit i,env,h,E,rfl,J,I⟩
theorem WP.region (hl:ops.toList=l)(hw:ay C au l l E h fun E' h'=>Q .normal E' h'): WP C au (.region id ops false) E h Q:=by
 intro env J
 obtain⟨N,I,h',E',h1,h2,h3⟩:=hw env J
 refine⟨N+1,.normal,I,h',E',?_,h2,h3⟩<;>grind[jy,evStep]
theorem WP.seq {a b:Code}(hw:WP C au a E h fun ex E' h'=>match ex with
  |.normal=>WP C au b E' h' Q
  |ex=>Q ex E' h'): WP C au (.seq a b) E h Q:=by
 intro env hE
 obtain⟨N,ex,I,h',E',h1,h2,h3⟩:=hw env hE
 cases ex with
 |normal =>
  obtain⟨M,ow,J,Hy,E2,g1,g2,g3⟩:=h3 I h2
  refine⟨Nat.max N M+1,ow,J,Hy,E2,?_,g2,g3⟩
  rw[jy]
  simp only[evStep,fP (pN N M) _ _ _ h1]
  exact fP (pM N M) _ _ _ g1
 |exit i =>
  refine⟨N+1,.exit i,I,h',E',?_,h2,h3⟩<;>grind[jy,evStep]
 |ret =>
  refine⟨N+1,.ret,I,h',E',?_,h2,h3⟩<;>grind[jy,evStep]
theorem WP.cond {a b:Code}{t:Bool}(hx:bB E x=some (.bool t))(hw:WP C au (_root_.cond t a b) E h Q): WP C au (.cond x a b) E h Q:=by
 intro env J
 obtain⟨N,ex,I,h',E',h1,h2,h3⟩:=hw env J
 refine⟨N+1,ex,I,h',E',?_,h2,h3⟩<;>grind[jy,evStep,bX]
theorem WP.block {b:Code}(hw:WP C au b E h fun ex E' h'=>match ex with
  |.exit j=>_root_.cond (Nat.beq j i) (Q .normal E' h') (Q (.exit j) E' h')
  |ex=>Q ex E' h'): WP C au (.block i b) E h Q:=by
 intro env hE
 obtain⟨N,ex,I,h',E',h1,h2,J⟩:=hw env hE
 cases ex with
 |exit j =>
  cases hj:Nat.beq j i with
  |true =>
   simp only[hj,aj] at J
   refine⟨N+1,.normal,I,h',E',?_,h2,J⟩<;>grind[jy,evStep]
  |false =>
   simp only[hj,a_] at J
   refine⟨N+1,.exit j,I,h',E',?_,h2,J⟩<;>grind[jy,evStep]
 |normal =>
  refine⟨N+1,.normal,I,h',E',?_,h2,J⟩<;>grind[jy,evStep]
 |ret =>
  refine⟨N+1,.ret,I,h',E',?_,h2,J⟩<;>grind[jy,evStep]
theorem WP.scope {b:Code}(hw:WP C au b E h Q): WP C au (.scope b) E h Q:=by
 intro env J
 obtain⟨N,ex,I,h',E',h1,h2,h3⟩:=hw env J
 exact⟨N+1,ex,I,h',E',h1,h2,h3⟩
theorem WP.loop {b:Code}(hw:WP C au b E h fun ex E' h'=>match ex with
  |.normal=>WP C au (.loop b) E' h' Q
  |ex=>Q ex E' h'): WP C au (.loop b) E h Q:=by
 intro env hE
 obtain⟨N,ex,I,h',E',h1,h2,h3⟩:=hw env hE
 cases ex with
 |normal =>
  obtain⟨M,ow,J,Hy,E2,g1,g2,g3⟩:=h3 I h2
  refine⟨Nat.max N M+1,ow,J,Hy,E2,?_,g2,g3⟩
  rw[jy]
  simp only[evStep,fP (pN N M) _ _ _ h1]
  exact fP (pM N M) _ _ _ g1
 |exit i =>
  refine⟨N+1,.exit i,I,h',E',?_,h2,h3⟩<;>grind[jy,evStep]
 |ret =>
  refine⟨N+1,.ret,I,h',E',?_,h2,h3⟩<;>grind[jy,evStep]
theorem ay.nil (I:R E h): ay C au L [] E h R:=fun env J=>⟨0,env,h,E,rfl,J,I⟩
def wantE (L:List Oper)(E:List (Nat×V))(g:Option (Nat×Bool)): Option Bool:=match g with
 |none=>some true
 |some (j,want)=>match (nth L j).bind (·.dst) with
  |some d=>match look E d with
   |some (.bool b)=>some (b == want)
   |some _=>some false
   |none=>none
  |none=>none
theorem kA {b:Bool}(J:jI env E)(hw:wantE L E o.guard=some b): wantedV L env o=b:=by
 unfold wantE at hw
 unfold wantedV
 split at hw
 ·grind
 ·rename_i j want hg
  simp only[hg]
  split at hw
  ·rename_i d hd
   simp only[hd]
   split at hw
   ·rename_i b' I
    simp only[Env.v,J d _ I]
    simpa using hw
   ·rename_i v kU I
    simp only[Env.v,J d _ I]
    grind
   ·cases hw
  ·cases hw
theorem ay.op {v:V}(hg:wantE L E o.guard=some true)(hd:o.dst=some d)(hn:Nat.blt d au=true)(ho:opE C.P E h o.op=some (v,h₁))
 (hw:ay C au L rest ((d,v)::E) h₁ R): ay C au L (o::rest) E h R:=by
 intro env J
 obtain⟨N,I,h',E',h1,h2,h3⟩:=hw (env.set d (some v)) (J.set d v)<;>grind[evOps,kA,CR,St.put]
theorem ay.T1 {v:V}(hg:wantE L E o.guard=some true)(hd:o.dst=none)(ho:opE C.P E h o.op=some (v,h₁))
 (hw:ay C au L rest E h₁ R): ay C au L (o::rest) E h R:=by
 intro env J
 obtain⟨N,I,h',E',h1,h2,h3⟩:=hw env J<;>grind[evOps,kA,CR,St.put]
theorem ay.no (hg:wantE L E o.guard=some false)(hd:o.dst=some d)(hn:Nat.blt d au=true)
 (hw:ay C au L rest ((d,cu)::E) h R): ay C au L (o::rest) E h R:=by
 intro env J
 obtain⟨N,I,h',E',h1,h2,h3⟩:=hw (env.set d (some cu)) (J.set d cu)<;>grind[evOps,kA,St.put]
theorem Fv {k:FuncId}{v:V}(hE:jI env E)(J:o.op=.call cl)(hc:cl.callee=.value x)
 (hx:bB E x=some (.fn (.func k) first cap))(ha:lookArgs E cl.args.toList=some args)(I:h_ C k (first++(args++cap)) h v h₁):
  ∃N,evOp C (ev C N) env h o=some (v,h₁):=by
 have hb:=I.body
 obtain⟨N,hN⟩:=I
 refine⟨N,?_⟩
 simp only[evOp,J,evCall,nc hE ha,hc,bX hE hx,callV,hb,aj]
 exact hN
theorem ay.call {k:FuncId}(hg:wantE L E o.guard=some true)(hd:o.dst=some d)(hn:Nat.blt d au=true)
 (Fw:o.op=.call cl)(hc:cl.callee=.value x)(hx:bB E x=some (.fn (.func k) first cap))(ha:lookArgs E cl.args.toList=some args)
 (I:Call C k (first++(args++cap)) h yR)(hw:∀v h₁,yR v h₁→ay C au L rest ((d,v)::E) h₁ R): ay C au L (o::rest) E h R:=by
 intro env hE
 obtain⟨v,h₁,yT,hr⟩:=I
 obtain⟨N,hN⟩:=Fv hE Fw hc hx ha yT
 obtain⟨M,J,h',E',h1,h2,h3⟩:=hw v h₁ hr (env.set d (some v)) (hE.set d v)
 refine⟨Nat.max N M,J,h',E',?_,h2,h3⟩
 simp only[evOps,kA hE hg,aj,mB (fP (pN N M)) hN,St.put,hd,hn]
 exact qv (fP (pM N M)) _ _ _ h1
end
def Has (E:List (Nat×V)): List (Nat×V)→Prop
 |[]=>True
 |p::F=>look E p.1=some p.2∧Has E F
theorem Has.sub : ∀ {F:List (Nat×V)},Has E F→∀t v,look F t=some v→look E t=some v:=by
 intro F
 induction F with
 |nil=>intro _ t v h;cases h
 |cons p F ih =>
  intro I t v h
  simp only[look] at h
  by_cases J:p.1=t
  ·subst J
   rw[qq rfl,aj] at h
   rw[I.1];exact h
  ·rw[eD J,a_] at h
   exact ih I.2 t v h
theorem WP.has {au:Nat}{F:List (Nat×V)}(I:Has E F)(hw:WP C au code F h Q): WP C au code E h Q:=WP.sub I.sub hw
theorem ZT (I:jI s.env E){t:Nat}{v:V}(h:look E t=some v): resV P s (.tmp t)=some v:=by
 simp only[resV,Env.v,I t v h]
noncomputable def resE (P:Program)(E:List (Nat×V))(h:H): ResultVar→Option V
 |.tmp t=>look E t
 |.cell a t=>match look E a with
  |some p=>loadV P h t p
  |none=>none
theorem Vp (J:jI s.env E){x:ResultVar}{v:V}(I:resE P E s.h x=some v): resV P s x=some v:=by
 cases x with
 |tmp t=>exact ZT J I
 |cell a t =>
  simp only[resE] at I
  cases ha:look E a with
  |none=>grind
  |some p=>simp only[ha] at I;simp only[resV,Env.v,J a p ha];exact I
noncomputable def resLE (P:Program)(E:List (Nat×V))(h:H)(rs:List ResultVar): Option V:=match mapO (resE P E h) rs with
 |some [v]=>some v
 |some vs=>some (.bf vs)
 |none=>none
theorem A4 (I:jI s.env E): ∀ {rs:List ResultVar} {vs:List V},mapO (resE P E s.h) rs=some vs→mapO (resV P s) rs=some vs:=by
 intro rs
 induction rs<;>grind[mapO,Vp]
def argE : List V→Nat→List (Nat×V)
 |[],_=>[]
 |v::l,k=>(k,v)::argE l (k+1)
theorem Oy : ∀(l:List V) (k t:Nat),look (argE l k) t=if k≤t∧t<k+l.length then l[t-k]? else none:=by
 intro l
 induction l with
 |nil=>simp[argE,look]
 |cons v l I =>
  intro k t
  simp only[argE,look]
  by_cases h:k=t
  ·simp_all
  grind[eD]
theorem wA (l:List V): jI (bindArgs l 0 .lf) (argE l 0):=by
 intro t v h
 grind[Oy,tZ]
theorem Call.of_wp {R : V → H → Prop} (ht : C.told f = none) (hf : C.P.funcs[f]? = some fn) (hb : fn.body = some code)
  (hq : (fn.name == "runtime.NumGoroutine" || Nat.blt fn.ntmps args.length) = false)
  (hw : WP C fn.ntmps code (argE args 0) h fun ex E' h' => (match ex with | .exit _ => False | _ => True) ∧ ∃ v, resLE C.P E' h' fn.results.toList = some v ∧ R v h') : Call C f args h R := by
 obtain ⟨N, ex, I, h', E', h1, J, h3, v, h4, h5⟩ := hw _ (wA args)
 refine ⟨v, h', ⟨N, ?_⟩, h5⟩
 unfold callF
 unfold resLE at h4
 cases hm : mapO (resE C.P E' h') fn.results.toList with
 | none => grind
 | some vs =>
  have BI := A4 (P := C.P) (s := ⟨I, fn.ntmps, h'⟩) J hm
  cases ex with
  | exit i => grind
  | normal =>
   grind
  | ret =>
   grind
noncomputable section
end
def crcStep : Nat→Nat→Nat
 |r,0=>r
 |r,k+1=>crcStep (cond (Nat.beq (r%2) 1) (Nat.xor (r/2) 3988292384) (r/2)) k
def crcL : Nat→List Nat→Nat
 |r,[]=>r
 |r,b::l=>crcL (crcStep (Nat.xor r b) 8) l
def bytesIn : List V→Option (List Nat)
 |[]=>some []
 |.int .u8 n::l=>cond (decide (0≤n)&&decide (n<256)) (match bytesIn l with
  |some m=>some (n.toNat::m)
  |none=>none) none
 |_=>none
def wB (s:Int)(l:List Nat): V:=.int .u32 ((Nat.xor (crcL (Nat.xor s.toNat 4294967295) l) 4294967295:Nat):Int)
noncomputable def toldMore : List V→H→Option (V×H)
 |[.int .u32 s,.sl id off len _],h=>cond (decide (0≤s)&&decide (s<4294967296)&&Nat.ble len 4611686018427387904) (match rdN h id off len with
  |some cs=>match bytesIn cs with
   |some l=>some (wB s l,h)
   |none=>none
  |none=>none) none
 |[.int .u32 s,.bC],h=>cond (decide (0≤s)&&decide (s<4294967296)) (some (wB s [],h)) none
 |[.int .u32 s,.sle _],h=>cond (decide (0≤s)&&decide (s<4294967296)) (some (wB s [],h)) none
 |_,_=>none
theorem wrap_u32 (h:n<4294967296): IntKind.wrap .u32 (n:Int)=(n:Int):=by
 grind[IntKind.wrap,IntKind.bits,IntKind.signed]
theorem Fx (h:n<4294967296): ((n:Int)%(2^(IntKind.u32).bits:Int)).toNat=n:=by
 grind[IntKind.bits]
theorem oK (I:a<4294967296)(J:b<4294967296): Nat.xor a b<4294967296:=Nat.xor_lt_two_pow (n:=32) I J
theorem xq (I:a<4294967296)(J:b<4294967296): intV .xor .u32 (a:Int) (b:Int)=some (.int .u32 ((Nat.xor a b:Nat):Int)):=by
 grind[intV,bitsV,Fx,wrap_u32,oK]
theorem Oz (I:a<4294967296): intV .and .u32 (a:Int) 1=some (.int .u32 ((a%2:Nat):Int)):=by
 have J:((1:Int)%(2^(IntKind.u32).bits:Int)).toNat=1:=by rfl
 simp only[intV,bitsV]
 rw[Fx I,J]
 have:Nat.land a 1=a%2:=D8 a
 rw[this,wrap_u32 (by omega)]
theorem CS : shiftV .shr .u32 (a:Int) 1=some (.int .u32 ((a/2:Nat):Int)):=by
 grind[shiftV,IntKind.bits]
theorem Vq {c:Ctx}{w:World}(h:Rel c σ w)(I:rdN σ id off k=some vs): vs.length=k∧∀j,j<k→yA σ id (off+j)=vs[j]?:=by
 unfold rdN at I
 split at I
 ·rename_i n cs st J
  have hn:n=cs.length:=(h.obj id _ J).1
  grind[bg,beq_iff,yA,gP]
 ·cases I
def unblk : Code→Code
 |.block _ c=>c
 |c=>c
def unloop : Code→Code
 |.loop c=>c
 |c=>c
noncomputable def j6 : Code:=(Tryz.f178.body).getD .skip
noncomputable def jY : Code:=unloop (unblk (cP (leftC (cP (cP j6)))))
noncomputable def nW : Code:=unblk (leftC (cP (cP jY)))
noncomputable def oL : Code:=unloop (unblk (cP (cP (cP nW))))
theorem iw (C:fH)(n:Nat)(c:Code)(s:St): ev C (n+1) c s=evStep C (ev C n) c s:=rfl
theorem wrap_i64 (h:n<9223372036854775808): IntKind.wrap .i64 (n:Int)=(n:Int):=by
 grind[IntKind.bits,IntKind.wrap]
theorem yU (h:n<9223372036854775807): intV .add .i64 (n:Int) 1=some (.int .i64 ((n+1:Nat):Int)):=by
 have:((n:Int)+1)=((n+1:Nat):Int):=by omega
 simp only[intV,this,wrap_i64 (show n+1<9223372036854775808 by omega)]
section
theorem b_ (J:o.guard=none)(hd:o.dst=some d)(I:Nat.blt d n=true):
  evOps C self L (o::rest) ⟨env,n,h⟩=(evOp C self env h o).bind fun r=>evOps C self L rest ⟨env.set d (some r.1),n,r.2⟩:=by
 grind[evOps,wantedV,St.put]
end
noncomputable def XB : Code:=leftC oL
noncomputable def uX : Code:=cP (cP oL)
noncomputable def XC : Code:=leftC (unblk (leftC uX))
noncomputable def XD : Code:=cP (unblk (leftC uX))
noncomputable def Rw : Code:=cP uX
section
variable (n:Nat) (env:Env) (h:H)
theorem OA (I:T.get env 20=some (.int .i64 j)): ev C (n+1) XB ⟨env,34,h⟩=some (.normal,⟨env.set 21 (some (.bool (decide ((j:Int)<8)))),34,h⟩):=by
 simp only[XB,oL,nW,jY,j6,Tryz.f178,jj,leftC,cP,unblk,unloop,iw,evStep,a_]
 rw[b_ rfl rfl rfl]
 simp only[evOp,evO,Env.v,I,ofValue,ofScalar,binV,ikBeq,aj,intV,bH,dm,evOps]
theorem XE {x:Nat}(J:x<4294967296)(h5:T.get env 5=some (.int .u32 x)):
  ∃I,ev C (n+1) XC ⟨env,34,h⟩=some (.normal,⟨I,34,h⟩)∧T.get I 24=some (.bool (Nat.beq (x%2) 1))∧∀t,t≠22→t≠23→t≠24→T.get I t=T.get env t:=by
 refine⟨((env.set 22 (some (.int .u32 x))).set 23 (some (.int .u32 ((x%2:Nat):Int)))).set 24 (some (.bool (Nat.beq (x%2) 1))),?_,by simp[bk],fun t h1 h2 h3=>by simp[bk,h1,h2,h3]⟩
 simp only[XC,uX,oL,nW,jY,j6,Tryz.f178,jj,leftC,cP,unblk,unloop,iw,evStep,a_]
 rw[b_ rfl rfl rfl]
 simp only[evOp,evO,Env.v,h5,bH,dm]
 rw[b_ rfl rfl rfl]
 simp only[evOp,evO,Env.v,bk,cX,ofValue,ofScalar,binV,ikBeq,aj,Oz J,bH,dm]
 rw[b_ rfl rfl rfl]
 simp only[evOp,evO,Env.v,bk,cX,ofValue,ofScalar,binV,ikBeq,aj,intV,bH,dm,evOps]
 rfl
theorem OB {x:Nat}(I:x<4294967296): Nat.xor (x/2) 3988292384<4294967296:=oK (by omega) (by omega)
theorem XF {x:Nat}{b:Bool}(hx:x<4294967296)(h5:T.get env 5=some (.int .u32 x))(I:T.get env 24=some (.bool b)):
  ∃J,ev C (n+2) XD ⟨env,34,h⟩=some (.normal,⟨J,34,h⟩)∧T.get J 5=some (.int .u32 ((cond b (Nat.xor (x/2) 3988292384) (x/2):Nat):Int))∧∀t,t<25→t≠5→T.get J t=T.get env t:=by
 simp only[XD,uX,oL,nW,jY,j6,Tryz.f178,jj,leftC,cP,unblk,unloop,iw,evStep,evO,Env.v,I]
 cases b with
 |true =>
  refine⟨(((env.set 25 (some (.int .u32 x))).set 26 (some (.int .u32 ((x/2:Nat):Int)))).set 27 (some (.int .u32 ((Nat.xor (x/2) 3988292384:Nat):Int)))).set 5 (some (.int .u32 ((Nat.xor (x/2) 3988292384:Nat):Int))),?_,by simp[bk],fun t h1 h2 => ?_⟩
  ·simp only[aj,a_]
   rw[b_ rfl rfl rfl]
   simp only[evOp,evO,Env.v,h5,bH,dm]
   rw[b_ rfl rfl rfl]
   simp only[evOp,evO,Env.v,bk,cX,ofValue,ofScalar,binV,CS,bH,dm]
   rw[b_ rfl rfl rfl]
   have:=xq (a:=x/2) (b:=3988292384) (by omega) (by omega)
   rw[show((3988292384:Nat):Int)=3988292384 from rfl] at this
   simp only[evOp,evO,Env.v,bk,cX,ofValue,ofScalar,binV,ikBeq,aj,this,bH,dm]
   rw[b_ rfl rfl rfl]
   simp only[evOp,evO,Env.v,bk,cX,bH,dm,evOps]
  grind[bk]
 |false =>
  refine⟨((env.set 28 (some (.int .u32 x))).set 29 (some (.int .u32 ((x/2:Nat):Int)))).set 5 (some (.int .u32 ((x/2:Nat):Int))),?_,by simp[bk],fun t h1 h2 => ?_⟩
  ·simp only[a_]
   rw[b_ rfl rfl rfl]
   simp only[evOp,evO,Env.v,h5,bH,dm]
   rw[b_ rfl rfl rfl]
   simp only[evOp,evO,Env.v,bk,cX,ofValue,ofScalar,binV,CS,bH,dm]
   rw[b_ rfl rfl rfl]
   simp only[evOp,evO,Env.v,bk,cX,bH,dm,evOps]
  grind[bk]
theorem Vr (hj:j<8)(I:T.get env 20=some (.int .i64 j)):
  ∃J,ev C (n+1) Rw ⟨env,34,h⟩=some (.normal,⟨J,34,h⟩)∧T.get J 20=some (.int .i64 ((j+1:Nat):Int))∧∀t,t≠20→t≠30→T.get J t=T.get env t:=by
 refine⟨(env.set 30 (some (.int .i64 ((j+1:Nat):Int)))).set 20 (some (.int .i64 ((j+1:Nat):Int))),?_,by simp[bk],fun t h1 h2=>by simp[bk,h1,h2]⟩
 simp only[Rw,uX,oL,nW,jY,j6,Tryz.f178,jj,leftC,cP,unblk,unloop,iw,evStep,a_]
 rw[b_ rfl rfl rfl]
 simp only[evOp,evO,Env.v,I,ofValue,ofScalar,binV,ikBeq,aj,yU (show j<9223372036854775807 by omega),bH,dm]
 rw[b_ rfl rfl rfl]
 simp only[evOp,evO,Env.v,bk,cX,bH,dm,evOps]
section
variable {n:Nat}
theorem kB {a b:Code}(I:ev C n a s=some (.normal,s')): ev C (n+1) (.seq a b) s=ev C n b s':=by grind[iw,evStep]
theorem vB {a b:Code}(I:ev C n a s=some (.exit i,s')): ev C (n+1) (.seq a b) s=some (.exit i,s'):=by grind[iw,evStep]
theorem wC {a b:Code}{t:Bool}(I:evO s.env x=some (.bool t)): ev C (n+1) (.cond x a b) s=ev C n (cond t a b) s:=by grind[iw,evStep]
theorem Hz {c:Code}(h:ev C n c s=some (.normal,s')): ev C (n+1) (.block i c) s=some (.normal,s'):=by grind[iw,evStep]
theorem yp {c:Code}(h:ev C n c s=some (.exit i,s')): ev C (n+1) (.block i c) s=some (.normal,s'):=by simp_all[iw,evStep]
theorem KQ {b:Code}(h:ev C n b s=some (.normal,s')): ev C (n+1) (.loop b) s=ev C n (.loop b) s':=by grind[iw,evStep]
theorem ud {b:Code}(h:ev C n b s=some (.exit i,s')): ev C (n+1) (.loop b) s=some (.exit i,s'):=by grind[iw,evStep]
end
theorem Fy : oL=.seq XB (.seq (.cond (.tmp 21) .skip (.exit 2)) uX):=rfl
theorem Rx : uX=.seq (.block 3 (.seq XC XD)) Rw:=rfl
theorem Mj {x:Nat}(hx:x<4294967296)(hj:j<8)(h5:T.get env 5=some (.int .u32 x))(h20:T.get env 20=some (.int .i64 j)):
  ∃J,ev C (n+9) oL ⟨env,34,h⟩=some (.normal,⟨J,34,h⟩)∧T.get J 5=some (.int .u32 ((crcStep x 1:Nat):Int))∧T.get J 20=some (.int .i64 ((j+1:Nat):Int)) ∧
   ∀t,t<20→t≠5→T.get J t=T.get env t:=by
 have cE:decide ((j:Int)<8)=true:=by grind
 have q7:=OA (C:=C) (n+7) env h h20
 rw[cE] at q7
 have g5:T.get (env.set 21 (some (.bool true))) 5=some (.int .u32 x):=by simp[bk,h5]
 obtain⟨e8,q8,q8a,q8b⟩:=XE (C:=C) (n+3) (env.set 21 (some (.bool true))) h hx g5
 have g5':T.get e8 5=some (.int .u32 x):=by grind
 obtain⟨e9,q9,q9a,q9b⟩:=XF (C:=C) (n+2) e8 h hx g5' q8a
 have g20:T.get e9 20=some (.int .i64 j):=by
  grind[bk]
 obtain⟨XG,q11,I,acK⟩:=Vr (C:=C) (n+5) e9 h hj g20
 refine⟨XG,?_,?_,I,fun t h1 h2 => ?_⟩
 ·rw[Fy,kB q7,kB (s':=⟨env.set 21 (some (.bool true)),34,h⟩) (by rw[wC (t:=true) (by simp[evO,Env.v,bk])];rfl),Rx,
   kB (Hz (by rw[kB q8];exact q9)),q11]
 ·grind[crcStep]
 ·grind[bk]
theorem Mk : ∀(k n:Nat) (env:Env) (x:Nat),k≤8→x<4294967296→T.get env 5=some (.int .u32 x)→T.get env 20=some (.int .i64 ((8-k:Nat):Int)) →
  ∃J,ev C (n+10+k) (.loop oL) ⟨env,34,h⟩=some (.exit 2,⟨J,34,h⟩)∧T.get J 5=some (.int .u32 ((crcStep x k:Nat):Int))∧∀t,t<20→t≠5→T.get J t=T.get env t:=by
 intro k
 induction k with
 |zero =>
  intro n env x _ hx h5 I
  have q7:=OA (C:=C) (n+7) env h I
  refine⟨env.set 21 (some (.bool false)),?_,by simp[bk,h5,crcStep],fun t h1 h2 => ?_⟩
  ·refine ud ?_
   rw[Fy,kB q7]
   exact vB (by rw[wC (t:=false) (by simp[evO,Env.v,bk])];rfl)
  grind[bk]
 |succ k ih =>
  intro n env x hk hx h5 I
  obtain⟨e1,q1,q2,q3,q4⟩:=Mj (C:=C) (n+1+k) env h hx (show 8-(k+1)<8 by omega) h5 I
  have h8:8-(k+1)+1=8-k:=by omega
  rw[h8] at q3
  have CT:crcStep x 1<4294967296:=by
   grind[crcStep,OB]
  obtain⟨e2,p1,p2,p3⟩:=ih n e1 (crcStep x 1) (by omega) CT q2 q3
  refine⟨e2,?_,?_,fun t h1 h2=>by grind⟩
  ·grind[KQ]
  ·rw[p2];simp only[crcStep]
end
noncomputable def XH : Code:=leftC jY
noncomputable def GM : Code:=cP (cP jY)
noncomputable def Ry : Code:=cP GM
noncomputable def XI : Code:=leftC nW
noncomputable def XJ : Code:=leftC (cP nW)
noncomputable def mR6 : Code:=leftC (cP (cP nW))
theorem Rz : nW=.seq XI (.seq XJ (.seq mR6 (.block 2 (.loop oL)))):=rfl
theorem yV : jY=.seq XH (.seq (.cond (.tmp 13) .skip (.exit 0)) GM):=rfl
theorem RA : GM=.seq (.block 1 nW) Ry:=rfl
theorem eE : bJ Tryz.prog 5=some 1:=by kernel_rfl
theorem KR : isAggT Tryz.prog 5=some false:=by kernel_rfl
section
variable {told:dc} (n:Nat) (env:Env) (h:H)
theorem HA {len:Nat}(I:T.get env 12=some (.int .i64 i))(J:T.get env 11=some (.int .i64 len)):
  ev ⟨Tryz.prog,told⟩ (n+1) XH ⟨env,34,h⟩=some (.normal,⟨env.set 13 (some (.bool (decide ((i:Int)<(len:Int))))),34,h⟩):=by
 simp only[XH,jY,j6,Tryz.f178,jj,leftC,cP,unblk,unloop,iw,evStep,a_]
 rw[b_ rfl rfl rfl]
 simp_all[evOp,evO,Env.v,binV,ikBeq,intV,bH,evOps]
theorem XK {len:Nat}{cap:Cap}(hi:i<len)(I:T.get env 12=some (.int .i64 i))(J:T.get env 10=some (.sl id off len cap))(hb:yA h id (off+i)=some (.int .u8 b)):
  ∃e',ev ⟨Tryz.prog,told⟩ (n+1) XI ⟨env,34,h⟩=some (.normal,⟨e',34,h⟩)∧T.get e' 7=some (.int .u8 b)∧∀t,t≠7→t≠14→t≠15→T.get e' t=T.get env t:=by
 refine⟨((env.set 14 (some (.ptr id (off+i)))).set 15 (some (.int .u8 b))).set 7 (some (.int .u8 b)),?_,by simp[bk],fun t h1 h2 h3=>by simp[bk,h1,h2,h3]⟩
 simp only[XI,nW,jY,j6,Tryz.f178,jj,leftC,cP,unblk,unloop,iw,evStep,a_]
 rw[b_ rfl rfl rfl]
 have d1:decide ((0:Int)≤(i:Int))=true:=by simp
 have d2:decide ((i:Int)<(len:Int))=true:=by grind
 simp only[evOp,evO,Env.v,J,I,indexAddrV,aT,eE,d1,d2,jl,aj,cS,c_,bH,dm]
 rw[b_ rfl rfl rfl]
 simp only[evOp,evO,Env.v,bk,cX,loadV,KR,hb,bH,dm]
 rw[b_ rfl rfl rfl]
 simp only[evOp,evO,Env.v,bk,cX,bH,dm,evOps]
theorem XL {x:Nat}(hx:x<4294967296)(hb:b<256)(h5:T.get env 5=some (.int .u32 x))(h7:T.get env 7=some (.int .u8 b)):
  ∃I,ev ⟨Tryz.prog,told⟩ (n+1) XJ ⟨env,34,h⟩=some (.normal,⟨I,34,h⟩)∧T.get I 5=some (.int .u32 ((Nat.xor x b:Nat):Int))∧∀t,t<16→t≠5→T.get I t=T.get env t:=by
 refine⟨((((env.set 16 (some (.int .u32 x))).set 17 (some (.int .u8 b))).set 18 (some (.int .u32 b))).set 19 (some (.int .u32 ((Nat.xor x b:Nat):Int)))).set 5 (some (.int .u32 ((Nat.xor x b:Nat):Int))),?_,by simp[bk],fun t h1 h2 => ?_⟩
 ·simp only[XJ,nW,jY,j6,Tryz.f178,jj,leftC,cP,unblk,unloop,iw,evStep,a_]
  rw[b_ rfl rfl rfl]
  simp only[evOp,evO,Env.v,h5,bH,dm]
  rw[b_ rfl rfl rfl]
  have g7:T.get (env.set 16 (some (.int .u32 x))) 7=some (.int .u8 b):=by simp[bk,h7]
  simp only[evOp,evO,Env.v,g7,bH,dm]
  rw[b_ rfl rfl rfl]
  simp only[evOp,evO,Env.v,bk,cX,convV,Tryz.underlying5,Tryz.underlying231,wrap_u32 (show b<4294967296 by omega),dm]
  rw[b_ rfl rfl rfl]
  have J:T.get (((env.set 16 (some (.int .u32 x))).set 17 (some (.int .u8 b))).set 18 (some (.int .u32 b))) 16=some (.int .u32 x):=by simp[bk]
  have g18:T.get (((env.set 16 (some (.int .u32 x))).set 17 (some (.int .u8 b))).set 18 (some (.int .u32 b))) 18=some (.int .u32 b):=by simp[bk]
  simp only[evOp,evO,Env.v,J,g18,binV,ikBeq,aj,xq hx (show b<4294967296 by omega),bH,dm]
  rw[b_ rfl rfl rfl]
  simp only[evOp,evO,Env.v,bk,cX,bH,dm,evOps]
 grind[bk]
theorem XM : ev ⟨Tryz.prog,told⟩ (n+1) mR6 ⟨env,34,h⟩=some (.normal,⟨env.set 20 (some (.int .i64 0)),34,h⟩):=by
 rfl
theorem Vs (hi:i<9223372036854775807)(I:T.get env 12=some (.int .i64 i)):
  ∃J,ev ⟨Tryz.prog,told⟩ (n+1) Ry ⟨env,34,h⟩=some (.normal,⟨J,34,h⟩)∧T.get J 12=some (.int .i64 ((i+1:Nat):Int))∧∀t,t≠12→t≠31→T.get J t=T.get env t:=by
 refine⟨(env.set 31 (some (.int .i64 ((i+1:Nat):Int)))).set 12 (some (.int .i64 ((i+1:Nat):Int))),?_,by simp[bk],fun t h1 h2=>by simp[bk,h1,h2]⟩
 simp only[Ry,GM,jY,j6,Tryz.f178,jj,leftC,cP,unblk,unloop,iw,evStep,a_]
 rw[b_ rfl rfl rfl]
 simp only[evOp,evO,Env.v,I,ofValue,ofScalar,binV,ikBeq,aj,yU hi,bH,dm]
 rw[b_ rfl rfl rfl]
 simp only[evOp,evO,Env.v,bk,cX,bH,dm,evOps]
theorem CU : ∀(k x:Nat),x<4294967296→crcStep x k<4294967296:=by
 intro k
 induction k<;>grind[crcStep,OB]
theorem RB {x len:Nat}{cap:Cap}(hx:x<4294967296)(hb:b<256)(hi:i<len)(h5:T.get env 5=some (.int .u32 x))(I:T.get env 12=some (.int .i64 i))(J:T.get env 10=some (.sl id off len cap))
 (hr:yA h id (off+i)=some (.int .u8 b)):
  ∃e',ev ⟨Tryz.prog,told⟩ (n+22) nW ⟨env,34,h⟩=some (.normal,⟨e',34,h⟩)∧T.get e' 5=some (.int .u32 ((crcStep (Nat.xor x b) 8:Nat):Int))∧∀t,t=10∨t=11∨t=12→T.get e' t=T.get env t:=by
 obtain⟨e4,q4,XN,q4b⟩:=XK (told:=told) (n+20) env h hi I J hr
 obtain⟨e5,q5,q5a,q5b⟩:=XL (told:=told) (n+19) e4 h hx hb (by grind) XN
 have q6:=XM (told:=told) (n+18) e5 h
 obtain⟨e2,q2,T2,T3⟩:=Mk (C:=⟨Tryz.prog,told⟩) h 8 n (e5.set 20 (some (.int .i64 0))) (Nat.xor x b) (by omega) (oK hx (by omega)) (by simp[bk,q5a]) (by simp[bk])<;>simp_all[bk,Rz,kB,yp]
theorem Ml {len:Nat}{cap:Cap}(hlen:len<9223372036854775807): ∀(l:List Nat) (i n:Nat) (env:Env) (x:Nat),i+l.length=len→x<4294967296→(∀b∈l,b<256) →
  (∀j b:Nat,l[j]?=some b→yA h id (off+(i+j))=some (.int .u8 (b:Int)))→T.get env 5=some (.int .u32 x)→T.get env 12=some (.int .i64 i)→T.get env 10=some (.sl id off len cap)→T.get env 11=some (.int .i64 len) →
  ∃e',ev ⟨Tryz.prog,told⟩ (n+30+l.length) (.loop jY) ⟨env,34,h⟩=some (.exit 0,⟨e',34,h⟩)∧T.get e' 5=some (.int .u32 ((crcL x l:Nat):Int)):=by
 intro l
 induction l with
 |nil =>
  intro i n env x hi hx _ _ h5 I h10 XO
  have q3:=HA (told:=told) (n+27) env h I XO
  have hd:decide ((i:Int)<(len:Int))=false:=by grind
  rw[hd] at q3
  refine⟨env.set 13 (some (.bool false)),?_,by simp[bk,h5,crcL]⟩
  refine ud ?_
  rw[yV,kB q3]
  exact vB (by rw[wC (t:=false) (by simp[evO,Env.v,bk])];rfl)
 |cons b l ih =>
  intro i n env x hi hx HB mA h5 I h10 XO
  simp only[aX] at hi
  have q3:=HA (told:=told) (n+l.length+28) env h I XO
  have hd:decide ((i:Int)<(len:Int))=true:=by grind
  rw[hd] at q3
  have hb:b<256:=HB b (by simp)
  have hr:=mA 0 b (by simp)
  rw[m9] at hr
  obtain⟨e1,q1,q1a,q1b⟩:=RB (told:=told) (cap:=cap) (n+l.length+4) (env.set 13 (some (.bool true))) h hx hb (show i<len by omega) (by simp[bk,h5]) (by simp[bk,I]) (by simp[bk,h10]) hr
  obtain⟨e2,q2,T2,T3⟩:=Vs (told:=told) (n+l.length+26) e1 h (show i<9223372036854775807 by omega) (by grind[bk])
  have mM:crcStep (Nat.xor x b) 8<4294967296:=CU 8 _ (oK hx (by omega))
  obtain⟨e3,q3',XP⟩:=ih (i+1) n e2 (crcStep (Nat.xor x b) 8) (by omega) mM (fun c hc=>HB c (by grind)) (fun j c hj=>by
   have:=mA (j+1) c (by grind)
   rwa [show i+(j+1)=i+1+j from by omega] at this) (by grind) T2 (by grind[bk]) (by grind[bk])
  refine⟨e3,?_,by rw[XP];simp only[crcL]⟩
  have J:ev ⟨Tryz.prog,told⟩ (n+l.length+30) jY ⟨env,34,h⟩=some (.normal,⟨e2,34,h⟩):=by
   rw[yV,kB q3,kB (s':=⟨env.set 13 (some (.bool true)),34,h⟩) (by rw[wC (t:=true) (by simp[evO,Env.v,bk])];rfl),RA,
    kB (Hz q1),q2]
  rw[aX,show n+30+(l.length+1)=(n+l.length+30)+1 from by omega,KQ J,show n+l.length+30=n+30+l.length from by omega]
  exact q3'
noncomputable def mR0 : Code:=leftC j6
noncomputable def XQ : Code:=leftC (cP j6)
noncomputable def XR : Code:=leftC (leftC (cP (cP j6)))
noncomputable def RC : Code:=cP (cP (cP j6))
theorem RD : j6=.seq mR0 (.seq XQ (.seq (.seq XR (.block 0 (.loop jY))) RC)):=rfl
theorem XS : ev ⟨Tryz.prog,told⟩ (n+1) mR0 ⟨env,34,h⟩=some (.normal,⟨env.set 4 (some (.int .u32 0)),34,h⟩):=by
 rfl
theorem XT {x:Nat}(J:x<4294967296)(h0:T.get env 0=some (.int .u32 x)):
  ∃I,ev ⟨Tryz.prog,told⟩ (n+1) XQ ⟨env,34,h⟩=some (.normal,⟨I,34,h⟩)∧T.get I 5=some (.int .u32 ((Nat.xor x 4294967295:Nat):Int))∧∀t,t≠5→t≠8→t≠9→T.get I t=T.get env t:=by
 refine⟨((env.set 8 (some (.int .u32 x))).set 9 (some (.int .u32 ((Nat.xor x 4294967295:Nat):Int)))).set 5 (some (.int .u32 ((Nat.xor x 4294967295:Nat):Int))),?_,by simp[bk],fun t h1 h2 h3=>by simp[bk,h1,h2,h3]⟩
 simp only[XQ,j6,Tryz.f178,jj,leftC,cP,iw,evStep,a_]
 rw[b_ rfl rfl rfl]
 simp only[evOp,evO,Env.v,h0,bH,dm]
 rw[b_ rfl rfl rfl]
 have:=xq (a:=x) (b:=4294967295) J (by omega)
 rw[show((4294967295:Nat):Int)=4294967295 from rfl] at this
 simp only[evOp,evO,Env.v,bk,cX,ofValue,ofScalar,binV,ikBeq,aj,this,bH,dm]
 rw[b_ rfl rfl rfl]
 simp only[evOp,evO,Env.v,bk,cX,bH,dm,evOps]
theorem XU {x:V}{len:Nat}(J:T.get env 1=some x)(hl:lenV Tryz.prog h 28 x=some (.int .i64 len)):
  ∃I,ev ⟨Tryz.prog,told⟩ (n+1) XR ⟨env,34,h⟩=some (.normal,⟨I,34,h⟩)∧T.get I 10=some x∧T.get I 11=some (.int .i64 len)∧T.get I 12=some (.int .i64 ((0:Nat):Int))∧T.get I 5=T.get env 5:=by
 refine⟨((env.set 10 (some x)).set 11 (some (.int .i64 len))).set 12 (some (.int .i64 0)),?_,by simp[bk],by simp[bk],by simp[bk],by simp[bk]⟩
 simp only[XR,j6,Tryz.f178,jj,leftC,cP,iw,evStep,a_]
 rw[b_ rfl rfl rfl]
 simp only[evOp,evO,Env.v,J,bH,dm]
 rw[b_ rfl rfl rfl]
 simp only[evOp,evCall,evArgs,evO,Env.v,bk,cX,builtinV,hl,m5,dm]
 rw[b_ rfl rfl rfl]
 simp only[evOp,evO,ofValue,ofScalar,bH,dm,evOps]
theorem Vt {x:Nat}(J:x<4294967296)(h5:T.get env 5=some (.int .u32 x)):
  ∃I,ev ⟨Tryz.prog,told⟩ (n+2) RC ⟨env,34,h⟩=some (.ret,⟨I,34,h⟩)∧T.get I 4=some (.int .u32 ((Nat.xor x 4294967295:Nat):Int)):=by
 refine⟨((env.set 32 (some (.int .u32 x))).set 33 (some (.int .u32 ((Nat.xor x 4294967295:Nat):Int)))).set 4 (some (.int .u32 ((Nat.xor x 4294967295:Nat):Int))),?_,by simp[bk]⟩
 simp only[RC,j6,Tryz.f178,jj,cP,iw,evStep,a_]
 rw[b_ rfl rfl rfl]
 simp only[evOp,evO,Env.v,h5,bH,dm]
 rw[b_ rfl rfl rfl]
 have:=xq (a:=x) (b:=4294967295) J (by omega)
 rw[show((4294967295:Nat):Int)=4294967295 from rfl] at this
 simp only[evOp,evO,Env.v,bk,cX,ofValue,ofScalar,binV,ikBeq,aj,this,bH,dm]
 rw[b_ rfl rfl rfl]
 simp only[evOp,evO,Env.v,bk,cX,bH,dm,evOps]
end
theorem Mm : ∀(cs:List V) (l:List Nat),bytesIn cs=some l→cs=l.map (fun(b:Nat)=>V.int .u8 (b:Int))∧∀b∈l,b<256:=by
 intro cs
 induction cs with
 |nil=>grind[bytesIn]
 |cons v cs I =>
  intro l h
  unfold bytesIn at h
  grind
theorem EA : ∀(l:List Nat) (x:Nat),x<4294967296→(∀b∈l,b<256)→crcL x l<4294967296:=by
 intro l
 induction l with
 |nil=>intro x I _;exact I
 |cons b l ih =>
  intro x I J
  have h1:=J b (by simp)
  exact ih _ (CU 8 _ (oK I (by omega))) (fun c hc=>J c (by grind))
theorem B6 {s : Int} {x : V} {len : Nat} (hs0 : 0 ≤ s) (fF : s < 4294967296) (hl : lenV Tryz.prog σ 28 x = some (.int .i64 len)) (hlen : len = l.length) (kH : len < 9223372036854775807)
  (hb : ∀ b ∈ l, b < 256) (hx : l = [] ∨ ∃ id off cap, x = .sl id off len cap ∧ ∀ j b : Nat, l[j]? = some b → yA σ id (off + (0 + j)) = some (.int .u8 (b : Int))) :
  run ⟨Tryz.prog, fun _ => none⟩ (l.length + 40) 178 [.int .u32 s, x] σ = some (wB s l, σ) := by
 obtain ⟨u, rfl⟩ : ∃ u : Nat, s = (u : Int) := ⟨s.toNat, by omega⟩
 have hu : u < 4294967296 := by omega
 have q0 := XS (told := fun _ => none) (l.length + 38) (bindArgs [.int .u32 u, x] 0 .lf) σ
 obtain ⟨e1, q1, q1a, q1b⟩ := XT (told := fun _ => none) (l.length + 37) ((bindArgs [.int .u32 u, x] 0 .lf).set 4 (some (.int .u32 0))) σ hu (by rfl)
 obtain ⟨e2, q2, T2, T3, q2c, q2d⟩ := XU (told := fun _ => none) (l.length + 35) e1 σ (x := x) (by grind [bk, bindArgs]) hl
 have I : Nat.xor u 4294967295 < 4294967296 := oK hu (by omega)
 have J : ∃ e', ev ⟨Tryz.prog, fun _ => none⟩ (5 + 30 + l.length) (.loop jY) ⟨e2, 34, σ⟩ = some (.exit 0, ⟨e', 34, σ⟩) ∧ T.get e' 5 = some (.int .u32 ((crcL (Nat.xor u 4294967295) l : Nat) : Int)) := by
  rcases hx with rfl | ⟨id, off, cap, rfl, mA⟩
  ·have q3 := HA (told := fun _ => none) 32 e2 σ q2c T3
   have hd : decide ((((0 : Nat) : Int)) < (len : Int)) = false := by grind
   rw [hd] at q3
   refine ⟨e2.set 13 (some (.bool false)), ?_, by simp [bk, q2d, q1a, crcL]⟩
   refine ud ?_
   rw [yV, kB q3]
   exact vB (by rw [wC (t := false) (by simp [evO, Env.v, bk])]; rfl)
  ·exact Ml σ kH l 0 5 e2 _ (by omega) I hb mA (by grind) q2c T2 T3
 obtain ⟨e3, q3, XP⟩ := J
 obtain ⟨e4, q4, XN⟩ := Vt (told := fun _ => none) (l.length + 35) e3 σ (EA l _ I hb) XP
 have ZU : ev ⟨Tryz.prog, fun _ => none⟩ (l.length + 40) j6 ⟨bindArgs [.int .u32 u, x] 0 .lf, 34, σ⟩ = some (.ret, ⟨e4, 34, σ⟩) := by
  rw [RD, kB q0, kB q1, kB (s' := ⟨e3, 34, σ⟩) (by
   rw [kB q2]
   grind [yp]), q4]
 unfold run callF
 simp only [CM]
 rw [show Tryz.f178.body = some j6 from rfl]
 rw [show (Tryz.f178.name == "runtime.NumGoroutine" || Nat.blt Tryz.f178.ntmps [V.int .u32 (u : Int), x].length) = false from rfl]
 simp only [a_]
 rw [show Tryz.f178.ntmps = 34 from rfl, ZU]
 simp only
 rw [show Tryz.f178.results = #[.tmp 4] from rfl]
 simp only [mapO, resV, Env.v, XN, wB, cS]
section
variable {c:Ctx} {w:World}
theorem JS (hP:C.P=Tryz.prog)(hm:C.P.follows .mixedOrders=true){v:V}(J:toldMore args σ=some (v,dH))(h:Rel c σ w)(hw:∀x∈args,wf c x):
  gq C.P 178 args c w v dH:=by
 rw[hP] at hm ⊢
 have hT:fO ⟨Tryz.prog,fun _=>none⟩:=fun f g hg=>by cases hg
 unfold toldMore at J
 split at J
 ·rename_i s id off len cap
  cases Fz:(decide (0≤s)&&decide (s<4294967296)&&Nat.ble len 4611686018427387904) with
  |false=>grind
  |true =>
   rw[Fz,aj] at J
   simp only[bK,ir,bg] at Fz
   obtain⟨I,kH⟩:=Fz
   cases mA:rdN σ id off len with
   |none=>grind
   |some cs =>
    simp only[mA] at J
    cases hb:bytesIn cs with
    |none=>grind
    |some l =>
     simp only[hb,aC,bL] at J
     obtain⟨rfl,rfl⟩:=J
     obtain⟨b1,b2⟩:=Mm cs l hb
     obtain⟨d1,d2⟩:=Vq h mA
     have hl:len=l.length:=by grind
     refine Hx (C:=⟨Tryz.prog,fun _=>none⟩) hm hT (B6 I.1 I.2 (len:=len) (by simp[lenV,aT]) hl (by omega) b2 (.inr ⟨id,off,cap,rfl,fun j b hj => ?_⟩)) h hw
     ·grind
 ·rename_i s
  cases I:(decide (0≤s)&&decide (s<4294967296)) with
  |false=>grind
  |true =>
   rw[I,aj] at J
   simp only[bK,ir] at I
   obtain⟨rfl,rfl⟩:=J
   exact Hx (C:=⟨Tryz.prog,fun _=>none⟩) hm hT (B6 I.1 I.2 (len:=0) (l:=[]) (by simp[lenV,aT]) rfl (by omega) (by simp) (.inl rfl)) h hw
 ·rename_i s _
  cases I:(decide (0≤s)&&decide (s<4294967296)) with
  |false=>grind
  |true =>
   rw[I,aj] at J
   simp only[bK,ir] at I
   obtain⟨rfl,rfl⟩:=J
   exact Hx (C:=⟨Tryz.prog,fun _=>none⟩) hm hT (B6 I.1 I.2 (len:=0) (l:=[]) (by simp[lenV,aT]) rfl (by omega) (by simp) (.inl rfl)) h hw
 ·cases J
end
end Go.Proofs.YtefepnnfphdkpaaGreat.Am
namespace Go.Proofs.YtefepnnfphdkpaaGreat.Am
open Go Go.Maps Go.RowKit
variable {ps:Array (Nat×Operand)} {ops:Array Oper} {C:fH} {code:Code} {c₀:Ctx} {env:Env} {Q:Ex→List (Nat×V)→H→Prop} {fn:Func} {f:FuncId} {cl:Go.Call} {h h' σ h₁ dH:H} {E E':List (Nat×V)} {R:List (Nat×V)→H→Prop} {d₀:List Deferred} {hs:List H} {eN es l:List Nat} {L rest:List Oper} {args first cap vs cs ds:List V} {a b i c k id n d off j g nE k' q:Nat} {Hs:Nat→H} {early:Nat→Option (Nat×FV)} {Fl:Nat→Prop} {vv:Nat→V} {o':Obj} {o:Oper} {x y:Operand} {P:Program} {φ:Prop} {self:Self} {s s':St} {α:Type} {td:TypeDesc} {t t' e kt et:TypeId} {r u z:V} {yR:V→H→Prop} {w₀:World}
def keyInts : List (V×V×Nat)→Option (List Int)
 |[]=>some []
 |(.int .i64 n,_,_)::l=>cond (Lit.int .i64 n).wf (match keyInts l with
  |some m=>some (n::m)
  |none=>none) none
 |_=>none
def bornUp (clock:Nat): Nat→List (V×V×Nat)→Bool
 |_,[]=>true
 |b,(_,_,x)::l=>cond (Nat.ble b x&&Nat.blt x clock) (bornUp clock (x+1) l) false
def insI (x:Int): List Int→List Int
 |[]=>[x]
 |y::l=>cond (decide (x≤y)) (x::y::l) (y::insI x l)
def nj : List Int→List Int
 |[]=>[]
 |x::l=>insI x (nj l)
def rT : List Int→Bool
 |[]=>true
 |x::l=>l.all (fun y=>decide (x<y))&&rT l
def fJ (l:List Int): List V:=l.map (V.int .i64)
noncomputable def toldSorted (gs:List Nat): List V→H→Option (V×H)
 |[.fn (.func g) [] [.ptr b 0]],h=>match h.tr.get b with
  |some (.cells n [.map id] false)=>match h.tr.get id with
   |some (.map es clock)=>cond (Nat.beq n 1&&wX gs g&&bornUp clock 0 es&&Nat.ble es.length 1048576) (match keyInts es with
    |some ks=>cond (rT (nj ks)) (match ks with
     |[]=>some (.bC,h)
     |_=>some (.sl h.next 0 ks.length (.rest 1 0),newRow h (fJ (nj ks)))) none
    |none=>none) none
   |_=>none
  |_=>none
 |_,_=>none
theorem yW (x:Int): ∀l:List Int,(insI x l).Perm (x::l)
 |[]=>.refl _
 |y::l=>by
  simp only[insI]
  cases decide (x≤y) with
  |true=>rfl
  |false=>exact((yW x l).cons y).trans (.swap x y l)
theorem eF : ∀l:List Int,(nj l).Perm l
 |[]=>.refl _
 |x::l=>(yW x _).trans ((eF l).cons x)
theorem FA : ∀l:List Int,rT l=true→l.Pairwise (· < ·)
 |[],_=>.nil
 |x::l,h=>by
  simp only[rT,bK,nQ,ir] at h
  exact List.pairwise_cons.2 ⟨h.1,FA l h.2⟩
theorem wD : ∀ {l m:List Int},l.Perm m→l.Pairwise (· ≤ ·)→m.Pairwise (· ≤ ·)→l=m
 |[],m,I,_,_=>I.nil_eq
 |a::r,[],I,_,_=>absurd I.symm.nil_eq (by simp)
 |a::r,b::s,I,h1,h2=>by
  obtain⟨a1,a2⟩:=List.pairwise_cons.1 h1
  obtain⟨b1,b2⟩:=List.pairwise_cons.1 h2
  have J:a=b:=by
   have ha:a∈b::s:=I.mem_iff.1 (by simp)
   have hb:b∈a::r:=I.mem_iff.2 (by simp)
   grind
  subst J
  rw[wD (List.Perm.cons_inv I) a2 b2]
theorem FB {clock:Nat}: ∀(l:List (V×V×Nat)) (b:Nat),bornUp clock b l=true→(∀x∈l,b≤x.2.2∧x.2.2<clock)∧(l.map (·.2.2)).Nodup
 |[],_,_=>⟨by simp,by simp⟩
 |(k,v,x)::l,b,h=>by
  simp only[bornUp] at h
  cases I:(Nat.ble b x&&Nat.blt x clock) with
  |false=>grind
  |true =>
   rw[I,aj] at h
   simp only[bK,bg,iP] at I
   obtain⟨i1,i2⟩:=FB l (x+1) h<;>grind
theorem CV {c:Ctx}: ∀(l:List (V×V×Nat)) (ks:List Int),keyInts l=some ks→l.map (fun x=>conc c x.1)=ks.map (Value.int .i64)∧∀n∈ks,(Lit.int .i64 n).wf=true
 |[],ks,h=>by grind[keyInts]
 |(k,v,b)::l,ks,h=>by
  unfold keyInts at h
  split at h
  ·grind
  ·rename_i n v' I J he
   obtain⟨⟨rfl,rfl,rfl⟩,rfl⟩:=he
   cases hw:(Lit.int .i64 n).wf with
   |false=>grind
   |true =>
    cases hm:keyInts l with
    |none=>grind
    |some m =>
     simp[hw,hm] at h
     obtain⟨i1,i2⟩:=CV (c:=c) l m hm<;>grind[conc]
  ·cases h
section
variable {c:Ctx} {w w':World}
theorem Rel.below (h:Rel c σ w)(I:Below w.heap.size w w'): Rel c σ w'∧cV c w c w':=by
 have rows:∀b,b<w.heap.size→rowSize w' b=rowSize w b:=fun b J=>by unfold rowSize;rw[I.block b J]
 refine⟨⟨h.next,h.live,fun id hi=>iN (h.mL id hi) I.size,fun id hi=>by rw[rows _ (h.mL id hi)];exact h.zz id hi,h.inj,
  fun id o ho=>(h.obj id o ho).later (Ext.refl c) (h.live id o ho) (I.block _ (h.mL id (h.live id o ho))),h.one,h.fx⟩,
  ⟨Ext.refl c,I.size,rows,fun b J _=>I.block b J,fun id h1 h2=>by omega,I.os,I.output⟩⟩
theorem Rel.take {C:Array Value}{T:TypeId}(h:Rel c σ w)(hb:b<w.heap.size)(hr:∀id,id<c.N→(c.ρ id).1≠b)(J:∀v∈cs,wf c v∧storable v=true)
 (hg:w.heap[b]?=some (.cells C T (0,0)))(hC:C.toList.take cs.length=cs.map (conc c)): Rel (c.grow b 0 C.size) (Am.newRow σ cs) w:=by
 have e:=rI hr 0 C.size
 have hN:(c.grow b 0 C.size).N=c.N+1:=rfl
 have hle:cs.length≤C.size:=by
  have:=iO List.length hC
  simp at this
  omega
 have key:∀i o,(Am.newRow σ cs).tr.get i=some o→(i=c.N∧o=.cells cs.length cs false)∨(i<c.N∧σ.tr.get i=some o):=by
  intro i o hi
  rw[Am.newRow,gB,h.next] at hi
  by_cases h1:i=c.N
  ·grind
  ·simp[h1] at hi;exact .inr ⟨h.live i o hi,hi⟩
 refine⟨by simp[Am.newRow,H.new,Ctx.grow,h.next],fun i o hi => ?_,fun i hi => ?_,fun i hi => ?_,fun i j o o' hi hj he => ?_,fun i o hi => ?_,fun i ym pQ hi hx => ?_,fun i o hi hx => ?_⟩
 ·grind
 ·by_cases h1:i=c.N
  ·grind[bM]
  ·rw[dB c _ _ _ (by omega)];exact h.mL i (by omega)
 ·by_cases h1:i=c.N
  ·grind[Ctx.grow,rowSize]
  ·rw[dB c _ _ _ (by omega),←h.zz i (by omega)];simp[Ctx.grow,hr i (by omega)]
 ·rcases key i o hi with⟨I,_⟩|⟨I,a2⟩<;>rcases key j o' hj with⟨b1,_⟩|⟨b1,b2⟩
  ·omega
  ·grind[bM,dB]
  ·grind[bM,dB]
  ·rw[dB c _ _ _ I,dB c _ _ _ b1] at he;rw[gF c _ _ _ I,gF c _ _ _ b1];exact h.inj i j _ _ a2 b2 he
 ·rcases key i o hi with⟨rfl,rfl⟩|⟨I,a2⟩
  ·refine⟨rfl,fun v hv=>⟨(cF e v (J v hv).1).2,(J v hv).2⟩,C,T,(0,0),by rw[bM];exact hg,by grind[bM],fun j v hj => ?_,rfl⟩
   rw[bM,(cF e v (J v (bI hj)).1).1]
   have h1:(C.toList.take cs.length)[j]?=some (conc c v):=by grind
   grind
  ·exact(h.obj i o a2).later e I rfl
 ·rcases key i _ hi with⟨rfl,_⟩|⟨I,a2⟩
  ·rw[bM]
  ·rw[gF c _ _ _ I] at hx
   rw[dB c _ _ _ I];exact h.one i ym pQ a2 hx
 ·rcases key i o hi with⟨rfl,_⟩|⟨I,a2⟩
  ·grind[w6]
  ·rw[gF c _ _ _ I] at hx;exact h.fx i o a2 hx
def oM (_:Value): Option (DataW Unit×List MemPlace):=some (.nil,[])
def FC (P:Program)(f K:Nat)(gs:List Nat): Prop:=∀g∈gs,∀(Bm b nn:Nat) (I:DataW Unit) (w:World),Bm<w.heap.size→w.cell? ⟨Bm,0,none⟩=some (.map (some b)) →
 w.ownsMap P K oM b nn I→Maps.size I≤maxLen→Maps.size I*8≤140737488355328 →
 Calls P f #[.func (.func g) #[] #[.pointer (some ⟨Bm,0,none⟩)]] w fun e w'=>∃(v:Value) (J:List Int),e=.returned v∧J.Perm (intKeys I) ∧
  w'.ownsRow w.heap.size K 1 v J.length ((J.mergeSort (fun x y=>decide (x≤y))).map encZ)∧(v=.slice none 0 0↔J=[])∧Below w.heap.size w w'
theorem Gx {f K:Nat}{gs:List Nat}(hK:P.underlying K=some (.int .i64))(hS:FC P f K gs){v:V}(I:toldSorted gs args σ=some (v,dH))
 (h:Rel c σ w): gq P f args c w v dH:=by
 unfold toldSorted at I
 split at I
 ·rename_i g b
  split at I
  ·rename_i n id T4
   split at I
   ·rename_i es clock hgm
    cases hq:(Nat.beq n 1&&wX gs g&&bornUp clock 0 es&&Nat.ble es.length 1048576) with
    |false=>grind
    |true =>
     rw[hq,aj] at I
     simp only[bK,beq_iff,bg,B5] at hq
     obtain⟨⟨⟨q1,q2⟩,q3⟩,q4⟩:=hq
     subst q1
     cases hk:keyInts es with
     |none=>grind
     |some ks =>
      simp only[hk] at I
      cases J:rT (nj ks) with
      |false=>grind
      |true =>
       simp only[J,aj] at I
       obtain⟨k1,k2⟩:=CV (c:=c) es ks hk
       obtain⟨b1,b2⟩:=FB es 0 q3
       have cE:=FA _ J
       have lK:ks.Nodup:=(eF ks).nodup_iff.1 (cE.imp fun {a b} oH=>by omega)
       have xu:=h.one b _ _ T4 (h.G7 T4 (by simp))
       have wZ:=cell_of h T4 (j:=0) (v:=.map id) rfl
       have aa6:iq c b 0=⟨(c.ρ b).1,0,none⟩:=by simp[iq,xu]
       rw[aa6] at wZ
       have XV:w.cell? ⟨(c.ρ b).1,0,none⟩=some (.map (some (c.ρ id).1)):=by simpa[conc] using wZ
       obtain⟨m1,m2⟩:=h.obj id _ hgm
       have GN:∀x∈es,∃n,n∈ks∧(cN c x).key=.int .i64 n:=fun x hx=>by
        have:conc c x.1∈ks.map (Value.int .i64):=by grind
        obtain⟨n,hn,he⟩:=List.mem_map.1 this
        exact⟨n,hn,he.symm⟩
       have mA:∀x∈es,∀n,(cN c x).key=.int .i64 n→n∈ks→WideElems.rd P K oM (cN c x)=some (.int .i64 n,.nil):=fun x hx n hn hm=>by
        grind[WideElems.rd,Maps.keyOf_int_mk,oM]
       have aa7:w.ownsMap P K oM (c.ρ id).1 es.length (.map (((es.map (cN c)).toArray.toList.map (WideElems.rg P K oM)).foldr DataW.insert [])):=by
        refine⟨(es.map (cN c)).toArray,clock,m2,⟨by simp[maxLen];omega,⟨fun x hx => ?_,?_,?_⟩,fun x hx => ?_⟩,by simp,rfl⟩
        ·simp only[List.mem_map] at hx
         obtain⟨y,hy,rfl⟩:=hx
         exact(b1 y hy).2
        ·grind[cN]
        ·have:(es.map (cN c)).toArray.toList.map (·.key)=ks.map (Value.int .i64):=by simp_all[cN,Function.comp_def]
         grind
        grind
       have fU:Maps.size (H:=Unit) (.map (((es.map (cN c)).toArray.toList.map (WideElems.rg P K oM)).foldr DataW.insert []))=es.length:=by
        rw[Maps.size_eq,(WideShapes.sorted_perm _).length_eq];simp
       have Mn:(intKeys (H:=Unit) (.map (((es.map (cN c)).toArray.toList.map (WideElems.rg P K oM)).foldr DataW.insert []))).Perm ks:=by
        refine((WideShapes.sorted_perm _).map _).trans ?_
        have:(((es.map (cN c)).toArray.toList.map (WideElems.rg P K oM)).map fun p=>intOf p.1)=ks:=by
         have KS:∀x∈es,Value.int .i64 (intOf (WideElems.rg P K oM (cN c x)).1)=conc c x.1:=fun x hx=>by
          obtain⟨n,hn,he⟩:=GN x hx
          rw[WideElems.rg_of (mA x hx n he hn)]
          exact he.symm
         have h1:((((es.map (cN c)).toArray.toList.map (WideElems.rg P K oM)).map fun p=>intOf p.1).map (Value.int .i64))=ks.map (Value.int .i64):=by
          grind[List.map_congr_left]
         grind[List.map_inj_right]
        rw[this]
       have ZV:=hS g q2 (c.ρ b).1 (c.ρ id).1 es.length _ w (h.mL b (h.live b _ T4)) XV aa7 (by rw[fU];simp[maxLen];omega) (by omega)
       have GO:([V.fn (.func g) [] [.ptr b 0]].map (conc c)).toArray = #[.func (.func g) #[] #[.pointer (some ⟨(c.ρ b).1,0,none⟩)]]:=by simp[conc,concL,xu]
       unfold gq
       rw[GO]
       refine ZV.mono ?_
       rintro e w' ⟨rv,ss,rfl,s1,s2,s3,s4⟩
       obtain⟨g1,g2⟩:=h.below s4
       have hss:ss.Perm ks:=s1.trans Mn
       have KT:ss.mergeSort (fun x y=>decide (x≤y))=nj ks:=by
        refine wD (((List.mergeSort_perm ss _).trans hss).trans (eF ks).symm) ?_ (cE.imp fun {a b} oH=>by omega)<;>grind[List.pairwise_mergeSort]
       rw[KT] at s2
       split at I
       ·-- no key
        have xk:ss=[]:=by simp_all
        grind[conc,wf]
       ·obtain⟨rfl,rfl⟩:=I
        have acL:ss≠[]:=fun e=>by
         simp_all
        have j_:ss.length=ks.length:=hss.length_eq
        rcases s2.2 with⟨e1,_⟩|⟨gb,cap,cur,rfl,l1,l2,l3,l4,l5,l6⟩
        ·grind
        have aa8:gb<w'.heap.size:=(Array.getElem?_eq_some_iff.1 l2).1
        have Fi:∀i,i<c.N→(c.ρ i).1≠gb:=fun i hi e=>by have:=h.mL i hi;omega
        have pR:∀x∈fJ (nj ks),wf c x∧storable x=true:=fun x hx=>by
         obtain⟨n,_,rfl⟩:=List.mem_map.1 hx<;>grind[wf,storable]
        have yq:(fJ (nj ks)).length=ks.length:=by simp[fJ,(eF ks).length_eq]
        have ZW:cur.toList.take (fJ (nj ks)).length=(fJ (nj ks)).map (conc c):=by
         simp_all[fJ,conc]
        have R:=g1.take aa8 Fi pR l2 ZW
        have Cw:(c.grow gb 0 cur.size).room σ.next 0 1=cap:=by
         simp only[Ctx.room,h.next,Ctx.grow,cX]
         simp[l5]
        refine⟨c.grow gb 0 cur.size,?_,?_,R,g2.GK Fi l1⟩
        ·simp only[conc,Cw]
         simp[h.next,Ctx.grow,j_]
        ·exact⟨by rw[h.next];simp[Ctx.grow],aU _,by omega⟩
   ·cases I
  ·cases I
 ·cases I
end
end Go.Proofs.YtefepnnfphdkpaaGreat.Am
namespace Go.Proofs.YtefepnnfphdkpaaGreat.Am
open Go
variable {ps:Array (Nat×Operand)} {ops:Array Oper} {C:fH} {code:Code} {c₀:Ctx} {env:Env} {Q:Ex→List (Nat×V)→H→Prop} {fn:Func} {f:FuncId} {cl:Go.Call} {h h' σ h₁ dH:H} {E E':List (Nat×V)} {R:List (Nat×V)→H→Prop} {d₀:List Deferred} {hs:List H} {eN es l:List Nat} {L rest:List Oper} {args first cap vs cs ds:List V} {a b i c k id n d off j g nE k' q:Nat} {Hs:Nat→H} {early:Nat→Option (Nat×FV)} {Fl:Nat→Prop} {vv:Nat→V} {o':Obj} {o:Oper} {x y:Operand} {P:Program} {φ:Prop} {self:Self} {s s':St} {α:Type} {td:TypeDesc} {t t' e kt et:TypeId} {r u z:V} {yR:V→H→Prop} {w₀:World}
abbrev rU := List (Nat×List V×List V)
noncomputable def resOf (P:Program)(s:St)(rs:List ResultVar): Option V:=match mapO (resV P s) rs with
 |some [v]=>some v
 |some vs=>some (.bf vs)
 |none=>none
noncomputable def evOpsD (C:fH)(self:Self)(L:List Oper): List Oper→St→rU→Option (St×rU)
 |[],s,d=>some (s,d)
 |o::rest,s,d=>match o.op with
  |.defer cl=>match o.guard,o.dst,cl.callee,evArgs s.env cl.args.toList with
   |none,none,.value x,some args=>match evO s.env x with
    |some (.fn (.func g) first cap)=>evOpsD C self L rest s ((g,first++args,cap)::d)
    |_=>none
   |_,_,_,_=>none
  |_=>cond (wantedV L s.env o)
   (match evOp C self s.env s.h o with
    |some (v,h)=>match s.put o.dst v h with
     |some s'=>evOpsD C self L rest s' d
     |none=>none
    |none=>none)
   (match s.put o.dst cu s.h with
    |some s'=>evOpsD C self L rest s' d
    |none=>none)
noncomputable def evTop (C:fH)(n:Nat): Nat→Code→St→rU→Option (Ex×St×rU)
 |0,_,_,_=>none
 |m+1,c,s,d=>match c with
  |.seq a b=>match evTop C n m a s d with
   |some (.normal,s',I)=>evTop C n m b s' I
   |r=>r
  |.region _ ops false=>match evOpsD C (ev C n) ops.toList ops.toList s d with
   |some (s',I)=>some (.normal,s',I)
   |none=>none
  |c=>match ev C n c s with
   |some (ex,s')=>some (ex,s',d)
   |none=>none
def quietParts : Code→Option (Nat×Nat×Code)
 |.seq (.region _ ops false) rest=>match ops.toList with
  |[I,J]=>match I.op,I.guard,I.dst,J.op,J.guard,J.dst with
   |.call cl,none,some nE,.assign (.tmp t),none,some EB=>match cl.callee,cl.args.toList with
    |.builtin .recover,[]=>cond (Nat.beq t nE) (some (nE,EB,rest)) none
    |_,_=>none
   |_,_,_,_,_,_=>none
  |_=>none
 |_=>none
noncomputable def defCall (C : fH) (n : Nat) (g : Nat) (args : List V) (h : H) : Option H := match C.P.funcs[g]? with
 | none => none
 | some fn => match fn.body with
  | none => none
  | some code => match quietParts code with
   | some (nE, I, rest) => cond (Nat.blt nE fn.ntmps && Nat.blt I fn.ntmps && Nat.ble args.length fn.ntmps && !(fn.name == "runtime.NumGoroutine"))
    (match ev C n rest ⟨((bindArgs args 0 .lf).set nE (some .jN)).set I (some .jN), fn.ntmps, h⟩ with
     | some (.normal, s) | some (.ret, s) => match resOf C.P s fn.results.toList with
      | some _ => some s.h
      | none => none
     | _ => none) none
   | none => match callF C (ev C n) g args h with
    | some (_, h') => some h'
    | none => none
noncomputable def runDefs (C:fH)(n:Nat): rU→H→Option H
 |[],h=>some h
 |(g,args,cap)::d,h=>match C.told g with
  |some _=>none
  |none=>match defCall C n g (args++cap) h with
   |some h'=>runDefs C n d h'
   |none=>none
noncomputable def toldDefer (C:fH)(n f:Nat)(args:List V)(h:H): Option (V×H):=match C.P.funcs[f]? with
 |none=>none
 |some fn=>match fn.body with
  |none=>none
  |some c=>cond (Nat.blt fn.ntmps args.length) none (match evTop C n 1000 c ⟨bindArgs args 0 .lf,fn.ntmps,h⟩ [] with
   |some (.exit _,_,_)=>none
   |some (_,s,d)=>match runDefs C n d s.h with
    |some h'=>match resOf C.P ⟨s.env,s.au,h'⟩ fn.results.toList with
     |some v=>some (v,h')
     |none=>none
    |none=>none
   |none=>none)
section
variable {c:Ctx} {w:World}
theorem B7 {a:Act}{v:V}(h:Rel c s.h w)(he:dX c s.env s.au a)(J:resOf P s fn.results.toList=some v):
  (results fn a.tmps).run P w=.ok (conc c v) w∧wf c v:=by
 unfold resOf at J
 cases I:mapO (resV P s) fn.results.toList with
 |none=>grind
 |some vs =>
  obtain⟨q1,q2⟩:=qt h he I
  rw[q1]
  rcases vs with _|⟨v0,_|⟨v1,vs⟩⟩<;>grind[conc,wf,gQ,jx]
structure rJ (c:Ctx)(d:rU)(ds:List Deferred): Prop where
 eq:ds=d.map fun x=>{ target:=.fn (.func x.1) (x.2.2.map (conc c)).toArray,args:=(x.2.1.map (conc c)).toArray }
 FD:∀x∈d,(∀v∈x.2.1,wf c v)∧∀v∈x.2.2,wf c v
theorem rJ.ext {c':Ctx}{d:rU}{ds:List Deferred}(h:rJ c d ds)(e:Ext c c'): rJ c' d ds where
 eq:=by
  rw[h.eq]
  refine Az fun x I => ?_
  rw[(nA e (h.FD x I).1).1,(nA e (h.FD x I).2).1]
 FD:=fun x I=>⟨(nA e (h.FD x I).1).2,(nA e (h.FD x I).2).2⟩
theorem OC {a:Act}(he:dX c env n a): ∀(l:List Operand) (vs:List V),evArgs env l=some vs→l.map a.eval=vs.map (conc c)∧∀v∈vs,wf c v:=by
 intro l
 induction l<;>grind[evArgs,yC]
theorem OD (hS:jm C.P self)(hT:fO C){Q:Exit→Act→World→Prop}: ∀(l:List Oper) (k:Nat) (s s':St) (d d':rU) (c:Ctx) (a:Act) (w:World),
  (∀j,l[j]?=ops[k+j]?)→evOpsD C self ops.toList l s d=some (s',d')→Rel c s.h w→dX c s.env s.au a→rJ c d a.defers →
  (∀c' a' w',Rel c' s'.h w'→dX c' s'.env s'.au a'→cV c w c' w'→rJ c' d' a'.defers→Q .normal a' w') →
  wpOpsIn (Fr none) 0 C.P ops Q (List.range' k l.length) a w:=by
 intro l
 induction l with
 |nil =>
  grind[evOpsD,wpOpsIn,cV.refl]
 |cons o l ih =>
  intro k s s' d d' c a w hl I h he hd hQ
  have h0:ops[k]?=some o:=by simpa using(hl 0).symm
  have wu:∀j,l[j]?=ops[k+1+j]?:=fun j=>by have:=hl (j+1);grind
  simp only[aX,AF,wpOpsIn,h0]
  rw[xm he]
  have common:(cond (wantedV ops.toList s.env o)
    (match evOp C self s.env s.h o with
     |some (v,h)=>match s.put o.dst v h with
      |some s'=>evOpsD C self ops.toList l s' d
      |none=>none
     |none=>none)
    (match s.put o.dst cu s.h with
     |some s'=>evOpsD C self ops.toList l s' d
     |none=>none))=some (s',d') →
    (if wantedV ops.toList s.env o=true then o.wpIn (Fr none) 0 C.P a w (wpOpsIn (Fr none) 0 C.P ops Q (List.range' (k+1) l.length)) Q else(∀f,o.about C.P w a.eval=some f→(Fr none).fn f)∧wpOpsIn (Fr none) 0 C.P ops Q (List.range' (k+1) l.length) (a.put o.dst undef) w):=by
   intro I
   cases hw:wantedV ops.toList s.env o with
   |true =>
    rw[hw,aj] at I
    cases ho:evOp C self s.env s.h o with
    |none=>grind
    |some r =>
     obtain⟨v,dH⟩:=r
     simp only[ho] at I
     cases hp:s.put o.dst v dH with
     |none=>grind
     |some J =>
      simp only[hp] at I
      refine(wq hS hT h (he.CE o) ho).wpIn (lY ho) ?_
      intro c' w' r1 r2 r3
      obtain⟨p1,p2,p3⟩:=St.v_ (he.ext r2.ext) r3 hp
      refine ih (k+1) J s' d d' c' _ w' wu I (by grind) p1 (by rw[put_defers];exact hd.ext r2.ext) ?_
      intro sJ yo yO q1 q2 q3 q4
      exact hQ sJ yo yO q1 q2 (r2.trans q3) q4
   |false =>
    refine⟨fun _ _=>trivial,?_⟩
    cases hp:s.put o.dst cu s.h with
    |none=>grind
    |some J =>
     obtain⟨p1,p2,p3⟩:=St.v_ he (show wf c cu by simp[cu,wf,gR]) hp<;>grind[sR,put_defers]
  unfold evOpsD at I
  split at I
  ·rename_i cl kz
   split at I
   ·rename_i x args hg Q7 ab5 GO
    split at I
    ·rename_i g first cap hfv
     have ZX:wantedV ops.toList s.env o=true:=by simp[wantedV,hg]
     simp only[ZX,cX]
     obtain⟨e1,e2⟩:=OC he _ _ GO
     obtain⟨f1,f2⟩:=yC he hfv
     have fw:(∀x∈first,wf c x)∧(∀x∈cap,wf c x):=by
      grind[wf,jx]
     have tX:(execOp a.eval o).run C.P w=.ok (.defer { target:=.fn (.func g) (cap.map (conc c)).toArray,args:=((first++args).map (conc c)).toArray }) w:=by
      simp_all[conc,gQ,execOp,resolve,Deferred.ofValue]
     refine⟨fun _ _=>trivial,?_⟩
     rw[show(Fr none).round=none from rfl,Oper.semAt_none,tX]
     simp only[Oper.uponIn,Q7,Act.put]
     refine ih (k+1) s s' ((g,first++args,cap)::d) d' c _ w wu I h ⟨he.size,he.val,he.uN⟩ ⟨by simp[hd.eq],fun x hx => ?_⟩ ?_
     ·rcases List.mem_cons.1 hx with rfl|hx
      ·grind
      ·exact hd.FD x hx
     ·omega
    ·cases I
   ·cases I
  ·grind
theorem RE (hm:C.P.follows .mixedOrders=true)(hT:fO C): ∀(m:Nat) (code:Code) (s:St) (d:rU) (ex:Ex) (s':St) (d':rU),evTop C n m code s d=some (ex,s',d') →
  ∀(c:Ctx) (a:Act) (w:World),Rel c s.h w→dX c s.env s.au a→rJ c d a.defers →
   code.wp C.P (fun e a' w'=>e=exOf ex∧∃c',Rel c' s'.h w'∧dX c' s'.env s'.au a'∧cV c w c' w'∧rJ c' d' a'.defers) a w:=by
 have hS:=(xn (C:=C) hm hT n).1
 intro m
 induction m with
 |zero=>grind[evTop]
 |succ m ih =>
  intro code s d ex s' d' J c a w h he hd
  have rest:(match ev C n code s with
    |some (ex,s')=>some (ex,s',d)
    |none=>none)=some (ex,s',d')→code.wp C.P (fun e a' w'=>e=exOf ex∧∃c',Rel c' s'.h w'∧dX c' s'.env s'.au a'∧cV c w c' w'∧rJ c' d' a'.defers) a w:=by
   intro J
   cases ou:ev C n code s with
   |none=>grind
   |some r =>
    rw[ou] at J
    obtain⟨rfl,rfl,rfl⟩:=J
    refine Code.wp_mono ?_ (hS _ _ _ _ ou c a w h he)
    rintro e a' w' ⟨rfl,q2,c',q3,q4,q5⟩
    exact⟨rfl,c',q3,q4,q5,by rw[q2];exact hd.ext q5.ext⟩
  unfold evTop at J
  split at J
  ·rename_i x y
   cases hx:evTop C n m x s d with
   |none=>grind
   |some r =>
    obtain⟨Fu,I,nE⟩:=r
    rw[hx] at J
    refine wp_seq (Code.wp_mono ?_ (ih x s d Fu I nE hx c a w h he hd))
    rintro e CF sY ⟨rfl,c₁,q3,q4,q5,q6⟩
    cases Fu with
    |normal =>
     refine Code.wp_mono ?_ (ih y I nE ex s' d' J c₁ CF sY q3 q4 q6)
     rintro e Xo Xp ⟨rfl,c₂,p3,p4,p5,p6⟩
     exact⟨rfl,c₂,p3,p4,q5.trans p5,p6⟩
    |exit i =>
     obtain⟨rfl,rfl,rfl⟩:=J
     exact⟨rfl,c₁,q3,q4,q5,q6⟩
    |ret =>
     obtain⟨rfl,rfl,rfl⟩:=J
     exact⟨rfl,c₁,q3,q4,q5,q6⟩
  ·rename_i id ops
   cases hx:evOpsD C (ev C n) ops.toList ops.toList s d with
   |none=>grind
   |some r =>
    obtain⟨I,nE⟩:=r
    rw[hx] at J
    simp only[aC,bL] at J
    obtain⟨rfl,rfl,rfl⟩:=J
    refine wpIn_wide.1 (show(Code.region id ops false).wpIn (Fr none) 0 C.P _ a w from wpIn_region ?_)
    rw[D5,←AA]
    exact OD (CQ (C:=C) hm hT n).1 hT ops.toList 0 s I d nE c a w (fun j=>by simp) hx h he hd fun c' a' w' r1 r2 r3 r4=>⟨rfl,c',r1,r2,r3,r4⟩
  ·grind
theorem RF (hm : C.P.follows .mixedOrders = true) (hT : fO C) {v : V} (hg : C.told g = none) (I : callF C (ev C n) g args σ = some (v, dH)) (h : Rel c σ w) (hw : ∀ x ∈ args, wf c x) :
  CallsD C.P g (args.map (conc c)).toArray .returning w (fun e u' w' => u' = .returning ∧ (∃ x, e = .returned x) ∧ ∃ c', Rel c' dH w' ∧ cV c w c' w') ∧ ∀ (x : Array Value) (w : World), (callFunc g x).run C.P w = .ok (.enter g x) w := by
 have hS := (xn (C := C) hm hT n).1
 have hen := (callF_ok hS hT I h hw).2
 unfold callF at I
 rw [hg] at I
 simp only at I
 cases hf : C.P.funcs[g]? with
 | none => grind
 | some fn =>
  simp only [hf] at I
  cases hb : fn.body with
  | none => grind
  | some code =>
   simp only [hb] at I
   cases hq : (fn.name == "runtime.NumGoroutine" || Nat.blt fn.ntmps args.length) with
   | true => grind
   | false =>
    simp only [Bool.or_eq_false_iff] at hq
    have hle : args.length ≤ fn.ntmps := by
     grind [iP]
    have J := kx (c := c) hle hw
    have done : ∀ ex s, ev C n code ⟨bindArgs args 0 .lf, fn.ntmps, σ⟩ = some (ex, s) → (ex = .normal ∨ ex = .ret) →
      (match mapO (resV C.P s) fn.results.toList with
       | some [v] => some (v, s.h)
       | some vs => some (.bf vs, s.h)
       | none => none) = some (v, dH) →
      CallsD C.P g (args.map (conc c)).toArray .returning w (fun e u' w' => u' = .returning ∧ (∃ x, e = .returned x) ∧ ∃ c', Rel c' dH w' ∧ cV c w c' w') := by
     intro ex s hs hex hmr
     have N6 := hS code _ ex s hs c _ w h J
     have B8 : resOf C.P s fn.results.toList = some v ∧ s.h = dH := by
      grind [resOf]
     have uY := callsD_of_wp (u := .returning) (R := fun e w' => (∃ x, e = .returned x) ∧ ∃ c', Rel c' dH w' ∧ cV c w c' w') hf hb (Code.wp_mono (Q' := bodyPost C.P fn fun e w' => (∃ x, e = .returned x) ∧ ∃ c', Rel c' dH w' ∧ cV c w c' w') ?_ N6)
     ·omega
     ·rintro e a' w' ⟨rfl, hd, c', r1, r2, r3⟩
      have GJ : a'.defers = [] ∧ ∃ x, (results fn a'.tmps).run C.P w' = .ok x w' ∧ (∃ y, Ending.returned x = .returned y) ∧ ∃ c', Rel c' dH w' ∧ cV c w c' w' :=
       ⟨hd, _, (B7 r1 r2 B8.1).1, ⟨_, rfl⟩, c', by grind, r3⟩
      grind [bodyPost, exOf]
    split at I
    ·grind
    ·grind
    ·grind
theorem Gy {ρ:Operand→Value}(ho:o.op=.call cl)(I:cl.callee=.builtin .recover)(J:cl.args.toList=[])(w:World): (execOp ρ o).run P w=.ok .recover w:=by
 simp_all[execOp,resolve,invoke,builtin]
theorem FE (hm:C.P.follows .mixedOrders=true)(hT:fO C){EB:Nat}{rest:Code}{ex:Ex}{I:St}{v:V}(hf:C.P.funcs[g]?=some fn)(hb:fn.body=some code)
 (J:quietParts code=some (nE,EB,rest))(h1:nE<fn.ntmps)(h2:EB<fn.ntmps)(hle:args.length≤fn.ntmps)
 (OE:ev C n rest ⟨((bindArgs args 0 .lf).set nE (some .jN)).set EB (some .jN),fn.ntmps,σ⟩=some (ex,I))(hex:ex=.normal∨ex=.ret)(B8:resOf C.P I fn.results.toList=some v)
 (h:Rel c σ w)(hw:∀x∈args,wf c x):
  CallsD C.P g (args.map (conc c)).toArray .returning w (fun e u' w'=>u'=.returning∧(∃x,e=.returned x)∧∃c',Rel c' I.h w'∧cV c w c' w'):=by
 have hS:=(xn (C:=C) hm hT n).1
 unfold quietParts at J
 split at J
 ·rename_i id ops ZY
  split at J
  ·rename_i LQ JC acM
   split at J
   ·rename_i cl acg t ach q6 q2 q4 q9 q3 q5
    split at J
    ·rename_i q7 q8
     cases ht:Nat.beq t acg with
     |false=>grind
     |true =>
      rw[ht,aj] at J
      simp only[aC,bL] at J
      obtain⟨rfl,rfl,rfl⟩:=J
      have:=beq_iff.1 ht
      subst this
      have ZZ:ops = #[LQ,JC]:=by grind
      subst ZZ
      refine callsD_of_wpS hf hb fun c₀ cs hu=>(wpS_seq ?_)
      have WZ:=kx (c:=c) hle hw
      generalize hA:({ tmps:=(args.map (conc c)).toArray++Array.replicate (fn.ntmps-(args.map (conc c)).toArray.size) undef,defers:=[] }:Act)=A at WZ ⊢
      have XW:A.defers=[]:=by grind
      have vz:=(WZ.put (d:=t) (v:=.jN) h1 (by simp[wf])).put (d:=ach) (v:=.jN) h2 (by simp[wf])
      have tX:=hS _ _ _ _ OE c _ w h vz
      rw[show conc c .jN=.nilIface from by rfl] at tX
      have B9:recoverD (c₀::cs)=none:=by simp[recoverD,hu]
      have h5:(A.put (some t) .nilIface).eval (.tmp t)=.nilIface:=by
       have:=(WZ.put (d:=t) (v:=.jN) h1 (by simp[wf])).val t
       grind[conc,Act.eval,Env.v,bk]
      refine wpS_region ?_
      rw[show List.range (#[LQ,JC]:Array Oper).size=[0,1] from rfl]
      simp only[wpOpsS,mY,mW,mX,Region.wanted,q2,q3,cX]
      rw[Gy q6 q7 q8]
      simp only[B9,q4]
      have aa9:(execOp (A.put (some t) .nilIface).eval JC).run C.P w=.ok (.value .nilIface) w:=by simp[execOp,q9,h5]
      rw[aa9]
      simp only[Oper.upon,q5,Exit.thenS]
      refine wpS_of_wp (Code.wp_mono ?_ tX)
      rintro e a' w' ⟨rfl,dd,c',r1,e2,p1⟩
      have GJ:a'.defers=[]∧∃u',c₀::cs={ c₀ with mode:=u' }::cs∧∃v,(results fn a'.tmps).run C.P w'=.ok v w'∧(u'=.returning∧(∃x,Ending.returned v=.returned x)∧∃c',Rel c' I.h w'∧cV c w c' w') :=
       ⟨dd.trans XW,.returning,by rw[←hu],_,(B7 r1 e2 B8).1,rfl,⟨_,rfl⟩,c',r1,p1⟩
      rcases hex with rfl|rfl
      ·exact GJ
      ·exact GJ
    ·cases J
   ·cases J
  ·cases J
 ·cases J
theorem Mp (hm : C.P.follows .mixedOrders = true) (hT : fO C) (hg : C.told g = none) (I : defCall C n g args σ = some dH) (h : Rel c σ w) (hw : ∀ x ∈ args, wf c x) :
  CallsD C.P g (args.map (conc c)).toArray .returning w (fun e u' w' => u' = .returning ∧ (∃ x, e = .returned x) ∧ ∃ c', Rel c' dH w' ∧ cV c w c' w') ∧ ∀ (x : Array Value) (w : World), (callFunc g x).run C.P w = .ok (.enter g x) w := by
 unfold defCall at I
 cases hf : C.P.funcs[g]? with
 | none => grind
 | some fn =>
  simp only [hf] at I
  cases hb : fn.body with
  | none => grind
  | some code =>
   simp only [hb] at I
   split at I
   ·rename_i nE J rest hq
    cases hc : (Nat.blt nE fn.ntmps && Nat.blt J fn.ntmps && Nat.ble args.length fn.ntmps && !(fn.name == "runtime.NumGoroutine")) with
    | false => grind
    | true =>
     rw [hc, aj] at I
     simp only [bK, iP, bg, Bool.not_eq_true'] at hc
     refine ⟨?_, fun x w => by simp_all [callFunc]⟩
     split at I
     ·grind [FE]
     ·grind [FE]
     ·cases I
   grind [RF]
theorem OF (hm:C.P.follows .mixedOrders=true)(hT:fO C){v:V}(B8:resOf C.P ⟨s.env,s.au,h'⟩ fn.results.toList=some v):
  ∀(d:rU) (h:H) (c:Ctx) (a:Act) (ds:List Deferred) (w:World),runDefs C n d h=some h'→Rel c h w→dX c s.env s.au a→rJ c d ds→cV c₀ w₀ c w →
   Leaves C.P fn a.tmps (fun e w'=>∃c',e=.returned (conc c' v)∧wf c' v∧Rel c' h' w'∧cV c₀ w₀ c' w') ds .returning w:=by
 intro d
 induction d with
 |nil =>
  intro h c a ds w J I he hd hs
  simp only[runDefs,aC] at J
  subst J
  have:ds=[]:=by rw[hd.eq];rfl
  subst this
  obtain⟨q1,q2⟩:=B7 (s:=⟨s.env,s.au,h⟩) I he B8
  exact⟨_,q1,c,rfl,q2,I,hs⟩
 |cons x d ih =>
  intro h c a ds w J I he hd hs
  obtain⟨g,args,cap⟩:=x
  simp only[runDefs] at J
  cases ht:C.told g with
  |some t=>grind
  |none =>
   rw[ht] at J
   cases hc:defCall C n g (args++cap) h with
   |none=>grind
   |some h₁ =>
    rw[hc] at J
    have nt:=hd.FD (g,args,cap) (by simp)
    obtain⟨k1,k2⟩:=Mp hm hT ht hc I (fun x hx=>by
     grind)
    have hds:ds={ target:=.fn (.func g) (cap.map (conc c)).toArray,args:=(args.map (conc c)).toArray }::d.map fun x=>{ target:=.fn (.func x.1) (x.2.2.map (conc c)).toArray,args:=(x.2.1.map (conc c)).toArray }:=by rw[hd.eq];rfl
    rw[hds]
    refine leaves_cons (f:=g) (args:=((args++cap).map (conc c)).toArray) (by simp) ?_ ?_
    ·grind[invoke]
    ·refine k1.mono ?_
     rintro e u' sY ⟨rfl,⟨y,rfl⟩,c₁,r1,r2⟩
     have Fz:rJ c d (d.map fun x=>{ target:=.fn (.func x.1) (x.2.2.map (conc c)).toArray,args:=(x.2.1.map (conc c)).toArray }):=⟨rfl,fun z hz=>hd.FD z (by grind)⟩
     exact ih h₁ c₁ a _ sY J r1 (he.ext r2.ext) (Fz.ext r2.ext) (hs.trans r2)
theorem HC (hm:C.P.follows .mixedOrders=true)(hT:fO C){f:Nat}{v:V}(J:toldDefer C n f args σ=some (v,dH))(h:Rel c σ w)(hw:∀x∈args,wf c x):
  gq C.P f args c w v dH:=by
 unfold toldDefer at J
 cases hf:C.P.funcs[f]? with
 |none=>grind
 |some fn =>
  simp only[hf] at J
  cases hb:fn.body with
  |none=>grind
  |some code =>
   simp only[hb] at J
   cases hq:Nat.blt fn.ntmps args.length with
   |true=>grind
   |false =>
    rw[hq,a_] at J
    have hle:args.length≤fn.ntmps:=by
     grind[iP]
    have yM:=kx (c:=c) hle hw
    refine calls_of_wp_defers hf hb ?_
    have done:∀ex s d,evTop C n 1000 code ⟨bindArgs args 0 .lf,fn.ntmps,σ⟩ []=some (ex,s,d)→(ex=.normal∨ex=.ret) →
      (match runDefs C n d s.h with
       |some h'=>match resOf C.P ⟨s.env,s.au,h'⟩ fn.results.toList with
        |some v=>some (v,h')
        |none=>none
       |none=>none)=some (v,dH) →
      code.wp C.P (bodyPostD C.P fn fun e w'=>∃c',e=.returned (conc c' v)∧wf c' v∧Rel c' dH w'∧cV c w c' w')
       { tmps:=(args.map (conc c)).toArray++Array.replicate (fn.ntmps-(args.map (conc c)).toArray.size) undef,defers:=[] } w:=by
     intro ex s d hs hex I
     refine Code.wp_mono ?_ (RE hm hT 1000 code _ [] ex s d hs c _ w h yM ⟨rfl,fun x hx=>by cases hx⟩)
     rintro e a' w' ⟨rfl,c',r1,r2,r3,r4⟩
     cases mA:runDefs C n d s.h with
     |none=>grind
     |some h' =>
      rw[mA] at I
      simp only at I
      cases CO:resOf C.P ⟨s.env,s.au,h'⟩ fn.results.toList with
      |none=>grind
      |some v' =>
       rw[CO] at I
       obtain⟨rfl,rfl⟩:=I<;>grind[OF,bodyPostD,exOf]
    split at J
    ·cases J
    ·rename_i ex s d kU hs
     cases ex<;>grind
    ·cases J
end

/- Heaps compared. -/
def noIter : Option Obj→Option Obj
 |some (.iter _ _ _ _)=>none
 |v=>v
def flatM {α β:Type}(f:α→Option (List β)): List α→Option (List β)
 |[]=>some []
 |x::l=>match f x with
  |none=>none
  |some a=>match flatM f l with
   |none=>none
   |some b=>some (a++b)
theorem OG {β:Type}{f:α→Option (List β)}: ∀(l:List α) (R:List β),flatM f l=some R→∀x∈l,∃r,f x=some r∧∀y∈r,y∈R:=by
 intro l
 induction l<;>grind[flatM]
section
variable (C:fH) (self:Self)
noncomputable def opAll (env:Env)(h:H)(o:Oper): Option (List (V×H)):=match o.op with
 |.next it false=>match evO env it with
  |some (.ptr r off)=>cond (Nat.beq off 0) (nextAll h r) none
  |_=>none
 |_=>match evOp C self env h o with
  |some q=>some [q]
  |none=>none
noncomputable def opsAll (ops:List Oper): List Oper→St→Option (List St)
 |[],s=>some [s]
 |o::l,s=>cond (wantedV ops s.env o)
  (match opAll C self s.env s.h o with
   |some I=>flatM (fun q=>match s.put o.dst q.1 q.2 with
    |some s'=>opsAll ops l s'
    |none=>none) I
   |none=>none)
  (match s.put o.dst cu s.h with
   |some s'=>opsAll ops l s'
   |none=>none)
end
section
theorem RG (hS:jm C.P self)(hT:fO C){c:Ctx}{w:World}{a:Act}{qs:List (V×H)}(h:Rel c σ w)(he:AZ c env a o)(I:opAll C self env σ o=some qs):
  (∃q∈qs,xj C.P o a c w q.1 q.2)∧∀d,o.op≠.defer d:=by
 unfold opAll at I
 split at I
 ·rename_i it ho
  refine⟨?_,fun d hd=>by grind⟩
  split at I
  ·rename_i r off hx
   cases hq:Nat.beq off 0 with
   |false=>grind
   |true =>
    have:=beq_iff.1 hq
    subst this
    obtain⟨f1,f2⟩:=he it (by simp[ho,Op.operands]) _ hx
    obtain⟨q,J,hg⟩:=BF (P:=C.P) h I o.type
    exact⟨q,J,fG (s:=Instr.next (conc c (.ptr r 0)) false o.type) (by simp only[execOp,ho,f1]) hg⟩
  ·cases I
 ·cases ou:evOp C self env σ o with
  |none=>grind
  |some q =>
   grind[wq,lY]
theorem OH (hS:jm C.P self)(hT:fO C){Q:Exit→Act→World→Prop}: ∀(l:List Oper) (k:Nat) (s:St) (L:List St) (c:Ctx) (a:Act) (w:World),
  (∀j,l[j]?=ops[k+j]?)→opsAll C self ops.toList l s=some L→Rel c s.h w→dX c s.env s.au a →
  (∀s'∈L,∀c' a' w',Rel c' s'.h w'→dX c' s'.env s'.au a'→cV c w c' w'→a'.defers=a.defers→Q .normal a' w') →
  wpOpsIn (Fr none) 0 C.P ops Q (List.range' k l.length) a w:=by
 intro l
 induction l with
 |nil =>
  grind[opsAll,wpOpsIn,cV.refl]
 |cons o l ih =>
  intro k s L c a w hl J h he hQ
  have h0:ops[k]?=some o:=by simpa using(hl 0).symm
  have wu:∀j,l[j]?=ops[k+1+j]?:=fun j=>by have:=hl (j+1);grind
  simp only[aX,AF,wpOpsIn,h0]
  rw[xm he]
  simp only[opsAll] at J
  cases hw:wantedV ops.toList s.env o with
  |true =>
   rw[hw,aj] at J
   cases ho:opAll C self s.env s.h o with
   |none=>grind
   |some qs =>
    simp only[ho] at J
    obtain⟨⟨q,hq,Fw⟩,lK⟩:=RG hS hT h (he.CE o) ho
    obtain⟨r,lZ,T5⟩:=OG qs L J q hq
    refine Fw.wpIn lK ?_
    intro c' w' r1 r2 r3
    cases hp:s.put o.dst q.1 q.2 with
    |none=>grind
    |some I =>
     simp only[hp] at lZ
     obtain⟨p1,p2,p3⟩:=St.v_ (he.ext r2.ext) r3 hp
     refine ih (k+1) I r c' _ w' wu lZ (by grind) p1 ?_
     intro s' FF sJ yo yO q1 q2 q3 q4
     exact hQ s' (T5 s' FF) sJ yo yO q1 q2 (r2.trans q3) (by rw[q4];cases o.dst<;>rfl)
  |false =>
   rw[hw,a_] at J
   refine⟨fun _ _=>trivial,?_⟩
   cases hp:s.put o.dst cu s.h with
   |none=>grind
   |some I =>
    simp only[hp] at J
    obtain⟨p1,p2,p3⟩:=St.v_ he (show wf c cu by simp[cu,wf,gR]) hp
    refine ih (k+1) I L c _ w wu J (by grind) p1 ?_
    intro s' FF sJ yo yO q1 q2 q3 q4
    exact hQ s' FF sJ yo yO q1 q2 q3 (by rw[q4];cases o.dst<;>rfl)
end
theorem Rel.Z0 {c:Ctx}{w:World}(h:Rel c σ w)(I:dH.next=σ.next)(hs:∀id o,T.get dH.tr id=some o→T.get σ.tr id=some o): Rel c dH w :=
 ⟨I.trans h.next,fun id o ho=>h.live id o (hs id o ho),h.mL,h.zz,fun i j o o' hi J he=>h.inj i j o o' (hs i o hi) (hs j o' J) he,
  fun id o ho=>h.obj id o (hs id o ho),fun id cs st ho=>h.one id cs st (hs id _ ho),fun id o ho=>h.fx id o (hs id o ho)⟩
def l7 (h:H): Prop:=∀id o,T.get h.tr id=some o→id<h.next
theorem l7.new (hw:l7 h)(o:Obj): l7 (h.new o):=by
 intro id q I
 rw[gB] at I
 show id<h.next+1
 split at I
 ·omega
 ·exact Nat.lt_succ_of_lt (hw id q I)
theorem l7.put (hw:l7 h)(J:id<h.next)(o:Option Obj): l7 (h.put id o):=by
 intro j q I
 rw[dP] at I
 show j<h.next
 split at I
 ·omega
 ·exact hw j q I
structure eM (k:Nat)(S:List Nat)(h h':H): Prop where
 wf:l7 h'
 le:h.next≤h'.next
 bd:h'.next≤h.next+k
 get:∀id,id<h.next→id∉S→T.get h'.tr id=T.get h.tr id
theorem eM.refl (hw:l7 h)(S:List Nat): eM 0 S h h:=⟨hw,aU _,aU _,fun _ _ _=>rfl⟩
theorem eM.trans {S S':List Nat}{I:H}(a:eM k S h h')(b:eM k' S' h' I)(hs:∀i∈S',i∈S∨h.next≤i): eM (k+k') S h I:=by
 refine⟨b.wf,bT a.le b.le,by have:=a.bd;have:=b.bd;omega,fun id J hn => ?_⟩
 rw[b.get id (iN J a.le) (fun hm => ?_),a.get id J hn]
 rcases hs id hm with h1|h1
 ·exact hn h1
 ·omega
theorem eM.mono {S S':List Nat}(a:eM k S h h')(J:k≤k')(hs:∀i∈S,i∈S'): eM k' S' h h' :=
 ⟨a.wf,a.le,bT a.bd (vT J _),fun id I hn=>a.get id I (fun hm=>hn (hs id hm))⟩
theorem eM.row {S:List Nat}(a:eM k S h h')(hw:l7 h){o:Obj}(I:T.get h.tr id=some o)(J:id∉S): T.get h'.tr id=some o:=by
 rw[a.get id (hw id o I) J];exact I
theorem eM.A5 (hw:l7 h)(o:Obj): eM 1 [] h (h.new o) :=
 ⟨hw.new o,kj _,aU _,fun id I _=>by rw[gB,ak (by omega)]⟩
theorem eM.T6 (hw:l7 h)(I:id<h.next)(o:Option Obj): eM 0 [id] h (h.put id o) :=
 ⟨hw.put I o,aU _,aU _,fun j _ J=>by rw[dP,ak (fun e=>J (by simp[e]))]⟩
theorem dS (l:List Nat): (ofBytes l).length=l.length:=by simp[ofBytes]
theorem rK (l m:List Nat): ofBytes (l++m)=ofBytes l++ofBytes m:=by simp[ofBytes]
def View (h:H)(v:V)(l:List Nat): Prop:=(∀b∈l,b<256)∧(((v=.bC∨∃a,v=.sle a)∧l=[]) ∨
 ∃id off cap n cs st,v=.sl id off l.length cap∧T.get h.tr id=some (.cells n cs st)∧cs.length=n∧off+l.length≤n∧(cs.drop off).take l.length=ofBytes l ∧
  (match cap with|.exact c=>l.length≤c|.rest e _=>e=1))
def jP (h:H)(v:V)(l:List Nat): Prop:=(∀b∈l,b<256)∧((v=.bC∧l=[]) ∨
 (∃id cs c,v=.sl id 0 l.length (.exact c)∧T.get h.tr id=some (.cells c (ofBytes l++cs) false)∧l.length+cs.length=c) ∨
 (∃id,v=.sl id 0 l.length (.rest 1 0)∧T.get h.tr id=some (.cells l.length (ofBytes l) false)∧1≤l.length))
def rowIds : V→List Nat
 |.sl id _ _ _=>[id]
 |_=>[]
theorem jP.view {v:V}(I:jP h v l): View h v l:=by
 obtain⟨hl,I⟩:=I
 refine⟨hl,?_⟩
 rcases I with I|⟨id,cs,c,rfl,J,hc⟩|⟨id,rfl,J,h1⟩
 ·exact .inl ⟨.inl I.1,I.2⟩
 ·refine .inr ⟨id,0,.exact c,c,_,false,rfl,J,by simp[dS,hc],by omega,?_,by show l.length≤c;omega⟩
  rw[gz,m7 (dS l)]
 ·refine .inr ⟨id,0,.rest 1 0,_,_,false,rfl,J,dS l,by omega,?_,rfl⟩
  rw[gz]
  exact eW (by rw[dS];exact aU _)
theorem View.lU {S:List Nat}{v:V}(hv:View h v l)(hw:l7 h)(I:eM k S h h')(J:∀i∈rowIds v,i∉S): View h' v l:=by
 obtain⟨hl,hv⟩:=hv
 refine⟨hl,?_⟩
 rcases hv with hv|⟨id,off,cap,n,cs,st,rfl,hg,h1,h2,h3,h4⟩
 ·exact .inl hv
 ·exact .inr ⟨id,off,cap,n,cs,st,rfl,I.row hw hg (J id (by simp[rowIds])),h1,h2,h3,h4⟩
theorem jP.lU {S:List Nat}{v:V}(hv:jP h v l)(hw:l7 h)(J:eM k S h h')(hn:∀i∈rowIds v,i∉S): jP h' v l:=by
 obtain⟨hl,hv⟩:=hv
 refine⟨hl,?_⟩
 rcases hv with hv|⟨id,cs,c,rfl,I,hc⟩|⟨id,rfl,I,h1⟩
 ·exact .inl hv
 ·exact .inr (.inl ⟨id,cs,c,rfl,J.row hw I (hn id (by simp[rowIds])),hc⟩)
 ·exact .inr (.inr ⟨id,rfl,J.row hw I (hn id (by simp[rowIds])),h1⟩)
theorem View.len {v:V}(hv:View h v l): lenV Tryz.prog h 28 v=some (.int .i64 l.length):=by
 obtain⟨_,hv⟩:=hv
 rcases hv with⟨rfl|⟨I,rfl⟩,rfl⟩|⟨id,off,cap,n,cs,st,rfl,_⟩<;>simp[lenV,aT]
theorem View.rdN {len:Nat}{cap:Cap}(hv:View h (.sl id off len cap) l): len=l.length∧rdN h id off len=some (ofBytes l):=by
 obtain⟨_,hv⟩:=hv
 rcases hv with⟨I,_⟩|⟨BE,off',J,n,cs,st,I,hg,h1,h2,h3,h4⟩
 ·rcases I with I|⟨_,I⟩<;>cases I
 ·injection I with e1 e2 e3 e4
  subst e1;subst e2;subst e3
  refine⟨rfl,?_⟩
  unfold Am.rdN
  simp only[hg]
  rw[bg.2 h2,aj]
  cases hc:(Nat.beq off 0&&Nat.beq l.length n) with
  |true =>
   simp only[bK,beq_iff] at hc
   obtain⟨rfl,hn⟩:=hc
   rw[aj,←h3,gz,eW (by omega)]
  |false=>rw[a_,h3]
theorem wE : ∃i,Tryz.prog.info? 5=some i∧i.size=1∧i.bytes=1:=by
 refine⟨_,(show Tryz.prog.info? 5=some ((Tryz.prog.info? 5).getD default) by kernel_rfl),by kernel_rfl,by kernel_rfl⟩
theorem oZ : zeroT Tryz.prog 5=some (.int .u8 0):=by kernel_rfl
theorem CW {x:V}{m:List Nat}(J:View h x m): srcV h 1 x=some (ofBytes m,m.length):=by
 obtain⟨hl,I⟩:=J
 rcases I with⟨rfl|⟨ea,rfl⟩,rfl⟩|⟨id,off,cap,n,cs,st,rfl,hg,h1,h2,h3,h4⟩
 ·rfl
 ·rfl
 ·simp only[srcV,c_]
  rw[(View.rdN (l:=m) ⟨hl,.inr ⟨id,off,cap,n,cs,st,rfl,hg,h1,h2,h3,h4⟩⟩).2]
  rfl
theorem yX {s x:V}{m:List Nat}(hw:l7 h)(hs:jP h s l)(hx:View h x m)(fU:l.length+m.length≤140737488355328):
  ∃v' h',appendV Tryz.prog h #[28,28] s x=some (v',h')∧jP h' v' (l++m)∧eM 1 (rowIds s) h h'∧(∀i∈rowIds v',i∈rowIds s∨h.next≤i):=by
 obtain⟨i,hi,i1,i2⟩:=wE
 have J:∀b∈l++m,b<256:=fun b hb=>by
  rcases List.mem_append.1 hb with hb|hb
  ·exact hs.1 b hb
  ·exact hx.1 b hb
 have T7:kR (l.length+m.length) 1=true:=xh.2 ⟨fU,by omega⟩
 unfold appendV
 simp only[aT,hi,oZ,i1,i2,V.cells,aX,cI,CW hx]
 rw[show(Nat.ble 1 1&&Nat.ble 1 4096&&Nat.beq (0+1) 1)=true from rfl,aj]
 cases hm:Nat.beq m.length 0 with
 |true =>
  have uO:m=[]:=pK (beq_iff.1 hm)
  subst uO
  rw[aj,ej]
  have I:=hs
  obtain⟨_,I⟩:=I
  rcases I with⟨rfl,rfl⟩|⟨id,cs,c,rfl,hg,hc⟩|⟨id,rfl,hg,h1⟩
  ·exact⟨_,_,rfl,hs,(eM.refl hw _).mono (fX _) (fun _ h=>h),fun i hi=>.inl hi⟩
  ·exact⟨_,_,rfl,hs,(eM.refl hw _).mono (fX _) (fun _ h=>h),fun i hi=>.inl hi⟩
  ·exact⟨_,_,rfl,hs,(eM.refl hw _).mono (fX _) (fun _ h=>h),fun i hi=>.inl hi⟩
 |false =>
  have uO:1≤m.length:=by
   rcases D6 m.length with h0|h0
   ·rw[qq h0] at hm;cases hm
   ·exact h0
  rw[a_]
  have tY:∀(σ:H) (old:List Nat),l7 σ→1≤(old++m).length→(∀b∈old++m,b<256)→jP (nU σ 1 (ofBytes old) (ofBytes m) (old.length+m.length)).2 (nU σ 1 (ofBytes old) (ofBytes m) (old.length+m.length)).1 (old++m):=by
   intro σ old _ h1 h2
   refine⟨h2,.inr (.inr ⟨σ.next,?_,?_,h1⟩)⟩
   ·simp only[nU,bO]
   ·simp only[nU]
    rw[gB,aJ rfl,c_,bO,rK]
  have I:=hs
  obtain⟨_,I⟩:=I
  rcases I with⟨rfl,rfl⟩|⟨id,cs,c,rfl,hg,hc⟩|⟨id,rfl,hg,h1⟩
  ·simp only
   have aa_:kR m.length 1=true:=by simpa using T7
   rw[aa_,aj]
   have:=tY h [] hw (by simpa using uO) (by simpa using hx.1)
   simp only[cI,gK,eB] at this
   exact⟨_,_,rfl,by rw[eB];exact this,(eM.A5 hw _).mono (aU _) (fun i hi=>by simp at hi),fun i hi=>.inr (by simp[rowIds] at hi;omega)⟩
  ·simp only[c_,gK]
   have hv:=jP.view hs
   cases hq:Nat.ble (l.length+m.length) c with
   |true =>
    have Bz:=bg.1 hq
    rw[aj]
    unfold wrN
    simp only[hg,dS]
    rw[hq,aj]
    simp only
    have xw:(cond (Nat.beq l.length 0&&Nat.beq m.length c) (ofBytes m) ((ofBytes l++cs).take l.length++(ofBytes m++(ofBytes l++cs).drop (l.length+m.length))))=ofBytes (l++m)++cs.drop m.length:=by
     have e1:(ofBytes l++cs).take l.length=ofBytes l:=m7 (dS l)
     have e2:(ofBytes l++cs).drop (l.length+m.length)=cs.drop m.length:=by
      rw[vX,dS,show l.length+m.length-l.length=m.length from by omega,kK (by rw[dS];omega),eB]
     cases hz:(Nat.beq l.length 0&&Nat.beq m.length c) with
     |true =>
      simp only[bK,beq_iff] at hz
      have Hl:l=[]:=pK hz.1
      subst Hl
      have pR:cs.drop m.length=[]:=kK (by simp at hc;omega)
      simp[pR]
     |false=>rw[a_,e1,e2,rK,c9]
    rw[xw]
    refine⟨_,_,rfl,⟨J,.inr (.inl ⟨id,cs.drop m.length,c,by simp,?_,by simp;omega⟩)⟩,(eM.T6 hw (hw id _ hg) _).mono (fX _) (fun i hi=>by simpa[rowIds] using hi),fun i hi=>.inl (by simpa[rowIds] using hi)⟩
    rw[dP,aJ rfl]
   |false =>
    rw[a_,T7,aj,hv.rdN.2]
    simp only
    exact⟨_,_,rfl,tY h l hw (by simp;omega) J,(eM.A5 hw _).mono (aU _) (fun i hi=>by simp at hi),fun i hi=>.inr (by simp[rowIds] at hi;omega)⟩
  ·simp only[gZ,aj,c_,gK]
   have hv:=jP.view hs
   have B3:mK h id 0 1=l.length:=by simp[mK,hg]
   have hf:Nat.ble (l.length+m.length) l.length=false:=by
    cases hq:Nat.ble (l.length+m.length) l.length with
    |true=>have:=bg.1 hq;omega
    |false=>rfl
   rw[B3,hf,a_,T7,show Nat.ble 2 (l.length+m.length)=true from bg.2 (by omega),jl,aj,hv.rdN.2,hg]
   simp only
   have ue:l7 (h.put id none):=hw.put (hw id _ hg) _
   refine⟨_,_,rfl,tY (h.put id none) l ue (by simp;omega) J,?_,fun i hi=>.inr (by simp[rowIds,H.put] at hi;omega)⟩
   refine((eM.T6 hw (hw id _ hg) none).trans (S':=[]) (eM.A5 ue _) (fun i hi=>by simp at hi)).mono (aU _) (fun i hi=>by simpa[rowIds] using hi)
section
variable {a b:Operand} {v:V}
theorem bD (I:bB E x=some v): opE P E h (.move x)=some (v,h):=by simp only[opE,jO,I]
theorem fB (I:bB E x=some v): opE P E h (.assign x)=some (v,h):=by simp only[opE,jO,I]
theorem fY (I:bB E x=some (.bool true))(J:bB E a=some v): opE P E h (.pick x a b)=some (v,h):=by simp only[opE,jO,I,aj,J]
theorem fb (I:bB E x=some (.bool false))(J:bB E b=some v): opE P E h (.pick x a b)=some (v,h):=by simp only[opE,jO,I,a_,J]
theorem oU {o:Nat}(I:bB E x=some (.ptr i o)): opE P E h (.nilCheck x)=some (.ptr i o,h):=by simp only[opE,jO,I]
theorem jS {t:Nat}(I:bB E x=some v)(J:fieldAddrV P t v i=some r): opE P E h (.fieldAddr t x i)=some (r,h):=by simp only[opE,jO,I,J,bH]
theorem aW (I:bB E x=some v)(J:loadV P h t v=some r): opE P E h (.load t x)=some (r,h):=by simp only[opE,jO,I,J,bH]
theorem wF (I:bB E x=some v)(J:bB E y=some u)(hf:hG P h t v u=some h₁): opE P E h (.store t x y)=some (cu,h₁):=by simp only[opE,uW,I,J,hf,sQ]
theorem az {op:BinOp}(I:bB E x=some v)(J:bB E y=some u)(hf:binV P h op t x y v u=some r): opE P E h (.binOp op t x y t')=some (r,h):=by simp only[opE,uW,I,J,hf,bH]
theorem dQ {op:UnOp}(I:bB E x=some v)(J:unV op v=some r): opE P E h (.unOp op t x)=some (r,h):=by simp only[opE,jO,I,J,bH]
theorem b6 {s d:TypeId}(I:bB E x=some v)(J:convV P h s d v=some (r,h₁)): opE P E h (.convert s d x)=some (r,h₁):=by simp only[opE,jO,I,J]
theorem cj (I:bB E x=some v)(J:bB E y=some u)(hf:indexAddrV P t v u=some r): opE P E h (.indexAddr t x y)=some (r,h):=by simp only[opE,uW,I,J,hf,bH]
theorem yY (I:bB E x=some v)(J:bB E y=some u)(hf:indexV P t v u=some r): opE P E h (.index t x y)=some (r,h):=by simp only[opE,uW,I,J,hf,bH]
theorem cK {l:List V}(I:bB E x=some (.bf l))(J:nth l i=some r): opE P E h (.extract x i)=some (r,h):=by simp only[opE,jO,I,J,bH]
theorem dn {l:List (Nat×V)}(I:lookParts E ps.toList=some l)(J:buildV P t l=some r): opE P E h (.build t ps)=some (r,h):=by simp only[opE,I,J,bH]
theorem fg (I:bB E x=some v)(hs:v.cells.all storable=true): opE P E h (.box t x)=some (.ptr h.next 0,newRow h v.cells):=by simp only[opE,jO,I,hs,aj]
theorem bU (I:zeroT P t=some v): opE P E h (.alloc t)=some (.ptr h.next 0,newRow h v.cells):=by simp only[opE,I]
theorem rL (I:bB E x=some v)(J:makeIfaceV P t v=some r): opE P E h (.makeInterface t x)=some (r,h):=by simp only[opE,jO,I,J,bH]
theorem CX {f:Fn}{p q:Array Operand}{l m:List V}(I:lookArgs E p.toList=some l)(J:lookArgs E q.toList=some m): opE P E h (.makeFunc f p q)=some (.fn f l m,h):=by simp only[opE,I,J]
theorem aP {c:Go.Call}(I:c.callee=.builtin .len)(J:lookArgs E c.args.toList=some [v])(ht:c.argTypes.toList=[t])(hf:lenV P h t v=some r): opE P E h (.call c)=some (r,h):=by
 simp only[opE,I,J,builtinV,ht,hf,m5]
theorem lP {c:Go.Call}(I:c.callee=.builtin .append)(J:lookArgs E c.args.toList=some [v,u])(hf:appendV P h c.argTypes v u=some (r,h₁)): opE P E h (.call c)=some (r,h₁):=by
 simp only[opE,I,J,builtinV,hf]
theorem s_ (I:bB E x=some v)(J:bB E y=some u)(hf:makeSliceV P h t v u=some (r,h₁)): opE P E h (.makeSlice t x y)=some (r,h₁):=by simp only[opE,uW,I,J,hf]
theorem nk {t:Nat}{l:List (Nat×V)}(I:lookParts E ps.toList=some l)(J:buildSliceV P h t n l=some (r,h₁)): opE P E h (.buildSlice t n ps)=some (r,h₁):=by simp only[opE,I,J]
theorem bV {lo hi mx:Option Operand}{p q m:Option V}{p' q' m':Option Nat}(I:bB E x=some v)(J:lookOpt E lo=some p)(h2:lookOpt E hi=some q)(h3:lookOpt E mx=some m)
 (g1:iW p=some p')(g2:iW q=some q')(g3:iW m=some m')(hf:sliceV P h t v p' q' m'=some r): opE P E h (.slice t x lo hi mx)=some (r,h):=by simp only[opE,jO,I,J,h2,h3,g1,g2,g3,hf,bH]
theorem RH {s:TypeId}{ok:Bool}(I:bB E x=some v)(J:assertV P v s ok=some r): opE P E h (.typeAssert x t s ok)=some (r,h):=by simp only[opE,jO,I,J,bH]
theorem OI {st:Bool}(I:isAggT P t=some false)(J:T.get h.tr id=some (.cells n cs st))(hn:nth cs off=some v): loadV P h t (.ptr id off)=some v:=by
 simp only[loadV,I,yA,J,hn]
theorem bZ {st:Bool}(I:isAggT P t=some true)(hs:bJ P t=some n)(J:T.get h.tr id=some (.cells n cs st)): loadV P h t (.ptr id 0)=some (.agg cs):=by
 simp only[loadV,I,hs,rdN,J,gK]
 rw[bg.2 (aU n),aj,gZ,gZ]
 rfl
end
section
variable {au:Nat}
theorem FG (hw:l7 h)(I:b<256):
  ∃v h₁,buildSliceV Tryz.prog h 28 1 [(0,.int .u8 b)]=some (v,h₁)∧jP h₁ v [b]∧eM 1 [] h h₁∧∀i∈rowIds v,h.next≤i:=by
 refine⟨.sl h.next 0 1 (.exact 1),newRow h [.int .u8 b],?_,⟨by simpa using I,.inr (.inl ⟨h.next,[],1,rfl,?_,rfl⟩)⟩,eM.A5 hw _,fun i hi=>by simp[rowIds] at hi;omega⟩
 ·simp only[buildSliceV,aT,eE,oZ,V.cells]
  rfl
 ·rw[newRow,gB,aJ rfl];rfl
theorem ay.Mq (J:C.P=Tryz.prog)(hw:l7 h)(hg:wantE L E o.guard=some true)(hd:o.dst=some d)(hn:Nat.blt d au=true)(I:o.op=.buildSlice t 1 ps)(ht:t=28)
 (hx:lookParts E ps.toList=some [(0,.int .u8 (b:Int))])(hb:b<256)
 (hr:∀v h₁,jP h₁ v [b]→eM 1 [] h h₁→(∀i∈rowIds v,h.next≤i)→ay C au L rest ((d,v)::E) h₁ R): ay C au L (o::rest) E h R:=by
 obtain⟨v,h₁,e1,e2,e3,e4⟩:=FG hw hb
 refine ay.op hg hd hn (v:=v) (h₁:=h₁) ?_ (hr v h₁ e2 e3 e4)
 rw[I,ht,J]
 exact nk hx e1
theorem ay.app {c:Go.Call}{s x:V}{m:List Nat}(hP:C.P=Tryz.prog)(hw:l7 h)(hg:wantE L E o.guard=some true)(hd:o.dst=some d)(hn:Nat.blt d au=true)(I:o.op=.call c)(hc:c.callee=.builtin .append)
 (J:c.argTypes = #[28,28])(ha:lookArgs E c.args.toList=some [s,x])(hs:jP h s l)(hx:View h x m)(fU:l.length+m.length≤140737488355328)
 (hr:∀v h₁,jP h₁ v (l++m)→eM 1 (rowIds s) h h₁→(∀i∈rowIds v,i∈rowIds s∨h.next≤i)→ay C au L rest ((d,v)::E) h₁ R): ay C au L (o::rest) E h R:=by
 obtain⟨v,h₁,e1,e2,e3,e4⟩:=yX hw hs hx fU
 refine ay.op hg hd hn (v:=v) (h₁:=h₁) ?_ (hr v h₁ e2 e3 e4)
 rw[I,hP]
 exact lP hc ha (by rw[J];exact e1)
theorem CY (hw:l7 h)(J:c<1073741824):
  ∃v h₁,makeSliceV Tryz.prog h 28 (.int .i64 0) (.int .i64 (c:Int))=some (v,h₁)∧jP h₁ v []∧eM 1 [] h h₁∧∀i∈rowIds v,h.next≤i:=by
 obtain⟨i,hi,i1,i2⟩:=wE
 refine⟨.sl h.next 0 0 (.exact c),h.new (.cells c (repeatL [.int .u8 0] c) false),?_,⟨by simp,.inr (.inl ⟨h.next,repeatL [.int .u8 0] c,c,rfl,?_,?_⟩)⟩,eM.A5 hw _,fun i hi=>by simp[rowIds] at hi;omega⟩
 ·simp only[makeSliceV,aT,hi,oZ,i1,i2,V.cells,aX,cI,cS,c_]
  rw[show(decide ((0:Int)≤0)&&decide ((0:Int)≤(c:Int))&&decide ((c:Int)<1073741824)&&Nat.ble 1 4096&&Nat.beq (0+1) 1&&Nat.ble 1 1)=true by simp;omega,aj]
  rfl
 ·rw[gB,aJ rfl];rfl
 ·have:∀n,(repeatL [V.int .u8 0] n).length=n:=fun n=>by
   induction n with
   |zero=>rfl
   |succ n I=>simp[repeatL,I]
  simp[this]
end
section
variable {au:Nat} {v:V} {a b:Operand}
theorem zm (e:(o.op,wantE L E o.guard,o.dst,Nat.blt d au,bB E x)=(Op.move x,some true,some d,true,some v))(hw:ay C au L rest ((d,v)::E) h R): ay C au L (o::rest) E h R:=by
  simp only[bL] at e;exact ay.op e.2.1 e.2.2.1 e.2.2.2.1 (by rw[e.1];exact bD e.2.2.2.2) hw
theorem za (e:(o.op,wantE L E o.guard,o.dst,Nat.blt d au,bB E x)=(Op.assign x,some true,some d,true,some v))(hw:ay C au L rest ((d,v)::E) h R): ay C au L (o::rest) E h R:=by
  simp only[bL] at e;exact ay.op e.2.1 e.2.2.1 e.2.2.2.1 (by rw[e.1];exact fB e.2.2.2.2) hw
theorem zn (e:(o.op,wantE L E o.guard,o.dst,Nat.blt d au,bB E x)=(Op.nilCheck x,some true,some d,true,some (V.ptr j k)))(hw:ay C au L rest ((d,.ptr j k)::E) h R): ay C au L (o::rest) E h R:=by
  simp only[bL] at e;exact ay.op e.2.1 e.2.2.1 e.2.2.2.1 (by rw[e.1];exact oU e.2.2.2.2) hw
theorem zf (e:(o.op,wantE L E o.guard,o.dst,Nat.blt d au,bB E x)=(Op.fieldAddr t x i,some true,some d,true,some v))(I:fieldAddrV C.P t v i=some r)(hw:ay C au L rest ((d,r)::E) h R): ay C au L (o::rest) E h R:=by
  simp only[bL] at e;exact ay.op e.2.1 e.2.2.1 e.2.2.2.1 (by rw[e.1];exact jS e.2.2.2.2 I) hw
theorem zl (e:(o.op,wantE L E o.guard,o.dst,Nat.blt d au,bB E x)=(Op.load t x,some true,some d,true,some v))(I:loadV C.P h t v=some r)(hw:ay C au L rest ((d,r)::E) h R): ay C au L (o::rest) E h R:=by
  simp only[bL] at e;exact ay.op e.2.1 e.2.2.1 e.2.2.2.1 (by rw[e.1];exact aW e.2.2.2.2 I) hw
theorem ze {l:List V}(e:(o.op,wantE L E o.guard,o.dst,Nat.blt d au,bB E x,nth l i)=(Op.extract x i,some true,some d,true,some (V.bf l),some r))(hw:ay C au L rest ((d,r)::E) h R): ay C au L (o::rest) E h R:=by
  simp only[bL] at e;exact ay.op e.2.1 e.2.2.1 e.2.2.2.1 (by rw[e.1];exact cK e.2.2.2.2.1 e.2.2.2.2.2) hw
theorem zp (e:(o.op,wantE L E o.guard,o.dst,Nat.blt d au,bB E x,bB E b)=(Op.pick x a b,some true,some d,true,some (V.bool false),some v))(hw:ay C au L rest ((d,v)::E) h R): ay C au L (o::rest) E h R:=by
  simp only[bL] at e;exact ay.op e.2.1 e.2.2.1 e.2.2.2.1 (by rw[e.1];exact fb e.2.2.2.2.1 e.2.2.2.2.2) hw
theorem zq (e:(o.op,wantE L E o.guard,o.dst,Nat.blt d au,bB E x,bB E a)=(Op.pick x a b,some true,some d,true,some (V.bool true),some v))(hw:ay C au L rest ((d,v)::E) h R): ay C au L (o::rest) E h R:=by
  simp only[bL] at e;exact ay.op e.2.1 e.2.2.1 e.2.2.2.1 (by rw[e.1];exact fY e.2.2.2.2.1 e.2.2.2.2.2) hw
theorem zb {op:BinOp}(e:(o.op,wantE L E o.guard,o.dst,Nat.blt d au,bB E x,bB E y)=(Op.binOp op t x y t',some true,some d,true,some v,some u))(I:binV C.P h op t x y v u=some r)(hw:ay C au L rest ((d,r)::E) h R): ay C au L (o::rest) E h R:=by
  simp only[bL] at e;exact ay.op e.2.1 e.2.2.1 e.2.2.2.1 (by rw[e.1];exact az e.2.2.2.2.1 e.2.2.2.2.2 I) hw
theorem zx (e:(wantE L E o.guard,o.dst,Nat.blt d au)=(some false,some d,true))(hw:ay C au L rest ((d,cu)::E) h R): ay C au L (o::rest) E h R:=by
  simp only[bL] at e;exact ay.no e.1 e.2.1 e.2.2 hw
theorem zo (e:(wantE L E o.guard,o.dst,Nat.blt d au)=(some true,some d,true))(ho:opE C.P E h o.op=some (v,h₁))(hw:ay C au L rest ((d,v)::E) h₁ R): ay C au L (o::rest) E h R:=by
  simp only[bL] at e;exact ay.op e.1 e.2.1 e.2.2 ho hw
theorem zv (I:R E h): ay C au L [] E h R:=ay.nil I
variable {c f:Code}
theorem zw (hw:WP C au c E h fun ex E' h'=>match ex with
    |.normal=>WP C au f E' h' Q
    |ex=>Q ex E' h'): WP C au (.seq c f) E h Q:=WP.seq hw
theorem zr (I:ops.toList=L)(hw:ay C au L L E h fun E' h'=>Q .normal E' h'): WP C au (.region k ops false) E h Q:=WP.region I hw
theorem zg (I:ops.toList=L)(hw:ay C au L L E h fun E' h'=>WP C au f E' h' Q): WP C au (.seq (.region k ops false) f) E h Q:=WP.seq (WP.region I hw)
theorem zi (I:bB E x=some (.bool true))(hw:WP C au c E h Q): WP C au (.cond x c f) E h Q:=WP.cond I hw
theorem zj (I:bB E x=some (.bool false))(hw:WP C au f E h Q): WP C au (.cond x c f) E h Q:=WP.cond I hw
end
inductive Md where
  |c (c:Code)
  |o (L l:List Oper)
def CZ (C:fH)(au:Nat)(Q:Ex→List (Nat×V)→H→Prop): List Code→Ex→List (Nat×V)→H→Prop
  |[]=>Q
  |b::K=>fun ex E' h'=>match ex with
    |.normal=>WP C au b E' h' (CZ C au Q K)
    |ex=>CZ C au Q K ex E' h'
def T8 : List (Nat×V)→Nat→Option V
  |[],_=>none
  |(d,v)::E,k=>cond (Nat.beq d k) (some v) (T8 E k)
theorem OJ : ∀(E:List (Nat×V)) (k:Nat),T8 E k=look E k
  |[],_=>rfl
  |(d,v)::E,k=>by simp only[T8,look,OJ E k]
def C0 (E:List (Nat×V)): Operand→Option V
  |.tmp t=>T8 E t
  |.const c=>ofValue c
  |.global _=>none
  |.func f=>some (.fn (.func f) [] [])
theorem OK (E:List (Nat×V))(x:Operand): C0 E x=bB E x:=by cases x<;>first|rfl|exact OJ _ _
def XX (E:List (Nat×V)): Op→Option V
  |.move x=>C0 E x
  |.assign x=>C0 E x
  |.nilCheck x=>match C0 E x with
    |some (.ptr j k)=>some (.ptr j k)
    |_=>none
  |.extract x i=>match C0 E x with
    |some (.bf l)=>nth l i
    |_=>none
  |.pick x a b=>match C0 E x with
    |some (.bool true)=>C0 E a
    |some (.bool false)=>C0 E b
    |_=>none
  |_=>none
def runM (au:Nat): Nat→Md→List (Nat×V)→List Code→Option (Md×List (Nat×V)×List Code)
  |0,m,E,K=>some (m,E,K)
  |n+1,.o _ [],E,b::K=>runM au n (.c b) E K
  |n+1,.o L (o::l),E,K=>match wantE L E o.guard,o.dst with
    |some false,some d=>cond (Nat.blt d au) (runM au n (.o L l) ((d,cu)::E) K) none
    |some true,some d=>match XX E o.op with
      |some v=>cond (Nat.blt d au) (runM au n (.o L l) ((d,v)::E) K) none
      |none=>none
    |_,_=>none
  |n+1,.c (.seq a b),E,K=>runM au n (.c a) E (b::K)
  |n+1,.c (.region _ ops false),E,K=>runM au n (.o ops.toList ops.toList) E K
  |n+1,.c (.cond x a b),E,K=>match C0 E x with
    |some (.bool true)=>runM au n (.c a) E K
    |some (.bool false)=>runM au n (.c b) E K
    |_=>none
  |n+1,.c .skip,E,b::K=>runM au n (.c b) E K
  |_+1,_,_,_=>none
abbrev Gl (C:fH)(au:Nat)(h:H)(Q:Ex→List (Nat×V)→H→Prop)(m:Md)(E:List (Nat×V))(K:List Code): Prop:=match m with
  |.c c=>WP C au c E h (CZ C au Q K)
  |.o L l=>ay C au L l E h fun E' h'=>CZ C au Q K .normal E' h'
class HD (C:fH)(au:Nat)(R:List (Nat×V)→H→Prop)(Q:outParam (Ex→List (Nat×V)→H→Prop))where
  K:List Code
  eq:R=fun E' h'=>CZ C au Q K .normal E' h'
class T9 (C:fH)(au:Nat)(R:Ex→List (Nat×V)→H→Prop)(Q:outParam (Ex→List (Nat×V)→H→Prop))where
  K:List Code
  eq:R=CZ C au Q K
instance (priority:=50) (C:fH) (au:Nat) (R:List (Nat×V)→H→Prop):HD C au R (fun _=>R):=⟨[],rfl⟩
instance (priority:=60) (C:fH) (au:Nat) (Q:Ex→List (Nat×V)→H→Prop):HD C au (fun E' h'=>Q .normal E' h') Q:=⟨[],rfl⟩
instance (priority:=70) (C:fH) (au:Nat) (f:Code) (Q:Ex→List (Nat×V)→H→Prop) (K:List Code):HD C au (fun E' h'=>WP C au f E' h' (CZ C au Q K)) Q:=⟨f::K,rfl⟩
instance (priority:=65) (C:fH) (au:Nat) (f:Code) (Q:Ex→List (Nat×V)→H→Prop):HD C au (fun E' h'=>WP C au f E' h' Q) Q:=⟨[f],rfl⟩
instance (priority:=80) (C:fH) (au:Nat) (K:List Code) (Q:Ex→List (Nat×V)→H→Prop):HD C au (fun E' h'=>CZ C au Q K .normal E' h') Q:=⟨K,rfl⟩
instance (priority:=50) (C:fH) (au:Nat) (Q:Ex→List (Nat×V)→H→Prop):T9 C au Q Q:=⟨[],rfl⟩
instance (priority:=80) (C:fH) (au:Nat) (K:List Code) (Q:Ex→List (Nat×V)→H→Prop):T9 C au (CZ C au Q K) Q:=⟨K,rfl⟩
section
variable {au:Nat} {l:List Oper} {m m':Md} {K K':List Code} {f:Code}
theorem XY {o:Op}{v:V}(e:XX E o=some v): opE C.P E h o=some (v,h):=by
  unfold XX at e
  simp only[OK] at e
  split at e
  · exact bD e
  · exact fB e
  · split at e
    · rename_i I
      cases e;exact oU I
    · cases e
  · split at e
    · rename_i I
      exact cK I e
    · cases e
  · split at e
    · rename_i I;exact fY I e
    · rename_i I;exact fb I e
    · cases e
  · cases e
theorem KU : ∀(n:Nat) (m:Md) (E:List (Nat×V)) (K:List Code),runM au n m E K=some (m',E',K')→Gl C au h Q m' E' K'→Gl C au h Q m E K:=by
  intro n
  induction n with
  |zero=>intro m E K e hw;simp only[runM,aC,bL] at e;obtain⟨rfl,rfl,rfl⟩:=e;exact hw
  |succ n I =>
    intro m E K e hw
    unfold runM at e
    split at e
    · rename_i he;cases he
    · rename_i he;cases he
      exact ay.nil (I _ _ _ e hw)
    · rename_i he;cases he
      split at e
      · rename_i d hg hd
        cases J:Nat.blt d au with
        |false=>rw[J] at e;cases e
        |true=>rw[J] at e;exact ay.no hg hd J (I _ _ _ e hw)
      · rename_i d hg hd
        split at e
        · rename_i v hv
          cases J:Nat.blt d au with
          |false=>rw[J] at e;cases e
          |true=>rw[J] at e;exact ay.op hg hd J (XY hv) (I _ _ _ e hw)
        · cases e
      · cases e
    · rename_i he;cases he
      exact WP.seq (I _ _ _ e hw)
    · rename_i he;cases he
      exact WP.region rfl (I _ _ _ e hw)
    · rename_i he;cases he
      rw[OK] at e
      split at e
      · rename_i hx;exact WP.cond hx (I _ _ _ e hw)
      · rename_i hx;exact WP.cond hx (I _ _ _ e hw)
      · cases e
    · rename_i he;cases he
      exact WP.skip (I _ _ _ e hw)
    · cases e
theorem zk (n:Nat)[a:HD C au R Q](e:runM au n (.o L l) E (HD.K C au R)=some (m',E',K'))(hw:Gl C au h Q m' E' K'): ay C au L l E h R:=by
  rw[a.eq];exact KU n (.o L l) E _ e hw
theorem zK {I:Ex→List (Nat×V)→H→Prop}(n:Nat)[a:T9 C au I Q](e:runM au n (.c f) E (T9.K C au I)=some (m',E',K'))(hw:Gl C au h Q m' E' K'): WP C au f E h I:=by
  rw[a.eq];exact KU n (.c f) E _ e hw
end
section
variable {au:Nat} {l:List Oper}
def OpR (C:fH)(E:List (Nat×V))(h:H)(o:Oper)(R:V→H→Prop): Prop:=∃v h₁,R v h₁∧∀env,jI env E→∃N,evOp C (ev C N) env h o=some (v,h₁)
theorem OpR.call {k:FuncId}{R:V→H→Prop}(J:o.op=.call cl)(hc:cl.callee=.value x)(hx:bB E x=some (.fn (.func k) first cap))
 (ha:lookArgs E cl.args.toList=some args)(I:Am.Call C k (first++(args++cap)) h R): OpR C E h o R:=by
 obtain⟨v,h₁,yT,hr⟩:=I
 exact⟨v,h₁,hr,fun env hE=>Fv hE J hc hx ha yT⟩
theorem OpR.of {v:V}{R:V→H→Prop}(ho:opE C.P E h o.op=some (v,h₁))(I:R v h₁): OpR C E h o R:=⟨v,h₁,I,fun _ J=>⟨0,CR J ho⟩⟩
theorem ay.any (hg:wantE L E o.guard=some true)(hd:o.dst=some d)(hn:Nat.blt d au=true)(ho:OpR C E h o yR)
 (hw:∀v h₁,yR v h₁→ay C au L rest ((d,v)::E) h₁ R): ay C au L (o::rest) E h R:=by
 intro env J
 obtain⟨v,h₁,hr,ou⟩:=ho
 obtain⟨N,hN⟩:=ou env J
 obtain⟨M,I,h',E',h1,h2,h3⟩:=hw v h₁ hr (env.set d (some v)) (J.set d v)
 refine⟨Nat.max N M,I,h',E',?_,h2,h3⟩
 simp only[evOps,kA J hg,aj,mB (fP (pN N M)) hN,St.put,hd,hn]
 exact qv (fP (pM N M)) _ _ _ h1
def Mr : List (Env×V)→List (List (Nat×V)×V)→Prop
 |[],[]=>True
 |x::l,y::m=>jI x.1 y.1∧x.2=y.2∧Mr l m
 |_,_=>False
def ax (C:fH)(au:Nat)(L l:List Oper)(E:List (Nat×V))(h:H)(hs:List H)(Q:List (Nat×V)→H→List (List (Nat×V)×V)→List H→Prop): Prop :=
 ∀env,jI env E→∃N I h' E' tr ts J,trace C (ev C N) L l ⟨env,au,h⟩ hs=some (tr,J,⟨I,au,h'⟩)∧jI I E'∧Mr tr ts∧Q E' h' ts J
variable {Q:List (Nat×V)→H→List (List (Nat×V)×V)→List H→Prop}
theorem ax.nil (I:Q E h [] hs): ax C au L [] E h hs Q:=fun env J=>⟨0,env,h,E,[],[],hs,rfl,J,aa,I⟩
theorem ax.any {e:Bool}(hg:wantE L E o.guard=some true)(hd:o.dst=some d)(hn:Nat.blt d au=true)(he:isEff C o.op=e)(ho:OpR C E h o yR)
 (hw:∀v h₁,yR v h₁→ax C au L rest ((d,v)::E) h₁ (cond e (hs++[h₁]) hs) fun E' h' ts I=>Q E' h' ((E,v)::ts) I): ax C au L (o::rest) E h hs Q:=by
 intro env hE
 obtain⟨v,h₁,hr,ou⟩:=ho
 obtain⟨N,hN⟩:=ou env hE
 obtain⟨M,J,h',E',tr,ts,I,h1,h2,h3,h4⟩:=hw v h₁ hr (env.set d (some v)) (hE.set d v)
 refine⟨Nat.max N M,J,h',E',(env,v)::tr,(E,v)::ts,I,?_,h2,⟨hE,rfl,h3⟩,h4⟩
 simp only[trace,kA hE hg,aj,mB (fP (pN N M)) hN,St.put,hd,hn,he]
 rw[xo (fP (pM N M)) _ _ _ _ h1]
theorem ax.iB {e:Bool}(hg:wantE L E o.guard=some true)(hd:o.dst=none)(he:isEff C o.op=e)(ho:OpR C E h o yR)
 (hw:∀v h₁,yR v h₁→ax C au L rest E h₁ (cond e (hs++[h₁]) hs) fun E' h' ts I=>Q E' h' ((E,v)::ts) I): ax C au L (o::rest) E h hs Q:=by
 intro env hE
 obtain⟨v,h₁,hr,ou⟩:=ho
 obtain⟨N,hN⟩:=ou env hE
 obtain⟨M,J,h',E',tr,ts,I,h1,h2,h3,h4⟩:=hw v h₁ hr env hE
 refine⟨Nat.max N M,J,h',E',(env,v)::tr,(E,v)::ts,I,?_,h2,⟨hE,rfl,h3⟩,h4⟩
 simp only[trace,kA hE hg,aj,mB (fP (pN N M)) hN,St.put,hd,he]
 rw[xo (fP (pM N M)) _ _ _ _ h1]
theorem ax.op {v:V}(J:wantE L E o.guard=some true)(hd:o.dst=some d)(hn:Nat.blt d au=true)(he:isEff C o.op=false)(ho:opE C.P E h o.op=some (v,h))
 (hw:ax C au L rest ((d,v)::E) h hs fun E' h' ts I=>Q E' h' ((E,v)::ts) I): ax C au L (o::rest) E h hs Q :=
 ax.any J hd hn he (OpR.of (R:=fun v' h'=>v'=v∧h'=h) ho ⟨rfl,rfl⟩) (fun v' h' hr=>by obtain⟨rfl,rfl⟩:=hr;exact hw)
theorem ax.no {e:Bool}(hg:wantE L E o.guard=some false)(hd:o.dst=some d)(hn:Nat.blt d au=true)(he:isEff C o.op=e)
 (hw:ax C au L rest ((d,cu)::E) h (cond e (hs++[h]) hs) fun E' h' ts I=>Q E' h' ((E,cu)::ts) I): ax C au L (o::rest) E h hs Q:=by
 intro env hE
 obtain⟨M,J,h',E',tr,ts,I,h1,h2,h3,h4⟩:=hw (env.set d (some cu)) (hE.set d cu)
 refine⟨M,J,h',E',(env,cu)::tr,(E,cu)::ts,I,?_,h2,⟨hE,rfl,h3⟩,h4⟩
 simp only[trace,kA hE hg,a_,St.put,hd,hn,aj,he]
 rw[h1]
def HE (C:fH)(L:List Oper)(o:Oper)(x:List (Nat×V)×V)(h:H): Prop :=
 wantE L x.1 o.guard=some false∨(wantE L x.1 o.guard=some true∧(∃h',opE C.P x.1 h o.op=some (x.2,h'))∧x.2.beq x.2=true)
def GP (C:fH)(L:List Oper)(an es:List Nat)(hs:List H): List Oper→List (List (Nat×V)×V)→Nat→Prop
 |o::l,x::tr,i=>(isEff C o.op=true∨(qo ((nth an i).getD 0) es&&Nat.beq (lB ((nth an i).getD 0) es) (oB an i es))=true ∨
   (qo ((nth an i).getD 0) es=true∧∀h∈(hs.drop (lB ((nth an i).getD 0) es)).take (oB an i es+1-lB ((nth an i).getD 0) es),HE C L o x h))∧GP C L an es hs l tr (i+1)
 |[],[],_=>True
 |_,_,_=>False
theorem OL {x:Env×V}{y:List (Nat×V)×V}(J:jI x.1 y.1)(hv:x.2=y.2): ∀(hs:List H),(∀h∈hs,HE C L o y h)→sameIn C self L o x hs=true:=by
 intro hs
 induction hs with
 |nil=>intro _;rfl
 |cons h hs ih =>
  intro I
  simp only[sameIn]
  rcases I h b7 with hg|⟨hg,⟨h',ho⟩,hb⟩
  ·rw[kA J hg,a_]
  ·rw[kA J hg,aj,CR J ho]
   simp only
   rw[hv,hb,aj]
   exact ih (fun h hh=>I h (b5 _ hh))
theorem OM {an:List Nat}: ∀(l:List Oper) (tr:List (Env×V)) (ts:List (List (Nat×V)×V)) (i:Nat),Mr tr ts→GP C L an es hs l ts i→stayOk C self L an es hs l tr i=true:=by
 intro l
 induction l with
 |nil=>intro tr ts i hn J;cases tr<;>cases ts<;>first|rfl|(exact J.elim)|(exact hn.elim)
 |cons o l ih =>
  intro tr ts i hn J
  cases tr with
  |nil=>cases ts with
   |nil=>exact J.elim
   |cons y ts=>exact hn.elim
  |cons x tr =>
   cases ts with
   |nil=>exact hn.elim
   |cons y ts =>
    obtain⟨n1,n2,n3⟩:=hn
    obtain⟨s1,s2⟩:=J
    simp only[stayOk]
    have I:=ih tr ts (i+1) n3 s2
    cases he:isEff C o.op with
    |true=>rw[aj];exact I
    |false =>
     rw[a_]
     rcases s1 with s1|s1|⟨s1,s3⟩
     ·rw[he] at s1;cases s1
     ·rw[s1,aj];exact I
     ·cases hq:(qo ((nth an i).getD 0) es&&Nat.beq (lB ((nth an i).getD 0) es) (oB an i es)) with
      |true=>rw[aj];exact I
      |false=>rw[a_,s1,OL n1 n2 _ s3,jl,aj];exact I
theorem WP.draw {Q:Ex→List (Nat×V)→H→Prop}(hl:ops.toList=L)(J:oY C false L=true)
 (hw:ax C au L L E h [h] fun E' h' ts hs=>GP C L (ancs L []) (eO C L 0) hs L ts 0∧Q .normal E' h'): WP C au (.region id ops true) E h Q:=by
 intro env hE
 obtain⟨N,I,h',E',tr,ts,FF,h1,h2,h3,h4,h5⟩:=hw env hE
 refine⟨N+1,.normal,I,h',E',?_,h2,h5⟩
 subst hl
 rw[jy]
 simp only[evStep,aj,qp,J,h1,OM _ _ _ _ h3 h4]
end
def planOk (C:fH)(an es:List Nat): List Oper→List (Option (Nat×Nat))→Nat→Bool
 |[],[],_=>true
 |o::l,p::ps,i=>(match p with
   |none=>isEff C o.op||(qo ((nth an i).getD 0) es&&Nat.beq (lB ((nth an i).getD 0) es) (oB an i es))
   |some (lo,n)=>qo ((nth an i).getD 0) es&&Nat.beq lo (lB ((nth an i).getD 0) es)&&Nat.beq n (oB an i es+1-lB ((nth an i).getD 0) es))&&planOk C an es l ps (i+1)
 |_,_,_=>false
def C1 (C:fH)(L:List Oper)(hs:List H): List Oper→List (List (Nat×V)×V)→List (Option (Nat×Nat))→Prop
 |o::l,x::tr,p::ps=>(match p with
   |none=>True
   |some (lo,n)=>∀h∈(hs.drop lo).take n,HE C L o x h)∧C1 C L hs l tr ps
 |[],[],_=>True
 |_,_,_=>False
theorem C1.stay {an:List Nat}: ∀(l:List Oper) (ts:List (List (Nat×V)×V)) (ps:List (Option (Nat×Nat))) (i:Nat),planOk C an es l ps i=true→C1 C L hs l ts ps→GP C L an es hs l ts i:=by
 intro l
 induction l with
 |nil=>intro ts ps i h1 J;cases ts with
  |nil=>trivial
  |cons x ts=>exact J.elim
 |cons o l ih =>
  intro ts ps i h1 J
  cases ts with
  |nil=>cases ps<;>exact J.elim
  |cons x ts =>
   cases ps with
   |nil=>exact J.elim
   |cons p ps =>
    simp only[planOk,bK] at h1
    obtain⟨I,a2⟩:=h1
    obtain⟨b1,b2⟩:=J
    refine⟨?_,ih ts ps (i+1) a2 b2⟩
    cases p with
    |none =>
     simp only[Eg] at I
     rcases I with I|I
     ·exact .inl I
     ·exact .inr (.inl I)
    |some q =>
     obtain⟨lo,n⟩:=q
     simp only[bK,beq_iff] at I
     obtain⟨⟨c1,c2⟩,c3⟩:=I
     refine .inr (.inr ⟨c1,?_⟩)
     subst c2
     subst c3
     exact b1
theorem WP.drawn {au:Nat}(ps:List (Option (Nat×Nat)))(hl:ops.toList=L)(J:oY C false L=true)
 (hp:planOk C (ancs L []) (eO C L 0) L ps 0=true)
 (hw:ax C au L L E h [h] fun E' h' ts hs=>C1 C L hs L ts ps∧Q .normal E' h'): WP C au (.region id ops true) E h Q:=by
 refine WP.draw hl J ?_
 intro env hE
 obtain⟨N,I,h',E',tr,ts,FF,h1,h2,h3,h4,h5⟩:=hw env hE
 exact⟨N,I,h',E',tr,ts,FF,h1,h2,h3,C1.stay _ _ _ _ hp h4,h5⟩
theorem dw {a b:H}{l:List H}{p:H→Prop}(J:p a)(hb:p b): ∀x∈((a::b::l).drop 0).take 2,p x:=by
 intro x I
 simp only[gz,List.take_succ_cons,AM,m8,nR,tG] at I
 rcases I with rfl|rfl
 ·exact J
 ·exact hb
theorem uf {a b c:H}{l:List H}{p:H→Prop}(J:p a)(hb:p b)(hc:p c): ∀x∈((a::b::c::l).drop 0).take 3,p x:=by
 intro x I
 simp only[gz,List.take_succ_cons,AM,m8,nR,tG] at I
 rcases I with rfl|rfl|rfl
 ·exact J
 ·exact hb
 ·exact hc
theorem dD (k:IntKind): ikBeq k k=true:=by cases k<;>rfl
theorem lC (n:Int): intBeq n n=true:=by cases n<;>simp[intBeq]
theorem BJ (c:Cap): c.beq c=true:=by cases c<;>simp[Cap.beq]
theorem C2 (a b c:Nat)(d:Cap): (V.sl a b c d).beq (.sl a b c d)=true:=by simp[V.beq,BJ]
theorem dg {v:V}(hv:View h v l): v.beq v=true:=by
 obtain⟨_,hv⟩:=hv
 rcases hv with⟨rfl|⟨I,rfl⟩,_⟩|⟨id,off,cap,n,cs,st,rfl,_⟩
 ·simp[V.beq]
 ·simp[V.beq]
 ·exact C2 _ _ _ _
section
variable {au:Nat} {Q:List (Nat×V)→H→List (List (Nat×V)×V)→List H→Prop} {v:V} {a b:Operand}
theorem zM (e:(o.op,wantE L E o.guard,o.dst,Nat.blt d au,isEff C o.op,bB E x)=(Op.move x,some true,some d,true,false,some v))(hw:ax C au L rest ((d,v)::E) h hs fun E' h' ts I=>Q E' h' ((E,v)::ts) I): ax C au L (o::rest) E h hs Q:=by
  simp only[bL] at e;exact ax.op e.2.1 e.2.2.1 e.2.2.2.1 e.2.2.2.2.1 (by rw[e.1];exact bD e.2.2.2.2.2) hw
theorem zA (e:(o.op,wantE L E o.guard,o.dst,Nat.blt d au,isEff C o.op,bB E x)=(Op.assign x,some true,some d,true,false,some v))(hw:ax C au L rest ((d,v)::E) h hs fun E' h' ts I=>Q E' h' ((E,v)::ts) I): ax C au L (o::rest) E h hs Q:=by
  simp only[bL] at e;exact ax.op e.2.1 e.2.2.1 e.2.2.2.1 e.2.2.2.2.1 (by rw[e.1];exact fB e.2.2.2.2.2) hw
theorem zN (e:(o.op,wantE L E o.guard,o.dst,Nat.blt d au,isEff C o.op,bB E x)=(Op.nilCheck x,some true,some d,true,false,some (V.ptr j k)))(hw:ax C au L rest ((d,.ptr j k)::E) h hs fun E' h' ts I=>Q E' h' ((E,.ptr j k)::ts) I): ax C au L (o::rest) E h hs Q:=by
  simp only[bL] at e;exact ax.op e.2.1 e.2.2.1 e.2.2.2.1 e.2.2.2.2.1 (by rw[e.1];exact oU e.2.2.2.2.2) hw
theorem zF (e:(o.op,wantE L E o.guard,o.dst,Nat.blt d au,isEff C o.op,bB E x)=(Op.fieldAddr t x i,some true,some d,true,false,some v))(J:fieldAddrV C.P t v i=some r)(hw:ax C au L rest ((d,r)::E) h hs fun E' h' ts I=>Q E' h' ((E,r)::ts) I): ax C au L (o::rest) E h hs Q:=by
  simp only[bL] at e;exact ax.op e.2.1 e.2.2.1 e.2.2.2.1 e.2.2.2.2.1 (by rw[e.1];exact jS e.2.2.2.2.2 J) hw
theorem zL (e:(o.op,wantE L E o.guard,o.dst,Nat.blt d au,isEff C o.op,bB E x)=(Op.load t x,some true,some d,true,false,some v))(J:loadV C.P h t v=some r)(hw:ax C au L rest ((d,r)::E) h hs fun E' h' ts I=>Q E' h' ((E,r)::ts) I): ax C au L (o::rest) E h hs Q:=by
  simp only[bL] at e;exact ax.op e.2.1 e.2.2.1 e.2.2.2.1 e.2.2.2.2.1 (by rw[e.1];exact aW e.2.2.2.2.2 J) hw
theorem zO (e:(wantE L E o.guard,o.dst,Nat.blt d au,isEff C o.op)=(some true,some d,true,false))(ho:opE C.P E h o.op=some (v,h))(hw:ax C au L rest ((d,v)::E) h hs fun E' h' ts I=>Q E' h' ((E,v)::ts) I): ax C au L (o::rest) E h hs Q:=by
  simp only[bL] at e;exact ax.op e.1 e.2.1 e.2.2.1 e.2.2.2 ho hw
end
abbrev PM := Nat→Option Obj
variable {m':PM}
def PM.le (a b:PM): Prop:=∀i o,a i=some o→b i=some o
def PM.dj (a b:PM): Prop:=∀i,a i=none∨b i=none
def PM.upd (m:PM)(id:Nat)(o:Option Obj): PM:=fun i=>if i=id then o else m i
def PM.un (a b:PM): PM:=fun i=>(a i).orElse fun _=>b i
theorem PM.le_refl (a:PM): a.le a:=fun _ _ h=>h
theorem PM.le_trans {a b c:PM}(x:a.le b)(y:b.le c): a.le c:=fun i o h=>y i o (x i o h)
theorem PM.nF {a b I J:PM}(hd:a.dj b)(ha:I.le a)(hb:J.le b): I.dj J:=by
 intro i
 rcases hd i with h|h
 ·left
  cases h1:I i with
  |none=>rfl
  |some o=>rw[ha i o h1] at h;cases h
 ·right
  cases h1:J i with
  |none=>rfl
  |some o=>rw[hb i o h1] at h;cases h
theorem PM.pT {a b:PM}(h:a.dj b): b.dj a:=fun i=>(h i).symm
theorem PM.HF (a b:PM): a.le (a.un b):=fun i o h=>by simp[PM.un,h]
theorem PM.HG {a b:PM}(I:a.dj b): b.le (a.un b):=fun i o h=>by
 rcases I i with J|J<;>grind[PM.un]
theorem PM.C3 {a b c:PM}(J:a.le c)(hb:b.le c): (a.un b).le c:=fun i o h=>by
 simp only[PM.un] at h
 cases I:a i with
 |none=>rw[I] at h;exact hb i o h
 |some x=>rw[I] at h;injection h with h;subst h;exact J i _ I
theorem PM.C4 {a b c:PM}(I:a.dj c)(J:b.dj c): (a.un b).dj c:=fun i=>by
 rcases I i with h|h
 ·rcases J i with h2|h2<;>grind[PM.un]
 ·grind
def ViewM (m:PM)(v:V)(l:List Nat): Prop:=(∀b∈l,b<256)∧(((v=.bC∨∃a,v=.sle a)∧l=[]) ∨
 ∃id off cap n cs st,v=.sl id off l.length cap∧m id=some (.cells n cs st)∧cs.length=n∧off+l.length≤n∧(cs.drop off).take l.length=ofBytes l ∧
  (match cap with|.exact c=>l.length≤c|.rest e _=>e=1))
def sE (m:PM)(v:V)(l:List Nat): Prop:=(∀b∈l,b<256)∧((v=.bC∧l=[]) ∨
 (∃id cs c,v=.sl id 0 l.length (.exact c)∧m id=some (.cells c (ofBytes l++cs) false)∧l.length+cs.length=c) ∨
 (∃id,v=.sl id 0 l.length (.rest 1 0)∧m id=some (.cells l.length (ofBytes l) false)∧1≤l.length))
theorem ViewM.up {m:PM}{v:V}(h:ViewM m v l)(hm:PM.le m m'): ViewM m' v l:=by
 obtain⟨J,I⟩:=h
 refine⟨J,?_⟩
 rcases I with I|⟨id,off,cap,n,cs,st,e,hg,h3⟩
 ·grind
 ·exact .inr ⟨id,off,cap,n,cs,st,e,hm _ _ hg,h3⟩
theorem sE.up {m:PM}{v:V}(h:sE m v l)(hm:PM.le m m'): sE m' v l:=by
 obtain⟨h1,h2⟩:=h
 refine⟨h1,?_⟩
 rcases h2 with h2|⟨id,cs,c,e,I,J⟩|⟨id,e,I,J⟩
 ·grind
 ·exact .inr (.inl ⟨id,cs,c,e,hm _ _ I,J⟩)
 ·exact .inr (.inr ⟨id,e,hm _ _ I,J⟩)
theorem sE.view {m:PM}{v:V}(I:sE m v l): ViewM m v l:=by
 obtain⟨J,I⟩:=I
 refine⟨J,?_⟩<;>grind[dS]
def HH (m:PM)(k:Nat)(v:V)(cs:List V): Prop:=cs.all storable=true∧((v=.bC∧cs=[]) ∨
 ∃id n cap N rest,v=.sl id 0 n cap∧m id=some (.cells N (cs++rest) false)∧cs.length=n*k∧cs.length+rest.length=N∧rest.all storable=true ∧
  (match cap with|.exact c=>N=c*k∧n≤c|.rest e alt=>e=k∧alt=0∧rest=[]∧1≤n))
theorem HH.up {m:PM}{v:V}(h:HH m k v cs)(hm:PM.le m m'): HH m' k v cs:=by
 obtain⟨J,I⟩:=h
 refine⟨J,?_⟩
 rcases I with I|⟨id,n,cap,N,rest,e,hg,h3⟩
 ·grind
 ·exact .inr ⟨id,n,cap,N,rest,e,hm _ _ hg,h3⟩
inductive aO : Type 1 where
 |pt (id:Nat) (o:Obj)
 |ro (id:Nat) (o:Obj)
 |pu (φ:Prop)
 |buf (v:V) (l:List Nat)
 |cg (v:V) (l:List Nat)
 |XZ (v:V) (l:List Nat)
 |arr (k:Nat) (v:V) (cs:List V)
 |an (A B:aO)
 |xs {α:Type} (f:α→aO)
 |all {α:Type} (f:α→aO)
 |se (A B:aO)
variable {A B X:aO} {S S':List aO}
abbrev pt := aO.pt
abbrev ro := aO.ro
abbrev pu := aO.pu
abbrev xs {α:Type}(f:α→aO): aO:=aO.xs f
abbrev aV := aO.buf
abbrev BK := aO.cg
abbrev cW := aO.XZ
def aO.p : aO→PM→PM→Prop
 |.pt id o,m,_=>m id=some o
 |.ro id o,_,r=>r id=some o
 |.pu φ,_,_=>φ
 |.buf v l,m,_=>sE m v l
 |.cg v l,_,r=>ViewM r v l
 |.XZ v l,m,r=>ViewM m v l∨ViewM r v l
 |.arr k v cs,m,_=>HH m k v cs
 |.an A B,m,r=>A.p m r∧B.p m r
 |.xs f,m,r=>∃x,(f x).p m r
 |.all f,m,r=>∀x,(f x).p m r
 |.se A B,m,r=>∃a b,PM.dj a b∧PM.le a m∧PM.le b m∧A.p a r∧B.p b r
theorem aO.mono : ∀(A:aO) (m m' r J:PM),PM.le m m'→PM.le r J→A.p m r→A.p m' J:=by
 intro A
 induction A with
 |pt id o=>intro m m' r J hm I h;exact hm _ _ h
 |ro id o=>intro m m' r J hm I h;exact I _ _ h
 |pu φ=>intro m m' r J hm I h;exact h
 |buf v l=>intro m m' r J hm I h;exact sE.up h hm
 |cg v l=>intro m m' r J hm I h;exact ViewM.up h I
 |XZ v l =>
  intro m m' r J hm I h
  rcases h with h|h
  ·exact .inl (ViewM.up h hm)
  ·exact .inr (ViewM.up h I)
 |arr k v cs=>intro m m' r J hm I h;exact HH.up h hm
 |an A B ia ib=>intro m m' r J hm I h;exact⟨ia _ _ _ _ hm I h.1,ib _ _ _ _ hm I h.2⟩
 |xs f ih=>intro m m' r J hm I h;obtain⟨x,hx⟩:=h;exact⟨x,ih x _ _ _ _ hm I hx⟩
 |all f ih=>intro m m' r J hm I h x;exact ih x _ _ _ _ hm I (h x)
 |se A B ia ib =>
  intro m m' r J hm I h
  obtain⟨a,b,h1,h2,h3,h4,h5⟩:=h
  exact⟨a,b,h1,PM.le_trans h2 hm,PM.le_trans h3 hm,ia _ _ _ _ (PM.le_refl _) I h4,ib _ _ _ _ (PM.le_refl _) I h5⟩
def star : List aO→aO
 |[]=>.pu True
 |A::L=>.se A (star L)
theorem aO.up {m r I:PM}(h:A.p m r)(hm:m.le m')(J:r.le I): A.p m' I:=A.mono m m' r I hm J h
def cQ (A B:aO): Prop:=∀m r,A.p m r→B.p m r
def aY (A:aO): Prop:=∀m r,A.p m r→A.p (fun _=>none) r
theorem aY.ro (id:Nat)(o:Obj): aY (.ro id o):=fun _ _ h=>h
theorem aY.pu (φ:Prop): aY (.pu φ):=fun _ _ h=>h
theorem aY.xs {f:α→aO}(h:∀x,aY (f x)): aY (.xs f):=fun m r ⟨x,I⟩=>⟨x,h x m r I⟩
theorem aY.an (I:aY A)(J:aY B): aY (.an A B):=fun m r h=>⟨I m r h.1,J m r h.2⟩
def getA : List aO→Nat→Option aO
 |[],_=>none
 |A::_,0=>some A
 |_::L,k+1=>getA L k
theorem nf (I:getA S k=some X): getA (A::S) (k+1)=some X:=I
def setA : List aO→Nat→aO→List aO
 |[],_,_=>[]
 |_::L,0,B=>B::L
 |A::L,k+1,B=>A::setA L k B
def aL : List aO→Nat→List aO
 |[],_=>[]
 |_::L,0=>L
 |A::L,k+1=>A::aL L k
def bringA (S:List aO): List Nat→List aO
 |[]=>S
 |k::ks=>match getA S k with
  |some A=>A::bringA (aL S k) ks
  |none=>[]
def Ms (k:Nat): List Nat→Nat
 |[]=>0
 |x::l=>cond (Nat.blt x k) (Ms k l+1) (Ms k l)
def X0 : List Nat→List Nat→List Nat
 |_,[]=>[]
 |seen,k::ks=>(k-Ms k seen)::X0 (k::seen) ks
theorem ON {L:List aO}{m r:PM}(h:(star (A::B::L)).p m r): (star (B::A::L)).p m r:=by
 obtain⟨a,b,h1,h2,h3,h4,c,d,g1,g2,g3,g4,g5⟩:=h
 have J:a.dj c:=PM.nF h1 (PM.le_refl _) g2
 have I:a.dj d:=PM.nF h1 (PM.le_refl _) g3
 exact⟨c,a.un d,PM.pT (PM.C4 J (PM.pT g1)),PM.le_trans g2 h3,PM.C3 h2 (PM.le_trans g3 h3),g4,a,d,I,PM.HF _ _,PM.HG I,h4,g5⟩
theorem yZ {L I:List aO}(h:∀m r,(star L).p m r→(star I).p m r){m r:PM}(hs:(star (A::L)).p m r): (star (A::I)).p m r:=by
 obtain⟨a,b,J,h2,h3,h4,h5⟩:=hs
 exact⟨a,b,J,h2,h3,h4,h _ _ h5⟩
theorem y5 : ∀ {S:List aO} {k:Nat} {A:aO},getA S k=some A→∀m r,(star S).p m r→(star (A::aL S k)).p m r:=by
 intro S
 induction S with
 |nil=>intro k A h;cases h
 |cons B S I =>
  intro k A h m r hs
  cases k with
  |zero=>injection h with h;subst h;exact hs
  |succ k =>
   exact ON (yZ (I h) hs)
theorem y6 {L:List aO}{m r:PM}(h:(star (A::L)).p m r): (star L).p m r:=by
 obtain⟨a,b,I,J,h3,h4,h5⟩:=h<;>grind[aO.up,PM.le_refl]
theorem OO {L:List aO}{m r:PM}(h:(star (A::L)).p m r): A.p m r:=by
 obtain⟨a,b,I,J,h3,h4,h5⟩:=h<;>grind[aO.up,PM.le_refl]
theorem C5 : ∀(ks:List Nat) (S:List aO) (m r:PM),(star S).p m r→(bringA S ks=[]∨True)→(star (bringA S ks)).p m r:=by
 intro ks
 induction ks with
 |nil=>intro S m r h _;exact h
 |cons k ks I =>
  intro S m r h _
  simp only[bringA]
  cases J:getA S k with
  |none=>trivial
  |some A=>exact yZ (fun m r h=>I _ m r h (.inr aa)) (y5 J m r h)
theorem HI {L:List aO}: ∀m r,(star (star L::S)).p m r↔(star (L++S)).p m r:=by
 induction L with
 |nil =>
  intro m r
  constructor
  ·intro h;exact y6 h
  ·intro h;exact⟨fun _=>none,m,fun _=>.inl rfl,fun _ _ h=>(by cases h),PM.le_refl _,aa,h⟩
 |cons A L ih =>
  intro m r
  constructor
  ·rintro⟨a,b,J,h2,h3,⟨c,d,g1,g2,g3,g4,g5⟩,h5⟩
   have I:c.dj b:=PM.nF J g2 (PM.le_refl _)
   have FH:d.dj b:=PM.nF J g3 (PM.le_refl _)
   exact⟨c,d.un b,PM.pT (PM.C4 (PM.pT g1) (PM.pT I)),PM.le_trans g2 h2,PM.C3 (PM.le_trans g3 h2) h3,g4,(ih _ _).1 ⟨d,b,FH,PM.HF _ _,PM.HG FH,g5,h5⟩⟩
  ·rintro⟨c,e,J,h2,h3,h4,h5⟩
   obtain⟨d,b,g1,g2,g3,g4,g5⟩:=(ih _ _).2 h5
   have uY:c.dj d:=PM.nF J (PM.le_refl _) g2
   have I:c.dj b:=PM.nF J (PM.le_refl _) g3
   exact⟨c.un d,b,PM.C4 I g1,PM.C3 h2 (PM.le_trans g2 h3),PM.le_trans g3 h3,⟨c,d,uY,PM.HF _ _,PM.HG uY,h4,g4⟩,g5⟩
structure Sat (h:H)(S:List aO): Prop where
 wf:l7 h
 ok:∃m r,PM.le m (T.get h.tr)∧PM.le r (T.get h.tr)∧PM.dj m r∧(star S).p m r
section
theorem Sat.map (s:Sat h S)(I:∀m r,(star S).p m r→(star S').p m r): Sat h S':=by
 obtain⟨m,r,J,h2,h3,h4⟩:=s.ok
 exact⟨s.wf,m,r,J,h2,h3,I _ _ h4⟩
theorem Sat.at (s:Sat h S)(I:getA S k=some A): ∃m r,PM.le m (T.get h.tr)∧PM.le r (T.get h.tr)∧A.p m r:=by
 obtain⟨m,r,J,h2,h3,h4⟩:=s.ok
 exact⟨m,r,J,h2,OO (y5 I m r h4)⟩
theorem Sat.take (k:Nat)(s:Sat h S)(I:getA S k=some A): Sat h (A::aL S k):=s.map (y5 I)
theorem Sat.qw (ks:List Nat)(s:Sat h S): Sat h (bringA S (X0 [] ks)):=s.map fun m r h=>C5 _ S m r h (.inr aa)
theorem Sat.ae (ks:List Nat)(s:Sat h S): Sat h (bringA S ks):=s.map fun m r h=>C5 _ S m r h (.inr aa)
theorem Sat.drop (s:Sat h (A::S)): Sat h S:=s.map fun _ _ h=>y6 h
theorem RJ : ∀(S:List aO) (k:Nat) (m r:PM),(star S).p m r→(star (aL S k)).p m r:=by
 intro S
 induction S with
 |nil=>intro k m r h;exact h
 |cons B S I =>
  intro k m r h
  cases k with
  |zero=>exact y6 h
  |succ k=>exact yZ (I k) h
theorem Sat.del (k:Nat)(s:Sat h S): Sat h (aL S k):=s.map (RJ S k)
theorem Sat.gX (s:Sat h (A::S))(he:cQ A B): Sat h (B::S):=s.map fun m r ⟨a,b,I,J,h3,h4,h5⟩=>⟨a,b,I,J,h3,he _ _ h4,h5⟩
theorem Sat.dup (s:Sat h (A::S))(J:aY A): Sat h (A::A::S):=s.map fun m r hs=>by
 obtain⟨a,b,h1,h2,h3,I,h5⟩:=hs
 exact⟨fun _=>none,m,fun _=>.inl rfl,fun _ _ h=>(by cases h),PM.le_refl _,J _ _ I,a,b,h1,h2,h3,I,h5⟩
theorem Sat.gM (s:Sat h S)(I:φ): Sat h (pu φ::S):=s.map fun m _ hs=>⟨fun _=>none,m,fun _=>.inl rfl,fun _ _ h=>(by cases h),PM.le_refl _,I,hs⟩
theorem Sat.two {C:aO}(s:Sat h (A::B::S))(I:aY A)(J:aY B)(hC:∀m r,A.p m r→B.p m r→C.p m r): Sat h (C::S):=s.map fun m r hs=>by
 obtain⟨a,b,h1,h2,h3,h4,c,d,g1,g2,g3,g4,g5⟩:=hs
 exact⟨fun _=>none,d,fun _=>.inl rfl,fun _ _ h=>(by cases h),PM.le_trans g3 h3,hC _ _ (I _ _ h4) (J _ _ g4),g5⟩
theorem ic {f:α→aO}: Sat h (xs f::S)↔∃x,Sat h (f x::S):=by
 constructor
 ·intro s
  obtain⟨m,r,I,J,h3,a,b,g1,g2,g3,⟨x,g4⟩,g5⟩:=s.ok
  exact⟨x,s.wf,m,r,I,J,h3,a,b,g1,g2,g3,g4,g5⟩
 ·rintro⟨x,s⟩
  exact s.gX fun m r h=>⟨x,h⟩
theorem eR : Sat h (pu φ::S)↔φ∧Sat h S:=by
 constructor
 ·intro s
  obtain⟨m,r,I,h2,h3,a,b,g1,g2,g3,J,g5⟩:=s.ok
  exact⟨J,s.drop⟩
 ·rintro⟨I,s⟩;exact s.gM I
theorem br {L:List aO}: Sat h (star L::S)↔Sat h (L++S) :=
 ⟨fun s=>s.map fun m r hs=>(HI m r).1 hs,fun s=>s.map fun m r hs=>(HI m r).2 hs⟩
theorem Sat.row {o:Obj}(s:Sat h S)(I:getA S k=some (pt id o)): T.get h.tr id=some o:=by
 obtain⟨m,r,J,h2,h3⟩:=s.at I
 exact J _ _ h3
theorem Sat.ne {o:Obj}(s:Sat h (pt i o::pt j o'::S)): i≠j:=by
 rintro rfl
 obtain⟨m,r,h1,h2,h3,a,b,I,g2,g3,J,c,d,k1,k2,k3,k4,k5⟩:=s.ok
 have e1:a i=some o:=J
 have e2:b i=some o':=k2 _ _ k4
 rcases I i with e|e
 ·grind
 ·grind
theorem X1 {m:PM}{t:T Obj}{o:Option Obj}(hm:m.le (T.get t)): (m.upd id o).le (T.get (t.set id o)):=by
 intro i x I
 rw[bk]
 simp only[PM.upd] at I
 split
 ·grind
 ·rename_i e;rw[ak e] at I;exact hm i x I
theorem HJ {m:PM}{o:Option Obj}(hm:m.le (T.get h.tr))(J:m id=none): m.le (T.get (h.put id o).tr):=by
 intro i x I
 rw[dP]
 split
 ·grind
 ·exact hm i x I
theorem RK : ∀ {S:List aO} {k id:Nat} {o o':Obj},getA S k=some (pt id o)→∀m r,(star S).p m r→m id=some o∧(star (setA S k (pt id o'))).p (m.upd id (some o')) r:=by
 intro S
 induction S with
 |nil=>intro k id o o' h;cases h
 |cons B S ih =>
  intro k id o o' J m r hs
  obtain⟨a,b,h1,h2,h3,h4,h5⟩:=hs
  cases k with
  |zero =>
   injection J with J
   subst J
   have ha:a id=some o:=h4
   have hb:b id=none:=by
    rcases h1 id with e|e
    ·grind
    ·exact e
   refine⟨h2 _ _ ha,a.upd id (some o'),b,fun i => ?_,fun i x I => ?_,fun i x I => ?_,?_,h5⟩
   ·by_cases e:i=id
    ·grind
    ·simp only[PM.upd,ak e];exact h1 i
   ·simp only[PM.upd] at I ⊢
    split
    ·grind
    ·rename_i e;rw[ak e] at I;exact h2 i x I
   ·simp only[PM.upd]
    split
    ·grind
    ·exact h3 i x I
   ·show(a.upd id (some o')) id=some o'
    simp[PM.upd]
  |succ k =>
   obtain⟨g1,g2⟩:=ih (o':=o') J b r h5
   have ha:a id=none:=by
    rcases h1 id with e|e
    ·exact e
    ·grind
   refine⟨h3 _ _ g1,a,b.upd id (some o'),fun i => ?_,fun i x I => ?_,fun i x I => ?_,h4,g2⟩
   ·by_cases e:i=id
    ·grind
    ·simp only[PM.upd,ak e];exact h1 i
   ·simp only[PM.upd]
    split
    ·grind
    ·exact h2 i x I
   ·simp only[PM.upd] at I ⊢
    split
    ·grind
    ·rename_i e;rw[ak e] at I;exact h3 i x I
theorem Sat.put {o:Obj}(s:Sat h S)(hk:getA S k=some (pt id o)): Sat (h.put id (some o')) (setA S k (pt id o')):=by
 obtain⟨m,r,I,h2,J,h4⟩:=s.ok
 obtain⟨g1,g2⟩:=RK (o':=o') hk m r h4
 have hr:r id=none:=by
  rcases J id with e|e
  ·grind
  ·exact e
 refine⟨s.wf.put (s.wf _ _ (I _ _ g1)) _,m.upd id (some o'),r,X1 I,HJ h2 hr,fun i => ?_,g2⟩
 by_cases e:i=id
 ·grind
 ·simp only[PM.upd,ak e];exact J i
theorem Sat.new (s:Sat h S)(o:Obj): Sat (h.new o) (pt h.next o::S):=by
 obtain⟨m,r,h1,h2,h3,h4⟩:=s.ok
 have hm:m h.next=none:=by
  cases e:m h.next with
  |none=>rfl
  |some x=>exact absurd (s.wf _ _ (h1 _ _ e)) (Nat.lt_irrefl _)
 have hr:r h.next=none:=by
  cases e:r h.next with
  |none=>rfl
  |some x=>exact absurd (s.wf _ _ (h2 _ _ e)) (Nat.lt_irrefl _)
 have J:∀(q:PM),q.le (T.get h.tr)→q h.next=none→q.le (T.get (h.new o).tr):=fun q hq hn i x I=>by
  rw[gB]
  split
  ·grind
  ·exact hq i x I
 refine⟨s.wf.new o,m.upd h.next (some o),r,fun i x I => ?_,J r h2 hr,fun i => ?_,fun i=>if i=h.next then some o else none,m,fun i => ?_,fun i x I => ?_,fun i x I => ?_,?_,h4⟩
 ·rw[gB]
  simp only[PM.upd] at I
  split
  ·grind
  ·rename_i e;rw[ak e] at I;exact h1 i x I
 ·by_cases e:i=h.next
  ·grind
  ·simp only[PM.upd,ak e];exact h3 i
 ·grind
 ·grind[PM.upd]
 ·grind[PM.upd]
 ·show(if h.next=h.next then some o else none)=some o
  simp
theorem Sat.kill {o:Obj}(s:Sat h (pt id o::S)): Sat (h.put id none) S:=by
 obtain⟨m,r,I,h2,J,a,b,g1,g2,g3,g4,g5⟩:=s.ok
 have ha:a id=some o:=g4
 have hb:b id=none:=by
  rcases g1 id with e|e
  ·grind
  ·exact e
 have hr:r id=none:=by
  rcases J id with e|e
  ·rw[g2 _ _ ha] at e;cases e
  ·exact e
 exact⟨s.wf.put (s.wf _ _ (I _ _ (g2 _ _ ha))) _,b,r,HJ (PM.le_trans g3 I) hb,HJ h2 hr,PM.nF J g3 (PM.le_refl _),g5⟩
theorem Sat.freeze {o:Obj}(s:Sat h (pt id o::S)): Sat h (ro id o::S):=by
 obtain⟨m,r,J,h2,h3,a,b,g1,g2,g3,g4,g5⟩:=s.ok
 have ha:a id=some o:=g4
 have hb:b id=none:=by
  rcases g1 id with e|e
  ·grind
  ·exact e
 have hr:r id=none:=by
  rcases h3 id with e|e
  ·rw[g2 _ _ ha] at e;cases e
  ·exact e
 have hle:r.le (r.upd id (some o)):=fun i x I=>by
  grind[PM.upd]
 refine⟨s.wf,b,r.upd id (some o),PM.le_trans g3 J,fun i x I => ?_,fun i => ?_,fun _=>none,b,fun _=>.inl rfl,fun _ _ h=>(by cases h),PM.le_refl _,?_,aO.up g5 (PM.le_refl _) hle⟩
 ·simp only[PM.upd] at I
  split at I
  ·rename_i e;subst e;injection I with I;subst I;exact J _ _ (g2 _ _ ha)
  ·exact h2 i x I
 ·by_cases e:i=id
  ·grind
  ·simp only[PM.upd,ak e];exact PM.nF h3 g3 (PM.le_refl _) i
 ·show(r.upd id (some o)) id=some o
  simp[PM.upd]
theorem Sat.lU (s:Sat h S)(J:eM k [] h h'): Sat h' S:=by
 obtain⟨m,r,h1,h2,h3,h4⟩:=s.ok
 have I:∀(q:PM),q.le (T.get h.tr)→q.le (T.get h'.tr):=fun q hq i x hx=>by
  rw[J.get i (s.wf _ _ (hq _ _ hx)) nR]
  exact hq _ _ hx
 exact⟨J.wf,m,r,I m h1,I r h2,h3,h4⟩
theorem Sat.X2 {X:List Nat}{m₀:PM}(s:Sat h (A::S))(hk:eM k X h h')(hX:∀m r,PM.le m (T.get h.tr)→PM.le r (T.get h.tr)→A.p m r→∀i∈X,m i≠none)
 (hm:PM.le m₀ (T.get h'.tr))(hB:∀r,B.p m₀ r)(hn:∀i,m₀ i≠none→i∈X∨h.next≤i): Sat h' (B::S):=by
 obtain⟨m,r,h1,h2,h3,a,b,g1,g2,g3,g4,g5⟩:=s.ok
 have hXa:∀i∈X,a i≠none:=hX a r (PM.le_trans g2 h1) h2 g4
 have hXb:∀i∈X,b i=none:=fun i hi=>by
  rcases g1 i with e|e<;>grind
 have hXr:∀i∈X,r i=none:=fun i hi=>by
  cases e:a i with
  |none=>grind
  |some o =>
   rcases h3 i with J|J
   ·rw[g2 _ _ e] at J;cases J
   ·exact J
 have hup:∀(q:PM),q.le (T.get h.tr)→(∀i∈X,q i=none)→q.le (T.get h'.tr):=fun q hq hz i x hx=>by
  rw[hk.get i (s.wf _ _ (hq _ _ hx)) (fun hi=>by grind)]
  exact hq _ _ hx
 have I:∀(q:PM),q.le (T.get h.tr)→(∀i∈X,q i=none)→m₀.dj q:=fun q hq hz i=>by
  cases e:m₀ i with
  |none=>simp
  |some x =>
   right
   rcases hn i (by grind) with hi|hi
   ·grind
   ·cases J:q i with
    |none=>rfl
    |some y=>exact absurd (s.wf _ _ (hq _ _ J)) (Nat.not_lt.2 hi)
 have ot:=hup b (PM.le_trans g3 h1) hXb
 have hd:=I b (PM.le_trans g3 h1) hXb
 exact⟨hk.wf,m₀.un b,r,PM.C3 hm ot,hup r h2 hXr,PM.C4 (I r h2 hXr) (PM.nF h3 g3 (PM.le_refl _)),m₀,b,hd,PM.HF _ _,PM.HG hd,hB r,g5⟩
end
theorem bu (v:V)(l:List Nat): cQ (aV v l) (cW v l):=fun _ _ h=>.inl (sE.view h)
theorem dF (v:V)(l:List Nat): cQ (BK v l) (cW v l):=fun _ _ h=>.inr h
theorem aY.cg (v:V)(l:List Nat): aY (.cg v l):=fun _ _ h=>h
section
variable {v:V}
theorem Sat.aH (s:Sat h S)(J:getA S k=some X)(hX:cQ X (cW v l)): View h v l:=by
 obtain⟨m,r,h1,h2,h3⟩:=s.at J
 rcases hX _ _ h3 with I|I
 ·exact ViewM.up I h1
 ·exact ViewM.up I h2
theorem Sat.buf (s:Sat h S)(I:getA S k=some (aV v l)): jP h v l:=by
 obtain⟨m,r,J,h2,h3⟩:=s.at I
 exact sE.up (l:=l) h3 J
theorem KV {m:PM}(I:sE m v l): ∀i∈rowIds v,m i≠none:=by
 obtain⟨_,J⟩:=I<;>grind[rowIds]
theorem KW (I:jP h v l): sE (fun i=>if i∈rowIds v then T.get h.tr i else none) v l:=by
 obtain⟨J,h2⟩:=I
 refine⟨J,?_⟩<;>grind[rowIds]
theorem OP (L:List Nat): PM.le (fun i=>if i∈L then T.get h.tr i else none) (T.get h.tr):=fun i x I=>by
 grind
theorem Sat.HK (s:Sat h S)(I:eM k [] h h')(J:jP h' v l)(hn:∀i∈rowIds v,h.next≤i): Sat h' (aV v l::S):=by
 have s':Sat h (pu True::S):=s.gM aa
 refine s'.X2 (B:=aV v l) (m₀:=fun i=>if i∈rowIds v then T.get h'.tr i else none) I (fun _ _ _ _ _ i hi=>by cases hi) (OP _) (fun _=>KW J) (fun i hi=>.inr ?_)<;>grind
theorem Sat.A6 {v':V}{I:List Nat}(s:Sat h (aV v l::S))(J:eM k (rowIds v) h h')(hb:jP h' v' I)(hn:∀i∈rowIds v',i∈rowIds v∨h.next≤i): Sat h' (aV v' I::S):=by
 refine s.X2 (B:=aV v' I) (m₀:=fun i=>if i∈rowIds v' then T.get h'.tr i else none) J (fun _ _ _ _ h=>KV h) (OP _) (fun _=>KW hb) (fun i hi => ?_)<;>grind
theorem Sat.gC (s:Sat h (aV v l::S)): Sat h (BK v l::S):=by
 obtain⟨m,r,J,h2,h3,a,b,g1,g2,g3,g4,g5⟩:=s.ok
 have I:r.dj a:=PM.pT (PM.nF h3 g2 (PM.le_refl _))
 refine⟨s.wf,b,r.un a,PM.le_trans g3 J,PM.C3 h2 (PM.le_trans g2 J),PM.pT (PM.C4 (PM.pT (PM.nF h3 g3 (PM.le_refl _))) g1),fun _=>none,b,fun _=>.inl rfl,fun _ _ h=>(by cases h),PM.le_refl _,?_,aO.up g5 (PM.le_refl _) (PM.HF _ _)⟩
 exact(sE.view g4).up (PM.HG I)
end
theorem X3 {a b c d:H}{l:List H}{p:H→Prop}(I:p a)(J:p b)(hc:p c)(hd:p d): ∀x∈((a::b::c::d::l).drop 0).take 4,p x:=by
 grind
section
variable {st:Bool} {v:V}
theorem Sat.ld (s:Sat h S)(I:getA S k=some (pt id (.cells n cs st)))(J:isAggT P t=some false)(hn:nth cs off=some v): loadV P h t (.ptr id off)=some v:=OI J (s.row I) hn
theorem Sat.bZ (s:Sat h S)(I:getA S k=some (pt id (.cells n cs st)))(J:isAggT P t=some true)(hs:bJ P t=some n): loadV P h t (.ptr id 0)=some (.agg cs):=Am.bZ J hs (s.row I)
theorem Sat.eX (s:Sat h S)(J:getA S k=some (pt id (.cells n cs false)))(hs:bJ P t=some 1)(hl:cs.length=n)(ho:off<n)(hv:v.cells=[v])(I:storable v=true):
  ∃h₁,hG P h t (.ptr id off) v=some h₁∧Sat h₁ (setA S k (pt id (.cells n (cs.set off v) false))):=by
 refine⟨h.put id (some (.cells n (cs.set off v) false)),?_,s.put J⟩
 simp only[hG,hs,hv,aX,cI,gJ,ki,I,Bool.and_true]
 rw[show Nat.beq (0+1) 1=true from rfl,aj]
 simp only[wrN,s.row J,aX,cI]
 rw[bg.2 (show off+(0+1)≤n by omega),aj]
 congr 3
 rw[KC,aJ (by omega)]
 cases hc:(Nat.beq off 0&&Nat.beq (0+1) n) with
 |true =>
  simp only[bK,beq_iff] at hc
  obtain⟨rfl,rfl⟩:=hc
  rw[aj]
  have:cs.drop (0+1)=[]:=kK (by omega)
  simp[this]
 |false=>rw[a_];rfl
theorem Sat.stN {l:List V}(s:Sat h S)(J:getA S k=some (pt id (.cells n cs false)))(hs:bJ P t=some l.length)(hl:cs.length=n)(ho:off+l.length≤n)(I:l.all storable=true):
  ∃h₁,hG P h t (.ptr id off) (.agg l)=some h₁∧Sat h₁ (setA S k (pt id (.cells n (cs.take off++(l++cs.drop (off+l.length))) false))):=by
 refine⟨h.put id (some (.cells n (cs.take off++(l++cs.drop (off+l.length))) false)),?_,s.put J⟩
 simp only[hG,hs,V.cells,I,gZ,jl,aj,wrN,s.row J]
 grind[bg,beq_iff,List.drop_eq_nil_of_le]
end
section
variable {au:Nat}
theorem ay.b8 (s:Sat h S)(I:wantE L E o.guard=some true)(J:o.dst=some d)(hn:Nat.blt d au=true)(ho:opE C.P E h o.op=some (.ptr h.next 0,newRow h cs))
 (hr:∀id h₁,Sat h₁ (pt id (.cells cs.length cs false)::S)→ay C au L rest ((d,.ptr id 0)::E) h₁ R): ay C au L (o::rest) E h R :=
 ay.op I J hn ho (hr _ _ (s.new _))
theorem ay.eu {v:V}(J:wantE L E o.guard=some true)(hd:o.dst=none)(I:o.op=.store t x y)(hx:bB E x=some v)(hy:bB E y=some u)
 (ho:∃h₁,hG C.P h t v u=some h₁∧Sat h₁ S')(hr:∀h₁,Sat h₁ S'→ay C au L rest E h₁ R): ay C au L (o::rest) E h R:=by
 obtain⟨h₁,e1,e2⟩:=ho
 exact ay.T1 J hd (by rw[I];exact wF hx hy e1) (hr h₁ e2)
theorem WP.label {l:Nat}(I:Q .normal E h): WP C au (.label l) E h Q:=fun env J=>⟨1,.normal,env,h,E,rfl,J,I⟩
theorem WP.split {a b:Code}{t:Bool}(I:bB E x=some (.bool t))(J:t=true→WP C au a E h Q)(h2:t=false→WP C au b E h Q): WP C au (.cond x a b) E h Q:=by
 grind[WP.cond]
theorem WP.Mt {a b:Code}{t:Bool}(I:bB E x=some (.bool t))(J:t=true)(h1:WP C au a E h Q): WP C au (.cond x a b) E h Q:=by
 subst J;exact WP.cond I h1
theorem WP.T_ {a b:Code}{t:Bool}(I:bB E x=some (.bool t))(J:t=false)(h1:WP C au b E h Q): WP C au (.cond x a b) E h Q:=by
 subst J;exact WP.cond I h1
end
section
variable {a b:Operand} {v:V}
theorem Z1 {t:Nat}(I:bB E x=some v)(J:rP P t v i=some r): opE P E h (.field t x i)=some (r,h):=by grind[opE,jO,bH]
theorem Z2 : opE P E h (.makeMap t none)=some (.map h.next,h.new (.map [] 0)):=rfl
theorem iC {ok:Bool}(I:bB E x=some v)(J:bB E y=some u)(hf:fN P h t v u ok=some r): opE P E h (.lookup t x y ok)=some (r,h):=by grind[opE,uW,bH]
theorem Z3 {t:Nat}(I:rP P t (.agg cs) i=nth cs off)(J:nth cs off=some r): rP P t (.agg cs) i=some r:=by grind
theorem ja {s d:TypeId}{k k':IntKind}{n:Int}(hs:P.underlying s=some td)(I:P.underlying d=some (.int k'))(J:k'.wrap n=n): convV P h s d (.int k n)=some (.int k' n,h):=by simp only[convV,hs,I,J]
theorem C7 {o:Nat}{c:Cap}(hu:P.underlying t=some (.slice e)): lenV P h t (.sl i o n c)=some (.int .i64 n):=by simp only[lenV,hu]
theorem Vu (hu:P.underlying t=some (.slice e)): lenV P h t .bC=some (.int .i64 0):=by simp only[lenV,hu]
theorem bj (hu:P.underlying t=some (.slice e))(hv:View h v l): lenV P h t v=some (.int .i64 l.length):=by
 obtain⟨_,hv⟩:=hv
 rcases hv with⟨rfl|⟨I,rfl⟩,rfl⟩|⟨id,off,cap,n,cs,st,rfl,_⟩<;>simp[lenV,hu]
theorem mki_of (hu:P.underlying t=some td)(I:(match td with|.interface _=>false|_=>true)=true): makeIfaceV P t v=some (.iface t v):=by
 grind[makeIfaceV]
end
section
theorem aA {n:Int}(I : -9223372036854775808≤n)(J:n<9223372036854775808): IntKind.wrap .i64 n=n:=by
 grind[IntKind.bits,IntKind.wrap,IntKind.signed]
theorem fK {n:Int}(I:0≤n)(J:n<18446744073709551616): IntKind.wrap .u64 n=n:=by
 grind[IntKind.wrap,IntKind.bits,IntKind.signed]
theorem Vv {n:Int}(I:0≤n)(J:n<4294967296): IntKind.wrap .u32 n=n:=by
 grind[IntKind.wrap,IntKind.bits,IntKind.signed]
theorem y7 {n:Int}(I:0≤n)(J:n<256): IntKind.wrap .u8 n=n:=by
 grind[IntKind.wrap,IntKind.bits,IntKind.signed]
variable {a b:Int}
theorem bx {k:IntKind}(hw:k.wrap (a+b)=a+b): binV P h .add t x y (.int k a) (.int k b)=some (.int k (a+b)):=by
 simp_all[binV,dD,intV]
theorem iX {k:IntKind}(hw:k.wrap (a-b)=a-b): binV P h .sub t x y (.int k a) (.int k b)=some (.int k (a-b)):=by
 simp_all[binV,dD,intV]
theorem jT {k:IntKind}(hw:k.wrap (a*b)=a*b): binV P h .mul t x y (.int k a) (.int k b)=some (.int k (a*b)):=by
 simp_all[binV,dD,intV]
theorem dG {k:IntKind}: binV P h .eql t x y (.int k a) (.int k b)=some (.bool (decide (a=b))):=by
 simp only[binV,dD,aj,intV]
 cases I:intBeq a b with
 |true=>simp[uV I]
 |false =>
  by_cases he:a=b
  ·grind[lC]
  ·grind
theorem aD {k:IntKind}: binV P h .neq t x y (.int k a) (.int k b)=some (.bool (!decide (a=b))):=by
 simp only[binV,dD,aj,intV]
 cases I:intBeq a b with
 |true=>simp[uV I]
 |false =>
  by_cases he:a=b
  ·grind[lC]
  ·grind
theorem aN {k:IntKind}: binV P h .lss t x y (.int k a) (.int k b)=some (.bool (decide (a<b))):=by simp[binV,dD,intV]
theorem xx {k:IntKind}: binV P h .leq t x y (.int k a) (.int k b)=some (.bool (decide (a≤b))):=by simp[binV,dD,intV]
theorem gT {k:IntKind}: binV P h .gtr t x y (.int k a) (.int k b)=some (.bool (decide (a>b))):=by simp[binV,dD,intV]
theorem jJ {k:IntKind}: binV P h .geq t x y (.int k a) (.int k b)=some (.bool (decide (a≥b))):=by simp[binV,dD,intV]
theorem vC : ∀ {l m:List Nat},natsBeq l m=decide (l=m):=by
 intro l
 induction l with
 |nil=>grind[natsBeq]
 |cons a l I =>
  intro m
  cases m<;>grind[natsBeq,Nat.beq_refl,eD]
theorem Mu {m:List Nat}: binV P h .eql t x y (.str l) (.str m)=some (.bool (decide (l=m))):=by simp[binV,strV,vC]
end
section
variable {au:Nat} {p:Bool}
theorem ay.pU (I:wantE L E o.guard=some true)(J:o.dst=some d)(hn:Nat.blt d au=true)(ho:opE C.P E h o.op=some (.bool p,h))(hp:p=true)(hw:ay C au L rest ((d,.bool true)::E) h R): ay C au L (o::rest) E h R:=by
 grind[ay.op]
theorem ay.kC (I:wantE L E o.guard=some true)(J:o.dst=some d)(hn:Nat.blt d au=true)(ho:opE C.P E h o.op=some (.bool p,h))(hp:p=false)(hw:ay C au L rest ((d,.bool false)::E) h R): ay C au L (o::rest) E h R:=by
 grind[ay.op]
theorem ay.X4 (I:wantE L E o.guard=some true)(J:o.dst=some d)(hn:Nat.blt d au=true)(ho:opE C.P E h o.op=some (.bool p,h))(ht:p=true→ay C au L rest ((d,.bool true)::E) h R)(hf:p=false→ay C au L rest ((d,.bool false)::E) h R): ay C au L (o::rest) E h R:=by
 cases p<;>grind[ay.op]
theorem ay.y8 (s:Sat h S)(J:wantE L E o.guard=some true)(hd:o.dst=some d)(hn:Nat.blt d au=true)(I:o.op=.makeMap t none)
 (hr:∀id h₁,Sat h₁ (pt id (.map [] 0)::S)→ay C au L rest ((d,.map id)::E) h₁ R): ay C au L (o::rest) E h R :=
 ay.op J hd hn (by rw[I];exact Z2) (hr _ _ (s.new _))
theorem ay.iB (hg:wantE L E o.guard=some true)(hd:o.dst=none)(ho:OpR C E h o yR)
 (hw:∀v h₁,yR v h₁→ay C au L rest E h₁ R): ay C au L (o::rest) E h R:=by
 intro env J
 obtain⟨v,h₁,hr,ou⟩:=ho
 obtain⟨N,hN⟩:=ou env J
 obtain⟨M,I,h',E',h1,h2,h3⟩:=hw v h₁ hr env J
 refine⟨Nat.max N M,I,h',E',?_,h2,h3⟩
 simp only[evOps,kA J hg,aj,mB (fP (pN N M)) hN,St.put,hd]
 exact qv (fP (pM N M)) _ _ _ h1
variable {Q:List (Nat×V)→H→List (List (Nat×V)×V)→List H→Prop}
theorem ax.pU (J:wantE L E o.guard=some true)(hd:o.dst=some d)(hn:Nat.blt d au=true)(he:isEff C o.op=false)(ho:opE C.P E h o.op=some (.bool p,h))(hp:p=true)
 (hw:ax C au L rest ((d,.bool true)::E) h hs fun E' h' ts I=>Q E' h' ((E,.bool true)::ts) I): ax C au L (o::rest) E h hs Q:=by
 grind[ax.op]
theorem ax.kC (J:wantE L E o.guard=some true)(hd:o.dst=some d)(hn:Nat.blt d au=true)(he:isEff C o.op=false)(ho:opE C.P E h o.op=some (.bool p,h))(hp:p=false)
 (hw:ax C au L rest ((d,.bool false)::E) h hs fun E' h' ts I=>Q E' h' ((E,.bool false)::ts) I): ax C au L (o::rest) E h hs Q:=by
 grind[ax.op]
theorem ax.X4 (J:wantE L E o.guard=some true)(hd:o.dst=some d)(hn:Nat.blt d au=true)(he:isEff C o.op=false)(ho:opE C.P E h o.op=some (.bool p,h))
 (ht:p=true→ax C au L rest ((d,.bool true)::E) h hs fun E' h' ts I=>Q E' h' ((E,.bool true)::ts) I)
 (hf:p=false→ax C au L rest ((d,.bool false)::E) h hs fun E' h' ts I=>Q E' h' ((E,.bool false)::ts) I): ax C au L (o::rest) E h hs Q:=by
 cases p<;>grind[ax.op]
theorem OpR.eu {v:V}(I:o.op=.store t x y)(hx:bB E x=some v)(hy:bB E y=some u)
 (ho:∃h₁,hG C.P h t v u=some h₁∧Sat h₁ S'): OpR C E h o fun w h₁=>w=cu∧Sat h₁ S':=by
 obtain⟨h₁,e1,J⟩:=ho
 exact OpR.of (by grind[wF]) ⟨rfl,J⟩
theorem OpR.b8 (s:Sat h S)(ho:opE C.P E h o.op=some (.ptr h.next 0,newRow h cs)):
  OpR C E h o fun v h₁=>∃id,v=.ptr id 0∧Sat h₁ (pt id (.cells cs.length cs false)::S) :=
 OpR.of ho ⟨_,rfl,s.new _⟩
end
theorem GQ {t:Nat}{p v w:V}(I:look E a=some p)(J:loadV P h t p=some v)(h2:look E b=some w): resLE P E h [.cell a t,.tmp b]=some (.bf [v,w]):=by grind[resLE,mapO,resE]
theorem qx {t:Nat}{v:V}(I:look E t=some v): resLE P E h [.tmp t]=some v:=by grind[resLE,mapO,resE]
def aba : Code→Nat→Code
 |.seq a _,0=>a
 |.seq _ b,_=>b
 |.cond _ a _,0=>a
 |.cond _ _ b,_=>b
 |.block _ a,_=>a
 |.loop a,_=>a
 |.scope a,_=>a
 |c,_=>c
def cD : List Nat→Code→Code
 |[],c=>c
 |k::ks,c=>cD ks (aba c k)
section
variable {au:Nat} {v:V} {p:Bool}
theorem zc {k:FuncId}(e:(wantE L E o.guard,o.dst,Nat.blt d au,o.op,cl.callee,bB E x,lookArgs E cl.args.toList)=(some true,some d,true,Op.call cl,Callee.value x,some (.fn (.func k) first cap),some args))
 (I:Call C k (first++(args++cap)) h yR)(hw:∀v h₁,yR v h₁→ay C au L rest ((d,v)::E) h₁ R): ay C au L (o::rest) E h R:=by
  simp only[bL] at e;exact ay.call e.1 e.2.1 e.2.2.1 e.2.2.2.1 e.2.2.2.2.1 e.2.2.2.2.2.1 e.2.2.2.2.2.2 I hw
theorem zt (e:(wantE L E o.guard,o.dst,Nat.blt d au)=(some true,some d,true))(ho:opE C.P E h o.op=some (.bool p,h))(I:p=true)(hw:ay C au L rest ((d,.bool true)::E) h R): ay C au L (o::rest) E h R:=by
  simp only[bL] at e;exact ay.pU e.1 e.2.1 e.2.2 ho I hw
theorem zh (e:(wantE L E o.guard,o.dst,Nat.blt d au)=(some true,some d,true))(ho:opE C.P E h o.op=some (.bool p,h))(I:p=false)(hw:ay C au L rest ((d,.bool false)::E) h R): ay C au L (o::rest) E h R:=by
  simp only[bL] at e;exact ay.kC e.1 e.2.1 e.2.2 ho I hw
theorem zd (e:(wantE L E o.guard,o.dst,Nat.blt d au)=(some true,some d,true))(ho:opE C.P E h o.op=some (.bool p,h))(I:p=true→ay C au L rest ((d,.bool true)::E) h R)(J:p=false→ay C au L rest ((d,.bool false)::E) h R): ay C au L (o::rest) E h R:=by
  simp only[bL] at e;exact ay.X4 e.1 e.2.1 e.2.2 ho I J
theorem zB {op:BinOp}(e:(o.op,wantE L E o.guard,o.dst,Nat.blt d au,bB E x,bB E y)=(Op.binOp op t x y t',some true,some d,true,some v,some u))(I:binV C.P h op t x y v u=some (.bool p))(J:p=true)(hw:ay C au L rest ((d,.bool true)::E) h R): ay C au L (o::rest) E h R:=by
  simp only[bL] at e;exact ay.pU e.2.1 e.2.2.1 e.2.2.2.1 (by rw[e.1];exact az e.2.2.2.2.1 e.2.2.2.2.2 I) J hw
theorem zC {op:BinOp}(e:(o.op,wantE L E o.guard,o.dst,Nat.blt d au,bB E x,bB E y)=(Op.binOp op t x y t',some true,some d,true,some v,some u))(I:binV C.P h op t x y v u=some (.bool p))(J:p=false)(hw:ay C au L rest ((d,.bool false)::E) h R): ay C au L (o::rest) E h R:=by
  simp only[bL] at e;exact ay.kC e.2.1 e.2.2.1 e.2.2.2.1 (by rw[e.1];exact az e.2.2.2.2.1 e.2.2.2.2.2 I) J hw
theorem zy {st:Bool}(s:Sat h S)(k:Nat)(I:isAggT C.P t=some false)(e:(o.op,wantE L E o.guard,o.dst,Nat.blt d au,bB E x,getA S k,nth cs off)=(Op.load t x,some true,some d,true,some (V.ptr id off),some (pt id (.cells n cs st)),some v))(hw:ay C au L rest ((d,v)::E) h R): ay C au L (o::rest) E h R:=by
  simp only[bL] at e;exact ay.op e.2.1 e.2.2.1 e.2.2.2.1 (by rw[e.1];exact aW e.2.2.2.2.1 (s.ld e.2.2.2.2.2.1 I e.2.2.2.2.2.2)) hw
theorem zY {I:Oper}{J:Operand}{aci:TypeId}{st:Bool}(s:Sat h S)(k:Nat)(hf:∀a b:Nat,fieldAddrV C.P aci (.ptr a b) i=some (.ptr a (b+j)))(ha:isAggT C.P t=some false)
 (e:(I.op,wantE L E I.guard,I.dst,Nat.blt nE au,bB E J,o.op,wantE L ((nE,.ptr a (b+j))::E) o.guard,o.dst,Nat.blt d au,bB ((nE,.ptr a (b+j))::E) x,getA S k,nth cs (b+j))=(Op.fieldAddr aci J i,some true,some nE,true,some (V.ptr a b),Op.load t x,some true,some d,true,some (V.ptr a (b+j)),some (pt a (.cells n cs st)),some v))
 (hw:ay C au L rest ((d,v)::(nE,.ptr a (b+j))::E) h R): ay C au L (I::o::rest) E h R:=by
  simp only[bL] at e
  obtain⟨e1,e2,e3,e4,e5,e6,e7,e8,e9,X5,XG,e12⟩:=e
  exact ay.op e2 e3 e4 (by rw[e1];exact jS e5 (hf a b)) (ay.op e7 e8 e9 (by rw[e6];exact aW X5 (s.ld XG ha e12)) hw)
theorem zS (e:(wantE L E o.guard,o.dst,o.op,bB E x,bB E y)=(some true,none,Op.store t x y,some v,some u))(ho:∃h₁,hG C.P h t v u=some h₁∧Sat h₁ S')(I:∀h₁,Sat h₁ S'→ay C au L rest E h₁ R): ay C au L (o::rest) E h R:=by
  simp only[bL] at e;exact ay.eu e.1 e.2.1 e.2.2.1 e.2.2.2.1 e.2.2.2.2 ho I
end
theorem ke : bJ Tryz.prog 3=some 1:=by kernel_rfl
theorem cL : isAggT Tryz.prog 3=some false:=by kernel_rfl
theorem C8 : zeroT Tryz.prog 3=some (.int .i64 0):=by kernel_rfl
theorem ox : bJ Tryz.prog 4=some 1:=by kernel_rfl
theorem jK : isAggT Tryz.prog 4=some false:=by kernel_rfl
theorem X6 : zeroT Tryz.prog 4=some (.bool false):=by kernel_rfl
theorem sz5 : bJ Tryz.prog 5=some 1:=by kernel_rfl
theorem y9 : isAggT Tryz.prog 24=some false:=by kernel_rfl
theorem X7 : bJ Tryz.prog 26=some 1:=by kernel_rfl
theorem HL : isAggT Tryz.prog 26=some false:=by kernel_rfl
theorem ij : bJ Tryz.prog 28=some 1:=by kernel_rfl
theorem bP : isAggT Tryz.prog 28=some false:=by kernel_rfl
theorem o8 : zeroT Tryz.prog 28=some .bC:=by kernel_rfl
theorem abb : zeroT Tryz.prog 30=some (.int .i64 0):=by kernel_rfl
theorem X8 : bJ Tryz.prog 33=some 1:=by kernel_rfl
theorem y_ : isAggT Tryz.prog 33=some false:=by kernel_rfl
theorem vD : bJ Tryz.prog 43=some 1:=by kernel_rfl
theorem l8 : isAggT Tryz.prog 43=some false:=by kernel_rfl
theorem X9 : zeroT Tryz.prog 43=some (.int .u64 0):=by kernel_rfl
theorem Mv : bJ Tryz.prog 46=some 1:=by kernel_rfl
theorem ug : isAggT Tryz.prog 46=some false:=by kernel_rfl
theorem g8 : bJ Tryz.prog 48=some 6:=by kernel_rfl
theorem nG : isAggT Tryz.prog 48=some true:=by kernel_rfl
theorem qW : zeroT Tryz.prog 48=some (.agg [(.int .i64 0),(.int .u64 0),(.int .u64 0),(.int .u64 0),.bC,.bC]):=by kernel_rfl
theorem uh (a b:Nat): fieldAddrV Tryz.prog 48 (.ptr a b) 0=some (.ptr a (b+0)):=by kernel_rfl
theorem OQ (a b:Nat): fieldAddrV Tryz.prog 48 (.ptr a b) 1=some (.ptr a (b+1)):=by kernel_rfl
theorem OR (a b:Nat): fieldAddrV Tryz.prog 48 (.ptr a b) 2=some (.ptr a (b+2)):=by kernel_rfl
theorem OS (a b:Nat): fieldAddrV Tryz.prog 48 (.ptr a b) 3=some (.ptr a (b+3)):=by kernel_rfl
theorem zu (a b:Nat): fieldAddrV Tryz.prog 48 (.ptr a b) 4=some (.ptr a (b+4)):=by kernel_rfl
theorem mO (a b:Nat): fieldAddrV Tryz.prog 48 (.ptr a b) 5=some (.ptr a (b+5)):=by kernel_rfl
theorem ED (ps:List (Nat×V)): buildV Tryz.prog 48 ps=(fillV (nth [(0,1),(1,1),(2,1),(3,1),(4,1),(5,1)]) ((.agg [(.int .i64 0),(.int .u64 0),(.int .u64 0),(.int .u64 0),.bC,.bC]):V).cells ps).map .agg:=by kernel_rfl
theorem X_ : bJ Tryz.prog 50=some 1:=by kernel_rfl
theorem iJ : isAggT Tryz.prog 50=some false:=by kernel_rfl
theorem Ya (a b:Nat)(k:IntKind)(n:Int): indexAddrV Tryz.prog 51 (.ptr a b) (.int k n)=cond (decide (0≤n)&&decide (n<(16:Nat))) (some (.ptr a (b+n.toNat*1))) none:=by kernel_rfl
theorem dz : bJ Tryz.prog 53=some 17:=by kernel_rfl
theorem gu : isAggT Tryz.prog 53=some true:=by kernel_rfl
theorem xy : zeroT Tryz.prog 53=some (.agg [.bC,(.int .i64 0),(.int .i64 0),(.int .i64 0),(.int .i64 0),(.int .i64 0),(.int .i64 0),(.int .i64 0),(.int .i64 0),(.int .i64 0),(.int .i64 0),(.int .i64 0),(.int .i64 0),(.int .i64 0),(.int .i64 0),(.int .i64 0),(.int .i64 0)]):=by kernel_rfl
theorem eG (a b:Nat): fieldAddrV Tryz.prog 53 (.ptr a b) 0=some (.ptr a (b+0)):=by kernel_rfl
theorem OT (a b:Nat): fieldAddrV Tryz.prog 53 (.ptr a b) 1=some (.ptr a (b+1)):=by kernel_rfl
theorem o9 : isAggT Tryz.prog 62=some false:=by kernel_rfl
theorem RL : bJ Tryz.prog 67=some 3:=by kernel_rfl
theorem Yb : isAggT Tryz.prog 67=some true:=by kernel_rfl
theorem abc : zeroT Tryz.prog 67=some (.agg [(.int .i64 0),(.int .i64 0),(.int .i64 0)]):=by kernel_rfl
theorem HM (a b:Nat): fieldAddrV Tryz.prog 67 (.ptr a b) 0=some (.ptr a (b+0)):=by kernel_rfl
theorem jc (a b:Nat): fieldAddrV Tryz.prog 67 (.ptr a b) 1=some (.ptr a (b+1)):=by kernel_rfl
theorem C9 (a b:Nat): fieldAddrV Tryz.prog 67 (.ptr a b) 2=some (.ptr a (b+2)):=by kernel_rfl
theorem EE : isAggT Tryz.prog 86=some false:=by kernel_rfl
theorem jQ : isAggT Tryz.prog 109=some false:=by kernel_rfl
theorem Z4 : bJ Tryz.prog 111=some 3:=by kernel_rfl
theorem pV (a b:Nat): fieldAddrV Tryz.prog 111 (.ptr a b) 0=some (.ptr a (b+0)):=by kernel_rfl
theorem qX (a b:Nat): fieldAddrV Tryz.prog 111 (.ptr a b) 1=some (.ptr a (b+1)):=by kernel_rfl
theorem A7 (a b:Nat): fieldAddrV Tryz.prog 111 (.ptr a b) 2=some (.ptr a (b+2)):=by kernel_rfl
theorem Z5 (ps:List (Nat×V)): buildV Tryz.prog 111 ps=(fillV (nth [(0,1),(1,1),(2,1)]) ((.agg [.cy,.lz,(.bool false)]):V).cells ps).map .agg:=by kernel_rfl
theorem uZ : isAggT Tryz.prog 112=some false:=by kernel_rfl
theorem pW (a b:Nat): fieldAddrV Tryz.prog 114 (.ptr a b) 0=some (.ptr a (b+0)):=by kernel_rfl
theorem wG (a b:Nat): fieldAddrV Tryz.prog 114 (.ptr a b) 1=some (.ptr a (b+1)):=by kernel_rfl
theorem pX (a b:Nat): fieldAddrV Tryz.prog 114 (.ptr a b) 2=some (.ptr a (b+2)):=by kernel_rfl
theorem qY (a b:Nat): fieldAddrV Tryz.prog 114 (.ptr a b) 3=some (.ptr a (b+3)):=by kernel_rfl
theorem Vw (a b:Nat): fieldAddrV Tryz.prog 114 (.ptr a b) 4=some (.ptr a (b+4)):=by kernel_rfl
theorem Vx (a b:Nat): fieldAddrV Tryz.prog 114 (.ptr a b) 5=some (.ptr a (b+5)):=by kernel_rfl
theorem Ua (ps:List (Nat×V)): buildV Tryz.prog 114 ps=(fillV (nth [(0,1),(1,1),(2,1),(3,1),(4,1),(5,1)]) ((.agg [.cy,.cy,.cy,.cy,.bC,(.int .u64 0)]):V).cells ps).map .agg:=by kernel_rfl
theorem rM : isAggT Tryz.prog 145=some false:=by kernel_rfl
theorem Ub (a b l:Nat)(c:Cap)(k:IntKind)(n:Int): indexAddrV Tryz.prog 145 (.sl a b l c) (.int k n)=cond (decide (0≤n)&&decide (n<(l:Int))) (some (.ptr a (b+n.toNat*1))) none:=by kernel_rfl
theorem Uc : bJ Tryz.prog 146=some 1:=by kernel_rfl
theorem C_ : isAggT Tryz.prog 146=some false:=by kernel_rfl
theorem Z6 : bJ Tryz.prog 147=some 1:=by kernel_rfl
theorem GR : isAggT Tryz.prog 147=some false:=by kernel_rfl
theorem KX (a b:Nat): fieldAddrV Tryz.prog 149 (.ptr a b) 0=some (.ptr a (b+0)):=by kernel_rfl
theorem ng (a b:Nat): fieldAddrV Tryz.prog 149 (.ptr a b) 1=some (.ptr a (b+1)):=by kernel_rfl
theorem tM (a b:Nat): fieldAddrV Tryz.prog 149 (.ptr a b) 2=some (.ptr a (b+2)):=by kernel_rfl
theorem A8 (a b:Nat): fieldAddrV Tryz.prog 149 (.ptr a b) 3=some (.ptr a (b+3)):=by kernel_rfl
theorem kn (a b:Nat): fieldAddrV Tryz.prog 149 (.ptr a b) 4=some (.ptr a (b+4)):=by kernel_rfl
theorem tN (a b:Nat): fieldAddrV Tryz.prog 149 (.ptr a b) 5=some (.ptr a (b+5)):=by kernel_rfl
theorem EF (a b:Nat): fieldAddrV Tryz.prog 149 (.ptr a b) 6=some (.ptr a (b+6)):=by kernel_rfl
theorem wH (a b:Nat): fieldAddrV Tryz.prog 149 (.ptr a b) 7=some (.ptr a (b+7)):=by kernel_rfl
theorem A9 (a b:Nat): fieldAddrV Tryz.prog 149 (.ptr a b) 8=some (.ptr a (b+8)):=by kernel_rfl
theorem ko (a b:Nat): fieldAddrV Tryz.prog 149 (.ptr a b) 9=some (.ptr a (b+9)):=by kernel_rfl
theorem uj (a b:Nat): fieldAddrV Tryz.prog 149 (.ptr a b) 10=some (.ptr a (b+10)):=by kernel_rfl
theorem B_ (a b:Nat): fieldAddrV Tryz.prog 149 (.ptr a b) 11=some (.ptr a (b+11)):=by kernel_rfl
theorem Z7 (ps:List (Nat×V)): buildV Tryz.prog 149 ps=(fillV (nth [(0,1),(1,1),(2,1),(3,1),(4,1),(5,1),(6,1),(7,1),(8,1),(9,1),(10,1),(11,1)]) ((.agg [(.int .i64 0),.bC,.bC,.lz,.bC,(.int .i64 0),.bC,(.int .i64 0),(.int .i64 0),(.bool false),.cy,.bC]):V).cells ps).map .agg:=by kernel_rfl
theorem Da : bJ Tryz.prog 151=some 2:=by kernel_rfl
theorem Ud : isAggT Tryz.prog 151=some true:=by kernel_rfl
theorem GS : zeroT Tryz.prog 151=some (.agg [(.int .i64 0),.bC]):=by kernel_rfl
theorem EG (a b:Nat): fieldAddrV Tryz.prog 151 (.ptr a b) 0=some (.ptr a (b+0)):=by kernel_rfl
theorem EH (a b:Nat): fieldAddrV Tryz.prog 151 (.ptr a b) 1=some (.ptr a (b+1)):=by kernel_rfl
theorem Z8 (ps:List (Nat×V)): buildV Tryz.prog 151 ps=(fillV (nth [(0,1),(1,1)]) ((.agg [(.int .i64 0),.bC]):V).cells ps).map .agg:=by kernel_rfl
theorem KY (a b:Nat): fieldAddrV Tryz.prog 155 (.ptr a b) 0=some (.ptr a (b+0)):=by kernel_rfl
theorem l9 (a b:Nat): fieldAddrV Tryz.prog 155 (.ptr a b) 1=some (.ptr a (b+1)):=by kernel_rfl
theorem fc (a b:Nat): fieldAddrV Tryz.prog 155 (.ptr a b) 2=some (.ptr a (b+2)):=by kernel_rfl
theorem nX (a b:Nat): fieldAddrV Tryz.prog 155 (.ptr a b) 3=some (.ptr a (b+3)):=by kernel_rfl
theorem wI (a b:Nat): fieldAddrV Tryz.prog 155 (.ptr a b) 4=some (.ptr a (b+4)):=by kernel_rfl
theorem KZ (a b:Nat): fieldAddrV Tryz.prog 155 (.ptr a b) 5=some (.ptr a (b+5)):=by kernel_rfl
theorem Ue (ps:List (Nat×V)): buildV Tryz.prog 155 ps=(fillV (nth [(0,1),(1,1),(2,1),(3,1),(4,1),(5,1)]) ((.agg [.cy,(.int .u64 0),.bC,.bC,(.int .i64 0),(.int .u64 0)]):V).cells ps).map .agg:=by kernel_rfl
theorem bQ : bJ Tryz.prog 163=some 1:=by kernel_rfl
theorem cH : isAggT Tryz.prog 163=some true:=by kernel_rfl
theorem j7 : zeroT Tryz.prog 163=some (.agg [.bC]):=by kernel_rfl
theorem iy (a b:Nat): fieldAddrV Tryz.prog 163 (.ptr a b) 0=some (.ptr a (b+0)):=by kernel_rfl
theorem A_ (ps:List (Nat×V)): buildV Tryz.prog 163 ps=(fillV (nth [(0,1)]) ((.agg [.bC]):V).cells ps).map .agg:=by kernel_rfl
theorem oV : bJ Tryz.prog 180=some 4:=by kernel_rfl
theorem GU : isAggT Tryz.prog 180=some true:=by kernel_rfl
theorem nY : zeroT Tryz.prog 180=some (.agg [(.int .i64 0),(.int .i64 0),(.bool false),.bC]):=by kernel_rfl
theorem nZ (a b:Nat): fieldAddrV Tryz.prog 180 (.ptr a b) 0=some (.ptr a (b+0)):=by kernel_rfl
theorem pY (a b:Nat): fieldAddrV Tryz.prog 180 (.ptr a b) 1=some (.ptr a (b+1)):=by kernel_rfl
theorem wJ (a b:Nat): fieldAddrV Tryz.prog 180 (.ptr a b) 2=some (.ptr a (b+2)):=by kernel_rfl
theorem nh (a b:Nat): fieldAddrV Tryz.prog 180 (.ptr a b) 3=some (.ptr a (b+3)):=by kernel_rfl
theorem Mw (ps:List (Nat×V)): buildV Tryz.prog 180 ps=(fillV (nth [(0,1),(1,1),(2,1),(3,1)]) ((.agg [(.int .i64 0),(.int .i64 0),(.bool false),.bC]):V).cells ps).map .agg:=by kernel_rfl
theorem oW : isAggT Tryz.prog 185=some false:=by kernel_rfl
theorem Z9 (a b l:Nat)(c:Cap)(k:IntKind)(n:Int): indexAddrV Tryz.prog 185 (.sl a b l c) (.int k n)=cond (decide (0≤n)&&decide (n<(l:Int))) (some (.ptr a (b+n.toNat*5))) none:=by kernel_rfl
theorem xz : isAggT Tryz.prog 186=some false:=by kernel_rfl
theorem xA : isAggT Tryz.prog 187=some false:=by kernel_rfl
theorem wK (a b:Nat): fieldAddrV Tryz.prog 189 (.ptr a b) 0=some (.ptr a (b+0)):=by kernel_rfl
theorem Vy (a b:Nat): fieldAddrV Tryz.prog 189 (.ptr a b) 1=some (.ptr a (b+1)):=by kernel_rfl
theorem kP (a b:Nat): fieldAddrV Tryz.prog 189 (.ptr a b) 2=some (.ptr a (b+2)):=by kernel_rfl
theorem qZ (a b:Nat): fieldAddrV Tryz.prog 189 (.ptr a b) 3=some (.ptr a (b+3)):=by kernel_rfl
theorem q_ (a b:Nat): fieldAddrV Tryz.prog 189 (.ptr a b) 4=some (.ptr a (b+4)):=by kernel_rfl
theorem EJ (a b:Nat): fieldAddrV Tryz.prog 189 (.ptr a b) 5=some (.ptr a (b+5)):=by kernel_rfl
theorem Z_ (ps:List (Nat×V)): buildV Tryz.prog 189 ps=(fillV (nth [(0,1),(1,1),(2,1),(3,1),(4,1),(5,1)]) ((.agg [.cy,.cy,.bC,.lz,.lz,(.int .i64 0)]):V).cells ps).map .agg:=by kernel_rfl
theorem Db : bJ Tryz.prog 193=some 5:=by kernel_rfl
theorem aaa : isAggT Tryz.prog 193=some true:=by kernel_rfl
theorem aab : zeroT Tryz.prog 193=some (.agg [(.int .i64 0),.bC,(.int .i64 0),(.bool false),(.bool false)]):=by kernel_rfl
theorem pZ (a b:Nat): fieldAddrV Tryz.prog 193 (.ptr a b) 0=some (.ptr a (b+0)):=by kernel_rfl
theorem Ba (a b:Nat): fieldAddrV Tryz.prog 193 (.ptr a b) 1=some (.ptr a (b+1)):=by kernel_rfl
theorem rj (a b:Nat): fieldAddrV Tryz.prog 193 (.ptr a b) 2=some (.ptr a (b+2)):=by kernel_rfl
theorem EK (a b:Nat): fieldAddrV Tryz.prog 193 (.ptr a b) 3=some (.ptr a (b+3)):=by kernel_rfl
theorem EM (a b:Nat): fieldAddrV Tryz.prog 193 (.ptr a b) 4=some (.ptr a (b+4)):=by kernel_rfl
theorem GV (ps:List (Nat×V)): buildV Tryz.prog 193 ps=(fillV (nth [(0,1),(1,1),(2,1),(3,1),(4,1)]) ((.agg [(.int .i64 0),.bC,(.int .i64 0),(.bool false),(.bool false)]):V).cells ps).map .agg:=by kernel_rfl
theorem u5 : bJ Tryz.prog 199=some 2:=by kernel_rfl
theorem Mx : isAggT Tryz.prog 199=some true:=by kernel_rfl
theorem xB : zeroT Tryz.prog 199=some (.agg [(.int .u64 0),(.bool false)]):=by kernel_rfl
theorem EN (a b:Nat): fieldAddrV Tryz.prog 199 (.ptr a b) 0=some (.ptr a (b+0)):=by kernel_rfl
theorem Vz (cs:List V): rP Tryz.prog 199 (.agg cs) 0=nth cs 0:=by kernel_rfl
theorem EO (a b:Nat): fieldAddrV Tryz.prog 199 (.ptr a b) 1=some (.ptr a (b+1)):=by kernel_rfl
theorem aac (ps:List (Nat×V)): buildV Tryz.prog 199 ps=(fillV (nth [(0,1),(1,1)]) ((.agg [(.int .u64 0),(.bool false)]):V).cells ps).map .agg:=by kernel_rfl
theorem Uf : isAggT Tryz.prog 208=some false:=by kernel_rfl
theorem p9 (a b:Nat): fieldAddrV Tryz.prog 210 (.ptr a b) 0=some (.ptr a (b+0)):=by kernel_rfl
theorem K0 (a b:Nat): fieldAddrV Tryz.prog 210 (.ptr a b) 1=some (.ptr a (b+1)):=by kernel_rfl
theorem Ug (ps:List (Nat×V)): buildV Tryz.prog 210 ps=(fillV (nth [(0,1),(1,1)]) ((.agg [.lz,.lz]):V).cells ps).map .agg:=by kernel_rfl
theorem Uh (a b:Nat)(k:IntKind)(n:Int): indexAddrV Tryz.prog 227 (.ptr a b) (.int k n)=cond (decide (0≤n)&&decide (n<(512:Nat))) (some (.ptr a (b+n.toNat*1))) none:=by kernel_rfl
theorem aad : bJ Tryz.prog 239=some 512:=by kernel_rfl
theorem aae : isAggT Tryz.prog 239=some true:=by kernel_rfl
theorem aaf (ps:List (Nat×V)): buildV Tryz.prog 244 ps=(fillV (fun i=>some (i*1,1)) ((.agg [(.int .u64 0),(.int .u64 0),(.int .u64 0)]):V).cells ps).map .agg:=by kernel_rfl
theorem l_ (a b:Nat): fieldAddrV Tryz.prog 261 (.ptr a b) 0=some (.ptr a (b+0)):=by kernel_rfl
theorem aag (ps:List (Nat×V)): buildV Tryz.prog 261 ps=(fillV (nth [(0,1)]) ((.agg [.bC]):V).cells ps).map .agg:=by kernel_rfl
theorem My : bJ Tryz.prog 269=some 1:=by kernel_rfl
theorem Mz : isAggT Tryz.prog 269=some false:=by kernel_rfl
theorem aah (ps:List (Nat×V)): buildV Tryz.prog 270 ps=(fillV (fun i=>some (i*1,1)) ((.agg [.cy,.cy,.cy]):V).cells ps).map .agg:=by kernel_rfl
def slR (v:V)(a b:Nat): V:=match v with
 |.sl id off _ (.exact c)=>.sl id (cond (Nat.beq c a) off (off+a*1)) (b-a) (.exact (c-a))
 |.sl id off _ (.rest _ alt)=>.sl id (off+a*1) (b-a) (.rest 1 (cond (Nat.beq a 0) alt (cond (Nat.blt a b) (off+a*1) off)))
 |v=>v
theorem eU {v:V}(hv:View h v l)(oH:a≤b)(hb:b≤l.length):
  sliceV Tryz.prog h 28 v (some a) (some b) none=some (slR v a b)∧View h (slR v a b) ((l.take b).drop a)∧∀i∈rowIds (slR v a b),i∈rowIds v:=by
 have I:∀x∈(l.take b).drop a,x<256:=fun x hx=>hv.1 x (mZ (qR hx))
 have hlen:((l.take b).drop a).length=b-a:=by grind
 obtain⟨hl,J⟩:=hv
 rcases J with⟨rfl|⟨ea,rfl⟩,rfl⟩|⟨id,off,cap,n,cs,st,rfl,hg,h1,h2,h3,h4⟩
 ·simp only[cI] at hb
  have:b=0:=by omega
  have:a=0:=by omega
  subst_vars
  refine⟨?_,⟨by simp,.inl ⟨.inl rfl,by simp⟩⟩,fun i hi=>hi⟩
  simp only[sliceV,aT,eE]
  rfl
 ·simp only[cI] at hb
  have:b=0:=by omega
  have:a=0:=by omega
  subst_vars
  refine⟨?_,⟨by simp,.inl ⟨.inr ⟨ea,rfl⟩,by simp⟩⟩,fun i hi=>hi⟩
  simp only[sliceV,aT,eE]
  rfl
 ·have GN:∀o,o=off+a∨b-a=0→(cs.drop o).take (b-a)=ofBytes ((l.take b).drop a):=by
   grind[ofBytes,List.map_drop,List.map_take,List.drop_take,List.drop_drop]
  cases cap with
  |exact c =>
   refine⟨?_,⟨I,.inr ⟨id,_,_,n,cs,st,by rw[hlen];rfl,hg,h1,?_,?_,?_⟩⟩,fun i hi=>by simpa[rowIds,slR] using hi⟩
   ·simp only[sliceV,slR,aT,eE,jj]
    grind[bg]
   ·grind
   ·grind[eD]
   ·omega
  |rest e alt =>
   have he:e=1:=h4
   subst he
   refine⟨?_,⟨I,.inr ⟨id,_,_,n,cs,st,by rw[hlen];rfl,hg,h1,by omega,by grind,rfl⟩⟩,fun i hi=>by simpa[rowIds,slR] using hi⟩
   simp only[sliceV,slR,aT,eE,jj,gZ]
   grind[bg]
theorem cf {v:V}(hv:View h v l)(ha:a≤l.length):
  sliceV Tryz.prog h 28 v (some a) none none=some (slR v a l.length)∧View h (slR v a l.length) (l.drop a)∧∀i∈rowIds (slR v a l.length),i∈rowIds v:=by
 obtain⟨J,h2,h3⟩:=eU hv ha (aU _)
 refine⟨?_,by grind,h3⟩
 obtain⟨_,I⟩:=hv
 rcases I with⟨rfl|⟨ea,rfl⟩,rfl⟩|⟨id,off,cap,n,cs,st,rfl,hg,g1,g2,g3,g4⟩
 ·simpa[sliceV,aT,eE] using J
 ·simpa[sliceV,aT,eE] using J
 ·simp_all[sliceV]
theorem iK {v:V}(hv:View h v l)(hb:b≤l.length):
  sliceV Tryz.prog h 28 v none (some b) none=some (slR v 0 b)∧View h (slR v 0 b) (l.take b)∧∀i∈rowIds (slR v 0 b),i∈rowIds v:=by
 obtain⟨J,h2,h3⟩:=eU hv (fX b) hb
 refine⟨?_,by grind,h3⟩
 obtain⟨_,I⟩:=hv
 rcases I with⟨rfl|⟨ea,rfl⟩,rfl⟩|⟨id,off,cap,n,cs,st,rfl,hg,g1,g2,g3,g4⟩
 ·simpa[sliceV,aT,eE] using J
 ·simpa[sliceV,aT,eE] using J
 ·simp_all[sliceV]
theorem eo {v:V}(hv:View h v l)(hi:l[i]?=some b):
  ∃id off,indexAddrV Tryz.prog 28 v (.int .i64 (i:Int))=some (.ptr id off)∧loadV Tryz.prog h 5 (.ptr id off)=some (.int .u8 (b:Int)):=by
 obtain⟨hl,I⟩:=hv
 rcases I with⟨_,rfl⟩|⟨id,off,cap,n,cs,st,rfl,J,h1,h2,h3,h4⟩
 ·grind
 ·refine⟨id,off+i*1,?_,?_⟩
  ·simp only[indexAddrV,aT,eE,cS]
   grind
  ·simp only[loadV,KR,yA,J,gP,c_]
   have e:=iO (fun q=>q[i]?) h3
   grind[ofBytes]
theorem View.cells {v:V}(hv:View h v l): v.cells=[v]∧Am.storable v=true:=by
 obtain⟨_,hv⟩:=hv
 rcases hv with⟨rfl|⟨I,rfl⟩,_⟩|⟨id,off,cap,n,cs,st,rfl,_⟩<;>exact⟨rfl,rfl⟩
def plain1 : V→Bool
 |.bool _|.int _ _|.str _|.cy|.ptr _ _|.bC|.sl _ _ _ _|.lz|.map _|.Fe|.jN|.tQ _ _=>true
 |.fn (.func _) [] []=>true
 |_=>false
def Yc : V→Bool
 |.agg l=>l.all plain1
 |.bf l=>l.all plain1
 |.iface _ v=>plain1 v
 |v=>plain1 v
theorem MA (k:FloatKind): fkBeq k k=true:=by cases k<;>rfl
theorem HN : ∀l:List Nat,natsBeq l l=true:=by grind[vC]
theorem RM (v:V)(h:plain1 v=true): v.beq v=true:=by
 cases v<;>simp[plain1,V.beq,dD,lC,BJ,HN,MA] at h ⊢
 rename_i f a b
 cases f<;>cases a<;>cases b<;>simp[plain1,V.beq,V.beqL] at h ⊢
theorem Ui : ∀(l:List V),l.all plain1=true→V.beqL l l=true:=by
 intro l
 induction l<;>grind[V.beqL,RM]
theorem bn (v:V)(h:Yc v=true): v.beq v=true:=by
 cases v with
 |agg l=>exact Ui l h
 |bf l=>exact Ui l h
 |iface t v=>simp only[V.beq,gZ,Bool.true_and];exact RM v h
 |_=>exact RM _ h
section
variable {v w:V} {m:List Nat}
theorem Dc (s:Sat h (aV v l::X::S))(J:cQ X (cW w m))(I:l.length+m.length≤140737488355328):
  ∃v' h',appendV Tryz.prog h #[28,28] v w=some (v',h')∧Sat h' (aV v' (l++m)::X::S):=by
 obtain⟨v',h',e1,e2,e3,e4⟩:=yX s.wf (s.buf (k:=0) rfl) (s.aH (k:=1) rfl J) I
 exact⟨v',h',e1,s.A6 e3 e2 e4⟩
theorem FI (s:Sat h S)(I:c<1073741824):
  ∃v h',makeSliceV Tryz.prog h 28 (.int .i64 0) (.int .i64 (c:Int))=some (v,h')∧Sat h' (aV v []::S):=by
 obtain⟨v,h',J,e2,e3,e4⟩:=CY s.wf I
 exact⟨v,h',J,s.HK e3 e2 e4⟩
theorem VA : ∀n:Nat,repeatL [V.int .u8 0] n=ofBytes (List.replicate n 0):=by
 intro n
 induction n<;>grind[repeatL,ofBytes]
theorem OU (s:Sat h S)(J:c<1073741824):
  ∃v h',makeSliceV Tryz.prog h 28 (.int .i64 (c:Int)) (.int .i64 (c:Int))=some (v,h')∧Sat h' (aV v (List.replicate c 0)::S):=by
 obtain⟨i,hi,i1,i2⟩:=wE
 have I:jP (h.new (.cells c (repeatL [.int .u8 0] c) false)) (.sl h.next 0 c (.exact c)) (List.replicate c 0):=by
  refine⟨fun b I=>by grind,.inr (.inl ⟨h.next,[],c,by simp,?_,by simp⟩)⟩<;>grind[gB,VA]
 refine⟨.sl h.next 0 c (.exact c),h.new (.cells c (repeatL [.int .u8 0] c) false),?_,s.HK (eM.A5 s.wf _) I fun i hi=>by simp[rowIds] at hi;omega⟩
 grind[makeSliceV,Tryz.underlying28,oZ,V.cells,Nat.ble,Nat.beq]
theorem OV (s:Sat h S)(I:b<256): ∃v h',buildSliceV Tryz.prog h 28 1 [(0,.int .u8 b)]=some (v,h')∧Sat h' (aV v [b]::S):=by
 obtain⟨v,h',J,e2,e3,e4⟩:=FG s.wf I
 exact⟨v,h',J,s.HK e3 e2 e4⟩
theorem Sat.fZ (s:Sat h (aV v l::S))(hl:1≤l.length): ∃id c cap rest,v=.sl id 0 l.length cap∧Sat h (pt id (.cells c (ofBytes l++rest) false)::S)∧l.length+rest.length=c ∧
  (∀(h':H) (I:List Nat),I.length=l.length→(∀b∈I,b<256)→Sat h' (pt id (.cells c (ofBytes I++rest) false)::S)→Sat h' (aV v I::S)):=by
 obtain⟨m,r,h1,h2,h3,a,b,g1,g2,g3,⟨gl,g4⟩,g5⟩:=s.ok
 rcases g4 with⟨rfl,rfl⟩|⟨id,cs,c,rfl,J,hc⟩|⟨id,rfl,J,h5⟩
 ·grind
 ·refine⟨id,c,_,cs,rfl,⟨s.wf,m,r,h1,h2,h3,a,b,g1,g2,g3,J,g5⟩,hc,fun h' I e1 e2 s'=>s'.gX ?_⟩
  intro m' r' hm
  exact⟨e2,.inr (.inl ⟨id,cs,c,by rw[e1],hm,by omega⟩)⟩
 ·refine⟨id,l.length,_,[],rfl,⟨s.wf,m,r,h1,h2,h3,a,b,g1,g2,g3,by rw[ej];exact J,g5⟩,by simp,fun h' I e1 e2 s'=>s'.gX ?_⟩
  intro m' r' hm
  have BI:m' id=some (.cells l.length (ofBytes I++[]) false):=hm
  exact⟨e2,.inr (.inr ⟨id,by rw[e1],by grind,by omega⟩)⟩
theorem JT (l:List Nat)(i b:Nat): (ofBytes l).set i (.int .u8 (b:Int))=ofBytes (l.set i b):=by simp[ofBytes,List.map_set]
theorem zD (l:List Nat)(n:Nat): (ofBytes l).take n=ofBytes (l.take n):=by simp[ofBytes,List.map_take]
theorem HO (l:List Nat)(n:Nat): (ofBytes l).drop n=ofBytes (l.drop n):=by simp[ofBytes,List.map_drop]
theorem lD (s:Sat h (aV v l::S))(hi:i<l.length)(hb:b<256):
  ∃id off,indexAddrV Tryz.prog 28 v (.int .i64 (i:Int))=some (.ptr id off)∧∃h',hG Tryz.prog h 5 (.ptr id off) (.int .u8 (b:Int))=some h'∧Sat h' (aV v (l.set i b)::S):=by
 have hv:=(s.buf (k:=0) rfl).1
 obtain⟨id,c,cap,rest,rfl,s1,hc,J⟩:=s.fZ (by omega)
 refine⟨id,i,?_,?_⟩
 ·simp_all[indexAddrV,eE]
 ·obtain⟨h',e1,I⟩:=s1.eX (t:=5) (P:=Tryz.prog) (v:=.int .u8 (b:Int)) (k:=0) (off:=i) rfl eE (by simp[dS];omega) (by omega) rfl rfl
  refine⟨h',e1,J h' (l.set i b) (by simp) (fun x hx => ?_) ?_⟩
  ·grind
  ·have e3:(ofBytes l++rest).set i (.int .u8 (b:Int))=ofBytes (l.set i b)++rest:=by
    grind[dS,JT]
   rw[e3] at I
   exact I
def bp (l:List Nat)(a:Nat)(m:List Nat): List Nat:=l.take a++(m++l.drop (a+m.length))
theorem cJ (h:a+m.length≤l.length): (bp l a m).length=l.length:=by simp[bp];omega
theorem zE (I:∀b∈l,b<256)(hm:∀b∈m,b<256): ∀b∈bp l a m,b<256:=by grind[bp]
theorem Ca (s:Sat h (aV v l::X::S))(hX:cQ X (cW w m))(oH:a<b)(hb:b≤l.length)(hm:1≤m.length):
  ∃h',copyV Tryz.prog h 28 (slR v a b) w=some (.int .i64 (min m.length (b-a):Nat),h')∧Sat h' (aV v (bp l a (m.take (b-a)))::X::S):=by
 have hw:=s.aH (k:=1) rfl hX
 have K1:=hw.1
 have hv:=(s.buf (k:=0) rfl).1
 obtain⟨id,c,cap,rest,rfl,s1,hc,hf⟩:=s.fZ (by omega)
 have j_:∃J,slR (.sl id 0 l.length cap) a b=.sl id a (b-a) J:=by
  cases cap with
  |exact c =>
   refine⟨.exact (c-a),?_⟩
   simp only[slR]
   by_cases hca:c=a
   ·obtain⟨m',r,h1,h2,h3⟩:=s.at (k:=0) rfl
    rcases h3.2 with⟨e,_⟩|⟨BE,cs',c',e,hg,hc'⟩|⟨BE,e,_⟩
    ·cases e
    ·grind
    ·grind
   grind[eD]
  |rest e alt=>simp[slR]
 obtain⟨J,j_⟩:=j_
 rw[j_]
 have ue:=hw
 rcases ue.2 with⟨_,rfl⟩|⟨iR,I,HP,n2,FJ,Yd,rfl,HQ,q1,q2,q3,q4⟩
 ·grind
 ·have abd:Nat.min m.length (b-a)=(m.take (b-a)).length:=by
   grind
  have mA:rdN h iR I (Nat.min m.length (b-a)*1)=some (ofBytes (m.take (b-a))):=by
   have oN:View h (.sl iR I (m.take (b-a)).length HP) (m.take (b-a)):=by
    refine⟨fun x hx=>K1 x (mZ hx),.inr ⟨iR,I,HP,n2,FJ,Yd,rfl,HQ,q1,?_,?_,?_⟩⟩
    ·grind
    ·rw[←zD,←q3,List.take_take,gI]
    ·grind
   rw[c_,abd]
   exact oN.rdN.2
  simp only[copyV,aT,eE,mA]
  have hlen:(m.take (b-a)).length≤b-a:=by grind
  have u6:wrN h id a (ofBytes (m.take (b-a)))=some (h.put id (some (.cells c (ofBytes (bp l a (m.take (b-a)))++rest) false))):=by
   simp only[wrN,s1.row (k:=0) rfl,dS]
   rw[bg.2 (by omega),aj]
   have e0:(ofBytes l++rest).take a++(ofBytes (m.take (b-a))++(ofBytes l++rest).drop (a+(m.take (b-a)).length))=ofBytes (bp l a (m.take (b-a)))++rest:=by
    grind[dS,zD,HO,bp,rK]
   cases OW:(Nat.beq a 0&&Nat.beq (m.take (b-a)).length c)<;>grind[beq_iff,List.drop_eq_nil_of_le,dS]
  rw[u6]
  refine⟨_,rfl,hf _ _ (cJ (by omega)) (zE hv (fun x hx=>K1 x (mZ hx))) ?_⟩
  exact s1.put (k:=0) rfl
end
section
variable {v w x:V}
theorem Uj {st:Bool}(I:isAggT P t=some true)(hs:bJ P t=some q)(J:T.get h.tr id=some (.cells n cs st))(hl:cs.length=n)(hb:off+q≤n):
  loadV P h t (.ptr id off)=some (.agg ((cs.drop off).take q)):=by
 grind[loadV,rdN,bg,beq_iff]
theorem Sat.Bb (s:Sat h (.arr k v cs::S))(I:cs≠[]): ∃id n cap N rest,v=.sl id 0 n cap∧cs.length=n*k∧N=cs.length+rest.length∧Sat h (pt id (.cells N (cs++rest) false)::S) ∧
  (∀(h':H) (cs':List V) (S':List aO),cs'.length=cs.length→cs'.all storable=true→Sat h' (pt id (.cells N (cs'++rest) false)::S')→Sat h' (.arr k v cs'::S')):=by
 obtain⟨m,r,J,h2,h3,a,b,g1,g2,g3,⟨gl,g4⟩,g5⟩:=s.ok
 rcases g4 with⟨_,e⟩|⟨id,n,cap,N,rest,rfl,hg,q1,q2,q3,q4⟩
 ·grind
 ·refine⟨id,n,cap,N,rest,rfl,q1,q2.symm,⟨s.wf,m,r,J,h2,h3,a,b,g1,g2,g3,hg,g5⟩,fun h' cs' S' e1 e2 s'=>s'.gX ?_⟩
  intro m' r' hm
  exact⟨e2,.inr ⟨id,n,cap,N,rest,rfl,hm,by omega,by omega,q3,q4⟩⟩
theorem Sat.MB (s:Sat h S)(I:getA S j=some (.arr k v cs)): cs.all storable=true:=by
 obtain⟨m,r,h1,h2,J⟩:=s.at I
 exact J.1
theorem Sat.iY (s:Sat h S)(I:getA S j=some (.arr k v cs)): v.cells=[v]∧storable v=true∧v.beq v=true:=by
 obtain⟨m,r,h1,h2,J⟩:=s.at I
 rcases J.2 with⟨rfl,_⟩|⟨id,n,cap,N,rest,rfl,_⟩
 ·exact⟨rfl,rfl,rfl⟩
 ·exact⟨rfl,rfl,C2 _ _ _ _⟩
theorem Sat.ew (s:Sat h S)(hj:getA S j=some (.arr k v cs))(hn:cs.length=n*k)(J:1≤k)(hu:P.underlying t=some (.slice e)): lenV P h t v=some (.int .i64 n):=by
 obtain⟨m,r,h1,h2,h3⟩:=s.at hj
 rcases h3.2 with⟨rfl,rfl⟩|⟨id,n',cap,N,rest,rfl,_,q,_⟩
 ·have:n=0:=by
   rcases D6 n with I|I
   ·exact I
   ·have:=tC I J
    simp at hn
    omega
  simp_all[lenV]
 ·have:n'=n:=KF J (by omega)
  subst this
  simp only[lenV,hu]
theorem vE (z:List V)(n:Nat): (repeatL z n).length=n*z.length:=by
 induction n<;>grind[repeatL]
theorem De {z:List V}(I:z.all storable=true)(n:Nat): (repeatL z n).all storable=true:=by
 induction n<;>grind[repeatL]
theorem u7 (s:Sat h S){i:TypeInfo}(hu:P.underlying t=some (.slice e))(hi:P.info? e=some i)(hz:zeroT P e=some z)(hk:i.size=k)(hb:i.bytes≤4096)(J:z.cells.length=k)(I:z.cells.all storable=true)
 (h1:1≤k)(hn:n≤c)(hc:c<1073741824):
  ∃v h',makeSliceV P h t (.int .i64 (n:Int)) (.int .i64 (c:Int))=some (v,h')∧Sat h' (.arr k v (repeatL z.cells n)::S):=by
 refine⟨.sl h.next 0 n (.exact c),h.new (.cells (c*k) (repeatL z.cells c) false),?_,(s.new _).gX fun m r hm => ?_⟩
 ·grind[makeSliceV,bg,Nat.beq_refl]
 ·refine⟨De I n,.inr ⟨h.next,n,.exact c,c*k,repeatL z.cells (c-n),rfl,?_,by rw[vE,J],?_,De I _,rfl,hn⟩⟩
  ·have:repeatL z.cells n++repeatL z.cells (c-n)=repeatL z.cells c:=by
    have:∀a b,repeatL z.cells a++repeatL z.cells b=repeatL z.cells (a+b):=fun a b=>by
     induction a<;>grind[repeatL]
    rw[this,show n+(c-n)=c by omega]
   rw[this];exact hm
  ·rw[vE,vE,J,←pO,show n+(c-n)=c by omega]
theorem VB (I:T.get h.tr id=some (.cells n cs false))(J:cs.length=n)(hb:off+vs.length≤n):
  wrN h id off vs=some (h.put id (some (.cells n (cs.take off++(vs++cs.drop (off+vs.length))) false))):=by
 grind[wrN,bg,beq_iff,List.drop_eq_nil_of_le]
theorem zG {st:Bool}(I:T.get h.tr id=some (.cells n cs st))(J:cs.length=n)(hb:off+q≤n): rdN h id off q=some ((cs.drop off).take q):=by
 grind[rdN,bg,beq_iff]
theorem iG (s:Sat h (.arr k v cs::.arr k w ds::S)){i:TypeInfo}(hu:P.underlying t=some (.slice e))(hi:P.info? e=some i)(hz:zeroT P e=some z)(hk:i.size=k)(hb:i.bytes≤4096)(hl:z.cells.length=k)
 (h1:1≤k)(fU:cs.length+ds.length≤1073741824):
  ∃v' h',appendV P h #[t,t] v w=some (v',h')∧Sat h' (.arr k v' (cs++ds)::.arr k w ds::S):=by
 have acN:=s.MB (j:=0) rfl
 have oC:=s.MB (j:=1) rfl
 have sD:(cs++ds).all storable=true:=by grind
 -- what is appended
 have Eu:∃m,srcV h k w=some (ds,m)∧ds.length=m*k:=by
  obtain⟨m,r,q1,q2,q3⟩:=s.at (k:=1) rfl
  rcases q3.2 with⟨rfl,rfl⟩|⟨id,n,cap,N,rest,rfl,J,e1,e2,e3,e4⟩
  ·exact⟨0,rfl,by simp⟩
  ·refine⟨n,?_,e1⟩
   simp only[srcV]
   rw[zG (q1 _ _ J) (by grind) (by omega)]
   grind
 obtain⟨m,Eu,hm⟩:=Eu
 have I:∀n:Nat,n*k=cs.length→kR (n+m) i.bytes=true:=fun n hn=>by
  have e2:n+m≤(n+m)*k:=Nat.le_mul_of_pos_right _ h1
  have e3:(n+m)*i.bytes≤(n+m)*4096:=Nat.mul_le_mul_left _ hb
  grind[xh]
 have tY:∀(σ:H) (n:Nat) (T:List aO),Sat σ T→n*k=cs.length→1≤m→Sat (nU σ k cs ds (n+m)).2 (.arr k (nU σ k cs ds (n+m)).1 (cs++ds)::T):=by
  intro σ n T sT hn u9
  refine(sT.new (.cells ((n+m)*k) (cs++ds) false)).gX fun a r BI=>⟨sD,.inr ⟨σ.next,n+m,.rest k 0,(n+m)*k,[],rfl,by rw[ej];exact BI,by grind,by grind,rfl,rfl,rfl,rfl,by omega⟩⟩
 unfold appendV
 simp only[hu,hi,hz,hk,hl,Eu]
 rw[show(Nat.ble 1 k&&Nat.ble i.bytes 4096&&Nat.beq k k)=true by simp_all,aj]
 cases uO:Nat.beq m 0 with
 |true =>
  have:m=0:=beq_iff.1 uO
  subst this
  have hd0:ds=[]:=pK (by omega)
  subst hd0
  obtain⟨m,r,q1,q2,q3⟩:=s.at (k:=0) rfl
  rcases q3.2 with⟨rfl,rfl⟩|⟨id,n,cap,N,rest,rfl,J,e1,e2,e3,e4⟩
  ·grind
  ·grind
 |false =>
  have u9:1≤m:=by
   grind[qq]
  obtain⟨a,r,q1,q2,q3⟩:=s.at (k:=0) rfl
  rcases q3.2 with⟨rfl,rfl⟩|⟨id,n,cap,N,rest,rfl,J,e1,e2,e3,e4⟩
  ·have J:=I 0 (by simp)
   rw[gK] at J
   simp only[J,aj]
   have:=tY h 0 (.arr k .bC []::.arr k w ds::S) s (by simp) u9
   rw[gK] at this
   refine⟨_,_,rfl,?_⟩
   exact(this.qw [1]).drop
  ·cases cap with
   |exact c =>
    obtain⟨e4,e5⟩:=e4
    simp only[gK]
    have pR:(cs++rest).take cs.length=cs:=m7 rfl
    cases hq:Nat.ble (n+m) c with
    |true =>
     have Bz:=bg.1 hq
     have fA:n*k+ds.length≤N:=by rw[hm,←pO,e4];exact qQ _ Bz
     rw[VB (q1 _ _ J) (by grind) fA]
     obtain⟨m',r',p1,p2,p3,x1,x2,x3,x4,x5,⟨_,x6⟩,x7⟩:=s.ok
     have xw:x1 id=some (.cells N (cs++rest) false):=by
      rcases x6 with⟨x6,_⟩|⟨BE,n',L0,N',ZY,x6,x8,x9,x10,_⟩
      ·cases x6
      ·injection x6 with y1 y2 y3 y4
       subst y1
       rw[x8]
       have:=p1 _ _ (x4 _ _ x8)
       rw[q1 _ _ J] at this
       injection this with this
       rw[this]
     have s0:Sat h (pt id (.cells N (cs++rest) false)::.arr k w ds::S):=⟨s.wf,m',r',p1,p2,p3,x1,x2,x3,x4,x5,xw,x7⟩
     have s1:=s0.put (k:=0) (o':=.cells N ((cs++rest).take (n*k)++(ds++(cs++rest).drop (n*k+ds.length))) false) rfl
     refine⟨_,_,rfl,Sat.gX s1 fun a' r'' ha=>⟨sD,.inr ⟨id,n+m,.exact c,N,rest.drop ds.length,rfl,?_,by grind,by grind,?_,e4,Bz⟩⟩⟩
     ·have Ye:a' id=some (.cells N ((cs++rest).take (n*k)++(ds++(cs++rest).drop (n*k+ds.length))) false):=ha
      simp_all[vX]
     ·grind
    |false =>
     rw[a_,I n e1.symm,aj,zG (q1 _ _ J) (by grind) (by omega)]
     rw[gz,←e1,pR]
     have:=tY h n _ s e1.symm u9
     exact⟨_,_,rfl,(this.qw [1]).drop⟩
   |rest e' alt =>
    obtain⟨ek,rfl,rfl,e7⟩:=e4
    have ek:=ek.symm
    subst ek
    simp only[gZ,aj,ej,gK] at J e2 ⊢
    have B3:mK h id 0 k=n:=by
     simp only[mK,q1 _ _ J]
     grind[Nat.mul_div_cancel]
    rw[B3]
    rw[show Nat.ble (n+m) n=false by
     grind[bg],a_,I n e1.symm,show Nat.ble 2 ((n+m)*k)=true from bg.2 (by
      have:2*1≤(n+m)*k:=tC (by omega) h1
      omega),jl,aj,zG (q1 _ _ J) (by omega) (by omega),q1 _ _ J]
    simp only
    obtain⟨m',r',p1,p2,p3,x1,x2,x3,x4,x5,⟨_,x6⟩,x7⟩:=s.ok
    have xw:x1 id=some (.cells N cs false):=by
     grind
    have s0:Sat h (pt id (.cells N cs false)::.arr k w ds::S):=⟨s.wf,m',r',p1,p2,p3,x1,x2,x3,x4,x5,xw,x7⟩
    have:=tY (h.put id none) n _ s0.kill e1.symm u9
    rw[gz,eW (by omega)]
    exact⟨_,_,rfl,this⟩
end
section
variable {v w x:V}
theorem Sat.ep {l:List V}(s:Sat h S)(J:getA S j=some (pt id (.cells n cs false)))(hs:bJ P t=some n)(hl:l.length=n)(I:l.all storable=true):
  ∃h₁,hG P h t (.ptr id 0) (.agg l)=some h₁∧Sat h₁ (setA S j (pt id (.cells n l false))):=by
 refine⟨h.put id (some (.cells n l false)),?_,s.put J⟩
 simp only[hG,hs,V.cells,I,hl,gZ,jl,aj,wrN,s.row J]
 grind[bg]
theorem kq (s:Sat h S)(hu:P.underlying t=some (.slice e))(hz:zeroT P e=some z)(hk:bJ P e=some k)(hl:z.cells.length=k)(h1:1≤k)(h2:k≤65536)(J:x.cells.length=k)(I:x.cells.all storable=true):
  ∃v h',buildSliceV P h t 1 [(0,x)]=some (v,h')∧Sat h' (.arr k v x.cells::S):=by
 refine⟨.sl h.next 0 1 (.exact 1),newRow h x.cells,?_,?_⟩
 ·grind[buildSliceV,repeatL,fillV,Nat.beq_refl,bg]
 ·refine(s.new _).gX fun m r hm=>⟨I,.inr ⟨h.next,1,.exact 1,k,[],rfl,?_,by omega,by omega,rfl,by omega,aU _⟩⟩
  rw[hm,J,ej]
end
section
variable {v w x:V}
theorem ViewM.slice {m:PM}(hv:ViewM m v l)(oH:a≤b)(hb:b≤l.length): ViewM m (slR v a b) ((l.take b).drop a):=by
 have I:∀x∈(l.take b).drop a,x<256:=fun x hx=>hv.1 x (mZ (qR hx))
 have hlen:((l.take b).drop a).length=b-a:=by grind
 obtain⟨hl,J⟩:=hv
 rcases J with⟨rfl|⟨ea,rfl⟩,rfl⟩|⟨id,off,cap,n,cs,st,rfl,hg,h1,h2,h3,h4⟩
 ·simp at hb
  subst_vars
  exact⟨by simp,.inl ⟨.inl rfl,by simp⟩⟩
 ·simp at hb
  subst_vars
  exact⟨by simp,.inl ⟨.inr ⟨ea,rfl⟩,by simp⟩⟩
 ·have GN:∀o,o=off+a∨b-a=0→(cs.drop o).take (b-a)=ofBytes ((l.take b).drop a):=by
   grind[ofBytes,List.map_take,List.map_drop,List.drop_take,List.drop_drop]
  cases cap with
  |exact c =>
   refine⟨I,.inr ⟨id,_,_,n,cs,st,by rw[hlen];rfl,hg,h1,?_,?_,?_⟩⟩<;>grind[eD]
  |rest e alt =>
   exact⟨I,.inr ⟨id,_,_,n,cs,st,by rw[hlen];rfl,hg,h1,by omega,by grind,rfl⟩⟩
theorem lE (hX:cQ X (cW v l))(I:a≤b)(J:b≤l.length): cQ X (cW (slR v a b) ((l.take b).drop a)):=fun m r hm =>
 (hX m r hm).imp (fun h=>ViewM.slice h I J) (fun h=>ViewM.slice h I J)
theorem rq (I:cQ X (cW v l))(J:a≤l.length): cQ X (cW (slR v a l.length) (l.drop a)):=by
 grind[lE,List.take_length]
theorem xC (I:cQ X (cW v l))(J:b≤l.length): cQ X (cW (slR v 0 b) (l.take b)):=by
 have:=lE I (fX b) J
 rwa [gz] at this
theorem Sat.oO (s:Sat h S): Sat h (.arr k .bC []::S):=(s.gM aa).gX fun _ _ _=>⟨rfl,.inl ⟨rfl,rfl⟩⟩
theorem Sat.Df (s:Sat h S): Sat h (aV .bC []::S):=(s.gM aa).gX fun _ _ _=>⟨by simp,.inl ⟨rfl,rfl⟩⟩
theorem Sat.rN (s:Sat h S): Sat h (BK .bC []::S):=(s.gM aa).gX fun _ _ _=>⟨by simp,.inl ⟨.inl rfl,rfl⟩⟩
theorem FK (s:Sat h S){i:TypeInfo}(hu:P.underlying t=some (.slice e))(hi:P.info? e=some i)(I:zeroT P e=some z)(J:i.size=k)(hb:i.bytes≤4096)(hl:z.cells.length=k)
 (h1:1≤k)(hn:n<1073741824):
  ∃id h',makeSliceV P h t (.int .i64 (n:Int)) (.int .i64 (n:Int))=some (.sl id 0 n (.exact n),h')∧Sat h' (pt id (.cells (n*k) (repeatL z.cells n) false)::S):=by
 refine⟨h.next,h.new (.cells (n*k) (repeatL z.cells n) false),?_,s.new _⟩<;>grind[makeSliceV,bg,Nat.beq_refl]
theorem p_ {o:Nat}{c:Cap}(hv:v=.sl i o n c)(hu:P.underlying t=some (.slice e)): lenV P h t v=some (.int .i64 n):=by subst hv;exact C7 hu
theorem abe {ts:Array TypeId}{a b:Int}: builtinV P h .max ts [.int .i64 a,.int .i64 b]=some (.int .i64 (max a b),h):=by
 grind[builtinV,foldV,maxV,ikBeq]
theorem RN {c:Go.Call}{b:Builtin}(I:c.callee=.builtin b)(J:lookArgs E c.args.toList=some args)(hf:builtinV P h b c.argTypes args=some (r,h')): opE P E h (.call c)=some (r,h'):=by
 simp only[opE,I,J,hf]
end
def slR3 (v:V)(a b m:Nat): V:=match v with
 |.sl id off _ _=>.sl id (cond (Nat.beq m a) off (off+a*1)) (b-a) (.exact (m-a))
 |v=>v
section
variable {v w x:V}
theorem ViewM.slice3 {m:PM}(hv:ViewM m v l)(oH:a≤b)(hb:b≤c)(hc:c≤l.length)(hl:1≤l.length): ViewM m (slR3 v a b c) ((l.take b).drop a):=by
 have I:∀x∈(l.take b).drop a,x<256:=fun x hx=>hv.1 x (mZ (qR hx))
 have hlen:((l.take b).drop a).length=b-a:=by grind
 obtain⟨_,J⟩:=hv
 rcases J with⟨_,rfl⟩|⟨id,off,cap,n,cs,st,rfl,hg,h1,h2,h3,h4⟩
 ·grind
 ·have GN:∀o,o=off+a∨b-a=0→(cs.drop o).take (b-a)=ofBytes ((l.take b).drop a):=by
   grind[ofBytes,List.map_take,List.map_drop,List.drop_take,List.drop_drop]
  refine⟨I,.inr ⟨id,_,_,n,cs,st,by rw[hlen];rfl,hg,h1,?_,?_,?_⟩⟩<;>grind[eD]
theorem FL (hX:cQ X (cW v l))(I:a≤b)(J:b≤c)(hc:c≤l.length)(hl:1≤l.length): cQ X (cW (slR3 v a b c) ((l.take b).drop a)):=fun m r hm =>
 (hX m r hm).imp (fun h=>ViewM.slice3 h I J hc hl) (fun h=>ViewM.slice3 h I J hc hl)
theorem BL (hv:View h v l)(J:a≤b)(hb:b≤c)(hc:c≤l.length)(hl:1≤l.length): sliceV Tryz.prog h 28 v (some a) (some b) (some c)=some (slR3 v a b c):=by
 obtain⟨_,I⟩:=hv
 rcases I with⟨_,rfl⟩|⟨id,off,cap,n,cs,st,rfl,hg,h1,h2,h3,h4⟩
 ·grind
 ·cases cap with
  |exact q =>
   simp only[sliceV,slR3,aT,eE,jj]
   grind[bg]
  |rest e alt =>
   have he:e=1:=h4
   subst he
   simp only[sliceV,slR3,aT,eE,jj,gZ]
   grind[Nat.blt,bg]
theorem iS (hv:View h v l)(I:1≤l.length): ∃id off cap,v=.sl id off l.length cap:=by
 rcases hv.2 with⟨_,rfl⟩|⟨id,off,cap,_,_,_,rfl,_⟩<;>grind
theorem ey {k:IntKind}{n:Int}(I:0≤n): iW (some (V.int k n))=some (some n.toNat):=by
 grind[iW,bndV]
end
section
variable {v w x:V} {m:List Nat}
theorem OX (s:Sat h S)(J:getA S j=some (.arr q v cs))(hi:i*q+q≤cs.length)(hq:1≤q)(hu:P.underlying t=some (.slice e))(I:bJ P e=some q):
  ∃id off,indexAddrV P t v (.int .i64 (i:Int))=some (.ptr id off)∧(isAggT P e=some true→loadV P h e (.ptr id off)=some (.agg ((cs.drop (i*q)).take q))):=by
 obtain⟨m,r,h1,h2,h3⟩:=s.at J
 rcases h3.2 with⟨_,rfl⟩|⟨id,n,cap,N,rest,rfl,hg,e1,e2,_⟩
 ·grind
 ·refine⟨id,i*q,?_,fun ht => ?_⟩
  ·simp only[indexAddrV,hu,I,cS]
   have:i<n:=by
    have h4:i*q+q=(i+1)*q:=by grind
    rw[h4,e1] at hi
    exact Ea (D3 hi hq)
   grind
  ·rw[Uj ht I (h1 _ _ hg) (by grind) (by omega)]
   grind
theorem Sat.Yf (s:Sat h (aV v l::X::S))(hX:cQ X (cW w m)): ∀i∈rowIds w,i∉rowIds v:=by
 intro i hi J
 obtain⟨a,r,h1,h2,h3,b,c,g1,g2,g3,g4,d,e,k1,k2,k3,k4,k5⟩:=s.ok
 have hb:=KV g4 i J
 have hw:∀q:PM,ViewM q w m→q i≠none:=fun q hq=>by
  rcases hq.2 with⟨rfl|⟨ea,rfl⟩,_⟩|⟨id,off,cap,n,cs,st,rfl,hg,_⟩<;>grind[rowIds]
 rcases hX _ _ k4 with hq|hq
 ·cases hd:d i with
  |none=>grind
  |some o =>
   rcases g1 i with I|I
   ·grind
   ·rw[k2 _ _ hd] at I;cases I
 ·cases Uk:b i with
  |none=>grind
  |some o =>
   rcases h3 i with I|I
   ·rw[g2 _ _ Uk] at I;cases I
   ·grind
end
abbrev cm := List (Int×V×Nat)
def eP (e:Int×V×Nat): V×V×Nat:=(.int .i64 e.1,e.2)
def lookE (n:Int): cm→Option V
 |[]=>none
 |e::l=>if e.1=n then some e.2.1 else lookE n l
def j8 (n:Int)(v:V)(c:Nat): cm→cm
 |[]=>[(n,v,c)]
 |e::l=>if e.1=n then(e.1,v,e.2.2)::l else e::j8 n v c l
def nm (n:Int): cm→cm
 |[]=>[]
 |e::l=>if e.1=n then l else e::nm n l
def clkE (n:Int)(c:Nat)(l:cm): Nat:=match lookE n l with
 |some _=>c
 |none=>c+1
abbrev gv (id:Nat)(l:cm)(c:Nat): aO:=pt id (.map (l.map eP) c)
def idxE (n:Int): cm→Nat→Option (Nat×V)
 |[],_=>none
 |e::l,i=>if e.1=n then some (i,e.2.1) else idxE n l (i+1)
theorem kY (a b:Int): intBeq a b=decide (a=b):=by
 grind[uV,lC]
theorem ru {k:IntKind}{n:Int}: ∀(l:cm) (i:Nat),findK (.int k) (.int .i64 n) (l.map eP) i=some (idxE n l i):=by
 intro l
 induction l<;>grind[findK,eP,keyBeq,dD,kY,idxE]
theorem qa {n:Int}: ∀(l:cm) (i:Nat),(idxE n l i).map (·.2)=lookE n l:=by
 intro l
 induction l<;>grind[idxE,lookE]
theorem K2 {n:Int}: ∀(l:cm) (i j:Nat) (v:V),idxE n l i=some (j,v)→i≤j:=by
 intro l
 induction l<;>grind[idxE]
theorem aai {n:Int}{v:V}: ∀(l:cm) (i j:Nat) (u:V),idxE n l i=some (j,u)→setNth (l.map eP) (j-i) (fun e=>(e.1,v,e.2.2))=(j8 n v c l).map eP:=by
 intro l
 induction l with
 |nil=>intro i j u h;cases h
 |cons e l J =>
  intro i j u h
  simp only[idxE] at h
  simp only[j8,iu,setNth]
  by_cases he:e.1=n
  ·rw[aJ he] at h;injection h with h;injection h with I h2
   subst I
   rw[aJ he,AP]
   rfl
  ·rw[ak he] at h
   have h3:=K2 _ _ _ _ h
   grind[eD]
theorem Yg {n:Int}: ∀(l:cm) (i j:Nat) (u:V),idxE n l i=some (j,u)→lT (l.map eP) (j-i)=(nm n l).map eP:=by
 intro l
 induction l with
 |nil=>intro i j u h;cases h
 |cons e l I =>
  intro i j u h
  simp only[idxE] at h
  simp only[nm,iu,lT]
  by_cases he:e.1=n
  ·simp_all
  ·rw[ak he] at h
   have J:=K2 _ _ _ _ h
   grind[eD]
theorem VC {n:Int}{v:V}: ∀(l:cm),lookE n l=none→j8 n v c l=l++[(n,v,c)]:=by
 intro l
 induction l<;>grind[lookE,j8]
theorem RO {n:Int}: ∀(l:cm),lookE n l=none→nm n l=l:=by
 intro l
 induction l<;>grind[lookE,nm]
section
variable {v:V} {k:IntKind} {l:cm} {n:Int}
theorem Sat.Ul (s:Sat h S)(I:getA S j=some (gv id l c))(hu:P.underlying t=some (.map kt et))(J:P.underlying kt=some (.int k))(hz:zeroT P et=some z):
  fN P h t (.map id) (.int .i64 n) true=some (match lookE n l with|some v=>.bf [v,.bool true]|none=>.bf [z,.bool false]):=by
 have hg:=s.row I
 simp only[fN,lookupV,hu,J,hz,hg,keyBeq,dD,aj,ru]
 rw[←qa l 0]
 cases idxE n l 0<;>grind
theorem Sat.aaj (s:Sat h S)(I:getA S j=some (gv id l c))(hu:P.underlying t=some (.map kt et))(J:P.underlying kt=some (.int k))(hz:zeroT P et=some z):
  fN P h t (.map id) (.int .i64 n) false=some (match lookE n l with|some v=>v|none=>z):=by
 have hg:=s.row I
 simp only[fN,lookupV,hu,J,hz,hg,keyBeq,dD,aj,ru]
 rw[←qa l 0]
 cases idxE n l 0<;>grind
theorem Sat.update (s:Sat h S)(hj:getA S j=some (gv id l c))(hu:P.underlying t=some (.map kt et))(hk:P.underlying kt=some (.int k)):
  ∃h',mapUpdateV P h t (.map id) (.int .i64 n) v=some h'∧Sat h' (setA S j (gv id (j8 n v c l) (clkE n c l))):=by
 have hg:=s.row hj
 refine⟨h.put id (some (.map ((j8 n v c l).map eP) (clkE n c l))),?_,s.put hj⟩
 simp only[mapUpdateV,hu,hk,hg,keyBeq,dD,aj,ru]
 have I:=qa (n:=n) l 0
 cases J:idxE n l 0 with
 |none =>
  rw[J] at I
  have I:lookE n l=none:=I.symm
  simp only[clkE,I,VC l I,Eh]
  rfl
 |some q =>
  obtain⟨i,u⟩:=q
  rw[J] at I
  have I:lookE n l=some u:=I.symm
  simp only[clkE,I]
  rw[←aai (v:=v) (c:=c) l 0 i u J,lS]
theorem Sat.delete (s:Sat h S)(J:getA S j=some (gv id l c))(hu:P.underlying t=some (.map kt et))(hk:P.underlying kt=some (.int k)):
  ∃h',m_ P h t (.map id) (.int .i64 n)=some h'∧Sat h' (setA S j (gv id (nm n l) c)):=by
 have hg:=s.row J
 simp only[m_,hu,hk,hg,keyBeq,dD,aj,ru]
 have I:=qa (n:=n) l 0
 cases hq:idxE n l 0 with
 |none =>
  rw[hq] at I
  have I:lookE n l=none:=I.symm
  refine⟨h,rfl,?_⟩
  rw[RO l I]
  have:∀(S:List aO) (j:Nat) (A:aO),getA S j=some A→setA S j A=S:=by
   intro S
   induction S with
   |nil=>intro j A h;cases h
   |cons B S ih =>
    intro j A h
    cases j<;>grind[getA,setA]
  rw[this S j _ J]
  exact s
 |some q =>
  obtain⟨i,u⟩:=q
  refine⟨_,rfl,?_⟩
  have e:=Yg l 0 i u hq
  rw[lS] at e
  rw[e]
  exact s.put J
theorem Sat.abf (s:Sat h S)(I:getA S j=some (gv id l c))(hu:P.underlying t=some (.map kt et)): lenV P h t (.map id)=some (.int .i64 (l.length:Int)):=by
 have J:=s.row I
 simp_all[lenV]
end
section
variable {z:Operand} {a b v:V}
theorem OpR.upd (J:∀env,jI env E→evOp C (ev C 0) env h o=(match mapUpdateV C.P h t a b v with|some h'=>some (cu,h')|none=>none))
 (ho:∃h₁,mapUpdateV C.P h t a b v=some h₁∧Sat h₁ S'): OpR C E h o fun _ h₁=>Sat h₁ S':=by
 obtain⟨h₁,e1,I⟩:=ho
 exact⟨cu,h₁,I,fun env he=>⟨0,by grind⟩⟩
theorem OpR.mapUpdate (I:o.op=.mapUpdate t x y z)(J:bB E x=some a)(hy:bB E y=some b)(hz:bB E z=some v)
 (ho:∃h₁,mapUpdateV C.P h t a b v=some h₁∧Sat h₁ S'): OpR C E h o fun _ h₁=>Sat h₁ S':=by
 refine OpR.upd (t:=t) (a:=a) (b:=b) (v:=v) (fun env he => ?_) ho
 simp only[evOp,I,bX he J,bX he hy,bX he hz,sQ]
 cases mapUpdateV C.P h t a b v<;>rfl
theorem OpR.builtin {bi:Builtin}{R:V→H→Prop}(I:o.op=.call cl)(J:cl.callee=.builtin bi)(ha:lookArgs E cl.args.toList=some args)(ho:∃v h₁,builtinV C.P h bi cl.argTypes args=some (v,h₁)∧R v h₁): OpR C E h o R:=by
 grind[OpR.of,opE]
theorem OpR.qy {m:List Nat}(hP:C.P=Tryz.prog)(s:Sat h (aV v l::X::S))(hX:cQ X (cW u m))(I:o.op=.call cl)(hc:cl.callee=.builtin .append)(J:cl.argTypes = #[28,28])(ha:lookArgs E cl.args.toList=some [v,u])
 (fU:l.length+m.length≤140737488355328): OpR C E h o fun v' h₁=>Sat h₁ (aV v' (l++m)::X::S):=by
 grind[Dc,OpR.builtin,builtinV]
theorem OpR.um (J:C.P=Tryz.prog)(s:Sat h S)(I:o.op=.makeSlice t x y)(ht:t=28)(hx:bB E x=some (.int .i64 0))(hy:bB E y=some (.int .i64 (c:Int)))(hc:c<1073741824): OpR C E h o fun v' h₁=>Sat h₁ (aV v' []::S):=by
 grind[FI,OpR.of,s_]
theorem OpR.gN (J:C.P=Tryz.prog)(s:Sat h S)(I:o.op=.makeSlice t x y)(ht:t=28)(hx:bB E x=some (.int .i64 (c:Int)))(hy:bB E y=some (.int .i64 (c:Int)))(hc:c<1073741824): OpR C E h o fun v' h₁=>Sat h₁ (aV v' (List.replicate c 0)::S):=by
 grind[OU,OpR.of,s_]
theorem OpR.Um {m:List Nat}{p:Nat}(hP:C.P=Tryz.prog)(s:Sat h (aV v l::X::S))(hX:cQ X (cW u m))(I:o.op=.call cl)(hc:cl.callee=.builtin .copy)(J:cl.argTypes = #[28,28])(ha:lookArgs E cl.args.toList=some [slR v p q,u])
 (hpq:p<q)(hq:q≤l.length)(hm:1≤m.length): OpR C E h o fun _ h₁=>Sat h₁ (aV v (bp l p (m.take (q-p)))::X::S):=by
 grind[Ca,OpR.builtin,builtinV]
theorem OpR.GW (J:C.P=Tryz.prog)(s:Sat h S)(I:o.op=.buildSlice t 1 ps)(ht:t=28)(hx:lookParts E ps.toList=some [(0,.int .u8 (n:Int))])(hn:n<256): OpR C E h o fun v' h₁=>Sat h₁ (aV v' [n]::S):=by
 grind[OV,OpR.of,nk]
end
section
def lookL (n:Int): List (Int×α)→Option α
 |[]=>none
 |e::l=>if e.1=n then some e.2 else lookL n l
def cG (n:Int)(a:α): List (Int×α)→List (Int×α)
 |[]=>[(n,a)]
 |e::l=>if e.1=n then(n,a)::l else e::cG n a l
def oD (n:Int): List (Int×α)→List (Int×α)
 |[]=>[]
 |e::l=>if e.1=n then l else e::oD n l
theorem gD {n k:Int}{a:α}: ∀l:List (Int×α),lookL k (cG n a l)=if n=k then some a else lookL k l:=by
 intro l
 induction l<;>grind[cG,lookL]
theorem f_ {n:Int}: ∀ {l:List (Int×α)},lookL n l=none↔n∉l.map (·.1):=by
 intro l
 induction l<;>grind[lookL]
theorem FN {n k:Int}: ∀ {l:List (Int×α)},(l.map (·.1)).Nodup→lookL k (oD n l)=if n=k then none else lookL k l:=by
 intro l
 induction l<;>grind[oD,lookL,f_]
theorem o_ {n:Int}{a:α}: ∀ {l:List (Int×α)} {k:Int},k∈(cG n a l).map (·.1)↔k=n∨k∈l.map (·.1):=by
 intro l
 induction l<;>grind[cG]
theorem jd {n:Int}{a:α}: ∀ {l:List (Int×α)},(l.map (·.1)).Nodup→((cG n a l).map (·.1)).Nodup:=by
 intro l
 induction l<;>grind[cG,o_]
theorem RP {n:Int}: ∀ {l:List (Int×α)} {k:Int},k∈(oD n l).map (·.1)→k∈l.map (·.1):=by
 intro l
 induction l<;>grind[oD]
theorem xD {n:Int}: ∀ {l:List (Int×α)},(l.map (·.1)).Nodup→((oD n l).map (·.1)).Nodup:=by
 intro l
 induction l<;>grind[oD,RP]
def eV (f:V→α→aO): cm→List (Int×α)→aO
 |[],[]=>.pu True
 |e::l,x::m=>.an (.an (.pu (e.1=x.1)) (f e.2.1 x.2)) (eV f l m)
 |_,_=>.pu False
variable {f:V→α→aO} {a b:PM}
theorem tc : ∀ {l:cm} {m:List (Int×α)},(eV f l m).p a b→l.map (·.1)=m.map (·.1):=by
 intro l
 induction l with
 |nil=>intro m h;cases m with
  |nil=>rfl
  |cons x m=>exact h.elim
 |cons e l I=>intro m h;cases m with
  |nil=>exact h.elim
  |cons x m=>simp only[iu];rw[h.1.1,I h.2]
theorem tf {n:Int}: ∀ {l:cm} {m:List (Int×α)},(eV f l m).p a b→(lookE n l=none∧lookL n m=none)∨∃u x,lookE n l=some u∧lookL n m=some x∧(f u x).p a b:=by
 intro l
 induction l with
 |nil=>intro m h;cases m with
  |nil=>exact .inl ⟨rfl,rfl⟩
  |cons x m=>exact h.elim
 |cons e l J=>intro m h;cases m with
  |nil=>exact h.elim
  |cons x m =>
   obtain⟨⟨I,h2⟩,h3⟩:=h
   have I:e.1=x.1:=I
   grind[lookE,lookL]
theorem FO {n:Int}{x:α}(hu:(f u x).p a b): ∀ {l:cm} {m:List (Int×α)},(eV f l m).p a b→(eV f (j8 n u c l) (cG n x m)).p a b:=by
 intro l
 induction l with
 |nil=>intro m h;cases m with
  |nil=>exact⟨⟨rfl,hu⟩,aa⟩
  |cons x m=>exact h.elim
 |cons e l ih=>intro m h;cases m with
  |nil=>exact h.elim
  |cons y m =>
   obtain⟨⟨I,h2⟩,J⟩:=h
   have I:e.1=y.1:=I
   simp only[j8,cG,←I]
   by_cases he:e.1=n
   ·rw[aJ he,aJ he];exact⟨⟨he,hu⟩,J⟩
   ·rw[ak he,ak he];exact⟨⟨I,h2⟩,ih J⟩
theorem OY {n:Int}: ∀ {l:cm} {m:List (Int×α)},(eV f l m).p a b→(eV f (nm n l) (oD n m)).p a b:=by
 intro l
 induction l with
 |nil=>intro m h;cases m with
  |nil=>trivial
  |cons x m=>exact h.elim
 |cons e l J=>intro m h;cases m with
  |nil=>exact h.elim
  |cons y m =>
   obtain⟨⟨I,h2⟩,h3⟩:=h
   have I:e.1=y.1:=I
   simp only[nm,oD,←I]
   by_cases he:e.1=n
   ·grind
   ·rw[ak he,ak he];exact⟨⟨I,h2⟩,J h3⟩
theorem aY.HR (I:∀u x,aY (f u x)): ∀(l:cm) (m:List (Int×α)),aY (eV f l m):=by
 intro l
 induction l with
 |nil=>intro m;cases m<;>exact aY.pu _
 |cons e l J=>intro m;cases m with
  |nil=>exact aY.pu _
  |cons x m=>exact aY.an (aY.an (aY.pu _) (I _ _)) (J m)
def fh (c:Nat): Nat→cm→Prop
 |_,[]=>True
 |b,e::l=>b≤e.2.2∧e.2.2<c∧fh c (e.2.2+1) l
theorem Dg : ∀ {l:cm} {b I:Nat},I≤b→fh c b l→fh c I l:=by
 intro l
 cases l with
 |nil=>intro b I _ _;trivial
 |cons e l=>intro b I h J;exact⟨bT h J.1,J.2⟩
theorem zH {k:Int}(hn:n=c): ∀ {l:cm} {b:Nat},b≤c→fh c b l→fh (clkE k c l) b (j8 k u n l):=by
 subst hn
 intro l
 induction l with
 |nil=>intro b J _;exact⟨J,vW _,aa⟩
 |cons e l ih =>
  intro b J h
  have I:=ih (b:=e.2.2+1) (by have:=h.2.1;omega) h.2.2
  by_cases he:e.1=k
  ·simp only[j8,clkE,lookE,aJ he];exact h
  ·simp only[j8,clkE,lookE,ak he]
   refine⟨h.1,?_,I⟩
   have:=h.2.1
   split<;>omega
theorem OZ {k:Int}: ∀ {l:cm} {b:Nat},fh c b l→fh c b (nm k l):=by
 intro l
 induction l with
 |nil=>intro b h;exact h
 |cons e l I =>
  intro b h
  simp only[nm]
  by_cases he:e.1=k
  ·rw[aJ he];exact Dg (by have:=h.1;omega) h.2.2
  ·rw[ak he];exact⟨h.1,h.2.1,I h.2.2⟩
def ju (f:V→α→aO)(v:V)(m:List (Int×α)): aO :=
 xs fun id:Nat=>xs fun l:cm=>xs fun c:Nat=>star [.pu (v=.map id∧fh c 0 l∧(m.map (·.1)).Nodup),gv id l c,eV f l m]
section
variable {v:V} {k:IntKind} {m:List (Int×α)} {n:Int} {x:α}
theorem eH : Sat h (ju f v m::S)↔∃id l c,v=.map id∧fh c 0 l∧(m.map (·.1)).Nodup∧Sat h (gv id l c::eV f l m::S):=by
 simp[ju,ic,br,eR,and_assoc]
theorem mC (hf:∀u x,aY (f u x))(s:Sat h (ju f v m::S))(hu:P.underlying t=some (.map kt et))(I:P.underlying kt=some (.int k))(J:zeroT P et=some z):
  (lookL n m=none∧fN P h t v (.int .i64 n) true=some (.bf [z,.bool false])∧fN P h t v (.int .i64 n) false=some z) ∨
  ∃u x,lookL n m=some x∧fN P h t v (.int .i64 n) true=some (.bf [u,.bool true])∧fN P h t v (.int .i64 n) false=some u∧Sat h (f u x::ju f v m::S):=by
 obtain⟨id,l,c,rfl,hb,hn,s1⟩:=eH.1 s
 have e2:=s1.Ul (n:=n) (j:=0) rfl hu I J
 have e1:=s1.aaj (n:=n) (j:=0) rfl hu I J
 obtain⟨a,b,q1,q2,q3⟩:=s1.at (k:=1) rfl
 rcases tf (n:=n) q3 with⟨g1,g2⟩|⟨u,x,g1,g2,g3⟩
 ·grind
 ·rw[g1] at e1 e2
  refine .inr ⟨u,x,g2,e2,e1,?_⟩
  have s2:Sat h (eV f l m::gv id l c::S):=s1.qw [1]
  have s3:=s2.dup (aY.HR hf l m)
  have s4:Sat h (f u x::eV f l m::gv id l c::S):=s3.gX fun a' b' h'=>by
   grind[tf]
  have s5:Sat h (gv id l c::eV f l m::f u x::S):=s4.qw [2,1]
  exact(eH.2 ⟨id,l,c,rfl,hb,hn,s5⟩:Sat h (ju f (.map id) m::f u x::S)).qw [1]
theorem pn (I:∀u x,aY (f u x))(s:Sat h (f u x::ju f v m::S))(hu:P.underlying t=some (.map kt et))(J:P.underlying kt=some (.int k)):
  ∃h',mapUpdateV P h t v (.int .i64 n) u=some h'∧Sat h' (ju f v (cG n x m)::S):=by
 have s0:Sat h (ju f v m::f u x::S):=s.qw [1]
 obtain⟨id,l,c,rfl,hb,hn,s1⟩:=eH.1 s0
 obtain⟨h',e1,e2⟩:=s1.update (n:=n) (v:=u) (j:=0) rfl hu J
 refine⟨h',e1,?_⟩
 have e3:Sat h' (f u x::eV f l m::gv id (j8 n u c l) (clkE n c l)::S):=e2.qw [2,1]
 have e4:Sat h' (eV f (j8 n u c l) (cG n x m)::gv id (j8 n u c l) (clkE n c l)::S):=e3.map fun a b h=>by
  obtain⟨p1,p2,d1,d2,d3,d4,p3,p4,d5,d6,d7,d8,d9⟩:=h
  exact⟨fun _=>none,p4,fun _=>.inl rfl,fun _ _ h=>(by cases h),PM.le_trans d7 d3,FO (I _ _ _ _ d4) (aY.HR I _ _ _ _ d8),d9⟩
 exact eH.2 ⟨id,_,_,rfl,zH rfl (fX _) hb,jd hn,e4.qw [1]⟩
theorem RQ (s:Sat h (ju f v m::S))(hu:P.underlying t=some (.map kt et))(I:P.underlying kt=some (.int k)):
  ∃h',m_ P h t v (.int .i64 n)=some h'∧Sat h' (ju f v (oD n m)::S):=by
 obtain⟨id,l,c,rfl,J,hn,s1⟩:=eH.1 s
 obtain⟨h',e1,e2⟩:=s1.delete (n:=n) (j:=0) rfl hu I
 refine⟨h',e1,?_⟩
 have e3:Sat h' (eV f l m::gv id (nm n l) c::S):=e2.qw [1]
 have e4:Sat h' (eV f (nm n l) (oD n m)::gv id (nm n l) c::S):=e3.gX fun a b h=>OY h
 exact eH.2 ⟨id,_,_,rfl,OZ J,xD hn,e4.qw [1]⟩
theorem HS (s:Sat h (ju f v m::S))(hu:P.underlying t=some (.map kt et)): lenV P h t v=some (.int .i64 (m.length:Int)):=by
 obtain⟨id,l,c,rfl,J,hn,s1⟩:=eH.1 s
 have e:=s1.abf (j:=0) rfl hu
 obtain⟨a,b,q1,q2,I⟩:=s1.at (k:=1) rfl
 have:=iO List.length (tc I)
 grind
theorem uo (s:Sat h (pt id (.map [] 0)::S)): Sat h (ju f (.map id) []::S):=by
 have s1:Sat h (eV f [] []::pt id (.map [] 0)::S):=s.gM aa
 exact eH.2 ⟨id,[],0,rfl,aa,by simp,s1.qw [1]⟩
theorem Dh (s:Sat h S)(I:getA S j=some (ju f v m)): ∃id,v=.map id:=by
 have s1:=s.take j I
 grind[eH]
end
end
theorem OpR.delete {u:TypeId}{m k:V}(I:o.op=.call cl)(J:cl.callee=.builtin .delete)(hty:cl.argTypes = #[t,u])(ha:lookArgs E cl.args.toList=some [m,k])
 (ho:∃h₁,m_ C.P h t m k=some h₁∧Sat h₁ S'): OpR C E h o fun _ h₁=>Sat h₁ S':=by
 obtain⟨h₁,e1,e2⟩:=ho
 refine OpR.builtin I J ha ⟨.bf [],h₁,?_,e2⟩<;>grind[builtinV]
end Go.Proofs.YtefepnnfphdkpaaGreat.Am
