/- ChainDies: a part of its proof; conditions: its statement's. -/
import Derived.Test.YtefepnnfphdkpaaGreatH01
import Derived.Scope
import Derived.Test.YtefepnnfphdkpaaGreatProg
import Derived.KernelRfl
import Derived.Shelf.SlIterI.Sorted
import Derived.Defers
import Derived.Recover
set_option linter.defProp false
namespace Go.Proofs.YtefepnnfphdkpaaGreat.Am
open Go
def aK:=@Tryz.underlying28
def Dm:=@Tryz.func178
abbrev cR:=Nat→Option (List V→H→Option (V×H))
variable {ps:Array (Nat×Operand)} {ops:Array Oper} {C:fc} {code:Code} {c₀:Ctx} {env:Env} {Q:Ex→List (Nat×V)→H→Prop} {fn:Func} {f:FuncId} {h h' σ h₁ dz:H} {E E':List (Nat×V)} {R:List (Nat×V)→H→Prop} {d₀:List Deferred} {hs:List H} {eO es l:List Nat} {L rest:List Oper} {args first cap vs cs ds:List V} {a b i c k id n d off j g nZ k' q:Nat} {Hs:Nat→H} {early:Nat→Option (Nat×FV)} {Fl:Nat→Prop} {vv:Nat→V} {o':Obj} {o:Oper} {x y:Operand} {P:Program} {φ:Prop} {self:Self} {s s':St} {α:Type} {td:TypeDesc} {t t' e kt et:TypeId} {r u z:V} {z7:V→H→Prop} {w₀:World}
theorem S0 {a b:IntKind}(h:ikBeq a b=true): a=b:=by cases a<;>cases b<;>first|rfl|(simp[ikBeq] at h)
theorem vp {a b:Int}(h:intBeq a b=true): a=b:=by
 cases a<;>cases b<;>simp[intBeq] at h<;>rw[h]
theorem Dn : ∀ {a b:List Nat},natsBeq a b=true→a=b
 |[],[],_=>rfl
 |[],_::_,h=>by simp[natsBeq] at h
 |_::_,[],h=>by simp[natsBeq] at h
 |x::a,y::b,h=>by
  simp only[natsBeq] at h
  cases I:Nat.beq x y with
  |false=>grind
  |true=>rw[I,aj] at h;rw[beq_iff.1 I,Dn h]
theorem PI {a b:Cap}(h:a.beq b=true): a=b:=by
 cases a<;>cases b<;>simp[Cap.beq] at h
 ·rw[h]
 ·grind
mutual
theorem Fg : ∀(a b:V),V.beq a b=true→a=b
 |.bool a,b,h=>by cases b<;>simp[V.beq] at h;rw[h]
 |.int j a,b,h=>by
  cases b<;>simp[V.beq] at h
  rw[S0 h.1,vp h.2]
 |.str a,b,h=>by cases b<;>simp[V.beq] at h;rw[Dn h]
 |.b_,b,h=>by cases b<;>simp[V.beq] at h;rfl
 |.ptr x y,b,h=>by cases b<;>simp[V.beq] at h;rw[h.1,h.2]
 |.a_,b,h=>by cases b<;>simp[V.beq] at h;rfl
 |.sl x y z u,b,h=>by
  cases b<;>simp[V.beq] at h
  rw[h.1.1.1,h.1.1.2,h.1.2,PI h.2]
 |.lC,b,h=>by cases b<;>simp[V.beq] at h;rfl
 |.map x,b,h=>by cases b<;>simp[V.beq] at h;rw[h]
 |.fn f x y,b,h=>by
  cases f with
  |func k=>cases b with
   |fn g u v=>cases g with
    |func j =>
     simp[V.beq] at h
     rw[h.1.1,uL x u h.1.2,uL y v h.2]
    |_=>simp[V.beq] at h
   |_=>simp[V.beq] at h
  |_=>cases b<;>simp[V.beq] at h
 |.F2,b,h=>by cases b<;>simp[V.beq] at h;rfl
 |.iface t v,b,h=>by
  cases b<;>simp[V.beq] at h
  rw[h.1,Fg v _ h.2]
 |.jQ,b,h=>by cases b<;>simp[V.beq] at h;rfl
 |.agg l,b,h=>by cases b<;>simp[V.beq] at h;rw[uL l _ h]
 |.bf l,b,h=>by cases b<;>simp[V.beq] at h;rw[uL l _ h]
 |.yO _,b,h=>by cases b<;>simp[V.beq] at h
 |.sle a,b,h=>by cases b<;>simp[V.beq] at h;rw[h]
 |.uz k x,b,h=>by
  cases b with
  |uz j y =>
   simp[V.beq] at h
   rw[h.2]
   cases k<;>cases j<;>first|rfl|(simp[fkBeq] at h)
  |_=>simp[V.beq] at h
theorem uL : ∀(a b:List V),V.beqL a b=true→a=b
 |[],b,h=>by cases b<;>simp[V.beqL] at h;rfl
 |x::a,b,h=>by
  cases b with
  |nil=>simp[V.beqL] at h
  |cons y b =>
   simp only[V.beqL] at h
   cases I:V.beq x y with
   |false=>rw[I] at h;cases h
   |true=>rw[I,aj] at h;rw[Fg x y I,uL a b h]
end
theorem Fh {m:Nat}: ∀(es:List Nat),(∀idx p,idx<lD m es→es[idx]?=some p→bit m p=true)∧lD m es≤es.length:=by
 intro es
 induction es<;>grind[lD]
theorem S1 {m:Nat}: ∀(es:List Nat),qL m es=true→∀(I J p q:Nat),I≤J→es[I]?=some p→es[J]?=some q→bit m q=true→bit m p=true:=by
 intro es
 induction es<;>grind[qL]
theorem LW : ∀(es:List Nat),oR eO i es≤es.length∧∀p,es[oR eO i es]?=some p→bit ((nth eO p).getD 0) i=true:=by
 intro es
 induction es<;>grind[oR]
section
theorem PJ {x:Env×V}: ∀(l:List H),sameIn C self L o x l=true→wantedV L x.1 o=true→∀h∈l,∃h',evOp C self x.1 h o=some (x.2,h'):=by
 intro l
 induction l with
 |nil=>simp
 |cons y l I =>
  intro hs hw h hm
  simp only[sameIn,hw,aj] at hs
  cases he:evOp C self x.1 y o with
  |none=>grind
  |some r =>
   grind[Fg]
theorem Gb : ∀(l:List Oper) (tr:List (Env×V)) (k:Nat),stayOk C self L eO es hs l tr k=true →
  ∀j o x,l[j]?=some o→tr[j]?=some x→isEff C o.op=false →
   qL ((nth eO (k+j)).getD 0) es=true∧(lD ((nth eO (k+j)).getD 0) es=oR eO (k+j) es ∨
    sameIn C self L o x ((hs.drop (lD ((nth eO (k+j)).getD 0) es)).take (oR eO (k+j) es+1-lD ((nth eO (k+j)).getD 0) es))=true):=by
 intro l
 induction l with
 |nil=>simp
 |cons y l I =>
  intro tr k h j o x ho J he
  cases tr with
  |nil=>grind
  |cons z tr =>
   simp only[stayOk] at h
   cases j<;>grind[beq_iff]
theorem WQ {ops:List Oper}: ∀(l:List Oper) (tr:List (Env×V)),allW ops l tr=true→∀(i:Nat) (o:Oper) (x:Env×V),l[i]?=some o→tr[i]?=some x→isAlloc true o=true→wantedV ops x.1 o=true:=by
 intro l
 induction l with
 |nil=>simp
 |cons y l I =>
  intro tr h i o x ho J ha
  cases tr<;>grind[allW]
theorem Hr (h:isAlloc false o=true): isAlloc true o=true∧o.guard=none:=by
 grind[isAlloc]
theorem S2 {z:St}(hr:qM C self L s=some z):
    ∃Fl st vv Hs,iP C self Fl L s st vv (eP C L 0) Hs∧st L.length=z∧L.all (fun o => !HX o.op)=true:=by
  unfold qM at hr
  cases htr:trace C self L L s [s.h] with
  |none=>grind
  |some q =>
      obtain⟨tr,hs,z'⟩:=q
      simp only[htr] at hr
      cases J:stayOk C self L (ancs L []) (eP C L 0) hs L tr 0 with
      |false=>grind
      |true =>
        rw[J,aj] at hr
        obtain⟨fl,fX,hW,hr⟩:∃fl,pN C fl L=true∧(∀(i:Nat) (o:Oper) (x:Env×V),L[i]?=some o→tr[i]?=some x→isAlloc fl o=true→isAlloc true o=true∧wantedV L x.1 o=true)∧z'=z:=by
          cases h0:pN C false L with
          |true =>
            rw[h0,aj] at hr
            refine⟨false,h0,fun i o x _ _ ha => ?_,cA hr⟩<;>grind[Hr,wantedV]
          |false =>
            grind[WQ]
        subst hr
        simp only[pN,bQ] at fX
        obtain⟨⟨⟨s1,s2⟩,s3⟩,s4⟩:=fX
        obtain⟨st,t1,t2,t3,t4,t5⟩:=SY L 0 s [s.h] tr hs z' htr
        simp only[gG] at t2 t5
        have Vl:∀i o,L[i]?=some o→∀e∈o.after,gZ e=true→e.on<i:=fun i o ho e he hb=>by
          have:=Im L 0 s1 i o ho e he hb;omega
        have aea:∀i o,L[i]?=some o→∀j,bit ((nth (ancs L []) i).getD 0) j=true→j<i:=fun i o ho j hj =>
          (Il Vl (fun _=>True) i o ho (fun _ _ _ _ _ _ _ _=>trivial) (fun _ _ _=>trivial) j hj).2
        have I:=(zZ (C:=C) L 0).1
        have LP:∀p,p∈eP C L 0↔∃o,L[p]?=some o∧isEff C o.op=true:=fun p=>by
          grind[PA]
        have hHs:∀k p,(eP C L 0)[k]?=some p→hs[k+1]?=some (st (p+1)).h:=fun k p hp=>by
          grind
        have hH0:hs[0]?=some s.h:=by grind
        have adZ:hs.length=(eP C L 0).length+1:=by grind
        have tN:∀i o,L[i]?=some o→∃h,(st i).put o.dst (((tr[i]?).map (·.2)).getD ct) h=some (st (i+1)) ∧
            (wantedV L (st i).env o=true→evOp C self (st i).env (st i).h o=some (((tr[i]?).map (·.2)).getD ct,h))∧(wantedV L (st i).env o=false→((tr[i]?).map (·.2)).getD ct=ct∧h=(st i).h):=fun i o ho=>by
          grind
        -- all but 'same'; it is wanted for 'heapAt'
        have aeb:(∀i o,L[i]?=some o→isEff C o.op=false→∀k,k≤(eP C L 0).length→(∀idx p,idx<k→(eP C L 0)[idx]?=some p→bit ((nth (ancs L []) p).getD 0) i=false) →
              (∀idx p,k≤idx→(eP C L 0)[idx]?=some p→bit ((nth (ancs L []) i).getD 0) p=false) →
              wantedV L (st i).env o=true→∃h',evOp C self (st i).env ((hs[k]?).getD s.h) o=some (((tr[i]?).map (·.2)).getD ct,h')) →
            iP C self (fun i=>∃o,L[i]?=some o∧isAlloc fl o=true) L s st (fun i=>((tr[i]?).map (·.2)).getD ct) (eP C L 0) (fun k=>(hs[k]?).getD s.h):=fun Ng =>
          { back:=Vl
            Nq:=fun j o ho i x hi hx=>by
              have:=No L 0 s2 j o ho i x (by omega) hx
              grind
            Bp:=fun i o ho ⟨o',BX,ha⟩=>by
              grind
            PC:=fun i o ho ⟨o',BX,ha⟩ j u hu cI=>by
              rw[ho] at BX
              obtain rfl:=cA BX
              rcases KL L 0 s3 i o ho ha j u hu (by omega) with h|h<;>grind[PB]
            sG:=LP
            sorted:=I
            start:=t1
            step:=tN
            Nr:=by grind
            Dh:=fun k p hp=>by grind
            gap:=fun i o ho he=>by
              obtain⟨v,h,e1,_⟩:=t5 i o ho
              have:=(Gb L tr 0 J i o _ ho e1 he).1
              grind[S1]
            same:=Ng }
        refine⟨_,st,_,_,aeb ?_,t2,s4⟩
        intro i o ho he k hk h1 h2 hw
        obtain⟨v,h,e1,e2,e3,e4⟩:=t5 i o ho
        obtain⟨g1,g2⟩:=Gb L tr 0 J i o _ ho e1 he
        simp only[gG] at g1 g2
        have ace:lD ((nth (ancs L []) i).getD 0) (eP C L 0)≤k:=wA fun cI=>by
          obtain⟨p,hp⟩:∃p,(eP C L 0)[k]?=some p:=⟨_,bx (by have:=(Fh (m:=(nth (ancs L []) i).getD 0) (eP C L 0)).2;omega)⟩<;>grind[Fh]
        have aec:k≤oR (ancs L []) i (eP C L 0):=wA fun cI=>by
          grind[LW]
        have SM:((tr[i]?).map (·.2)).getD ct=v:=by grind
        rw[SM]
        rcases g2 with g2|g2
        · -- its place is known
          have vi:(st i).h=(hs[k]?).getD s.h:=by
            have H9:k=oR (ancs L []) i (eP C L 0):=by omega
            have cI:∀idx p,idx<k→(eP C L 0)[idx]?=some p→p<i:=fun idx p cI hp=>by
              grind[Fh]
            have Y2:∀idx p,k≤idx→(eP C L 0)[idx]?=some p→i≤p:=fun idx p hle hp=>by
              obtain⟨q,hq⟩:∃q,(eP C L 0)[k]?=some q:=⟨_,bx (by grind)⟩
              have hb:=(LW (eO:=ancs L []) (i:=i) (eP C L 0)).2 q (by grind)
              obtain⟨x,hx,_⟩:=(LP q).1 (bD hq)<;>grind[List.pairwise_iff_getElem]
            exact Di (Hs:=fun k=>(hs[k]?).getD s.h) tN (fun p=>LP p) I t1 (by grind) (fun k p hp=>by grind) i k (by grind) hk cI Y2
          rw[←vi]
          exact⟨h,e3 hw⟩
        · have hm:(hs[k]?).getD s.h∈(hs.drop (lD ((nth (ancs L []) i).getD 0) (eP C L 0))).take (oR (ancs L []) i (eP C L 0)+1-lD ((nth (ancs L []) i).getD 0) (eP C L 0)):=by
            have acf:k<hs.length:=by omega
            refine bD (i:=k-lD ((nth (ancs L []) i).getD 0) (eP C L 0)) ?_
            rw[EM,aP (by omega),List.getElem?_drop,Nat.add_sub_cancel' ace,bx acf]
            simp
          exact PJ _ g2 hw _ hm
theorem WT {S:Nat→Prop}(hb:∀i o,L[i]?=some o→∀e∈o.after,gZ e=true→e.on<i)(I:∀i o,¬ lU L S i o): ∀i,i<L.length→S i:=by
 intro i
 induction i using Nat.strongRecOn with
 |_ i ih =>
  intro hi
  refine v_ fun J => ?_
  refine I i L[i] ⟨bx hi,J,fun e he Vm => ?_⟩<;>grind
theorem iz.done {st:Nat→St}{c:Ctx}{w:World}{S:Nat→Prop}{a:Act}
 (D:iP C self Fl L s st vv es Hs)(I:iz C self Fl L s st vv es Hs c₀ w₀ d₀ S early k c a w)(kI:∀p,es[k]?=some p→¬ S p)(qO:∀i,i<L.length→S i):
  Rel c (st L.length).h w∧dH c (st L.length).env (st L.length).au a:=by
 have cI:∀p∈es,p<L.length:=fun p J=>by
  obtain⟨o,ho,_⟩:=(D.sG p).1 J<;>grind
 have adH:∀p,early p=none:=fun p=>by
  cases h:early p with
  |none=>rfl
  |some b =>
   obtain⟨_,idx,h1,h2⟩:=I.uo p b h<;>grind
 refine⟨?_,?_⟩
 ·rw[D.Io L.length k (aU _) I.LQ (fun idx p _ J=>cI p (bD J)) (fun idx p hle J=>by grind)]
  exact I.rel
 ·have hv:∀t,a.tmps.getD t undef=conc c ((st L.length).env.v t)∧wf c ((st L.length).env.v t):=fun t=>by
   rcases I.tmp t with⟨i,o,g1,g2,g3,g4,g5⟩|⟨g1,g2,g3⟩
   ·have:(st L.length).env.v t=vv i:=by
     rcases D.HG t L.length (aU _) with⟨j,oj,h1,h2,h3,h4,h5⟩|⟨h1,_⟩<;>grind
    rcases g5 with⟨b,e1,_⟩|⟨_,e2,e3⟩
    ·grind
    ·grind
   ·have:(st L.length).env.v t=s.env.v t:=by
     rcases D.HG t L.length (aU _) with⟨j,oj,h1,h2,h3,h4,h5⟩|⟨_,h⟩<;>grind
    rw[this];exact⟨g2,g3⟩
  exact⟨by rw[I.size,D.au L.length (aU _)],fun t=>(hv t).1,fun t=>(hv t).2⟩
theorem iz.congr {st:Nat→St}{c:Ctx}{w:World}{S S':Nat→Prop}{a:Act}
 (I:iz C self Fl L s st vv es Hs c₀ w₀ d₀ S early k c a w)(h:∀j,S j↔S' j): iz C self Fl L s st vv es Hs c₀ w₀ d₀ S' early k c a w:=by
 have:S=S':=funext fun j=>propext (h j)
 rw[←this];exact I
theorem S3 (hS:jo C.P self)(hT:fq C){r:Option Nat}(hL:ops.toList=L){Q:Exit→Act→World→Prop}{st:Nat→St}(D:iP C self Fl L s st vv es Hs)
 (hQ:∀c a w,Rel c (st L.length).h w→dH c (st L.length).env (st L.length).au a→cF c₀ w₀ c w→a.defers=d₀→Q .normal a w):
  ∀(fuel:Nat) (J:Array Bool) (early:Nat→Option (Nat×FV)) (k:Nat) (c:Ctx) (a:Act) (w:World),J.size=L.length→J.count false≤fuel →
   iz C self Fl L s st vv es Hs c₀ w₀ d₀ (fun j=>J.getD j false=true) early k c a w→wpAnyIn (Fr r) 0 C.P .any ops Q fuel J a w:=by
 intro fuel
 induction fuel with
 |zero =>
  intro J early k c a w fC acg I
  have qO:∀i,i<L.length→J.getD i false=true:=fun i hi=>by
   have h0:J.count false=0:=by omega
   have:false∉J:=Array.count_eq_zero.1 h0
   rw[v8,ED (by omega)]
   grind
  obtain⟨nY,k',c',I',kI⟩:=iz.Ga D (es.length-k) k early c rfl I
  obtain⟨r1,r2⟩:=I'.done D kI qO
  refine⟨?_,hQ c' a w r1 r2 I'.LS I'.defers⟩
  refine List.eq_nil_iff_forall_not_mem.2 fun j hj => ?_
  obtain⟨h1,o,h2,_⟩:=mem_ready.1 hj
  have cI:j<L.length:=by grind
  have h3:=qO j cI
  rw[v8,ED (by omega)] at h1 h3
  simp at h1 h3
  rw[h1] at h3;cases h3
 |succ fuel ih =>
  intro J early k c a w fC acg I
  obtain⟨nY,k',c',I',kI⟩:=iz.Ga D (es.length-k) k early c rfl I
  have Y3:∀j,j∈Region.ready .any ops J↔∃o,lU L (fun j=>J.getD j false=true) j o:=fun j=>by
   rw[mem_ready]
   constructor
   ·rintro⟨h1,o,h2,h3⟩
    refine⟨o,by grind,fun h4 => ?_,fun e he hb=>h3 e he ?_⟩
    ·grind
    ·rw[←hb];cases e;rename_i on g;cases g<;>rfl
   ·rintro⟨o,R⟩
    have h2:=R.at_
    rw[←hL,lY] at h2
    refine⟨?_,o,h2,fun e he hb=>R.Nu e he ?_⟩
    ·have cI:j<J.size:=by grind
     have h4:=R.not
     grind
    ·rw[←hb];cases e;rename_i on g;cases g<;>rfl
  refine⟨fun xR => ?_,fun i hi => ?_⟩
  ·have qO:=WT (S:=fun j=>J.getD j false=true) D.back (fun i o R=>by
    grind)
   obtain⟨r1,r2⟩:=I'.done D kI qO
   exact hQ c' a w r1 r2 I'.LS I'.defers
  ·obtain⟨o,R⟩:=(Y3 i).1 hi
   have cI:i<J.size:=by rw[fC];exact(List.getElem?_eq_some_iff.1 R.at_).1
   have adI:J[i]=false:=by
    have:=R.not
    rw[v8,ED cI] at this
    simpa using this
   refine I'.Y0 hS hT hL D kI R ?_
   intro WU k'' tD yT zX I''
   refine ih (J.setIfInBounds i true) WU k'' tD yT zX (by grind) ?_ (I''.congr fun j => ?_)
   ·grind
   ·by_cases yU:j=i
    ·subst yU
     simp[v8,cI]
    simp_all[qi]
theorem PK (hS:jo C.P self)(hT:fq C)(hm:C.P.follows .mixedOrders=true){r:Option Nat}(hr:qM C self ops.toList s=some s'){Q:Exit→Act→World→Prop}{c:Ctx}{a:Act}{w:World}(h:Rel c s.h w)(he:dH c s.env s.au a)
 (hQ:∀c' J w',Rel c' s'.h w'→dH c' s'.env s'.au J→cF c w c' w'→J.defers=a.defers→Q .normal J w'):
  (Code.region id ops true).wpIn (Fr r) 0 C.P Q a w:=by
 obtain⟨Fl,st,vv,Hs,D,hz,_⟩:=S2 hr
 refine wpIn_region_any hm ?_
 have ach:cF c w c { w with drawn:=w.drawn+1 }:=cF.drew c w
 have tq:Rel c s.h { w with drawn:=w.drawn+1 }:=h.drew
 refine S3 hS hT rfl D (c₀:=c) (w₀:=w) (d₀:=a.defers) (fun c' J w' r1 r2 r3 r4=>hQ c' J w' (by grind) (by grind) r3 r4)
  ops.size (Array.replicate ops.size false) (fun _=>none) 0 c a _ (by simp) (by simp) ?_
 have I:∀j,¬ (Array.replicate ops.size false).getD j false=true:=fun j=>by
  rw[v8,Array.getElem?_replicate];split<;>simp
 refine⟨fun i o hi=>absurd hi (I i),fun idx p h=>by omega,fe _,fun idx p _ _ hp=>absurd hp (I p),(fun p b h=>by cases h),(by rw[D.Nr];exact tq),he.size,
  fun t=>.inr ⟨fun j o hj=>absurd hj (I j),he.val t,he.sC t⟩,(fun p b h=>by cases h),(fun p q b b' h=>by cases h),ach,rfl⟩
end
end Go.Proofs.YtefepnnfphdkpaaGreat.Am
namespace Go.Proofs.YtefepnnfphdkpaaGreat.Am
open Go
variable {ps:Array (Nat×Operand)} {ops:Array Oper} {C:fc} {code:Code} {c₀:Ctx} {env:Env} {Q:Ex→List (Nat×V)→H→Prop} {fn:Func} {f:FuncId} {h h' σ h₁ dz:H} {E E':List (Nat×V)} {R:List (Nat×V)→H→Prop} {d₀:List Deferred} {hs:List H} {eO es l:List Nat} {L rest:List Oper} {args first cap vs cs ds:List V} {a b i c k id n d off j g nZ k' q:Nat} {Hs:Nat→H} {early:Nat→Option (Nat×FV)} {Fl:Nat→Prop} {vv:Nat→V} {o':Obj} {o:Oper} {x y:Operand} {P:Program} {φ:Prop} {self:Self} {s s':St} {α:Type} {td:TypeDesc} {t t' e kt et:TypeId} {r u z:V} {z7:V→H→Prop} {w₀:World}
section
variable {b:Frame} {a:Act} {k:List Item} {cs:List Frame} {w:World}
theorem oZ {c:Code}: step P (lone (b.atR a (.code (.scope c)::k)) cs w)=.next (lone (b.atR a (.code c::.inScope c::k)) cs w) :=
 by rfl
theorem Ht {c:Code}: step P (lone (b.atR a (.inScope c::k)) cs w)=.next (lone (b.atR a k) cs w) :=
 by rfl
end
theorem Nv {r:Option Nat}{c:Code}{Q:Exit→Act→World→Prop}{a:Act}{w:World}(h:c.wpIn (Fr r) 0 P (Exit.noGoto Q) a w): (Code.scope c).wpIn (Fr r) 0 P Q a w:=by
 intro b k cs Y4 hb hr
 obtain⟨e,J,sE,hq,I⟩:=h b (.inScope c::k) cs Y4 hb hr
 cases e with
 |normal=>exact⟨.normal,J,sE,hq,.of_steps (.one (fenced_calm hb hr rfl) oZ) (StepsIn.trans I (.one (fenced_calm hb hr rfl) Ht))⟩
 |exit id=>exact⟨.exit id,J,sE,hq,.of_steps (.one (fenced_calm hb hr rfl) oZ) ⟨fun k' hk=>I.1 k' (by simpa[exitTo] using hk),fun hr hk=>I.2 hr (by simpa[exitTo] using hk)⟩⟩
 |goto l=>exact hq.elim
 |ret=>exact⟨_,J,sE,hq,.of_steps (.one (fenced_calm hb hr rfl) oZ) I⟩
 |panic ch=>exact⟨_,J,sE,hq,.of_steps (.one (fenced_calm hb hr rfl) oZ) I⟩
 |outgrown=>exact⟨_,J,sE,hq,.of_steps (.one (fenced_calm hb hr rfl) oZ) I⟩
def Dp (P:Program)(self:Self)(m:Nat): Prop:=∀(b:Code) (s:St) (ex:Ex) (s':St),self (.loop b) s=some (ex,s') →
 ∀(r:Option Nat) (c:Ctx) (a:Act) (w:World) (Q:Exit→Act→World→Prop),Rel c s.h w→dH c s.env s.au a →
  (∀e I w',(e=exOf ex∧I.defers=a.defers∧∃c',Rel c' s'.h w'∧dH c' s'.env s'.au I∧cF c w c' w')→Q e I w')→Code.roundsIn (Fr r) 0 P b Q m a w
section
theorem BZ {m:Nat}(hS:jo C.P self)(hL:Dp C.P self m): Dp C.P (evStep C self) (m+1):=by
 intro b s ex s' hr r c a w Q h he hQ
 unfold evStep at hr
 simp only at hr
 cases hb:self b s with
 |none=>grind
 |some q =>
  obtain⟨I,J⟩:=q
  rw[hb] at hr
  refine wpIn_mono (hS b s I J hb r c a w h he) ?_
  rintro e BN sE ⟨rfl,q2,c₁,q3,q4,q5⟩
  cases I with
  |normal =>
   refine hL b J ex s' hr r c₁ BN sE Q q3 q4 ?_
   rintro Dc Hq YR ⟨p1,p2,c₂,p3,p4,p5⟩
   exact hQ _ _ _ ⟨p1,by grind,c₂,p3,p4,q5.trans p5⟩
  |exit i =>
   obtain⟨rfl,rfl⟩:=hr
   exact hQ _ _ _ ⟨rfl,q2,c₁,q3,q4,q5⟩
  |ret =>
   obtain⟨rfl,rfl⟩:=hr
   exact hQ _ _ _ ⟨rfl,q2,c₁,q3,q4,q5⟩
theorem PL {m:Nat}(hm:C.P.follows .mixedOrders=true)(hT:fq C)(hS:jo C.P self)(hL:Dp C.P self m): jo C.P (evStep C self):=by
 intro code s ex s' I r c a w h he
 have same:∀ {ex:Ex} {s':St},(Ex.normal,s)=(ex,s')→exOf ex=.normal∧s'=s:=fun e=>by cases e;exact⟨rfl,rfl⟩
 cases code with
 |skip =>
  simp only[evStep,az,bJ] at I
  obtain⟨rfl,rfl⟩:=I
  exact wpIn_skip ⟨rfl,rfl,c,h,he,cF.refl c w⟩
 |label l =>
  simp only[evStep,az,bJ] at I
  obtain⟨rfl,rfl⟩:=I
  exact wpIn_label ⟨rfl,rfl,c,h,he,cF.refl c w⟩
 |region id ops draw =>
  unfold evStep at I
  simp only at I
  cases draw with
  |true =>
   rw[aj] at I
   cases hd:qM C self ops.toList s with
   |none=>simp[hd] at I
   |some J =>
    simp only[hd,az,bJ] at I
    obtain⟨rfl,rfl⟩:=I
    exact PK hS hT hm hd h he fun c' a' w' r1 r2 r3 r4=>⟨rfl,r4,c',r1,r2,r3⟩
  |false =>
   rw[aY] at I
   cases hd:evOps C self ops.toList ops.toList s with
   |none=>simp[hd] at I
   |some J =>
    simp only[hd,az,bJ] at I
    obtain⟨rfl,rfl⟩:=I
    refine wpIn_region ?_
    rw[EH,←A5]
    exact SU hS hT ops.toList 0 s J c a w (fun j=>by rw[gG,lY]) hd h he fun c' a' w' r1 r2 r3 r4=>⟨rfl,r4,c',r1,r2,r3⟩
 |seq x y =>
  unfold evStep at I
  simp only at I
  cases hx:self x s with
  |none=>rw[hx] at I;simp at I
  |some r =>
   obtain⟨Gc,J⟩:=r
   rw[hx] at I
   refine wpIn_seq (wpIn_mono (hS x s Gc J hx r c a w h he) ?_)
   rintro e BN sE ⟨rfl,q2,c₁,q3,q4,q5⟩
   cases Gc with
   |normal =>
    simp only at I
    refine wpIn_mono (hS y J ex s' I r c₁ BN sE q3 q4) ?_
    rintro e Hq YR ⟨rfl,p2,c₂,p3,p4,p5⟩
    exact⟨rfl,by rw[p2,q2],c₂,p3,p4,q5.trans p5⟩
   |exit i =>
    simp only[az,bJ] at I
    obtain⟨rfl,rfl⟩:=I
    exact⟨rfl,q2,c₁,q3,q4,q5⟩
   |ret =>
    simp only[az,bJ] at I
    obtain⟨rfl,rfl⟩:=I
    exact⟨rfl,q2,c₁,q3,q4,q5⟩
 |cond x y z =>
  unfold evStep at I
  simp only at I
  split at I
  ·rename_i t hx
   obtain⟨e1,_⟩:=wK he hx
   refine wpIn_cond (t:=t) (by rw[e1];rfl) ?_
   have:=hS (cond t y z) s ex s' I r c a w h he
   cases t<;>simpa using this
  ·cases I
 |block id b =>
  unfold evStep at I
  simp only at I
  cases hb:self b s with
  |none=>rw[hb] at I;simp at I
  |some r =>
   obtain⟨Gc,J⟩:=r
   rw[hb] at I
   refine wpIn_block (wpIn_mono (hS b s Gc J hb r c a w h he) ?_)
   rintro e BN sE ⟨rfl,q2,c₁,q3,q4,q5⟩
   cases Gc with
   |normal =>
    simp only[az,bJ] at I
    obtain⟨rfl,rfl⟩:=I
    simp only[exOf,Exit.inBlock]
    exact⟨aa,q2,c₁,q3,q4,q5⟩
   |exit i =>
    simp only at I
    by_cases hi:i=id
    ·rw[oS hi,aj] at I
     simp only[az,bJ] at I
     obtain⟨rfl,rfl⟩:=I
     simp only[exOf,Exit.inBlock,hi,cY]
     exact⟨aa,q2,c₁,q3,q4,q5⟩
    ·rw[eo hi,aY] at I
     simp only[az,bJ] at I
     obtain⟨rfl,rfl⟩:=I
     simp only[exOf,Exit.inBlock,hi,fQ]
     exact⟨aa,q2,c₁,q3,q4,q5⟩
   |ret =>
    simp only[az,bJ] at I
    obtain⟨rfl,rfl⟩:=I
    simp only[exOf,Exit.inBlock]
    exact⟨aa,q2,c₁,q3,q4,q5⟩
 |loop b =>
  exact wpIn_loop_rounds (m+1) (BZ hS hL b s ex s' I r c a w _ h he (fun _ _ _ hq=>hq))
 |exit id =>
  simp only[evStep,az,bJ] at I
  obtain⟨rfl,rfl⟩:=I
  exact wpIn_exit ⟨rfl,rfl,c,h,he,cF.refl c w⟩
 |scope b =>
  unfold evStep at I
  simp only at I
  refine Nv (wpIn_mono (hS b s ex s' I r c a w h he) ?_)
  rintro e BN sE ⟨rfl,q2,c₁,q3,q4,q5⟩
  cases ex<;>exact⟨rfl,q2,c₁,q3,q4,q5⟩
 |ret =>
  simp only[evStep,az,bJ] at I
  obtain⟨rfl,rfl⟩:=I
  exact wpIn_ret ⟨rfl,rfl,c,h,he,cF.refl c w⟩
 |_=>simp[evStep] at I
theorem z8 (hm:C.P.follows .mixedOrders=true)(J:fq C): ∀n,jo C.P (ev C n)∧Dp C.P (ev C n) n:=by
 intro n
 induction n with
 |zero=>exact⟨fun _ _ _ _ h=>by simp[ev] at h,fun _ _ _ _ h=>by simp[ev] at h⟩
 |succ n I=>exact⟨PL hm J I.1 I.2,BZ I.1 I.2⟩
theorem xT (hm:C.P.follows .mixedOrders=true)(I:fq C)(n:Nat): Ie C.P (ev C n)∧True:=⟨(z8 hm I n).1.wide,aa⟩
theorem Ir (hm:C.P.follows .mixedOrders=true)(J:fq C){v:V}(hr:run C n f args h=some (v,h')){c:Ctx}{w:World}
 (I:Rel c h w)(hw:∀x∈args,wf c x): eZ C.P f args c w v h' :=
 (callF_ok (xT hm J n).1 J hr I hw).1
theorem Rel.empty (w:World): Rel ⟨fun _=>(0,0),fun _=>0,0,fun _=>false⟩ ⟨0,.lf⟩ w :=
 ⟨rfl,fun id o h=>by simp[T.uB] at h,fun id h=>absurd h (EX _),fun id h=>absurd h (EX _),fun i j o o' h=>by simp[T.uB] at h,fun id o h=>by simp[T.uB] at h,fun id cs st h=>by simp,fun id o h=>by simp⟩
end
def leftC : Code→Code
 |.seq a _=>a
 |c=>c
def cX : Code→Code
 |.seq _ b=>b
 |c=>c
def mZ (f g:Self): Prop:=∀c s r,f c s=some r→g c s=some r
section
variable {f g:Self}
theorem mR (h : mZ f g) {r : V × H} (I : callF C f k args σ = some r) : callF C g k args σ = some r := by
 unfold callF at I ⊢
 cases J : C.told k with
 | some t => grind
 | none =>
  simp only [J] at I ⊢
  cases hf : C.P.funcs[k]? with
  | none => grind
  | some fn =>
   simp only [hf] at I ⊢
   cases hb : fn.body with
   | none => grind
   | some c =>
    simp only [hb] at I ⊢
    cases hq : (fn.name == "runtime.NumGoroutine" || Nat.blt fn.ntmps args.length) with
    | true => grind
    | false =>
     simp only [hq, aY] at I ⊢
     cases hs : f c ⟨bindArgs args 0 .lf, fn.ntmps, σ⟩ with
     | none => grind
     | some q => rw [h _ _ _ hs]; rw [hs] at I; exact I
theorem KM (h:mZ f g){r:V×H}(J:roundV f id args σ=some r): roundV g id args σ=some r:=by
 unfold roundV at J ⊢
 cases ho:σ.tr.get id with
 |none=>grind
 |some o =>
  simp only[ho] at J ⊢
  cases o with
  |loop busy au env ps eO bd =>
   cases busy with
   |true=>cases J
   |false =>
    cases he:bindPs au ps args env with
    |none=>grind
    |some e =>
     simp only[he] at J ⊢
     cases h1:f eO ⟨e,au,σ⟩ with
     |none=>grind
     |some q =>
      rw[h eO _ _ h1]
      simp only[h1] at J
      split at J
      ·rename_i SN hq
       split at J
       ·split at J
        ·rename_i Nk I
         rw[h bd _ _ I]
         exact J
        ·rename_i Nk I
         rw[h bd _ _ I]
         exact J
        ·grind
       ·cases J
      ·cases J
  |_=>cases J
theorem mI (h:mZ f g){r:V×H}(I:evOp C f env σ o=some r): evOp C g env σ o=some r:=by
 unfold evOp at I ⊢
 cases J:o.op<;>simp only[J] at I ⊢<;>try exact I
 rename_i cl
 unfold evCall at I ⊢
 cases ha:evArgs env cl.args.toList with
 |none=>grind
 |some args =>
  cases hc:cl.callee with
  |builtin b=>grind
  |value x =>
   cases hx:evO env x with
   |none=>grind
   |some fv =>
    unfold callV at I ⊢
    grind[mR,KM]
  |invoke x m =>
   grind[mR]
theorem qQ (h:mZ f g): ∀(l:List Oper) (s s':St),evOps C f L l s=some s'→evOps C g L l s=some s':=by
 intro l
 induction l with
 |nil=>intro s s' I;exact I
 |cons o l J =>
  intro s s' I
  simp only[evOps] at I ⊢
  cases hw:wantedV L s.env o with
  |true =>
   cases ho:evOp C f s.env s.h o with
   |none=>grind
   |some q =>
    grind[mI]
  |false =>
   grind
theorem xU (h:mZ f g): ∀(l:List Oper) (s:St) (hs:List H) (r:List (Env×V)×List H×St),trace C f L l s hs=some r→trace C g L l s hs=some r:=by
 intro l
 induction l with
 |nil=>intro s hs r I;exact I
 |cons o l J =>
  intro s hs r I
  simp only[trace] at I ⊢
  have key:∀q,cond (wantedV L s.env o) (evOp C f s.env s.h o) (some (ct,s.h))=some q→cond (wantedV L s.env o) (evOp C g s.env s.h o) (some (ct,s.h))=some q:=by
   grind[mI]
  cases hc:cond (wantedV L s.env o) (evOp C f s.env s.h o) (some (ct,s.h)) with
  |none=>grind
  |some q =>
   grind
theorem KN (h:mZ f g){x:Env×V}: ∀(l:List H),sameIn C f L o x l=true→sameIn C g L o x l=true:=by
 intro l
 induction l with
 |nil=>intro I;exact I
 |cons y l J =>
  intro I
  simp only[sameIn] at I ⊢
  cases hw:wantedV L x.1 o with
  |false=>simp
  |true =>
   cases ho:evOp C f x.1 y o with
   |none=>grind
   |some q =>
    grind[mI]
theorem KO (h:mZ f g): ∀(l:List Oper) (tr:List (Env×V)) (i:Nat),stayOk C f L eO es hs l tr i=true→stayOk C g L eO es hs l tr i=true:=by
 intro l
 induction l with
 |nil=>intro tr i I;cases tr<;>exact I
 |cons o l J =>
  intro tr i I
  cases tr<;>grind[stayOk,KN]
theorem KP (h:mZ f g)(I:qM C f L s=some s'): qM C g L s=some s':=by
 grind[qM,xU,KO]
theorem KQ (h:mZ f g): mZ (evStep C f) (evStep C g):=by
 intro c s r I
 cases c with
 |region id ops draw =>
  grind[evStep,KP,qQ]
 |seq a b =>
  simp only[evStep] at I ⊢
  cases J:f a s with
  |none=>grind
  |some q =>
   obtain⟨ex,s1⟩:=q
   rw[h _ _ _ J]
   rw[J] at I
   cases ex with
   |normal=>exact h _ _ _ I
   |exit i=>exact I
   |ret=>exact I
 |cond x a b =>
  simp only[evStep] at I ⊢
  split at I
  ·exact h _ _ _ I
  ·cases I
 |block id b =>
  simp only[evStep] at I ⊢
  cases J:f b s with
  |none=>grind
  |some q=>rw[h _ _ _ J];rw[J] at I;exact I
 |loop b =>
  simp only[evStep] at I ⊢
  cases J:f b s with
  |none=>grind
  |some q =>
   obtain⟨ex,s1⟩:=q
   rw[h _ _ _ J]
   rw[J] at I
   cases ex with
   |normal=>exact h _ _ _ I
   |exit i=>exact I
   |ret=>exact I
 |scope b=>exact h _ _ _ I
 |_=>exact I
theorem Nw : ∀n,mZ (ev C n) (ev C (n+1)):=by
 intro n
 induction n with
 |zero=>intro c s r I;cases I
 |succ n J=>exact KQ J
theorem dA {m:Nat}(hle:n≤m): mZ (ev C n) (ev C m):=by
 induction hle with
 |refl=>intro c s r I;exact I
 |step _ J=>intro c s r I;exact Nw _ c s r (J c s r I)
end
def look : List (Nat×V)→Nat→Option V
 |[],_=>none
 |x::E,k=>cond (Nat.beq x.1 k) (some x.2) (look E k)
def iX (env:Env)(E:List (Nat×V)): Prop:=∀t v,look E t=some v→T.get env t=some v
theorem iX.set (h:iX env E)(d:Nat)(v:V): iX (env.set d (some v)) ((d,v)::E):=by
 intro t u I
 simp only[look] at I
 rw[bp]
 by_cases hd:d=t
 ·simp_all
 ·rw[eo hd,aY] at I
  rw[ak (fun e=>hd e.symm)]
  exact h t u I
theorem iX.sub (h:iX env E)(hs:∀t v,look E' t=some v→look E t=some v): iX env E':=fun t v I=>h t v (hs t v I)
def bA (E:List (Nat×V)): Operand→Option V
 |.tmp t=>look E t
 |.const c=>ofValue c
 |.global _=>none
 |.func f=>some (.fn (.func f) [] [])
theorem bU (h:iX env E){v:V}(I:bA E x=some v): evO env x=some v:=by
 cases x with
 |tmp t=>simp only[evO,Env.v,h t v I]
 |const c=>exact I
 |global g=>cases I
 |func f=>exact I
def lookArgs (E:List (Nat×V)): List Operand→Option (List V)
 |[]=>some []
 |x::l=>match bA E x with
  |none=>none
  |some v=>match lookArgs E l with
   |none=>none
   |some m=>some (v::m)
theorem ki (h:iX env E): ∀ {l:List Operand} {m:List V},lookArgs E l=some m→evArgs env l=some m:=by
 intro l
 induction l<;>grind[lookArgs,evArgs,bU]
def lookParts (E:List (Nat×V)): List (Nat×Operand)→Option (List (Nat×V))
 |[]=>some []
 |x::l=>match bA E x.2 with
  |none=>none
  |some v=>match lookParts E l with
   |none=>none
   |some m=>some ((x.1,v)::m)
theorem z_ (h:iX env E): ∀ {l:List (Nat×Operand)} {m:List (Nat×V)},lookParts E l=some m→evParts env l=some m:=by
 intro l
 induction l<;>grind[lookParts,evParts,bU]
def lookOpt (E:List (Nat×V)): Option Operand→Option (Option V)
 |none=>some none
 |some x=>match bA E x with
  |some v=>some (some v)
  |none=>none
theorem xV (h:iX env E){x:Option Operand}{v:Option V}(I:lookOpt E x=some v): optV env x=some v:=by
 cases x<;>grind[lookOpt,optV,bU]
section
variable (P:Program)
def jR (E:List (Nat×V))(x:Operand)(g:V→Option (V×H)): Option (V×H):=match bA E x with
 |some v=>g v
 |none=>none
def vq (E:List (Nat×V))(x y:Operand)(g:V→V→Option (V×H)): Option (V×H):=match bA E x with
 |some v=>match bA E y with
  |some u=>g v u
  |none=>none
 |none=>none
noncomputable def opE (E:List (Nat×V))(h:H)(o:Op): Option (V×H):=match o with
 |.move x|.assign x=>jR E x fun v=>some (v,h)
 |.pick c a b=>jR E c fun v=>match v with
  |.bool t=>jR E (cond t a b) fun v=>some (v,h)
  |_=>none
 |.alloc t=>match zeroT P t with
  |some z=>some (.ptr h.next 0,newRow h z.cells)
  |none=>none
 |.box _ x=>jR E x fun v=>cond (v.cells.all storable) (some (.ptr h.next 0,newRow h v.cells)) none
 |.build t ps=>match lookParts E ps.toList with
  |some l=>bO (buildV P t l) h
  |none=>none
 |.buildSlice t n ps=>match lookParts E ps.toList with
  |some l=>buildSliceV P h t n l
  |none=>none
 |.load t a=>jR E a fun v=>bO (loadV P h t v) h
 |.store t a x=>vq E a x fun p v=>tJ (gY P h t p v)
 |.nilCheck x=>jR E x fun v=>match v with
  |.ptr a b=>some (.ptr a b,h)
  |_=>none
 |.binOp op t x y _=>vq E x y fun a b=>bO (binV P h op t x y a b) h
 |.unOp op _ x=>jR E x fun a=>bO (unV op a) h
 |.convert s d x=>jR E x fun a=>match convV P h s d a with
   |some r=>some r
   |none=>convB P h s d a
 |.sliceToArrayPointer d x=>jR E x fun a=>bO (arrPtrV P d a) h
 |.makeInterface t x=>jR E x fun a=>bO (makeIfaceV P t a) h
 |.makeFunc f a b=>match lookArgs E a.toList with
  |some x=>match lookArgs E b.toList with
   |some y=>some (.fn f x y,h)
   |none=>none
  |none=>none
 |.makeMap _ r=>match r with
  |none=>some (.map h.next,h.new (.map [] 0))
  |some _=>none
 |.makeSlice t l c=>vq E l c fun a b=>makeSliceV P h t a b
 |.slice t x lo hi mx=>jR E x fun v=>match lookOpt E lo with
  |some a=>match lookOpt E hi with
   |some b=>match lookOpt E mx with
    |some c=>match jb a with
     |some a=>match jb b with
      |some b=>match jb c with
       |some c=>bO (sliceV P h t v a b c) h
       |none=>none
      |none=>none
     |none=>none
    |none=>none
   |none=>none
  |none=>none
 |.fieldAddr t x i=>jR E x fun v=>bO (fieldAddrV P t v i) h
 |.field t x i=>jR E x fun v=>bO (sA P t v i) h
 |.indexAddr t x i=>vq E x i fun v j=>bO (indexAddrV P t v j) h
 |.index t x i=>vq E x i fun v j=>bO (indexV P t v j) h
 |.lookup t x k ok=>vq E x k fun m j=>bO (fR P h t m j ok) h
 |.extract t i=>jR E t fun v=>match v with
  |.bf l=>bO (nth l i) h
  |_=>none
 |.typeAssert x _ a ok=>jR E x fun v=>bO (assertV P v a ok) h
 |.call c=>match c.callee with
  |.builtin b=>match lookArgs E c.args.toList with
   |some args=>builtinV P h b c.argTypes args
   |none=>none
  |_=>none
 |_=>none
end
theorem jq {g:V→Option (V×H)}{r:V×H}(h:jR E x g=some r): ∃v,bA E x=some v∧g v=some r:=by
 grind[jR]
theorem uq {g:V→V→Option (V×H)}{r:V×H}(h:vq E x y g=some r): ∃v u,bA E x=some v∧bA E y=some u∧g v u=some r:=by
 grind[vq]
set_option maxHeartbeats 1000000 in
theorem Dq {r:V×H}(hE:iX env E)(hr:opE C.P E h o.op=some r): evOp C self env h o=some r:=by
 unfold opE at hr
 unfold evOp
 split at hr
 ·rename_i x I;obtain⟨v,h1,J⟩:=jq hr;simp only[I,bU hE h1,bO];exact J
 ·rename_i x I;obtain⟨v,h1,J⟩:=jq hr;simp only[I,bU hE h1,bO];exact J
 ·rename_i c a b I
  obtain⟨v,h1,J⟩:=jq hr
  split at J
  ·rename_i t
   obtain⟨u,h3,h4⟩:=jq J
   simp only[I,bU hE h1,bU hE h3,bO];exact h4
  ·cases J
 ·rename_i t I;simp only[I];exact hr
 ·rename_i t x I;obtain⟨v,h1,J⟩:=jq hr;simp only[I,bU hE h1];exact J
 ·rename_i t ps I
  cases hp:lookParts E ps.toList with
  |none=>simp[hp] at hr
  |some l=>simp only[hp] at hr;simp only[I,z_ hE hp];exact hr
 ·rename_i t n ps I
  cases hp:lookParts E ps.toList with
  |none=>simp[hp] at hr
  |some l=>simp only[hp] at hr;simp only[I,z_ hE hp];exact hr
 ·rename_i t a I;obtain⟨v,h1,J⟩:=jq hr;simp only[I,bU hE h1];exact J
 ·rename_i t a x I;obtain⟨v,u,h1,J,h3⟩:=uq hr;simp only[I,bU hE h1,bU hE J];exact h3
 ·rename_i x I
  obtain⟨v,h1,J⟩:=jq hr
  split at J
  ·simp only[I,bU hE h1];exact J
  ·cases J
 ·rename_i op t x y u I;obtain⟨v,u,h1,J,h3⟩:=uq hr;simp only[I,bU hE h1,bU hE J];exact h3
 ·rename_i op t x I;obtain⟨v,h1,J⟩:=jq hr;simp only[I,bU hE h1];exact J
 ·rename_i s d x I;obtain⟨v,h1,J⟩:=jq hr;simp only[I,bU hE h1];exact J
 ·rename_i d x I;obtain⟨v,h1,J⟩:=jq hr;simp only[I,bU hE h1];exact J
 ·rename_i t x I;obtain⟨v,h1,J⟩:=jq hr;simp only[I,bU hE h1];exact J
 ·rename_i f a b I
  cases ha:lookArgs E a.toList with
  |none=>simp[ha] at hr
  |some x =>
   cases hb:lookArgs E b.toList with
   |none=>simp[ha,hb] at hr
   |some y=>simp only[ha,hb] at hr;simp only[I,ki hE ha,ki hE hb];exact hr
 ·rename_i t r I
  simp only[I]
  exact hr
 ·rename_i t l c I;obtain⟨v,u,h1,J,h3⟩:=uq hr;simp only[I,bU hE h1,bU hE J];exact h3
 ·rename_i t x lo hi mx I
  obtain⟨v,h1,J⟩:=jq hr
  cases ha:lookOpt E lo with
  |none=>simp[ha] at J
  |some a =>
   cases hb:lookOpt E hi with
   |none=>simp[ha,hb] at J
   |some b =>
    cases hc:lookOpt E mx with
    |none=>simp[ha,hb,hc] at J
    |some c =>
     simp only[ha,hb,hc] at J
     simp only[I,bU hE h1,xV hE ha,xV hE hb,xV hE hc]
     cases pa:jb a with
     |none=>simp[pa] at J
     |some a =>
      cases pb:jb b with
      |none=>simp[pa,pb] at J
      |some b =>
       cases pc:jb c with
       |none=>simp[pa,pb,pc] at J
       |some c=>simp only[pa,pb,pc] at J ⊢;exact J
 ·rename_i t x i I;obtain⟨v,h1,J⟩:=jq hr;simp only[I,bU hE h1];exact J
 ·rename_i t x i I;obtain⟨v,h1,J⟩:=jq hr;simp only[I,bU hE h1];exact J
 ·rename_i t x i I;obtain⟨v,u,h1,J,h3⟩:=uq hr;simp only[I,bU hE h1,bU hE J];exact h3
 ·rename_i t x i I;obtain⟨v,u,h1,J,h3⟩:=uq hr;simp only[I,bU hE h1,bU hE J];exact h3
 ·rename_i t x k ok I;obtain⟨v,u,h1,J,h3⟩:=uq hr;simp only[I,bU hE h1,bU hE J];exact h3
 ·rename_i t i I
  obtain⟨v,h1,J⟩:=jq hr
  split at J
  ·simp only[I,bU hE h1];exact J
  ·cases J
 ·rename_i x t a ok I;obtain⟨v,h1,J⟩:=jq hr;simp only[I,bU hE h1];exact J
 ·rename_i cl I
  split at hr
  ·rename_i b hc
   cases ha:lookArgs E cl.args.toList with
   |none=>simp[ha] at hr
   |some args=>simp only[ha] at hr;simp only[I,evCall,hc,ki hE ha];exact hr
  ·cases hr
 ·cases hr
def gO (C:fc)(f:FuncId)(args:List V)(h:H)(v:V)(h':H): Prop:=∃N,callF C (ev C N) f args h=some (v,h')
def Call (C:fc)(f:FuncId)(args:List V)(h:H)(R:V→H→Prop): Prop:=∃v h',gO C f args h v h'∧R v h'
variable {cl:Go.Call}
theorem Call.mono {R I:V→H→Prop}(J:Call C f args h R)(hr:∀v h',R v h'→I v h'): Call C f args h I:=by
 obtain⟨v,h',h1,h2⟩:=J
 exact⟨v,h',h1,hr v h' h2⟩
theorem gO.told {g:List V→H→Option (V×H)}{v:V}(I:C.told f=some g)(J:C.P.funcs[f]?=some fn)(hb:fn.body.isSome=true)(hr:g args h=some (v,h')): gO C f args h v h':=by
 refine⟨0,?_⟩<;>grind[callF,hasBody]
theorem gO.body {v:V}(hd:gO C f args h v h'): hasBody C.P f=true:=by
 obtain⟨N,I⟩:=hd<;>grind[callF,hasBody]
theorem jA (C:fc)(n:Nat)(c:Code)(s:St): ev C (n+1) c s=evStep C (ev C n) c s:=rfl
def WP (C:fc)(au:Nat)(code:Code)(E:List (Nat×V))(h:H)(Q:Ex→List (Nat×V)→H→Prop): Prop :=
 ∀env,iX env E→∃N ex I h' E',ev C N code ⟨env,au,h⟩=some (ex,⟨I,au,h'⟩)∧iX I E'∧Q ex E' h'
def ax (C:fc)(au:Nat)(L l:List Oper)(E:List (Nat×V))(h:H)(Q:List (Nat×V)→H→Prop): Prop :=
 ∀env,iX env E→∃N I h' E',evOps C (ev C N) L l ⟨env,au,h⟩=some ⟨I,au,h'⟩∧iX I E'∧Q E' h'
section
variable {au:Nat} {l:List Oper}
theorem WP.sub {I:List (Nat×V)}(hs:∀t v,look I t=some v→look E t=some v)(hw:WP C au code I h Q): WP C au code E h Q:=fun env J=>hw env (J.sub hs)
theorem WP.skip (I:Q .normal E h): WP C au .skip E h Q:=fun env J=>⟨1,.normal,env,h,E,rfl,J,I⟩
theorem WP.ret (I:Q .ret E h): WP C au .ret E h Q:=fun env J=>⟨1,.ret,env,h,E,rfl,J,I⟩
theorem WP.exit (I:Q (.exit i) E h): WP C au (.exit i) E h Q:=fun env J=>⟨1,.exit i,env,h,E,rfl,J,I⟩
theorem WP.region (hl:ops.toList=l)(hw:ax C au l l E h fun E' h'=>Q .normal E' h'): WP C au (.region id ops false) E h Q:=by
 intro env J
 obtain⟨N,I,h',E',h1,h2,h3⟩:=hw env J
 refine⟨N+1,.normal,I,h',E',?_,h2,h3⟩<;>grind[jA,evStep]
theorem WP.seq {a b:Code}(hw:WP C au a E h fun ex E' h'=>match ex with
  |.normal=>WP C au b E' h' Q
  |ex=>Q ex E' h'): WP C au (.seq a b) E h Q:=by
 intro env hE
 obtain⟨N,ex,I,h',E',h1,h2,h3⟩:=hw env hE
 cases ex with
 |normal =>
  obtain⟨M,mJ,J,Is,E2,g1,g2,g3⟩:=h3 I h2
  refine⟨Nat.max N M+1,mJ,J,Is,E2,?_,g2,g3⟩
  rw[jA]
  simp only[evStep,dA (nr N M) _ _ _ h1]
  exact dA (nk N M) _ _ _ g1
 |exit i =>
  refine⟨N+1,.exit i,I,h',E',?_,h2,h3⟩<;>grind[jA,evStep]
 |ret =>
  refine⟨N+1,.ret,I,h',E',?_,h2,h3⟩<;>grind[jA,evStep]
theorem WP.cond {a b:Code}{t:Bool}(hx:bA E x=some (.bool t))(hw:WP C au (_root_.cond t a b) E h Q): WP C au (.cond x a b) E h Q:=by
 intro env J
 obtain⟨N,ex,I,h',E',h1,h2,h3⟩:=hw env J
 refine⟨N+1,ex,I,h',E',?_,h2,h3⟩<;>grind[jA,evStep,bU]
theorem WP.block {b:Code}(hw:WP C au b E h fun ex E' h'=>match ex with
  |.exit j=>_root_.cond (Nat.beq j i) (Q .normal E' h') (Q (.exit j) E' h')
  |ex=>Q ex E' h'): WP C au (.block i b) E h Q:=by
 intro env hE
 obtain⟨N,ex,I,h',E',h1,h2,J⟩:=hw env hE
 cases ex with
 |exit j =>
  cases hj:Nat.beq j i with
  |true =>
   simp only[hj,aj] at J
   refine⟨N+1,.normal,I,h',E',?_,h2,J⟩<;>grind[jA,evStep]
  |false =>
   simp only[hj,aY] at J
   refine⟨N+1,.exit j,I,h',E',?_,h2,J⟩<;>grind[jA,evStep]
 |normal =>
  refine⟨N+1,.normal,I,h',E',?_,h2,J⟩<;>grind[jA,evStep]
 |ret =>
  refine⟨N+1,.ret,I,h',E',?_,h2,J⟩<;>grind[jA,evStep]
theorem WP.scope {b:Code}(hw:WP C au b E h Q): WP C au (.scope b) E h Q:=by
 intro env J
 obtain⟨N,ex,I,h',E',h1,h2,h3⟩:=hw env J
 exact⟨N+1,ex,I,h',E',h1,h2,h3⟩
theorem WP.loop {b:Code}(hw:WP C au b E h fun ex E' h'=>match ex with
  |.normal=>WP C au (.loop b) E' h' Q
  |ex=>Q ex E' h'): WP C au (.loop b) E h Q:=by
 intro env hE
 obtain⟨N,ex,I,h',E',h1,h2,h3⟩:=hw env hE
 cases ex with
 |normal =>
  obtain⟨M,mJ,J,Is,E2,g1,g2,g3⟩:=h3 I h2
  refine⟨Nat.max N M+1,mJ,J,Is,E2,?_,g2,g3⟩
  rw[jA]
  simp only[evStep,dA (nr N M) _ _ _ h1]
  exact dA (nk N M) _ _ _ g1
 |exit i =>
  refine⟨N+1,.exit i,I,h',E',?_,h2,h3⟩<;>grind[jA,evStep]
 |ret =>
  refine⟨N+1,.ret,I,h',E',?_,h2,h3⟩<;>grind[jA,evStep]
theorem ax.nil (I:R E h): ax C au L [] E h R:=fun env J=>⟨0,env,h,E,rfl,J,I⟩
def wantE (L:List Oper)(E:List (Nat×V))(g:Option (Nat×Bool)): Option Bool:=match g with
 |none=>some true
 |some (j,want)=>match (nth L j).bind (·.dst) with
  |some d=>match look E d with
   |some (.bool b)=>some (b == want)
   |some _=>some false
   |none=>none
  |none=>none
theorem kA {b:Bool}(J:iX env E)(hw:wantE L E o.guard=some b): wantedV L env o=b:=by
 unfold wantE at hw
 unfold wantedV
 split at hw
 ·grind
 ·rename_i j want hg
  simp only[hg]
  split at hw
  ·rename_i d hd
   simp only[hd]
   split at hw
   ·rename_i b' I
    simp only[Env.v,J d _ I]
    simpa using hw
   ·rename_i v mH I
    simp only[Env.v,J d _ I]
    grind
   ·cases hw
  ·cases hw
theorem ax.op {v:V}(hg:wantE L E o.guard=some true)(hd:o.dst=some d)(hn:Nat.blt d au=true)(ho:opE C.P E h o.op=some (v,h₁))
 (hw:ax C au L rest ((d,v)::E) h₁ R): ax C au L (o::rest) E h R:=by
 intro env J
 obtain⟨N,I,h',E',h1,h2,h3⟩:=hw (env.set d (some v)) (J.set d v)<;>grind[evOps,kA,Dq,St.put]
theorem ax.Vn {v:V}(hg:wantE L E o.guard=some true)(hd:o.dst=none)(ho:opE C.P E h o.op=some (v,h₁))
 (hw:ax C au L rest E h₁ R): ax C au L (o::rest) E h R:=by
 intro env J
 obtain⟨N,I,h',E',h1,h2,h3⟩:=hw env J<;>grind[evOps,kA,Dq,St.put]
theorem ax.no (hg:wantE L E o.guard=some false)(hd:o.dst=some d)(hn:Nat.blt d au=true)
 (hw:ax C au L rest ((d,ct)::E) h R): ax C au L (o::rest) E h R:=by
 intro env J
 obtain⟨N,I,h',E',h1,h2,h3⟩:=hw (env.set d (some ct)) (J.set d ct)<;>grind[evOps,kA,St.put]
theorem Gd {k:FuncId}{v:V}(hE:iX env E)(J:o.op=.call cl)(hc:cl.callee=.value x)
 (hx:bA E x=some (.fn (.func k) first cap))(ha:lookArgs E cl.args.toList=some args)(I:gO C k (first++(args++cap)) h v h₁):
  ∃N,evOp C (ev C N) env h o=some (v,h₁):=by
 have hb:=I.body
 obtain⟨N,hN⟩:=I
 refine⟨N,?_⟩
 simp only[evOp,J,evCall,ki hE ha,hc,bU hE hx,callV,hb,aj]
 exact hN
theorem ax.call {k:FuncId}(hg:wantE L E o.guard=some true)(hd:o.dst=some d)(hn:Nat.blt d au=true)
 (Ge:o.op=.call cl)(hc:cl.callee=.value x)(hx:bA E x=some (.fn (.func k) first cap))(ha:lookArgs E cl.args.toList=some args)
 (I:Call C k (first++(args++cap)) h z7)(hw:∀v h₁,z7 v h₁→ax C au L rest ((d,v)::E) h₁ R): ax C au L (o::rest) E h R:=by
 intro env hE
 obtain⟨v,h₁,Aa,hr⟩:=I
 obtain⟨N,hN⟩:=Gd hE Ge hc hx ha Aa
 obtain⟨M,J,h',E',h1,h2,h3⟩:=hw v h₁ hr (env.set d (some v)) (hE.set d v)
 refine⟨Nat.max N M,J,h',E',?_,h2,h3⟩
 simp only[evOps,kA hE hg,aj,mI (dA (nr N M)) hN,St.put,hd,hn]
 exact qQ (dA (nk N M)) _ _ _ h1
end
def Has (E:List (Nat×V)): List (Nat×V)→Prop
 |[]=>True
 |p::F=>look E p.1=some p.2∧Has E F
theorem Has.sub : ∀ {F:List (Nat×V)},Has E F→∀t v,look F t=some v→look E t=some v:=by
 intro F
 induction F with
 |nil=>intro _ t v h;cases h
 |cons p F ih =>
  intro I t v h
  simp only[look] at h
  by_cases J:p.1=t
  ·subst J
   rw[oS rfl,aj] at h
   rw[I.1];exact h
  ·rw[eo J,aY] at h
   exact ih I.2 t v h
theorem WP.has {au:Nat}{F:List (Nat×V)}(I:Has E F)(hw:WP C au code F h Q): WP C au code E h Q:=WP.sub I.sub hw
theorem aaX (I:iX s.env E){t:Nat}{v:V}(h:look E t=some v): resV P s (.tmp t)=some v:=by
 simp only[resV,Env.v,I t v h]
noncomputable def resE (P:Program)(E:List (Nat×V))(h:H): ResultVar→Option V
 |.tmp t=>look E t
 |.cell a t=>match look E a with
  |some p=>loadV P h t p
  |none=>none
theorem WV (J:iX s.env E){x:ResultVar}{v:V}(I:resE P E s.h x=some v): resV P s x=some v:=by
 cases x with
 |tmp t=>exact aaX J I
 |cell a t =>
  simp only[resE] at I
  cases ha:look E a with
  |none=>grind
  |some p=>simp only[ha] at I;simp only[resV,Env.v,J a p ha];exact I
noncomputable def resLE (P:Program)(E:List (Nat×V))(h:H)(rs:List ResultVar): Option V:=match mapO (resE P E h) rs with
 |some [v]=>some v
 |some vs=>some (.bf vs)
 |none=>none
theorem wT (I:iX s.env E): ∀ {rs:List ResultVar} {vs:List V},mapO (resE P E s.h) rs=some vs→mapO (resV P s) rs=some vs:=by
 intro rs
 induction rs<;>grind[mapO,WV]
def argE : List V→Nat→List (Nat×V)
 |[],_=>[]
 |v::l,k=>(k,v)::argE l (k+1)
theorem PN : ∀(l:List V) (k t:Nat),look (argE l k) t=if k≤t∧t<k+l.length then l[t-k]? else none:=by
 intro l
 induction l with
 |nil=>simp[argE,look]
 |cons v l I =>
  intro k t
  simp only[argE,look]
  by_cases h:k=t
  ·simp_all
  grind[eo]
theorem ur (l:List V): iX (bindArgs l 0 .lf) (argE l 0):=by
 intro t v h
 grind[PN,uH]
theorem Call.of_wp {R : V → H → Prop} (ht : C.told f = none) (hf : C.P.funcs[f]? = some fn) (hb : fn.body = some code)
  (hq : (fn.name == "runtime.NumGoroutine" || Nat.blt fn.ntmps args.length) = false)
  (hw : WP C fn.ntmps code (argE args 0) h fun ex E' h' => (match ex with | .exit _ => False | _ => True) ∧ ∃ v, resLE C.P E' h' fn.results.toList = some v ∧ R v h') : Call C f args h R := by
 obtain ⟨N, ex, I, h', E', h1, J, h3, v, h4, h5⟩ := hw _ (ur args)
 refine ⟨v, h', ⟨N, ?_⟩, h5⟩
 unfold callF
 unfold resLE at h4
 cases hm : mapO (resE C.P E' h') fn.results.toList with
 | none => grind
 | some vs =>
  have B1 := wT (P := C.P) (s := ⟨I, fn.ntmps, h'⟩) J hm
  cases ex with
  | exit i => grind
  | normal =>
   grind
  | ret =>
   grind
noncomputable section
end
def crcStep : Nat→Nat→Nat
 |r,0=>r
 |r,k+1=>crcStep (cond (Nat.beq (r%2) 1) (Nat.xor (r/2) 3988292384) (r/2)) k
def crcL : Nat→List Nat→Nat
 |r,[]=>r
 |r,b::l=>crcL (crcStep (Nat.xor r b) 8) l
def bytesIn : List V→Option (List Nat)
 |[]=>some []
 |.int .u8 n::l=>cond (decide (0≤n)&&decide (n<256)) (match bytesIn l with
  |some m=>some (n.toNat::m)
  |none=>none) none
 |_=>none
def wU (s:Int)(l:List Nat): V:=.int .u32 ((Nat.xor (crcL (Nat.xor s.toNat 4294967295) l) 4294967295:Nat):Int)
noncomputable def toldMore : List V→H→Option (V×H)
 |[.int .u32 s,.sl id off len _],h=>cond (decide (0≤s)&&decide (s<4294967296)&&Nat.ble len 4611686018427387904) (match rdN h id off len with
  |some cs=>match bytesIn cs with
   |some l=>some (wU s l,h)
   |none=>none
  |none=>none) none
 |[.int .u32 s,.a_],h=>cond (decide (0≤s)&&decide (s<4294967296)) (some (wU s [],h)) none
 |[.int .u32 s,.sle _],h=>cond (decide (0≤s)&&decide (s<4294967296)) (some (wU s [],h)) none
 |_,_=>none
theorem wrap_u32 (h:n<4294967296): IntKind.wrap .u32 (n:Int)=(n:Int):=by
 grind[IntKind.wrap,IntKind.bits,IntKind.signed]
theorem Gf (h:n<4294967296): ((n:Int)%(2^(IntKind.u32).bits:Int)).toNat=n:=by
 grind[IntKind.bits]
theorem o8 (I:a<4294967296)(J:b<4294967296): Nat.xor a b<4294967296:=Nat.xor_lt_two_pow (n:=32) I J
theorem xW (I:a<4294967296)(J:b<4294967296): intV .xor .u32 (a:Int) (b:Int)=some (.int .u32 ((Nat.xor a b:Nat):Int)):=by
 grind[intV,bitsV,Gf,wrap_u32,o8]
theorem PO (I:a<4294967296): intV .and .u32 (a:Int) 1=some (.int .u32 ((a%2:Nat):Int)):=by
 have J:((1:Int)%(2^(IntKind.u32).bits:Int)).toNat=1:=by rfl
 simp only[intV,bitsV]
 rw[Gf I,J]
 have:Nat.land a 1=a%2:=EN a
 rw[this,wrap_u32 (by omega)]
theorem Dr : shiftV .shr .u32 (a:Int) 1=some (.int .u32 ((a/2:Nat):Int)):=by
 grind[shiftV,IntKind.bits]
theorem WW {c:Ctx}{w:World}(h:Rel c σ w)(I:rdN σ id off k=some vs): vs.length=k∧∀j,j<k→zG σ id (off+j)=vs[j]?:=by
 unfold rdN at I
 split at I
 ·rename_i n cs st J
  have hn:n=cs.length:=(h.obj id _ J).1
  grind[bg,beq_iff,zG,ir]
 ·cases I
def unblk : Code→Code
 |.block _ c=>c
 |c=>c
def unloop : Code→Code
 |.loop c=>c
 |c=>c
noncomputable def j_ : Code:=(Tryz.f178.body).getD .skip
noncomputable def j6 : Code:=unloop (unblk (cX (leftC (cX (cX j_)))))
noncomputable def oC : Code:=unblk (leftC (cX (cX j6)))
noncomputable def o9 : Code:=unloop (unblk (cX (cX (cX oC))))
theorem iG (C:fc)(n:Nat)(c:Code)(s:St): ev C (n+1) c s=evStep C (ev C n) c s:=rfl
theorem wrap_i64 (h:n<9223372036854775808): IntKind.wrap .i64 (n:Int)=(n:Int):=by
 grind[IntKind.bits,IntKind.wrap]
theorem Ab (h:n<9223372036854775807): intV .add .i64 (n:Int) 1=some (.int .i64 ((n+1:Nat):Int)):=by
 have:((n:Int)+1)=((n+1:Nat):Int):=by omega
 simp only[intV,this,wrap_i64 (show n+1<9223372036854775808 by omega)]
section
theorem cj (J:o.guard=none)(hd:o.dst=some d)(I:Nat.blt d n=true):
  evOps C self L (o::rest) ⟨env,n,h⟩=(evOp C self env h o).bind fun r=>evOps C self L rest ⟨env.set d (some r.1),n,r.2⟩:=by
 grind[evOps,wantedV,St.put]
end
noncomputable def Y5 : Code:=leftC o9
noncomputable def vr : Code:=cX (cX o9)
noncomputable def Y6 : Code:=leftC (unblk (leftC vr))
noncomputable def Y7 : Code:=cX (unblk (leftC vr))
noncomputable def S4 : Code:=cX vr
section
variable (n:Nat) (env:Env) (h:H)
theorem PR (I:T.get env 20=some (.int .i64 j)): ev C (n+1) Y5 ⟨env,34,h⟩=some (.normal,⟨env.set 21 (some (.bool (decide ((j:Int)<8)))),34,h⟩):=by
 simp only[Y5,o9,oC,j6,j_,Tryz.f178,iD,leftC,cX,unblk,unloop,iG,evStep,aY]
 rw[cj rfl rfl rfl]
 simp only[evOp,evO,Env.v,I,ofValue,ofScalar,binV,ikBeq,aj,intV,bO,dw,evOps]
theorem Y8 {x:Nat}(J:x<4294967296)(h5:T.get env 5=some (.int .u32 x)):
  ∃I,ev C (n+1) Y6 ⟨env,34,h⟩=some (.normal,⟨I,34,h⟩)∧T.get I 24=some (.bool (Nat.beq (x%2) 1))∧∀t,t≠22→t≠23→t≠24→T.get I t=T.get env t:=by
 refine⟨((env.set 22 (some (.int .u32 x))).set 23 (some (.int .u32 ((x%2:Nat):Int)))).set 24 (some (.bool (Nat.beq (x%2) 1))),?_,by simp[bp],fun t h1 h2 h3=>by simp[bp,h1,h2,h3]⟩
 simp only[Y6,vr,o9,oC,j6,j_,Tryz.f178,iD,leftC,cX,unblk,unloop,iG,evStep,aY]
 rw[cj rfl rfl rfl]
 simp only[evOp,evO,Env.v,h5,bO,dw]
 rw[cj rfl rfl rfl]
 simp only[evOp,evO,Env.v,bp,cY,ofValue,ofScalar,binV,ikBeq,aj,PO J,bO,dw]
 rw[cj rfl rfl rfl]
 simp only[evOp,evO,Env.v,bp,cY,ofValue,ofScalar,binV,ikBeq,aj,intV,bO,dw,evOps]
 rfl
theorem PS {x:Nat}(I:x<4294967296): Nat.xor (x/2) 3988292384<4294967296:=o8 (by omega) (by omega)
theorem Y9 {x:Nat}{b:Bool}(hx:x<4294967296)(h5:T.get env 5=some (.int .u32 x))(I:T.get env 24=some (.bool b)):
  ∃J,ev C (n+2) Y7 ⟨env,34,h⟩=some (.normal,⟨J,34,h⟩)∧T.get J 5=some (.int .u32 ((cond b (Nat.xor (x/2) 3988292384) (x/2):Nat):Int))∧∀t,t<25→t≠5→T.get J t=T.get env t:=by
 simp only[Y7,vr,o9,oC,j6,j_,Tryz.f178,iD,leftC,cX,unblk,unloop,iG,evStep,evO,Env.v,I]
 cases b with
 |true =>
  refine⟨(((env.set 25 (some (.int .u32 x))).set 26 (some (.int .u32 ((x/2:Nat):Int)))).set 27 (some (.int .u32 ((Nat.xor (x/2) 3988292384:Nat):Int)))).set 5 (some (.int .u32 ((Nat.xor (x/2) 3988292384:Nat):Int))),?_,by simp[bp],fun t h1 h2 => ?_⟩
  ·simp only[aj,aY]
   rw[cj rfl rfl rfl]
   simp only[evOp,evO,Env.v,h5,bO,dw]
   rw[cj rfl rfl rfl]
   simp only[evOp,evO,Env.v,bp,cY,ofValue,ofScalar,binV,Dr,bO,dw]
   rw[cj rfl rfl rfl]
   have:=xW (a:=x/2) (b:=3988292384) (by omega) (by omega)
   rw[show((3988292384:Nat):Int)=3988292384 from rfl] at this
   simp only[evOp,evO,Env.v,bp,cY,ofValue,ofScalar,binV,ikBeq,aj,this,bO,dw]
   rw[cj rfl rfl rfl]
   simp only[evOp,evO,Env.v,bp,cY,bO,dw,evOps]
  grind[bp]
 |false =>
  refine⟨((env.set 28 (some (.int .u32 x))).set 29 (some (.int .u32 ((x/2:Nat):Int)))).set 5 (some (.int .u32 ((x/2:Nat):Int))),?_,by simp[bp],fun t h1 h2 => ?_⟩
  ·simp only[aY]
   rw[cj rfl rfl rfl]
   simp only[evOp,evO,Env.v,h5,bO,dw]
   rw[cj rfl rfl rfl]
   simp only[evOp,evO,Env.v,bp,cY,ofValue,ofScalar,binV,Dr,bO,dw]
   rw[cj rfl rfl rfl]
   simp only[evOp,evO,Env.v,bp,cY,bO,dw,evOps]
  grind[bp]
theorem WX (hj:j<8)(I:T.get env 20=some (.int .i64 j)):
  ∃J,ev C (n+1) S4 ⟨env,34,h⟩=some (.normal,⟨J,34,h⟩)∧T.get J 20=some (.int .i64 ((j+1:Nat):Int))∧∀t,t≠20→t≠30→T.get J t=T.get env t:=by
 refine⟨(env.set 30 (some (.int .i64 ((j+1:Nat):Int)))).set 20 (some (.int .i64 ((j+1:Nat):Int))),?_,by simp[bp],fun t h1 h2=>by simp[bp,h1,h2]⟩
 simp only[S4,vr,o9,oC,j6,j_,Tryz.f178,iD,leftC,cX,unblk,unloop,iG,evStep,aY]
 rw[cj rfl rfl rfl]
 simp only[evOp,evO,Env.v,I,ofValue,ofScalar,binV,ikBeq,aj,Ab (show j<9223372036854775807 by omega),bO,dw]
 rw[cj rfl rfl rfl]
 simp only[evOp,evO,Env.v,bp,cY,bO,dw,evOps]
section
variable {n:Nat}
theorem kB {a b:Code}(I:ev C n a s=some (.normal,s')): ev C (n+1) (.seq a b) s=ev C n b s':=by grind[iG,evStep]
theorem vP {a b:Code}(I:ev C n a s=some (.exit i,s')): ev C (n+1) (.seq a b) s=some (.exit i,s'):=by grind[iG,evStep]
theorem wV {a b:Code}{t:Bool}(I:evO s.env x=some (.bool t)): ev C (n+1) (.cond x a b) s=ev C n (cond t a b) s:=by grind[iG,evStep]
theorem It {c:Code}(h:ev C n c s=some (.normal,s')): ev C (n+1) (.block i c) s=some (.normal,s'):=by grind[iG,evStep]
theorem yV {c:Code}(h:ev C n c s=some (.exit i,s')): ev C (n+1) (.block i c) s=some (.normal,s'):=by simp_all[iG,evStep]
theorem LX {b:Code}(h:ev C n b s=some (.normal,s')): ev C (n+1) (.loop b) s=ev C n (.loop b) s':=by grind[iG,evStep]
theorem uM {b:Code}(h:ev C n b s=some (.exit i,s')): ev C (n+1) (.loop b) s=some (.exit i,s'):=by grind[iG,evStep]
end
theorem Gg : o9=.seq Y5 (.seq (.cond (.tmp 21) .skip (.exit 2)) vr):=rfl
theorem S5 : vr=.seq (.block 3 (.seq Y6 Y7)) S4:=rfl
theorem Nx {x:Nat}(hx:x<4294967296)(hj:j<8)(h5:T.get env 5=some (.int .u32 x))(h20:T.get env 20=some (.int .i64 j)):
  ∃J,ev C (n+9) o9 ⟨env,34,h⟩=some (.normal,⟨J,34,h⟩)∧T.get J 5=some (.int .u32 ((crcStep x 1:Nat):Int))∧T.get J 20=some (.int .i64 ((j+1:Nat):Int)) ∧
   ∀t,t<20→t≠5→T.get J t=T.get env t:=by
 have cI:decide ((j:Int)<8)=true:=by grind
 have q7:=PR (C:=C) (n+7) env h h20
 rw[cI] at q7
 have g5:T.get (env.set 21 (some (.bool true))) 5=some (.int .u32 x):=by simp[bp,h5]
 obtain⟨e8,q8,q8a,q8b⟩:=Y8 (C:=C) (n+3) (env.set 21 (some (.bool true))) h hx g5
 have g5':T.get e8 5=some (.int .u32 x):=by grind
 obtain⟨e9,q9,q9a,q9b⟩:=Y9 (C:=C) (n+2) e8 h hx g5' q8a
 have g20:T.get e9 20=some (.int .i64 j):=by
  grind[bp]
 obtain⟨Y_,q11,I,aed⟩:=WX (C:=C) (n+5) e9 h hj g20
 refine⟨Y_,?_,?_,I,fun t h1 h2 => ?_⟩
 ·rw[Gg,kB q7,kB (s':=⟨env.set 21 (some (.bool true)),34,h⟩) (by rw[wV (t:=true) (by simp[evO,Env.v,bp])];rfl),S5,
   kB (It (by rw[kB q8];exact q9)),q11]
 ·grind[crcStep]
 ·grind[bp]
theorem Ny : ∀(k n:Nat) (env:Env) (x:Nat),k≤8→x<4294967296→T.get env 5=some (.int .u32 x)→T.get env 20=some (.int .i64 ((8-k:Nat):Int)) →
  ∃J,ev C (n+10+k) (.loop o9) ⟨env,34,h⟩=some (.exit 2,⟨J,34,h⟩)∧T.get J 5=some (.int .u32 ((crcStep x k:Nat):Int))∧∀t,t<20→t≠5→T.get J t=T.get env t:=by
 intro k
 induction k with
 |zero =>
  intro n env x _ hx h5 I
  have q7:=PR (C:=C) (n+7) env h I
  refine⟨env.set 21 (some (.bool false)),?_,by simp[bp,h5,crcStep],fun t h1 h2 => ?_⟩
  ·refine uM ?_
   rw[Gg,kB q7]
   exact vP (by rw[wV (t:=false) (by simp[evO,Env.v,bp])];rfl)
  grind[bp]
 |succ k ih =>
  intro n env x hk hx h5 I
  obtain⟨e1,q1,q2,q3,q4⟩:=Nx (C:=C) (n+1+k) env h hx (show 8-(k+1)<8 by omega) h5 I
  have h8:8-(k+1)+1=8-k:=by omega
  rw[h8] at q3
  have yW:crcStep x 1<4294967296:=by
   grind[crcStep,PS]
  obtain⟨e2,p1,p2,p3⟩:=ih n e1 (crcStep x 1) (by omega) yW q2 q3
  refine⟨e2,?_,?_,fun t h1 h2=>by grind⟩
  ·grind[LX]
  ·rw[p2];simp only[crcStep]
end
noncomputable def Za : Code:=leftC j6
noncomputable def HH : Code:=cX (cX j6)
noncomputable def S6 : Code:=cX HH
noncomputable def Zb : Code:=leftC oC
noncomputable def Zc : Code:=leftC (cX oC)
noncomputable def mR6 : Code:=leftC (cX (cX oC))
theorem S7 : oC=.seq Zb (.seq Zc (.seq mR6 (.block 2 (.loop o9)))):=rfl
theorem Ac : j6=.seq Za (.seq (.cond (.tmp 13) .skip (.exit 0)) HH):=rfl
theorem S8 : HH=.seq (.block 1 oC) S6:=rfl
theorem eC : bN Tryz.prog 5=some 1:=by kernel_rfl
theorem LY : isAggT Tryz.prog 5=some false:=by kernel_rfl
section
variable {told:cR} (n:Nat) (env:Env) (h:H)
theorem Iu {len:Nat}(I:T.get env 12=some (.int .i64 i))(J:T.get env 11=some (.int .i64 len)):
  ev ⟨Tryz.prog,told⟩ (n+1) Za ⟨env,34,h⟩=some (.normal,⟨env.set 13 (some (.bool (decide ((i:Int)<(len:Int))))),34,h⟩):=by
 simp only[Za,j6,j_,Tryz.f178,iD,leftC,cX,unblk,unloop,iG,evStep,aY]
 rw[cj rfl rfl rfl]
 simp_all[evOp,evO,Env.v,binV,ikBeq,intV,bO,evOps]
theorem Zd {len:Nat}{cap:Cap}(hi:i<len)(I:T.get env 12=some (.int .i64 i))(J:T.get env 10=some (.sl id off len cap))(hb:zG h id (off+i)=some (.int .u8 b)):
  ∃e',ev ⟨Tryz.prog,told⟩ (n+1) Zb ⟨env,34,h⟩=some (.normal,⟨e',34,h⟩)∧T.get e' 7=some (.int .u8 b)∧∀t,t≠7→t≠14→t≠15→T.get e' t=T.get env t:=by
 refine⟨((env.set 14 (some (.ptr id (off+i)))).set 15 (some (.int .u8 b))).set 7 (some (.int .u8 b)),?_,by simp[bp],fun t h1 h2 h3=>by simp[bp,h1,h2,h3]⟩
 simp only[Zb,oC,j6,j_,Tryz.f178,iD,leftC,cX,unblk,unloop,iG,evStep,aY]
 rw[cj rfl rfl rfl]
 have d1:decide ((0:Int)≤(i:Int))=true:=by simp
 have d2:decide ((i:Int)<(len:Int))=true:=by grind
 simp only[evOp,evO,Env.v,J,I,indexAddrV,aK,eC,d1,d2,jz,aj,dY,eF,bO,dw]
 rw[cj rfl rfl rfl]
 simp only[evOp,evO,Env.v,bp,cY,loadV,LY,hb,bO,dw]
 rw[cj rfl rfl rfl]
 simp only[evOp,evO,Env.v,bp,cY,bO,dw,evOps]
theorem Ze {x:Nat}(hx:x<4294967296)(hb:b<256)(h5:T.get env 5=some (.int .u32 x))(h7:T.get env 7=some (.int .u8 b)):
  ∃I,ev ⟨Tryz.prog,told⟩ (n+1) Zc ⟨env,34,h⟩=some (.normal,⟨I,34,h⟩)∧T.get I 5=some (.int .u32 ((Nat.xor x b:Nat):Int))∧∀t,t<16→t≠5→T.get I t=T.get env t:=by
 refine⟨((((env.set 16 (some (.int .u32 x))).set 17 (some (.int .u8 b))).set 18 (some (.int .u32 b))).set 19 (some (.int .u32 ((Nat.xor x b:Nat):Int)))).set 5 (some (.int .u32 ((Nat.xor x b:Nat):Int))),?_,by simp[bp],fun t h1 h2 => ?_⟩
 ·simp only[Zc,oC,j6,j_,Tryz.f178,iD,leftC,cX,unblk,unloop,iG,evStep,aY]
  rw[cj rfl rfl rfl]
  simp only[evOp,evO,Env.v,h5,bO,dw]
  rw[cj rfl rfl rfl]
  have g7:T.get (env.set 16 (some (.int .u32 x))) 7=some (.int .u8 b):=by simp[bp,h7]
  simp only[evOp,evO,Env.v,g7,bO,dw]
  rw[cj rfl rfl rfl]
  simp only[evOp,evO,Env.v,bp,cY,convV,Tryz.underlying5,Tryz.underlying231,wrap_u32 (show b<4294967296 by omega),dw]
  rw[cj rfl rfl rfl]
  have J:T.get (((env.set 16 (some (.int .u32 x))).set 17 (some (.int .u8 b))).set 18 (some (.int .u32 b))) 16=some (.int .u32 x):=by simp[bp]
  have g18:T.get (((env.set 16 (some (.int .u32 x))).set 17 (some (.int .u8 b))).set 18 (some (.int .u32 b))) 18=some (.int .u32 b):=by simp[bp]
  simp only[evOp,evO,Env.v,J,g18,binV,ikBeq,aj,xW hx (show b<4294967296 by omega),bO,dw]
  rw[cj rfl rfl rfl]
  simp only[evOp,evO,Env.v,bp,cY,bO,dw,evOps]
 grind[bp]
theorem Zf : ev ⟨Tryz.prog,told⟩ (n+1) mR6 ⟨env,34,h⟩=some (.normal,⟨env.set 20 (some (.int .i64 0)),34,h⟩):=by
 rfl
theorem WY (hi:i<9223372036854775807)(I:T.get env 12=some (.int .i64 i)):
  ∃J,ev ⟨Tryz.prog,told⟩ (n+1) S6 ⟨env,34,h⟩=some (.normal,⟨J,34,h⟩)∧T.get J 12=some (.int .i64 ((i+1:Nat):Int))∧∀t,t≠12→t≠31→T.get J t=T.get env t:=by
 refine⟨(env.set 31 (some (.int .i64 ((i+1:Nat):Int)))).set 12 (some (.int .i64 ((i+1:Nat):Int))),?_,by simp[bp],fun t h1 h2=>by simp[bp,h1,h2]⟩
 simp only[S6,HH,j6,j_,Tryz.f178,iD,leftC,cX,unblk,unloop,iG,evStep,aY]
 rw[cj rfl rfl rfl]
 simp only[evOp,evO,Env.v,I,ofValue,ofScalar,binV,ikBeq,aj,Ab hi,bO,dw]
 rw[cj rfl rfl rfl]
 simp only[evOp,evO,Env.v,bp,cY,bO,dw,evOps]
theorem Ds : ∀(k x:Nat),x<4294967296→crcStep x k<4294967296:=by
 intro k
 induction k<;>grind[crcStep,PS]
theorem S9 {x len:Nat}{cap:Cap}(hx:x<4294967296)(hb:b<256)(hi:i<len)(h5:T.get env 5=some (.int .u32 x))(I:T.get env 12=some (.int .i64 i))(J:T.get env 10=some (.sl id off len cap))
 (hr:zG h id (off+i)=some (.int .u8 b)):
  ∃e',ev ⟨Tryz.prog,told⟩ (n+22) oC ⟨env,34,h⟩=some (.normal,⟨e',34,h⟩)∧T.get e' 5=some (.int .u32 ((crcStep (Nat.xor x b) 8:Nat):Int))∧∀t,t=10∨t=11∨t=12→T.get e' t=T.get env t:=by
 obtain⟨e4,q4,Zg,q4b⟩:=Zd (told:=told) (n+20) env h hi I J hr
 obtain⟨e5,q5,q5a,q5b⟩:=Ze (told:=told) (n+19) e4 h hx hb (by grind) Zg
 have q6:=Zf (told:=told) (n+18) e5 h
 obtain⟨e2,q2,Vo,Vp⟩:=Ny (C:=⟨Tryz.prog,told⟩) h 8 n (e5.set 20 (some (.int .i64 0))) (Nat.xor x b) (by omega) (o8 hx (by omega)) (by simp[bp,q5a]) (by simp[bp])<;>simp_all[bp,S7,kB,yV]
theorem Nz {len:Nat}{cap:Cap}(hlen:len<9223372036854775807): ∀(l:List Nat) (i n:Nat) (env:Env) (x:Nat),i+l.length=len→x<4294967296→(∀b∈l,b<256) →
  (∀j b:Nat,l[j]?=some b→zG h id (off+(i+j))=some (.int .u8 (b:Int)))→T.get env 5=some (.int .u32 x)→T.get env 12=some (.int .i64 i)→T.get env 10=some (.sl id off len cap)→T.get env 11=some (.int .i64 len) →
  ∃e',ev ⟨Tryz.prog,told⟩ (n+30+l.length) (.loop j6) ⟨env,34,h⟩=some (.exit 0,⟨e',34,h⟩)∧T.get e' 5=some (.int .u32 ((crcL x l:Nat):Int)):=by
 intro l
 induction l with
 |nil =>
  intro i n env x hi hx _ _ h5 I h10 Zh
  have q3:=Iu (told:=told) (n+27) env h I Zh
  have hd:decide ((i:Int)<(len:Int))=false:=by grind
  rw[hd] at q3
  refine⟨env.set 13 (some (.bool false)),?_,by simp[bp,h5,crcL]⟩
  refine uM ?_
  rw[Ac,kB q3]
  exact vP (by rw[wV (t:=false) (by simp[evO,Env.v,bp])];rfl)
 |cons b l ih =>
  intro i n env x hi hx Iv jw h5 I h10 Zh
  simp only[bF] at hi
  have q3:=Iu (told:=told) (n+l.length+28) env h I Zh
  have hd:decide ((i:Int)<(len:Int))=true:=by grind
  rw[hd] at q3
  have hb:b<256:=Iv b (by simp)
  have hr:=jw 0 b (by simp)
  rw[nu] at hr
  obtain⟨e1,q1,q1a,q1b⟩:=S9 (told:=told) (cap:=cap) (n+l.length+4) (env.set 13 (some (.bool true))) h hx hb (show i<len by omega) (by simp[bp,h5]) (by simp[bp,I]) (by simp[bp,h10]) hr
  obtain⟨e2,q2,Vo,Vp⟩:=WY (told:=told) (n+l.length+26) e1 h (show i<9223372036854775807 by omega) (by grind[bp])
  have mY:crcStep (Nat.xor x b) 8<4294967296:=Ds 8 _ (o8 hx (by omega))
  obtain⟨e3,q3',Zi⟩:=ih (i+1) n e2 (crcStep (Nat.xor x b) 8) (by omega) mY (fun c hc=>Iv c (by grind)) (fun j c hj=>by
   have:=jw (j+1) c (by grind)
   rwa [show i+(j+1)=i+1+j from by omega] at this) (by grind) Vo (by grind[bp]) (by grind[bp])
  refine⟨e3,?_,by rw[Zi];simp only[crcL]⟩
  have J:ev ⟨Tryz.prog,told⟩ (n+l.length+30) j6 ⟨env,34,h⟩=some (.normal,⟨e2,34,h⟩):=by
   rw[Ac,kB q3,kB (s':=⟨env.set 13 (some (.bool true)),34,h⟩) (by rw[wV (t:=true) (by simp[evO,Env.v,bp])];rfl),S8,
    kB (It q1),q2]
  rw[bF,show n+30+(l.length+1)=(n+l.length+30)+1 from by omega,LX J,show n+l.length+30=n+30+l.length from by omega]
  exact q3'
noncomputable def mR0 : Code:=leftC j_
noncomputable def Zj : Code:=leftC (cX j_)
noncomputable def Zk : Code:=leftC (leftC (cX (cX j_)))
noncomputable def S_ : Code:=cX (cX (cX j_))
theorem Ta : j_=.seq mR0 (.seq Zj (.seq (.seq Zk (.block 0 (.loop j6))) S_)):=rfl
theorem Zl : ev ⟨Tryz.prog,told⟩ (n+1) mR0 ⟨env,34,h⟩=some (.normal,⟨env.set 4 (some (.int .u32 0)),34,h⟩):=by
 rfl
theorem Zm {x:Nat}(J:x<4294967296)(h0:T.get env 0=some (.int .u32 x)):
  ∃I,ev ⟨Tryz.prog,told⟩ (n+1) Zj ⟨env,34,h⟩=some (.normal,⟨I,34,h⟩)∧T.get I 5=some (.int .u32 ((Nat.xor x 4294967295:Nat):Int))∧∀t,t≠5→t≠8→t≠9→T.get I t=T.get env t:=by
 refine⟨((env.set 8 (some (.int .u32 x))).set 9 (some (.int .u32 ((Nat.xor x 4294967295:Nat):Int)))).set 5 (some (.int .u32 ((Nat.xor x 4294967295:Nat):Int))),?_,by simp[bp],fun t h1 h2 h3=>by simp[bp,h1,h2,h3]⟩
 simp only[Zj,j_,Tryz.f178,iD,leftC,cX,iG,evStep,aY]
 rw[cj rfl rfl rfl]
 simp only[evOp,evO,Env.v,h0,bO,dw]
 rw[cj rfl rfl rfl]
 have:=xW (a:=x) (b:=4294967295) J (by omega)
 rw[show((4294967295:Nat):Int)=4294967295 from rfl] at this
 simp only[evOp,evO,Env.v,bp,cY,ofValue,ofScalar,binV,ikBeq,aj,this,bO,dw]
 rw[cj rfl rfl rfl]
 simp only[evOp,evO,Env.v,bp,cY,bO,dw,evOps]
theorem Zn {x:V}{len:Nat}(J:T.get env 1=some x)(hl:lenV Tryz.prog h 28 x=some (.int .i64 len)):
  ∃I,ev ⟨Tryz.prog,told⟩ (n+1) Zk ⟨env,34,h⟩=some (.normal,⟨I,34,h⟩)∧T.get I 10=some x∧T.get I 11=some (.int .i64 len)∧T.get I 12=some (.int .i64 ((0:Nat):Int))∧T.get I 5=T.get env 5:=by
 refine⟨((env.set 10 (some x)).set 11 (some (.int .i64 len))).set 12 (some (.int .i64 0)),?_,by simp[bp],by simp[bp],by simp[bp],by simp[bp]⟩
 simp only[Zk,j_,Tryz.f178,iD,leftC,cX,iG,evStep,aY]
 rw[cj rfl rfl rfl]
 simp only[evOp,evO,Env.v,J,bO,dw]
 rw[cj rfl rfl rfl]
 simp only[evOp,evCall,evArgs,evO,Env.v,bp,cY,builtinV,hl,lZ,dw]
 rw[cj rfl rfl rfl]
 simp only[evOp,evO,ofValue,ofScalar,bO,dw,evOps]
theorem WZ {x:Nat}(J:x<4294967296)(h5:T.get env 5=some (.int .u32 x)):
  ∃I,ev ⟨Tryz.prog,told⟩ (n+2) S_ ⟨env,34,h⟩=some (.ret,⟨I,34,h⟩)∧T.get I 4=some (.int .u32 ((Nat.xor x 4294967295:Nat):Int)):=by
 refine⟨((env.set 32 (some (.int .u32 x))).set 33 (some (.int .u32 ((Nat.xor x 4294967295:Nat):Int)))).set 4 (some (.int .u32 ((Nat.xor x 4294967295:Nat):Int))),?_,by simp[bp]⟩
 simp only[S_,j_,Tryz.f178,iD,cX,iG,evStep,aY]
 rw[cj rfl rfl rfl]
 simp only[evOp,evO,Env.v,h5,bO,dw]
 rw[cj rfl rfl rfl]
 have:=xW (a:=x) (b:=4294967295) J (by omega)
 rw[show((4294967295:Nat):Int)=4294967295 from rfl] at this
 simp only[evOp,evO,Env.v,bp,cY,ofValue,ofScalar,binV,ikBeq,aj,this,bO,dw]
 rw[cj rfl rfl rfl]
 simp only[evOp,evO,Env.v,bp,cY,bO,dw,evOps]
end
theorem NA : ∀(cs:List V) (l:List Nat),bytesIn cs=some l→cs=l.map (fun(b:Nat)=>V.int .u8 (b:Int))∧∀b∈l,b<256:=by
 intro cs
 induction cs with
 |nil=>grind[bytesIn]
 |cons v cs I =>
  intro l h
  unfold bytesIn at h
  grind
theorem Fi : ∀(l:List Nat) (x:Nat),x<4294967296→(∀b∈l,b<256)→crcL x l<4294967296:=by
 intro l
 induction l with
 |nil=>intro x I _;exact I
 |cons b l ih =>
  intro x I J
  have h1:=J b (by simp)
  exact ih _ (Ds 8 _ (o8 I (by omega))) (fun c hc=>J c (by grind))
theorem Cs {s : Int} {x : V} {len : Nat} (hs0 : 0 ≤ s) (jD : s < 4294967296) (hl : lenV Tryz.prog σ 28 x = some (.int .i64 len)) (hlen : len = l.length) (kI : len < 9223372036854775807)
  (hb : ∀ b ∈ l, b < 256) (hx : l = [] ∨ ∃ id off cap, x = .sl id off len cap ∧ ∀ j b : Nat, l[j]? = some b → zG σ id (off + (0 + j)) = some (.int .u8 (b : Int))) :
  run ⟨Tryz.prog, fun _ => none⟩ (l.length + 40) 178 [.int .u32 s, x] σ = some (wU s l, σ) := by
 obtain ⟨u, rfl⟩ : ∃ u : Nat, s = (u : Int) := ⟨s.toNat, by omega⟩
 have hu : u < 4294967296 := by omega
 have q0 := Zl (told := fun _ => none) (l.length + 38) (bindArgs [.int .u32 u, x] 0 .lf) σ
 obtain ⟨e1, q1, q1a, q1b⟩ := Zm (told := fun _ => none) (l.length + 37) ((bindArgs [.int .u32 u, x] 0 .lf).set 4 (some (.int .u32 0))) σ hu (by rfl)
 obtain ⟨e2, q2, Vo, Vp, q2c, q2d⟩ := Zn (told := fun _ => none) (l.length + 35) e1 σ (x := x) (by grind [bp, bindArgs]) hl
 have I : Nat.xor u 4294967295 < 4294967296 := o8 hu (by omega)
 have J : ∃ e', ev ⟨Tryz.prog, fun _ => none⟩ (5 + 30 + l.length) (.loop j6) ⟨e2, 34, σ⟩ = some (.exit 0, ⟨e', 34, σ⟩) ∧ T.get e' 5 = some (.int .u32 ((crcL (Nat.xor u 4294967295) l : Nat) : Int)) := by
  rcases hx with rfl | ⟨id, off, cap, rfl, jw⟩
  ·have q3 := Iu (told := fun _ => none) 32 e2 σ q2c Vp
   have hd : decide ((((0 : Nat) : Int)) < (len : Int)) = false := by grind
   rw [hd] at q3
   refine ⟨e2.set 13 (some (.bool false)), ?_, by simp [bp, q2d, q1a, crcL]⟩
   refine uM ?_
   rw [Ac, kB q3]
   exact vP (by rw [wV (t := false) (by simp [evO, Env.v, bp])]; rfl)
  ·exact Nz σ kI l 0 5 e2 _ (by omega) I hb jw (by grind) q2c Vo Vp
 obtain ⟨e3, q3, Zi⟩ := J
 obtain ⟨e4, q4, Zg⟩ := WZ (told := fun _ => none) (l.length + 35) e3 σ (Fi l _ I hb) Zi
 have aaY : ev ⟨Tryz.prog, fun _ => none⟩ (l.length + 40) j_ ⟨bindArgs [.int .u32 u, x] 0 .lf, 34, σ⟩ = some (.ret, ⟨e4, 34, σ⟩) := by
  rw [Ta, kB q0, kB q1, kB (s' := ⟨e3, 34, σ⟩) (by
   rw [kB q2]
   grind [yV]), q4]
 unfold run callF
 simp only [Dm]
 rw [show Tryz.f178.body = some j_ from rfl]
 rw [show (Tryz.f178.name == "runtime.NumGoroutine" || Nat.blt Tryz.f178.ntmps [V.int .u32 (u : Int), x].length) = false from rfl]
 simp only [aY]
 rw [show Tryz.f178.ntmps = 34 from rfl, aaY]
 simp only
 rw [show Tryz.f178.results = #[.tmp 4] from rfl]
 simp only [mapO, resV, Env.v, Zg, wU, dY]
section
variable {c:Ctx} {w:World}
theorem KR (hP:C.P=Tryz.prog)(hm:C.P.follows .mixedOrders=true){v:V}(I:toldMore args σ=some (v,dz))(h:Rel c σ w)(hw:∀x∈args,wf c x):
  eZ C.P 178 args c w v dz:=by
 rw[hP] at hm ⊢
 have hT:fq ⟨Tryz.prog,fun _=>none⟩:=fun f g hg=>by cases hg
 unfold toldMore at I
 split at I
 ·rename_i s id off len cap
  cases J:(decide (0≤s)&&decide (s<4294967296)&&Nat.ble len 4611686018427387904) with
  |false=>grind
  |true =>
   rw[J,aj] at I
   simp only[bQ,gE,bg] at J
   obtain⟨hd,kI⟩:=J
   cases jw:rdN σ id off len with
   |none=>grind
   |some cs =>
    simp only[jw] at I
    cases hb:bytesIn cs with
    |none=>grind
    |some l =>
     simp only[hb,az,bJ] at I
     obtain⟨rfl,rfl⟩:=I
     obtain⟨b1,b2⟩:=NA cs l hb
     obtain⟨d1,d2⟩:=WW h jw
     have hl:len=l.length:=by grind
     refine Ir (C:=⟨Tryz.prog,fun _=>none⟩) hm hT (Cs hd.1 hd.2 (len:=len) (by simp[lenV,aK]) hl (by omega) b2 (.inr ⟨id,off,cap,rfl,fun j b hj => ?_⟩)) h hw
     ·grind
 ·rename_i s
  cases hd:(decide (0≤s)&&decide (s<4294967296)) with
  |false=>grind
  |true =>
   rw[hd,aj] at I
   simp only[bQ,gE] at hd
   obtain⟨rfl,rfl⟩:=I
   exact Ir (C:=⟨Tryz.prog,fun _=>none⟩) hm hT (Cs hd.1 hd.2 (len:=0) (l:=[]) (by simp[lenV,aK]) rfl (by omega) (by simp) (.inl rfl)) h hw
 ·rename_i s _
  cases hd:(decide (0≤s)&&decide (s<4294967296)) with
  |false=>grind
  |true =>
   rw[hd,aj] at I
   simp only[bQ,gE] at hd
   obtain⟨rfl,rfl⟩:=I
   exact Ir (C:=⟨Tryz.prog,fun _=>none⟩) hm hT (Cs hd.1 hd.2 (len:=0) (l:=[]) (by simp[lenV,aK]) rfl (by omega) (by simp) (.inl rfl)) h hw
 ·cases I
end
end Go.Proofs.YtefepnnfphdkpaaGreat.Am
namespace Go.Proofs.YtefepnnfphdkpaaGreat.Am
open Go Go.Maps Go.RowKit
variable {ps:Array (Nat×Operand)} {ops:Array Oper} {C:fc} {code:Code} {c₀:Ctx} {env:Env} {Q:Ex→List (Nat×V)→H→Prop} {fn:Func} {f:FuncId} {cl:Go.Call} {h h' σ h₁ dz:H} {E E':List (Nat×V)} {R:List (Nat×V)→H→Prop} {d₀:List Deferred} {hs:List H} {eO es l:List Nat} {L rest:List Oper} {args first cap vs cs ds:List V} {a b i c k id n d off j g nZ k' q:Nat} {Hs:Nat→H} {early:Nat→Option (Nat×FV)} {Fl:Nat→Prop} {vv:Nat→V} {o':Obj} {o:Oper} {x y:Operand} {P:Program} {φ:Prop} {self:Self} {s s':St} {α:Type} {td:TypeDesc} {t t' e kt et:TypeId} {r u z:V} {z7:V→H→Prop} {w₀:World}
def keyInts : List (V×V×Nat)→Option (List Int)
 |[]=>some []
 |(.int .i64 n,_,_)::l=>cond (Lit.int .i64 n).wf (match keyInts l with
  |some m=>some (n::m)
  |none=>none) none
 |_=>none
def bornUp (clock:Nat): Nat→List (V×V×Nat)→Bool
 |_,[]=>true
 |b,(_,_,x)::l=>cond (Nat.ble b x&&Nat.blt x clock) (bornUp clock (x+1) l) false
def insI (x:Int): List Int→List Int
 |[]=>[x]
 |y::l=>cond (decide (x≤y)) (x::y::l) (y::insI x l)
def nG : List Int→List Int
 |[]=>[]
 |x::l=>insI x (nG l)
def sH : List Int→Bool
 |[]=>true
 |x::l=>l.all (fun y=>decide (x<y))&&sH l
def fL (l:List Int): List V:=l.map (V.int .i64)
noncomputable def toldSorted (gs:List Nat): List V→H→Option (V×H)
 |[.fn (.func g) [] [.ptr b 0]],h=>match h.tr.get b with
  |some (.cells n [.map id] false)=>match h.tr.get id with
   |some (.map es clock)=>cond (Nat.beq n 1&&xE gs g&&bornUp clock 0 es&&Nat.ble es.length 1048576) (match keyInts es with
    |some ks=>cond (sH (nG ks)) (match ks with
     |[]=>some (.a_,h)
     |_=>some (.sl h.next 0 ks.length (.rest 1 0),newRow h (fL (nG ks)))) none
    |none=>none) none
   |_=>none
  |_=>none
 |_,_=>none
theorem Ad (x:Int): ∀l:List Int,(insI x l).Perm (x::l)
 |[]=>.refl _
 |y::l=>by
  simp only[insI]
  cases decide (x≤y) with
  |true=>rfl
  |false=>exact((Ad x l).cons y).trans (.swap x y l)
theorem eL : ∀l:List Int,(nG l).Perm l
 |[]=>.refl _
 |x::l=>(Ad x _).trans ((eL l).cons x)
theorem Gh : ∀l:List Int,sH l=true→l.Pairwise (· < ·)
 |[],_=>.nil
 |x::l,h=>by
  simp only[sH,bQ,ud,gE] at h
  exact List.pairwise_cons.2 ⟨h.1,Gh l h.2⟩
theorem wW : ∀ {l m:List Int},l.Perm m→l.Pairwise (· ≤ ·)→m.Pairwise (· ≤ ·)→l=m
 |[],m,I,_,_=>I.nil_eq
 |a::r,[],I,_,_=>absurd I.symm.nil_eq (by simp)
 |a::r,b::s,I,h1,h2=>by
  obtain⟨a1,a2⟩:=List.pairwise_cons.1 h1
  obtain⟨b1,b2⟩:=List.pairwise_cons.1 h2
  have J:a=b:=by
   have ha:a∈b::s:=I.mem_iff.1 (by simp)
   have hb:b∈a::r:=I.mem_iff.2 (by simp)
   grind
  subst J
  rw[wW (List.Perm.cons_inv I) a2 b2]
theorem Gi {clock:Nat}: ∀(l:List (V×V×Nat)) (b:Nat),bornUp clock b l=true→(∀x∈l,b≤x.2.2∧x.2.2<clock)∧(l.map (·.2.2)).Nodup
 |[],_,_=>⟨by simp,by simp⟩
 |(k,v,x)::l,b,h=>by
  simp only[bornUp] at h
  cases I:(Nat.ble b x&&Nat.blt x clock) with
  |false=>grind
  |true =>
   rw[I,aj] at h
   simp only[bQ,bg,iF] at I
   obtain⟨i1,i2⟩:=Gi l (x+1) h<;>grind
theorem Dt {c:Ctx}: ∀(l:List (V×V×Nat)) (ks:List Int),keyInts l=some ks→l.map (fun x=>conc c x.1)=ks.map (Value.int .i64)∧∀n∈ks,(Lit.int .i64 n).wf=true
 |[],ks,h=>by grind[keyInts]
 |(k,v,b)::l,ks,h=>by
  unfold keyInts at h
  split at h
  ·grind
  ·rename_i n v' I J he
   obtain⟨⟨rfl,rfl,rfl⟩,rfl⟩:=he
   cases hw:(Lit.int .i64 n).wf with
   |false=>grind
   |true =>
    cases hm:keyInts l with
    |none=>grind
    |some m =>
     simp[hw,hm] at h
     obtain⟨i1,i2⟩:=Dt (c:=c) l m hm<;>grind[conc]
  ·cases h
section
variable {c:Ctx} {w w':World}
theorem Rel.below (h:Rel c σ w)(I:Below w.heap.size w w'): Rel c σ w'∧cF c w c w':=by
 have rows:∀b,b<w.heap.size→rowSize w' b=rowSize w b:=fun b J=>by unfold rowSize;rw[I.block b J]
 refine⟨⟨h.next,h.live,fun id hi=>iS (h.lP id hi) I.size,fun id hi=>by rw[rows _ (h.lP id hi)];exact h.zz id hi,h.inj,
  fun id o ho=>(h.obj id o ho).later (Ext.refl c) (h.live id o ho) (I.block _ (h.lP id (h.live id o ho))),h.one,h.fx⟩,
  ⟨Ext.refl c,I.size,rows,fun b J _=>I.block b J,fun id h1 h2=>by omega,I.os,I.output⟩⟩
theorem Rel.take {C:Array Value}{T:TypeId}(h:Rel c σ w)(hb:b<w.heap.size)(hr:∀id,id<c.N→(c.ρ id).1≠b)(J:∀v∈cs,wf c v∧storable v=true)
 (hg:w.heap[b]?=some (.cells C T (0,0)))(hC:C.toList.take cs.length=cs.map (conc c)): Rel (c.grow b 0 C.size) (Am.newRow σ cs) w:=by
 have e:=sq hr 0 C.size
 have hN:(c.grow b 0 C.size).N=c.N+1:=rfl
 have hle:cs.length≤C.size:=by
  have:=jm List.length hC
  simp at this
  omega
 have key:∀i o,(Am.newRow σ cs).tr.get i=some o→(i=c.N∧o=.cells cs.length cs false)∨(i<c.N∧σ.tr.get i=some o):=by
  intro i o hi
  rw[Am.newRow,gI,h.next] at hi
  by_cases h1:i=c.N
  ·grind
  ·simp[h1] at hi;exact .inr ⟨h.live i o hi,hi⟩
 refine⟨by simp[Am.newRow,H.new,Ctx.grow,h.next],fun i o hi => ?_,fun i hi => ?_,fun i hi => ?_,fun i j o o' hi hj he => ?_,fun i o hi => ?_,fun i yP nR hi hx => ?_,fun i o hi hx => ?_⟩
 ·grind
 ·by_cases h1:i=c.N
  ·grind[bP]
  ·rw[dI c _ _ _ (by omega)];exact h.lP i (by omega)
 ·by_cases h1:i=c.N
  ·grind[Ctx.grow,rowSize]
  ·rw[dI c _ _ _ (by omega),←h.zz i (by omega)];simp[Ctx.grow,hr i (by omega)]
 ·rcases key i o hi with⟨I,_⟩|⟨I,a2⟩<;>rcases key j o' hj with⟨b1,_⟩|⟨b1,b2⟩
  ·omega
  ·grind[bP,dI]
  ·grind[bP,dI]
  ·rw[dI c _ _ _ I,dI c _ _ _ b1] at he;rw[gN c _ _ _ I,gN c _ _ _ b1];exact h.inj i j _ _ a2 b2 he
 ·rcases key i o hi with⟨rfl,rfl⟩|⟨I,a2⟩
  ·refine⟨rfl,fun v hv=>⟨(cx e v (J v hv).1).2,(J v hv).2⟩,C,T,(0,0),by rw[bP];exact hg,by grind[bP],fun j v hj => ?_,rfl⟩
   rw[bP,(cx e v (J v (bD hj)).1).1]
   have h1:(C.toList.take cs.length)[j]?=some (conc c v):=by grind
   grind
  ·exact(h.obj i o a2).later e I rfl
 ·rcases key i _ hi with⟨rfl,_⟩|⟨I,a2⟩
  ·rw[bP]
  ·rw[gN c _ _ _ I] at hx
   rw[dI c _ _ _ I];exact h.one i yP nR a2 hx
 ·rcases key i o hi with⟨rfl,_⟩|⟨I,a2⟩
  ·grind[xI]
  ·rw[gN c _ _ _ I] at hx;exact h.fx i o a2 hx
def o_ (_:Value): Option (DataW Unit×List MemPlace):=some (.nil,[])
def Gj (P:Program)(f K:Nat)(gs:List Nat): Prop:=∀g∈gs,∀(Bm b nn:Nat) (I:DataW Unit) (w:World),Bm<w.heap.size→w.cell? ⟨Bm,0,none⟩=some (.map (some b)) →
 w.ownsMap P K o_ b nn I→Maps.size I≤maxLen→Maps.size I*8≤140737488355328 →
 Calls P f #[.func (.func g) #[] #[.pointer (some ⟨Bm,0,none⟩)]] w fun e w'=>∃(v:Value) (J:List Int),e=.returned v∧J.Perm (intKeys I) ∧
  w'.ownsRow w.heap.size K 1 v J.length ((J.mergeSort (fun x y=>decide (x≤y))).map encZ)∧(v=.slice none 0 0↔J=[])∧Below w.heap.size w w'
theorem Hu {f K:Nat}{gs:List Nat}(hK:P.underlying K=some (.int .i64))(hS:Gj P f K gs){v:V}(I:toldSorted gs args σ=some (v,dz))
 (h:Rel c σ w): eZ P f args c w v dz:=by
 unfold toldSorted at I
 split at I
 ·rename_i g b
  split at I
  ·rename_i n id Vq
   split at I
   ·rename_i es clock hgm
    cases hq:(Nat.beq n 1&&xE gs g&&bornUp clock 0 es&&Nat.ble es.length 1048576) with
    |false=>grind
    |true =>
     rw[hq,aj] at I
     simp only[bQ,beq_iff,bg,Cq] at hq
     obtain⟨⟨⟨q1,q2⟩,q3⟩,q4⟩:=hq
     subst q1
     cases hk:keyInts es with
     |none=>grind
     |some ks =>
      simp only[hk] at I
      cases J:sH (nG ks) with
      |false=>grind
      |true =>
       simp only[J,aj] at I
       obtain⟨k1,k2⟩:=Dt (c:=c) es ks hk
       obtain⟨b1,b2⟩:=Gi es 0 q3
       have cI:=Gh _ J
       have iK:ks.Nodup:=(eL ks).nodup_iff.1 (cI.imp fun {a b} oY=>by omega)
       have xX:=h.one b _ _ Vq (h.E7 Vq (by simp))
       have xH:=cell_of h Vq (j:=0) (v:=.map id) rfl
       have aci:iA c b 0=⟨(c.ρ b).1,0,none⟩:=by simp[iA,xX]
       rw[aci] at xH
       have Zo:w.cell? ⟨(c.ρ b).1,0,none⟩=some (.map (some (c.ρ id).1)):=by simpa[conc] using xH
       obtain⟨m1,m2⟩:=h.obj id _ hgm
       have HI:∀x∈es,∃n,n∈ks∧(cU c x).key=.int .i64 n:=fun x hx=>by
        have:conc c x.1∈ks.map (Value.int .i64):=by grind
        obtain⟨n,hn,he⟩:=List.mem_map.1 this
        exact⟨n,hn,he.symm⟩
       have jw:∀x∈es,∀n,(cU c x).key=.int .i64 n→n∈ks→WideElems.rd P K o_ (cU c x)=some (.int .i64 n,.nil):=fun x hx n hn hm=>by
        grind[WideElems.rd,Maps.keyOf_int_mk,o_]
       have acj:w.ownsMap P K o_ (c.ρ id).1 es.length (.map (((es.map (cU c)).toArray.toList.map (WideElems.rg P K o_)).foldr DataW.insert [])):=by
        refine⟨(es.map (cU c)).toArray,clock,m2,⟨by simp[maxLen];omega,⟨fun x hx => ?_,?_,?_⟩,fun x hx => ?_⟩,by simp,rfl⟩
        ·simp only[List.mem_map] at hx
         obtain⟨y,hy,rfl⟩:=hx
         exact(b1 y hy).2
        ·grind[cU]
        ·have:(es.map (cU c)).toArray.toList.map (·.key)=ks.map (Value.int .i64):=by simp_all[cU,Function.comp_def]
         grind
        grind
       have fC:Maps.size (H:=Unit) (.map (((es.map (cU c)).toArray.toList.map (WideElems.rg P K o_)).foldr DataW.insert []))=es.length:=by
        rw[Maps.size_eq,(WideShapes.sorted_perm _).length_eq];simp
       have NB:(intKeys (H:=Unit) (.map (((es.map (cU c)).toArray.toList.map (WideElems.rg P K o_)).foldr DataW.insert []))).Perm ks:=by
        refine((WideShapes.sorted_perm _).map _).trans ?_
        have:(((es.map (cU c)).toArray.toList.map (WideElems.rg P K o_)).map fun p=>intOf p.1)=ks:=by
         have LZ:∀x∈es,Value.int .i64 (intOf (WideElems.rg P K o_ (cU c x)).1)=conc c x.1:=fun x hx=>by
          obtain⟨n,hn,he⟩:=HI x hx
          rw[WideElems.rg_of (jw x hx n he hn)]
          exact he.symm
         have h1:((((es.map (cU c)).toArray.toList.map (WideElems.rg P K o_)).map fun p=>intOf p.1).map (Value.int .i64))=ks.map (Value.int .i64):=by
          grind[List.map_congr_left]
         grind[List.map_inj_right]
        rw[this]
       have NC:=hS g q2 (c.ρ b).1 (c.ρ id).1 es.length _ w (h.lP b (h.live b _ Vq)) Zo acj (by rw[fC];simp[maxLen];omega) (by omega)
       have Br:([V.fn (.func g) [] [.ptr b 0]].map (conc c)).toArray = #[.func (.func g) #[] #[.pointer (some ⟨(c.ρ b).1,0,none⟩)]]:=by simp[conc,concL,xX]
       unfold eZ
       rw[Br]
       refine NC.mono ?_
       rintro e w' ⟨rv,ss,rfl,s1,s2,s3,s4⟩
       obtain⟨g1,g2⟩:=h.below s4
       have hss:ss.Perm ks:=s1.trans NB
       have hms:ss.mergeSort (fun x y=>decide (x≤y))=nG ks:=by
        refine wW (((List.mergeSort_perm ss _).trans hss).trans (eL ks).symm) ?_ (cI.imp fun {a b} oY=>by omega)<;>grind[List.pairwise_mergeSort]
       rw[hms] at s2
       split at I
       ·-- no key
        have xR:ss=[]:=by simp_all
        grind[conc,wf]
       ·obtain⟨rfl,rfl⟩:=I
        have aee:ss≠[]:=fun e=>by
         simp_all
        have kz:ss.length=ks.length:=hss.length_eq
        rcases s2.2 with⟨e1,_⟩|⟨gb,cap,cur,rfl,l1,l2,l3,l4,l5,l6⟩
        ·grind
        have ack:gb<w'.heap.size:=(Array.getElem?_eq_some_iff.1 l2).1
        have F7:∀i,i<c.N→(c.ρ i).1≠gb:=fun i hi e=>by have:=h.lP i hi;omega
        have ql:∀x∈fL (nG ks),wf c x∧storable x=true:=fun x hx=>by
         obtain⟨n,_,rfl⟩:=List.mem_map.1 hx<;>grind[wf,storable]
        have L0:(fL (nG ks)).length=ks.length:=by simp[fL,(eL ks).length_eq]
        have aaZ:cur.toList.take (fL (nG ks)).length=(fL (nG ks)).map (conc c):=by
         simp_all[fL,conc]
        have R:=g1.take ack F7 ql l2 aaZ
        have C1:(c.grow gb 0 cur.size).room σ.next 0 1=cap:=by
         simp only[Ctx.room,h.next,Ctx.grow,cY]
         simp[l5]
        refine⟨c.grow gb 0 cur.size,?_,?_,R,g2.HF F7 l1⟩
        ·simp only[conc,C1]
         simp[h.next,Ctx.grow,kz]
        ·exact⟨by rw[h.next];simp[Ctx.grow],aU _,by omega⟩
   ·cases I
  ·cases I
 ·cases I
end
end Go.Proofs.YtefepnnfphdkpaaGreat.Am
namespace Go.Proofs.YtefepnnfphdkpaaGreat.Am
open Go
variable {ps:Array (Nat×Operand)} {ops:Array Oper} {C:fc} {code:Code} {c₀:Ctx} {env:Env} {Q:Ex→List (Nat×V)→H→Prop} {fn:Func} {f:FuncId} {cl:Go.Call} {h h' σ h₁ dz:H} {E E':List (Nat×V)} {R:List (Nat×V)→H→Prop} {d₀:List Deferred} {hs:List H} {eO es l:List Nat} {L rest:List Oper} {args first cap vs cs ds:List V} {a b i c k id n d off j g nZ k' q:Nat} {Hs:Nat→H} {early:Nat→Option (Nat×FV)} {Fl:Nat→Prop} {vv:Nat→V} {o':Obj} {o:Oper} {x y:Operand} {P:Program} {φ:Prop} {self:Self} {s s':St} {α:Type} {td:TypeDesc} {t t' e kt et:TypeId} {r u z:V} {z7:V→H→Prop} {w₀:World}
abbrev qR := List (Nat×List V×List V)
noncomputable def resOf (P:Program)(s:St)(rs:List ResultVar): Option V:=match mapO (resV P s) rs with
 |some [v]=>some v
 |some vs=>some (.bf vs)
 |none=>none
noncomputable def evOpsD (C:fc)(self:Self)(L:List Oper): List Oper→St→qR→Option (St×qR)
 |[],s,d=>some (s,d)
 |o::rest,s,d=>match o.op with
  |.defer cl=>match o.guard,o.dst,cl.callee,evArgs s.env cl.args.toList with
   |none,none,.value x,some args=>match evO s.env x with
    |some (.fn (.func g) first cap)=>evOpsD C self L rest s ((g,first++args,cap)::d)
    |_=>none
   |_,_,_,_=>none
  |_=>cond (wantedV L s.env o)
   (match evOp C self s.env s.h o with
    |some (v,h)=>match s.put o.dst v h with
     |some s'=>evOpsD C self L rest s' d
     |none=>none
    |none=>none)
   (match s.put o.dst ct s.h with
    |some s'=>evOpsD C self L rest s' d
    |none=>none)
noncomputable def evTop (C:fc)(n:Nat): Nat→Code→St→qR→Option (Ex×St×qR)
 |0,_,_,_=>none
 |m+1,c,s,d=>match c with
  |.seq a b=>match evTop C n m a s d with
   |some (.normal,s',I)=>evTop C n m b s' I
   |r=>r
  |.region _ ops false=>match evOpsD C (ev C n) ops.toList ops.toList s d with
   |some (s',I)=>some (.normal,s',I)
   |none=>none
  |c=>match ev C n c s with
   |some (ex,s')=>some (ex,s',d)
   |none=>none
def quietParts : Code→Option (Nat×Nat×Code)
 |.seq (.region _ ops false) rest=>match ops.toList with
  |[I,J]=>match I.op,I.guard,I.dst,J.op,J.guard,J.dst with
   |.call cl,none,some nZ,.assign (.tmp t),none,some Fj=>match cl.callee,cl.args.toList with
    |.builtin .recover,[]=>cond (Nat.beq t nZ) (some (nZ,Fj,rest)) none
    |_,_=>none
   |_,_,_,_,_,_=>none
  |_=>none
 |_=>none
noncomputable def defCall (C : fc) (n : Nat) (g : Nat) (args : List V) (h : H) : Option H := match C.P.funcs[g]? with
 | none => none
 | some fn => match fn.body with
  | none => none
  | some code => match quietParts code with
   | some (nZ, I, rest) => cond (Nat.blt nZ fn.ntmps && Nat.blt I fn.ntmps && Nat.ble args.length fn.ntmps && !(fn.name == "runtime.NumGoroutine"))
    (match ev C n rest ⟨((bindArgs args 0 .lf).set nZ (some .jQ)).set I (some .jQ), fn.ntmps, h⟩ with
     | some (.normal, s) | some (.ret, s) => match resOf C.P s fn.results.toList with
      | some _ => some s.h
      | none => none
     | _ => none) none
   | none => match callF C (ev C n) g args h with
    | some (_, h') => some h'
    | none => none
noncomputable def runDefs (C:fc)(n:Nat): qR→H→Option H
 |[],h=>some h
 |(g,args,cap)::d,h=>match C.told g with
  |some _=>none
  |none=>match defCall C n g (args++cap) h with
   |some h'=>runDefs C n d h'
   |none=>none
noncomputable def toldDefer (C:fc)(n f:Nat)(args:List V)(h:H): Option (V×H):=match C.P.funcs[f]? with
 |none=>none
 |some fn=>match fn.body with
  |none=>none
  |some c=>cond (Nat.blt fn.ntmps args.length) none (match evTop C n 1000 c ⟨bindArgs args 0 .lf,fn.ntmps,h⟩ [] with
   |some (.exit _,_,_)=>none
   |some (_,s,d)=>match runDefs C n d s.h with
    |some h'=>match resOf C.P ⟨s.env,s.au,h'⟩ fn.results.toList with
     |some v=>some (v,h')
     |none=>none
    |none=>none
   |none=>none)
section
variable {c:Ctx} {w:World}
theorem Ct {a:Act}{v:V}(h:Rel c s.h w)(he:dH c s.env s.au a)(J:resOf P s fn.results.toList=some v):
  (results fn a.tmps).run P w=.ok (conc c v) w∧wf c v:=by
 unfold resOf at J
 cases I:mapO (resV P s) fn.results.toList with
 |none=>grind
 |some vs =>
  obtain⟨q1,q2⟩:=oB h he I
  rw[q1]
  rcases vs with _|⟨v0,_|⟨v1,vs⟩⟩<;>grind[conc,wf,gu,iV]
structure sr (c:Ctx)(d:qR)(ds:List Deferred): Prop where
 eq:ds=d.map fun x=>{ target:=.fn (.func x.1) (x.2.2.map (conc c)).toArray,args:=(x.2.1.map (conc c)).toArray }
 Gk:∀x∈d,(∀v∈x.2.1,wf c v)∧∀v∈x.2.2,wf c v
theorem sr.ext {c':Ctx}{d:qR}{ds:List Deferred}(h:sr c d ds)(e:Ext c c'): sr c' d ds where
 eq:=by
  rw[h.eq]
  refine A4 fun x I => ?_
  rw[(l9 e (h.Gk x I).1).1,(l9 e (h.Gk x I).2).1]
 Gk:=fun x I=>⟨(l9 e (h.Gk x I).1).2,(l9 e (h.Gk x I).2).2⟩
theorem PT {a:Act}(he:dH c env n a): ∀(l:List Operand) (vs:List V),evArgs env l=some vs→l.map a.eval=vs.map (conc c)∧∀v∈vs,wf c v:=by
 intro l
 induction l<;>grind[evArgs,wK]
theorem PU (hS:jo C.P self)(hT:fq C){Q:Exit→Act→World→Prop}: ∀(l:List Oper) (k:Nat) (s s':St) (d d':qR) (c:Ctx) (a:Act) (w:World),
  (∀j,l[j]?=ops[k+j]?)→evOpsD C self ops.toList l s d=some (s',d')→Rel c s.h w→dH c s.env s.au a→sr c d a.defers →
  (∀c' a' w',Rel c' s'.h w'→dH c' s'.env s'.au a'→cF c w c' w'→sr c' d' a'.defers→Q .normal a' w') →
  wpOpsIn (Fr none) 0 C.P ops Q (List.range' k l.length) a w:=by
 intro l
 induction l with
 |nil =>
  grind[evOpsD,wpOpsIn,cF.refl]
 |cons o l ih =>
  intro k s s' d d' c a w hl I h he hd hQ
  have h0:ops[k]?=some o:=by simpa using(hl 0).symm
  have yS:∀j,l[j]?=ops[k+1+j]?:=fun j=>by have:=hl (j+1);grind
  simp only[bF,A8,wpOpsIn,h0]
  rw[xS he]
  have common:(cond (wantedV ops.toList s.env o)
    (match evOp C self s.env s.h o with
     |some (v,h)=>match s.put o.dst v h with
      |some s'=>evOpsD C self ops.toList l s' d
      |none=>none
     |none=>none)
    (match s.put o.dst ct s.h with
     |some s'=>evOpsD C self ops.toList l s' d
     |none=>none))=some (s',d') →
    (if wantedV ops.toList s.env o=true then o.wpIn (Fr none) 0 C.P a w (wpOpsIn (Fr none) 0 C.P ops Q (List.range' (k+1) l.length)) Q else(∀f,o.about C.P w a.eval=some f→(Fr none).fn f)∧wpOpsIn (Fr none) 0 C.P ops Q (List.range' (k+1) l.length) (a.put o.dst undef) w):=by
   intro I
   cases hw:wantedV ops.toList s.env o with
   |true =>
    rw[hw,aj] at I
    cases ho:evOp C self s.env s.h o with
    |none=>grind
    |some r =>
     obtain⟨v,dz⟩:=r
     simp only[ho] at I
     cases hp:s.put o.dst v dz with
     |none=>grind
     |some J =>
      simp only[hp] at I
      refine(wR hS hT h (he.Db o) ho).wpIn (mg ho) ?_
      intro c' w' r1 r2 r3
      obtain⟨p1,p2,p3⟩:=St.wJ (he.ext r2.ext) r3 hp
      refine ih (k+1) J s' d d' c' _ w' yS I (by grind) p1 (by rw[put_defers];exact hd.ext r2.ext) ?_
      intro tD yT zX q1 q2 q3 q4
      exact hQ tD yT zX q1 q2 (r2.trans q3) q4
   |false =>
    refine⟨fun _ _=>trivial,?_⟩
    cases hp:s.put o.dst ct s.h with
    |none=>grind
    |some J =>
     obtain⟨p1,p2,p3⟩:=St.wJ he (show wf c ct by simp[ct,wf,gM]) hp<;>grind[tK,put_defers]
  unfold evOpsD at I
  split at I
  ·rename_i cl je
   split at I
   ·rename_i x args hg SJ adB Br
    split at I
    ·rename_i g first cap hfv
     have aa0:wantedV ops.toList s.env o=true:=by simp[wantedV,hg]
     simp only[aa0,cY]
     obtain⟨e1,e2⟩:=PT he _ _ Br
     obtain⟨f1,f2⟩:=wK he hfv
     have fw:(∀x∈first,wf c x)∧(∀x∈cap,wf c x):=by
      grind[wf,iV]
     have uE:(execOp a.eval o).run C.P w=.ok (.defer { target:=.fn (.func g) (cap.map (conc c)).toArray,args:=((first++args).map (conc c)).toArray }) w:=by
      simp_all[conc,gu,execOp,resolve,Deferred.ofValue]
     refine⟨fun _ _=>trivial,?_⟩
     rw[show(Fr none).round=none from rfl,Oper.semAt_none,uE]
     simp only[Oper.uponIn,SJ,Act.put]
     refine ih (k+1) s s' ((g,first++args,cap)::d) d' c _ w yS I h ⟨he.size,he.val,he.sC⟩ ⟨by simp[hd.eq],fun x hx => ?_⟩ ?_
     ·rcases List.mem_cons.1 hx with rfl|hx
      ·grind
      ·exact hd.Gk x hx
     ·omega
    ·cases I
   ·cases I
  ·grind
theorem Tb (hm:C.P.follows .mixedOrders=true)(hT:fq C): ∀(m:Nat) (code:Code) (s:St) (d:qR) (ex:Ex) (s':St) (d':qR),evTop C n m code s d=some (ex,s',d') →
  ∀(c:Ctx) (a:Act) (w:World),Rel c s.h w→dH c s.env s.au a→sr c d a.defers →
   code.wp C.P (fun e a' w'=>e=exOf ex∧∃c',Rel c' s'.h w'∧dH c' s'.env s'.au a'∧cF c w c' w'∧sr c' d' a'.defers) a w:=by
 have hS:=(xT (C:=C) hm hT n).1
 intro m
 induction m with
 |zero=>grind[evTop]
 |succ m ih =>
  intro code s d ex s' d' J c a w h he hd
  have rest:(match ev C n code s with
    |some (ex,s')=>some (ex,s',d)
    |none=>none)=some (ex,s',d')→code.wp C.P (fun e a' w'=>e=exOf ex∧∃c',Rel c' s'.h w'∧dH c' s'.env s'.au a'∧cF c w c' w'∧sr c' d' a'.defers) a w:=by
   intro J
   cases nK:ev C n code s with
   |none=>grind
   |some r =>
    rw[nK] at J
    obtain⟨rfl,rfl,rfl⟩:=J
    refine Code.wp_mono ?_ (hS _ _ _ _ nK c a w h he)
    rintro e a' w' ⟨rfl,q2,c',q3,q4,q5⟩
    exact⟨rfl,c',q3,q4,q5,by rw[q2];exact hd.ext q5.ext⟩
  unfold evTop at J
  split at J
  ·rename_i x y
   cases hx:evTop C n m x s d with
   |none=>grind
   |some r =>
    obtain⟨Gc,I,nZ⟩:=r
    rw[hx] at J
    refine wp_seq (Code.wp_mono ?_ (ih x s d Gc I nZ hx c a w h he hd))
    rintro e BN sE ⟨rfl,c₁,q3,q4,q5,q6⟩
    cases Gc with
    |normal =>
     refine Code.wp_mono ?_ (ih y I nZ ex s' d' J c₁ BN sE q3 q4 q6)
     rintro e Hq YR ⟨rfl,c₂,p3,p4,p5,p6⟩
     exact⟨rfl,c₂,p3,p4,q5.trans p5,p6⟩
    |exit i =>
     obtain⟨rfl,rfl,rfl⟩:=J
     exact⟨rfl,c₁,q3,q4,q5,q6⟩
    |ret =>
     obtain⟨rfl,rfl,rfl⟩:=J
     exact⟨rfl,c₁,q3,q4,q5,q6⟩
  ·rename_i id ops
   cases hx:evOpsD C (ev C n) ops.toList ops.toList s d with
   |none=>grind
   |some r =>
    obtain⟨I,nZ⟩:=r
    rw[hx] at J
    simp only[az,bJ] at J
    obtain⟨rfl,rfl,rfl⟩:=J
    refine wpIn_wide.1 (show(Code.region id ops false).wpIn (Fr none) 0 C.P _ a w from wpIn_region ?_)
    rw[EH,←A5]
    exact PU (z8 (C:=C) hm hT n).1 hT ops.toList 0 s I d nZ c a w (fun j=>by simp) hx h he hd fun c' a' w' r1 r2 r3 r4=>⟨rfl,c',r1,r2,r3,r4⟩
  ·grind
theorem Tc (hm : C.P.follows .mixedOrders = true) (hT : fq C) {v : V} (hg : C.told g = none) (I : callF C (ev C n) g args σ = some (v, dz)) (h : Rel c σ w) (hw : ∀ x ∈ args, wf c x) :
  CallsD C.P g (args.map (conc c)).toArray .returning w (fun e u' w' => u' = .returning ∧ (∃ x, e = .returned x) ∧ ∃ c', Rel c' dz w' ∧ cF c w c' w') ∧ ∀ (x : Array Value) (w : World), (callFunc g x).run C.P w = .ok (.enter g x) w := by
 have hS := (xT (C := C) hm hT n).1
 have hen := (callF_ok hS hT I h hw).2
 unfold callF at I
 rw [hg] at I
 simp only at I
 cases hf : C.P.funcs[g]? with
 | none => grind
 | some fn =>
  simp only [hf] at I
  cases hb : fn.body with
  | none => grind
  | some code =>
   simp only [hb] at I
   cases hq : (fn.name == "runtime.NumGoroutine" || Nat.blt fn.ntmps args.length) with
   | true => grind
   | false =>
    simp only [Bool.or_eq_false_iff] at hq
    have hle : args.length ≤ fn.ntmps := by
     grind [iF]
    have J := jN (c := c) hle hw
    have done : ∀ ex s, ev C n code ⟨bindArgs args 0 .lf, fn.ntmps, σ⟩ = some (ex, s) → (ex = .normal ∨ ex = .ret) →
      (match mapO (resV C.P s) fn.results.toList with
       | some [v] => some (v, s.h)
       | some vs => some (.bf vs, s.h)
       | none => none) = some (v, dz) →
      CallsD C.P g (args.map (conc c)).toArray .returning w (fun e u' w' => u' = .returning ∧ (∃ x, e = .returned x) ∧ ∃ c', Rel c' dz w' ∧ cF c w c' w') := by
     intro ex s hs hex hmr
     have Pm := hS code _ ex s hs c _ w h J
     have Cv : resOf C.P s fn.results.toList = some v ∧ s.h = dz := by
      grind [resOf]
     have sI := callsD_of_wp (u := .returning) (R := fun e w' => (∃ x, e = .returned x) ∧ ∃ c', Rel c' dz w' ∧ cF c w c' w') hf hb (Code.wp_mono (Q' := bodyPost C.P fn fun e w' => (∃ x, e = .returned x) ∧ ∃ c', Rel c' dz w' ∧ cF c w c' w') ?_ Pm)
     ·omega
     ·rintro e a' w' ⟨rfl, hd, c', r1, r2, r3⟩
      have HE : a'.defers = [] ∧ ∃ x, (results fn a'.tmps).run C.P w' = .ok x w' ∧ (∃ y, Ending.returned x = .returned y) ∧ ∃ c', Rel c' dz w' ∧ cF c w c' w' :=
       ⟨hd, _, (Ct r1 r2 Cv.1).1, ⟨_, rfl⟩, c', by grind, r3⟩
      grind [bodyPost, exOf]
    split at I
    ·grind
    ·grind
    ·grind
theorem Hv {ρ:Operand→Value}(ho:o.op=.call cl)(I:cl.callee=.builtin .recover)(J:cl.args.toList=[])(w:World): (execOp ρ o).run P w=.ok .recover w:=by
 simp_all[execOp,resolve,invoke,builtin]
theorem Gm (hm:C.P.follows .mixedOrders=true)(hT:fq C){Fj:Nat}{rest:Code}{ex:Ex}{I:St}{v:V}(hf:C.P.funcs[g]?=some fn)(hb:fn.body=some code)
 (J:quietParts code=some (nZ,Fj,rest))(h1:nZ<fn.ntmps)(h2:Fj<fn.ntmps)(hle:args.length≤fn.ntmps)
 (Du:ev C n rest ⟨((bindArgs args 0 .lf).set nZ (some .jQ)).set Fj (some .jQ),fn.ntmps,σ⟩=some (ex,I))(hex:ex=.normal∨ex=.ret)(Cv:resOf C.P I fn.results.toList=some v)
 (h:Rel c σ w)(hw:∀x∈args,wf c x):
  CallsD C.P g (args.map (conc c)).toArray .returning w (fun e u' w'=>u'=.returning∧(∃x,e=.returned x)∧∃c',Rel c' I.h w'∧cF c w c' w'):=by
 have hS:=(xT (C:=C) hm hT n).1
 unfold quietParts at J
 split at J
 ·rename_i id ops aa1
  split at J
  ·rename_i M9 KB aef
   split at J
   ·rename_i cl adJ t adK q6 q2 q4 q9 q3 q5
    split at J
    ·rename_i q7 q8
     cases ht:Nat.beq t adJ with
     |false=>grind
     |true =>
      rw[ht,aj] at J
      simp only[az,bJ] at J
      obtain⟨rfl,rfl,rfl⟩:=J
      have:=beq_iff.1 ht
      subst this
      have aa2:ops = #[M9,KB]:=by grind
      subst aa2
      refine callsD_of_wpS hf hb fun c₀ cs hu=>(wpS_seq ?_)
      have Yu:=jN (c:=c) hle hw
      generalize hA:({ tmps:=(args.map (conc c)).toArray++Array.replicate (fn.ntmps-(args.map (conc c)).toArray.size) undef,defers:=[] }:Act)=A at Yu ⊢
      have Zp:A.defers=[]:=by grind
      have uI:=(Yu.put (d:=t) (v:=.jQ) h1 (by simp[wf])).put (d:=adK) (v:=.jQ) h2 (by simp[wf])
      have uE:=hS _ _ _ _ Du c _ w h uI
      rw[show conc c .jQ=.nilIface from by rfl] at uE
      have Cw:recoverD (c₀::cs)=none:=by simp[recoverD,hu]
      have h5:(A.put (some t) .nilIface).eval (.tmp t)=.nilIface:=by
       have:=(Yu.put (d:=t) (v:=.jQ) h1 (by simp[wf])).val t
       grind[conc,Act.eval,Env.v,bp]
      refine wpS_region ?_
      rw[show List.range (#[M9,KB]:Array Oper).size=[0,1] from rfl]
      simp only[wpOpsS,ni,ng,nh,Region.wanted,q2,q3,cY]
      rw[Hv q6 q7 q8]
      simp only[Cw,q4]
      have acm:(execOp (A.put (some t) .nilIface).eval KB).run C.P w=.ok (.value .nilIface) w:=by simp[execOp,q9,h5]
      rw[acm]
      simp only[Oper.upon,q5,Exit.thenS]
      refine wpS_of_wp (Code.wp_mono ?_ uE)
      rintro e a' w' ⟨rfl,dd,c',r1,e2,p1⟩
      have HE:a'.defers=[]∧∃u',c₀::cs={ c₀ with mode:=u' }::cs∧∃v,(results fn a'.tmps).run C.P w'=.ok v w'∧(u'=.returning∧(∃x,Ending.returned v=.returned x)∧∃c',Rel c' I.h w'∧cF c w c' w') :=
       ⟨dd.trans Zp,.returning,by rw[←hu],_,(Ct r1 e2 Cv).1,rfl,⟨_,rfl⟩,c',r1,p1⟩
      rcases hex with rfl|rfl
      ·exact HE
      ·exact HE
    ·cases J
   ·cases J
  ·cases J
 ·cases J
theorem ND (hm : C.P.follows .mixedOrders = true) (hT : fq C) (hg : C.told g = none) (I : defCall C n g args σ = some dz) (h : Rel c σ w) (hw : ∀ x ∈ args, wf c x) :
  CallsD C.P g (args.map (conc c)).toArray .returning w (fun e u' w' => u' = .returning ∧ (∃ x, e = .returned x) ∧ ∃ c', Rel c' dz w' ∧ cF c w c' w') ∧ ∀ (x : Array Value) (w : World), (callFunc g x).run C.P w = .ok (.enter g x) w := by
 unfold defCall at I
 cases hf : C.P.funcs[g]? with
 | none => grind
 | some fn =>
  simp only [hf] at I
  cases hb : fn.body with
  | none => grind
  | some code =>
   simp only [hb] at I
   split at I
   ·rename_i nZ J rest hq
    cases hc : (Nat.blt nZ fn.ntmps && Nat.blt J fn.ntmps && Nat.ble args.length fn.ntmps && !(fn.name == "runtime.NumGoroutine")) with
    | false => grind
    | true =>
     rw [hc, aj] at I
     simp only [bQ, iF, bg, Bool.not_eq_true'] at hc
     refine ⟨?_, fun x w => by simp_all [callFunc]⟩
     split at I
     ·grind [Gm]
     ·grind [Gm]
     ·cases I
   grind [Tc]
theorem PV (hm:C.P.follows .mixedOrders=true)(hT:fq C){v:V}(Cv:resOf C.P ⟨s.env,s.au,h'⟩ fn.results.toList=some v):
  ∀(d:qR) (h:H) (c:Ctx) (a:Act) (ds:List Deferred) (w:World),runDefs C n d h=some h'→Rel c h w→dH c s.env s.au a→sr c d ds→cF c₀ w₀ c w →
   Leaves C.P fn a.tmps (fun e w'=>∃c',e=.returned (conc c' v)∧wf c' v∧Rel c' h' w'∧cF c₀ w₀ c' w') ds .returning w:=by
 intro d
 induction d with
 |nil =>
  intro h c a ds w J I he hd hs
  simp only[runDefs,az] at J
  subst J
  have:ds=[]:=by rw[hd.eq];rfl
  subst this
  obtain⟨q1,q2⟩:=Ct (s:=⟨s.env,s.au,h⟩) I he Cv
  exact⟨_,q1,c,rfl,q2,I,hs⟩
 |cons x d ih =>
  intro h c a ds w J I he hd hs
  obtain⟨g,args,cap⟩:=x
  simp only[runDefs] at J
  cases ht:C.told g with
  |some t=>grind
  |none =>
   rw[ht] at J
   cases hc:defCall C n g (args++cap) h with
   |none=>grind
   |some h₁ =>
    rw[hc] at J
    have nJ:=hd.Gk (g,args,cap) (by simp)
    obtain⟨k1,k2⟩:=ND hm hT ht hc I (fun x hx=>by
     grind)
    have hds:ds={ target:=.fn (.func g) (cap.map (conc c)).toArray,args:=(args.map (conc c)).toArray }::d.map fun x=>{ target:=.fn (.func x.1) (x.2.2.map (conc c)).toArray,args:=(x.2.1.map (conc c)).toArray }:=by rw[hd.eq];rfl
    rw[hds]
    refine leaves_cons (f:=g) (args:=((args++cap).map (conc c)).toArray) (by simp) ?_ ?_
    ·grind[invoke]
    ·refine k1.mono ?_
     rintro e u' sE ⟨rfl,⟨y,rfl⟩,c₁,r1,r2⟩
     have L1:sr c d (d.map fun x=>{ target:=.fn (.func x.1) (x.2.2.map (conc c)).toArray,args:=(x.2.1.map (conc c)).toArray }):=⟨rfl,fun z hz=>hd.Gk z (by grind)⟩
     exact ih h₁ c₁ a _ sE J r1 (he.ext r2.ext) (L1.ext r2.ext) (hs.trans r2)
theorem Iw (hm:C.P.follows .mixedOrders=true)(hT:fq C){f:Nat}{v:V}(J:toldDefer C n f args σ=some (v,dz))(h:Rel c σ w)(hw:∀x∈args,wf c x):
  eZ C.P f args c w v dz:=by
 unfold toldDefer at J
 cases hf:C.P.funcs[f]? with
 |none=>grind
 |some fn =>
  simp only[hf] at J
  cases hb:fn.body with
  |none=>grind
  |some code =>
   simp only[hb] at J
   cases hq:Nat.blt fn.ntmps args.length with
   |true=>grind
   |false =>
    rw[hq,aY] at J
    have hle:args.length≤fn.ntmps:=by
     grind[iF]
    have nX:=jN (c:=c) hle hw
    refine calls_of_wp_defers hf hb ?_
    have done:∀ex s d,evTop C n 1000 code ⟨bindArgs args 0 .lf,fn.ntmps,σ⟩ []=some (ex,s,d)→(ex=.normal∨ex=.ret) →
      (match runDefs C n d s.h with
       |some h'=>match resOf C.P ⟨s.env,s.au,h'⟩ fn.results.toList with
        |some v=>some (v,h')
        |none=>none
       |none=>none)=some (v,dz) →
      code.wp C.P (bodyPostD C.P fn fun e w'=>∃c',e=.returned (conc c' v)∧wf c' v∧Rel c' dz w'∧cF c w c' w')
       { tmps:=(args.map (conc c)).toArray++Array.replicate (fn.ntmps-(args.map (conc c)).toArray.size) undef,defers:=[] } w:=by
     intro ex s d hs hex I
     refine Code.wp_mono ?_ (Tb hm hT 1000 code _ [] ex s d hs c _ w h nX ⟨rfl,fun x hx=>by cases hx⟩)
     rintro e a' w' ⟨rfl,c',r1,r2,r3,r4⟩
     cases jw:runDefs C n d s.h with
     |none=>grind
     |some h' =>
      rw[jw] at I
      simp only at I
      cases Y4:resOf C.P ⟨s.env,s.au,h'⟩ fn.results.toList with
      |none=>grind
      |some v' =>
       rw[Y4] at I
       obtain⟨rfl,rfl⟩:=I<;>grind[PV,bodyPostD,exOf]
    split at J
    ·cases J
    ·rename_i ex s d mH hs
     cases ex<;>grind
    ·cases J
end

/- Heaps compared. -/
def noIter : Option Obj→Option Obj
 |some (.iter _ _ _ _)=>none
 |v=>v
def flatM {α β:Type}(f:α→Option (List β)): List α→Option (List β)
 |[]=>some []
 |x::l=>match f x with
  |none=>none
  |some a=>match flatM f l with
   |none=>none
   |some b=>some (a++b)
theorem PW {β:Type}{f:α→Option (List β)}: ∀(l:List α) (R:List β),flatM f l=some R→∀x∈l,∃r,f x=some r∧∀y∈r,y∈R:=by
 intro l
 induction l<;>grind[flatM]
section
variable (C:fc) (self:Self)
noncomputable def opAll (env:Env)(h:H)(o:Oper): Option (List (V×H)):=match o.op with
 |.next it false=>match evO env it with
  |some (.ptr r off)=>cond (Nat.beq off 0) (nextAll h r) none
  |_=>none
 |_=>match evOp C self env h o with
  |some q=>some [q]
  |none=>none
noncomputable def opsAll (ops:List Oper): List Oper→St→Option (List St)
 |[],s=>some [s]
 |o::l,s=>cond (wantedV ops s.env o)
  (match opAll C self s.env s.h o with
   |some qs=>flatM (fun q=>match s.put o.dst q.1 q.2 with
    |some s'=>opsAll ops l s'
    |none=>none) qs
   |none=>none)
  (match s.put o.dst ct s.h with
   |some s'=>opsAll ops l s'
   |none=>none)
end
section
theorem Td (hS:jo C.P self)(hT:fq C){c:Ctx}{w:World}{a:Act}{qs:List (V×H)}(h:Rel c σ w)(he:Bn c env a o)(I:opAll C self env σ o=some qs):
  (∃q∈qs,xQ C.P o a c w q.1 q.2)∧∀d,o.op≠.defer d:=by
 unfold opAll at I
 split at I
 ·rename_i it ho
  refine⟨?_,fun d hd=>by grind⟩
  split at I
  ·rename_i r off hx
   cases hq:Nat.beq off 0 with
   |false=>grind
   |true =>
    have:=beq_iff.1 hq
    subst this
    obtain⟨f1,f2⟩:=he it (by simp[ho,Op.operands]) _ hx
    obtain⟨q,J,hg⟩:=BU (P:=C.P) h I o.type
    exact⟨q,J,fH (s:=Instr.next (conc c (.ptr r 0)) false o.type) (by simp only[execOp,ho,f1]) hg⟩
  ·cases I
 ·cases nK:evOp C self env σ o with
  |none=>grind
  |some q =>
   grind[wR,mg]
theorem PX (hS:jo C.P self)(hT:fq C){Q:Exit→Act→World→Prop}: ∀(l:List Oper) (k:Nat) (s:St) (L:List St) (c:Ctx) (a:Act) (w:World),
  (∀j,l[j]?=ops[k+j]?)→opsAll C self ops.toList l s=some L→Rel c s.h w→dH c s.env s.au a →
  (∀s'∈L,∀c' a' w',Rel c' s'.h w'→dH c' s'.env s'.au a'→cF c w c' w'→a'.defers=a.defers→Q .normal a' w') →
  wpOpsIn (Fr none) 0 C.P ops Q (List.range' k l.length) a w:=by
 intro l
 induction l with
 |nil =>
  grind[opsAll,wpOpsIn,cF.refl]
 |cons o l ih =>
  intro k s L c a w hl J h he hQ
  have h0:ops[k]?=some o:=by simpa using(hl 0).symm
  have yS:∀j,l[j]?=ops[k+1+j]?:=fun j=>by have:=hl (j+1);grind
  simp only[bF,A8,wpOpsIn,h0]
  rw[xS he]
  simp only[opsAll] at J
  cases hw:wantedV ops.toList s.env o with
  |true =>
   rw[hw,aj] at J
   cases ho:opAll C self s.env s.h o with
   |none=>grind
   |some qs =>
    simp only[ho] at J
    obtain⟨⟨q,hq,Ge⟩,iK⟩:=Td hS hT h (he.Db o) ho
    obtain⟨r,j7,Vr⟩:=PW qs L J q hq
    refine Ge.wpIn iK ?_
    intro c' w' r1 r2 r3
    cases hp:s.put o.dst q.1 q.2 with
    |none=>grind
    |some I =>
     simp only[hp] at j7
     obtain⟨p1,p2,p3⟩:=St.wJ (he.ext r2.ext) r3 hp
     refine ih (k+1) I r c' _ w' yS j7 (by grind) p1 ?_
     intro s' Gn tD yT zX q1 q2 q3 q4
     exact hQ s' (Vr s' Gn) tD yT zX q1 q2 (r2.trans q3) (by rw[q4];cases o.dst<;>rfl)
  |false =>
   rw[hw,aY] at J
   refine⟨fun _ _=>trivial,?_⟩
   cases hp:s.put o.dst ct s.h with
   |none=>grind
   |some I =>
    simp only[hp] at J
    obtain⟨p1,p2,p3⟩:=St.wJ he (show wf c ct by simp[ct,wf,gM]) hp
    refine ih (k+1) I L c _ w yS J (by grind) p1 ?_
    intro s' Gn tD yT zX q1 q2 q3 q4
    exact hQ s' Gn tD yT zX q1 q2 q3 (by rw[q4];cases o.dst<;>rfl)
end
theorem Rel.aa3 {c:Ctx}{w:World}(h:Rel c σ w)(I:dz.next=σ.next)(hs:∀id o,T.get dz.tr id=some o→T.get σ.tr id=some o): Rel c dz w :=
 ⟨I.trans h.next,fun id o ho=>h.live id o (hs id o ho),h.lP,h.zz,fun i j o o' hi J he=>h.inj i j o o' (hs i o hi) (hs j o' J) he,
  fun id o ho=>h.obj id o (hs id o ho),fun id cs st ho=>h.one id cs st (hs id _ ho),fun id o ho=>h.fx id o (hs id o ho)⟩
def lQ (h:H): Prop:=∀id o,T.get h.tr id=some o→id<h.next
theorem lQ.new (hw:lQ h)(o:Obj): lQ (h.new o):=by
 intro id q I
 rw[gI] at I
 show id<h.next+1
 split at I
 ·omega
 ·exact Nat.lt_succ_of_lt (hw id q I)
theorem lQ.put (hw:lQ h)(J:id<h.next)(o:Option Obj): lQ (h.put id o):=by
 intro j q I
 rw[dK] at I
 show j<h.next
 split at I
 ·omega
 ·exact hw j q I
structure eD (k:Nat)(S:List Nat)(h h':H): Prop where
 wf:lQ h'
 le:h.next≤h'.next
 bd:h'.next≤h.next+k
 get:∀id,id<h.next→id∉S→T.get h'.tr id=T.get h.tr id
theorem eD.refl (hw:lQ h)(S:List Nat): eD 0 S h h:=⟨hw,aU _,aU _,fun _ _ _=>rfl⟩
theorem eD.trans {S S':List Nat}{I:H}(a:eD k S h h')(b:eD k' S' h' I)(hs:∀i∈S',i∈S∨h.next≤i): eD (k+k') S h I:=by
 refine⟨b.wf,bX a.le b.le,by have:=a.bd;have:=b.bd;omega,fun id J hn => ?_⟩
 rw[b.get id (iS J a.le) (fun hm => ?_),a.get id J hn]
 rcases hs id hm with h1|h1
 ·exact hn h1
 ·omega
theorem eD.mono {S S':List Nat}(a:eD k S h h')(J:k≤k')(hs:∀i∈S,i∈S'): eD k' S' h h' :=
 ⟨a.wf,a.le,bX a.bd (wm J _),fun id I hn=>a.get id I (fun hm=>hn (hs id hm))⟩
theorem eD.row {S:List Nat}(a:eD k S h h')(hw:lQ h){o:Obj}(I:T.get h.tr id=some o)(J:id∉S): T.get h'.tr id=some o:=by
 rw[a.get id (hw id o I) J];exact I
theorem eD.Bt (hw:lQ h)(o:Obj): eD 1 [] h (h.new o) :=
 ⟨hw.new o,kQ _,aU _,fun id I _=>by rw[gI,ak (by omega)]⟩
theorem eD.NF (hw:lQ h)(I:id<h.next)(o:Option Obj): eD 0 [id] h (h.put id o) :=
 ⟨hw.put I o,aU _,aU _,fun j _ J=>by rw[dK,ak (fun e=>J (by simp[e]))]⟩
theorem dV (l:List Nat): (ofBytes l).length=l.length:=by simp[ofBytes]
theorem su (l m:List Nat): ofBytes (l++m)=ofBytes l++ofBytes m:=by simp[ofBytes]
def View (h:H)(v:V)(l:List Nat): Prop:=(∀b∈l,b<256)∧(((v=.a_∨∃a,v=.sle a)∧l=[]) ∨
 ∃id off cap n cs st,v=.sl id off l.length cap∧T.get h.tr id=some (.cells n cs st)∧cs.length=n∧off+l.length≤n∧(cs.drop off).take l.length=ofBytes l ∧
  (match cap with|.exact c=>l.length≤c|.rest e _=>e=1))
def jS (h:H)(v:V)(l:List Nat): Prop:=(∀b∈l,b<256)∧((v=.a_∧l=[]) ∨
 (∃id cs c,v=.sl id 0 l.length (.exact c)∧T.get h.tr id=some (.cells c (ofBytes l++cs) false)∧l.length+cs.length=c) ∨
 (∃id,v=.sl id 0 l.length (.rest 1 0)∧T.get h.tr id=some (.cells l.length (ofBytes l) false)∧1≤l.length))
def rowIds : V→List Nat
 |.sl id _ _ _=>[id]
 |_=>[]
theorem jS.view {v:V}(I:jS h v l): View h v l:=by
 obtain⟨hl,I⟩:=I
 refine⟨hl,?_⟩
 rcases I with I|⟨id,cs,c,rfl,J,hc⟩|⟨id,rfl,J,h1⟩
 ·exact .inl ⟨.inl I.1,I.2⟩
 ·refine .inr ⟨id,0,.exact c,c,_,false,rfl,J,by simp[dV,hc],by omega,?_,by show l.length≤c;omega⟩
  rw[gV,nt (dV l)]
 ·refine .inr ⟨id,0,.rest 1 0,_,_,false,rfl,J,dV l,by omega,?_,rfl⟩
  rw[gV]
  exact gj (by rw[dV];exact aU _)
theorem View.kH {S:List Nat}{v:V}(hv:View h v l)(hw:lQ h)(I:eD k S h h')(J:∀i∈rowIds v,i∉S): View h' v l:=by
 obtain⟨hl,hv⟩:=hv
 refine⟨hl,?_⟩
 rcases hv with hv|⟨id,off,cap,n,cs,st,rfl,hg,h1,h2,h3,h4⟩
 ·exact .inl hv
 ·exact .inr ⟨id,off,cap,n,cs,st,rfl,I.row hw hg (J id (by simp[rowIds])),h1,h2,h3,h4⟩
theorem jS.kH {S:List Nat}{v:V}(hv:jS h v l)(hw:lQ h)(J:eD k S h h')(hn:∀i∈rowIds v,i∉S): jS h' v l:=by
 obtain⟨hl,hv⟩:=hv
 refine⟨hl,?_⟩
 rcases hv with hv|⟨id,cs,c,rfl,I,hc⟩|⟨id,rfl,I,h1⟩
 ·exact .inl hv
 ·exact .inr (.inl ⟨id,cs,c,rfl,J.row hw I (hn id (by simp[rowIds])),hc⟩)
 ·exact .inr (.inr ⟨id,rfl,J.row hw I (hn id (by simp[rowIds])),h1⟩)
theorem View.len {v:V}(hv:View h v l): lenV Tryz.prog h 28 v=some (.int .i64 l.length):=by
 obtain⟨_,hv⟩:=hv
 rcases hv with⟨rfl|⟨I,rfl⟩,rfl⟩|⟨id,off,cap,n,cs,st,rfl,_⟩<;>simp[lenV,aK]
theorem View.rdN {len:Nat}{cap:Cap}(hv:View h (.sl id off len cap) l): len=l.length∧rdN h id off len=some (ofBytes l):=by
 obtain⟨_,hv⟩:=hv
 rcases hv with⟨I,_⟩|⟨Da,off',J,n,cs,st,I,hg,h1,h2,h3,h4⟩
 ·rcases I with I|⟨_,I⟩<;>cases I
 ·injection I with e1 e2 e3 e4
  subst e1;subst e2;subst e3
  refine⟨rfl,?_⟩
  unfold Am.rdN
  simp only[hg]
  rw[bg.2 h2,aj]
  cases hc:(Nat.beq off 0&&Nat.beq l.length n) with
  |true =>
   simp only[bQ,beq_iff] at hc
   obtain⟨rfl,hn⟩:=hc
   rw[aj,←h3,gV,gj (by omega)]
  |false=>rw[aY,h3]
theorem wX : ∃i,Tryz.prog.info? 5=some i∧i.size=1∧i.bytes=1:=by
 refine⟨_,(show Tryz.prog.info? 5=some ((Tryz.prog.info? 5).getD default) by kernel_rfl),by kernel_rfl,by kernel_rfl⟩
theorem n4 : zeroT Tryz.prog 5=some (.int .u8 0):=by kernel_rfl
theorem Dv {x:V}{m:List Nat}(J:View h x m): srcV h 1 x=some (ofBytes m,m.length):=by
 obtain⟨hl,I⟩:=J
 rcases I with⟨rfl|⟨ea,rfl⟩,rfl⟩|⟨id,off,cap,n,cs,st,rfl,hg,h1,h2,h3,h4⟩
 ·rfl
 ·rfl
 ·simp only[srcV,eF]
  rw[(View.rdN (l:=m) ⟨hl,.inr ⟨id,off,cap,n,cs,st,rfl,hg,h1,h2,h3,h4⟩⟩).2]
  rfl
theorem Ae {s x:V}{m:List Nat}(hw:lQ h)(hs:jS h s l)(hx:View h x m)(fC:l.length+m.length≤140737488355328):
  ∃v' h',appendV Tryz.prog h #[28,28] s x=some (v',h')∧jS h' v' (l++m)∧eD 1 (rowIds s) h h'∧(∀i∈rowIds v',i∈rowIds s∨h.next≤i):=by
 obtain⟨i,hi,i1,i2⟩:=wX
 have J:∀b∈l++m,b<256:=fun b hb=>by
  rcases List.mem_append.1 hb with hb|hb
  ·exact hs.1 b hb
  ·exact hx.1 b hb
 have Vs:kT (l.length+m.length) 1=true:=xO.2 ⟨fC,by omega⟩
 unfold appendV
 simp only[aK,hi,n4,i1,i2,V.cells,bF,cG,Dv hx]
 rw[show(Nat.ble 1 1&&Nat.ble 1 4096&&Nat.beq (0+1) 1)=true from rfl,aj]
 cases hm:Nat.beq m.length 0 with
 |true =>
  have F4:m=[]:=nf (beq_iff.1 hm)
  subst F4
  rw[aj,dS]
  have I:=hs
  obtain⟨_,I⟩:=I
  rcases I with⟨rfl,rfl⟩|⟨id,cs,c,rfl,hg,hc⟩|⟨id,rfl,hg,h1⟩
  ·exact⟨_,_,rfl,hs,(eD.refl hw _).mono (fe _) (fun _ h=>h),fun i hi=>.inl hi⟩
  ·exact⟨_,_,rfl,hs,(eD.refl hw _).mono (fe _) (fun _ h=>h),fun i hi=>.inl hi⟩
  ·exact⟨_,_,rfl,hs,(eD.refl hw _).mono (fe _) (fun _ h=>h),fun i hi=>.inl hi⟩
 |false =>
  have F4:1≤m.length:=by
   rcases A7 m.length with h0|h0
   ·rw[oS h0] at hm;cases hm
   ·exact h0
  rw[aY]
  have xP:∀(σ:H) (old:List Nat),lQ σ→1≤(old++m).length→(∀b∈old++m,b<256)→jS (oz σ 1 (ofBytes old) (ofBytes m) (old.length+m.length)).2 (oz σ 1 (ofBytes old) (ofBytes m) (old.length+m.length)).1 (old++m):=by
   intro σ old _ h1 h2
   refine⟨h2,.inr (.inr ⟨σ.next,?_,?_,h1⟩)⟩
   ·simp only[oz,bV]
   ·simp only[oz]
    rw[gI,aP rfl,eF,bV,su]
  have I:=hs
  obtain⟨_,I⟩:=I
  rcases I with⟨rfl,rfl⟩|⟨id,cs,c,rfl,hg,hc⟩|⟨id,rfl,hg,h1⟩
  ·simp only
   have acn:kT m.length 1=true:=by simpa using Vs
   rw[acn,aj]
   have:=xP h [] hw (by simpa using F4) (by simpa using hx.1)
   simp only[cG,gG,ey] at this
   exact⟨_,_,rfl,by rw[ey];exact this,(eD.Bt hw _).mono (aU _) (fun i hi=>by simp at hi),fun i hi=>.inr (by simp[rowIds] at hi;omega)⟩
  ·simp only[eF,gG]
   have hv:=jS.view hs
   cases hq:Nat.ble (l.length+m.length) c with
   |true =>
    have zJ:=bg.1 hq
    rw[aj]
    unfold wrN
    simp only[hg,dV]
    rw[hq,aj]
    simp only
    have xY:(cond (Nat.beq l.length 0&&Nat.beq m.length c) (ofBytes m) ((ofBytes l++cs).take l.length++(ofBytes m++(ofBytes l++cs).drop (l.length+m.length))))=ofBytes (l++m)++cs.drop m.length:=by
     have e1:(ofBytes l++cs).take l.length=ofBytes l:=nt (dV l)
     have e2:(ofBytes l++cs).drop (l.length+m.length)=cs.drop m.length:=by
      rw[A_,dV,show l.length+m.length-l.length=m.length from by omega,lX (by rw[dV];omega),ey]
     cases hz:(Nat.beq l.length 0&&Nat.beq m.length c) with
     |true =>
      simp only[bQ,beq_iff] at hz
      have qN:l=[]:=nf hz.1
      subst qN
      have ql:cs.drop m.length=[]:=lX (by simp at hc;omega)
      simp[ql]
     |false=>rw[aY,e1,e2,su,cP]
    rw[xY]
    refine⟨_,_,rfl,⟨J,.inr (.inl ⟨id,cs.drop m.length,c,by simp,?_,by simp;omega⟩)⟩,(eD.NF hw (hw id _ hg) _).mono (fe _) (fun i hi=>by simpa[rowIds] using hi),fun i hi=>.inl (by simpa[rowIds] using hi)⟩
    rw[dK,aP rfl]
   |false =>
    rw[aY,Vs,aj,hv.rdN.2]
    simp only
    exact⟨_,_,rfl,xP h l hw (by simp;omega) J,(eD.Bt hw _).mono (aU _) (fun i hi=>by simp at hi),fun i hi=>.inr (by simp[rowIds] at hi;omega)⟩
  ·simp only[fP,aj,eF,gG]
   have hv:=jS.view hs
   have Cp:mX h id 0 1=l.length:=by simp[mX,hg]
   have hf:Nat.ble (l.length+m.length) l.length=false:=by
    cases hq:Nat.ble (l.length+m.length) l.length with
    |true=>have:=bg.1 hq;omega
    |false=>rfl
   rw[Cp,hf,aY,Vs,show Nat.ble 2 (l.length+m.length)=true from bg.2 (by omega),jz,aj,hv.rdN.2,hg]
   simp only
   have pn:lQ (h.put id none):=hw.put (hw id _ hg) _
   refine⟨_,_,rfl,xP (h.put id none) l pn (by simp;omega) J,?_,fun i hi=>.inr (by simp[rowIds,H.put] at hi;omega)⟩
   refine((eD.NF hw (hw id _ hg) none).trans (S':=[]) (eD.Bt pn _) (fun i hi=>by simp at hi)).mono (aU _) (fun i hi=>by simpa[rowIds] using hi)
section
variable {a b:Operand} {v:V}
theorem bK (I:bA E x=some v): opE P E h (.move x)=some (v,h):=by simp only[opE,jR,I]
theorem fD (I:bA E x=some v): opE P E h (.assign x)=some (v,h):=by simp only[opE,jR,I]
theorem iH (I:bA E x=some (.bool true))(J:bA E a=some v): opE P E h (.pick x a b)=some (v,h):=by simp only[opE,jR,I,aj,J]
theorem kr (I:bA E x=some (.bool false))(J:bA E b=some v): opE P E h (.pick x a b)=some (v,h):=by simp only[opE,jR,I,aY,J]
theorem pJ {o:Nat}(I:bA E x=some (.ptr i o)): opE P E h (.nilCheck x)=some (.ptr i o,h):=by simp only[opE,jR,I]
theorem lE {t:Nat}(I:bA E x=some v)(J:fieldAddrV P t v i=some r): opE P E h (.fieldAddr t x i)=some (r,h):=by simp only[opE,jR,I,J,bO]
theorem aZ (I:bA E x=some v)(J:loadV P h t v=some r): opE P E h (.load t x)=some (r,h):=by simp only[opE,jR,I,J,bO]
theorem wY (I:bA E x=some v)(J:bA E y=some u)(hf:gY P h t v u=some h₁): opE P E h (.store t x y)=some (ct,h₁):=by simp only[opE,vq,I,J,hf,tJ]
theorem aA {op:BinOp}(I:bA E x=some v)(J:bA E y=some u)(hf:binV P h op t x y v u=some r): opE P E h (.binOp op t x y t')=some (r,h):=by simp only[opE,vq,I,J,hf,bO]
theorem er {op:UnOp}(I:bA E x=some v)(J:unV op v=some r): opE P E h (.unOp op t x)=some (r,h):=by simp only[opE,jR,I,J,bO]
theorem cJ {s d:TypeId}(I:bA E x=some v)(J:convV P h s d v=some (r,h₁)): opE P E h (.convert s d x)=some (r,h₁):=by simp only[opE,jR,I,J]
theorem cK (I:bA E x=some v)(J:bA E y=some u)(hf:indexAddrV P t v u=some r): opE P E h (.indexAddr t x y)=some (r,h):=by simp only[opE,vq,I,J,hf,bO]
theorem Cx (I:bA E x=some v)(J:bA E y=some u)(hf:indexV P t v u=some r): opE P E h (.index t x y)=some (r,h):=by simp only[opE,vq,I,J,hf,bO]
theorem cS {l:List V}(I:bA E x=some (.bf l))(J:nth l i=some r): opE P E h (.extract x i)=some (r,h):=by simp only[opE,jR,I,J,bO]
theorem cT {l:List (Nat×V)}(I:lookParts E ps.toList=some l)(J:buildV P t l=some r): opE P E h (.build t ps)=some (r,h):=by simp only[opE,I,J,bO]
theorem fY (I:bA E x=some v)(hs:v.cells.all storable=true): opE P E h (.box t x)=some (.ptr h.next 0,newRow h v.cells):=by simp only[opE,jR,I,hs,aj]
theorem b6 (I:zeroT P t=some v): opE P E h (.alloc t)=some (.ptr h.next 0,newRow h v.cells):=by simp only[opE,I]
theorem qS (I:bA E x=some v)(J:makeIfaceV P t v=some r): opE P E h (.makeInterface t x)=some (r,h):=by simp only[opE,jR,I,J,bO]
theorem Bu {f:Fn}{p q:Array Operand}{l m:List V}(I:lookArgs E p.toList=some l)(J:lookArgs E q.toList=some m): opE P E h (.makeFunc f p q)=some (.fn f l m,h):=by simp only[opE,I,J]
theorem aN {c:Go.Call}(I:c.callee=.builtin .len)(J:lookArgs E c.args.toList=some [v])(ht:c.argTypes.toList=[t])(hf:lenV P h t v=some r): opE P E h (.call c)=some (r,h):=by
 simp only[opE,I,J,builtinV,ht,hf,lZ]
theorem jI {c:Go.Call}(I:c.callee=.builtin .append)(J:lookArgs E c.args.toList=some [v,u])(hf:appendV P h c.argTypes v u=some (r,h₁)): opE P E h (.call c)=some (r,h₁):=by
 simp only[opE,I,J,builtinV,hf]
theorem qT (I:bA E x=some v)(J:bA E y=some u)(hf:makeSliceV P h t v u=some (r,h₁)): opE P E h (.makeSlice t x y)=some (r,h₁):=by simp only[opE,vq,I,J,hf]
theorem ke {t:Nat}{l:List (Nat×V)}(I:lookParts E ps.toList=some l)(J:buildSliceV P h t n l=some (r,h₁)): opE P E h (.buildSlice t n ps)=some (r,h₁):=by simp only[opE,I,J]
theorem cH {lo hi mx:Option Operand}{p q m:Option V}{p' q' m':Option Nat}(I:bA E x=some v)(J:lookOpt E lo=some p)(h2:lookOpt E hi=some q)(h3:lookOpt E mx=some m)
 (g1:jb p=some p')(g2:jb q=some q')(g3:jb m=some m')(hf:sliceV P h t v p' q' m'=some r): opE P E h (.slice t x lo hi mx)=some (r,h):=by simp only[opE,jR,I,J,h2,h3,g1,g2,g3,hf,bO]
theorem Te {s:TypeId}{ok:Bool}(I:bA E x=some v)(J:assertV P v s ok=some r): opE P E h (.typeAssert x t s ok)=some (r,h):=by simp only[opE,jR,I,J,bO]
theorem PY {st:Bool}(I:isAggT P t=some false)(J:T.get h.tr id=some (.cells n cs st))(hn:nth cs off=some v): loadV P h t (.ptr id off)=some v:=by
 simp only[loadV,I,zG,J,hn]
theorem dn {st:Bool}(I:isAggT P t=some true)(hs:bN P t=some n)(J:T.get h.tr id=some (.cells n cs st)): loadV P h t (.ptr id 0)=some (.agg cs):=by
 simp only[loadV,I,hs,rdN,J,gG]
 rw[bg.2 (aU n),aj,fP,fP]
 rfl
theorem fS {l:List V}(hw:lQ h)(hs:bN P t=some n)(J:T.get h.tr id=some (.cells n cs false))(hl:l.length=n)(I:l.all storable=true):
  ∃h₁,gY P h t (.ptr id 0) (.agg l)=some h₁∧eD 0 [id] h h₁∧T.get h₁.tr id=some (.cells n l false):=by
 refine⟨h.put id (some (.cells n l false)),?_,eD.NF hw (hw _ _ J) _,by rw[dK,aP rfl]⟩
 simp only[gY,hs,V.cells,hl,I]
 rw[fP,jz,aj]
 simp only[wrN,J,hl,gG]
 rw[bg.2 (aU n),aj,fP,fP]
 rfl
end
section
variable {au:Nat}
theorem Gp (hw:lQ h)(I:b<256):
  ∃v h₁,buildSliceV Tryz.prog h 28 1 [(0,.int .u8 b)]=some (v,h₁)∧jS h₁ v [b]∧eD 1 [] h h₁∧∀i∈rowIds v,h.next≤i:=by
 refine⟨.sl h.next 0 1 (.exact 1),newRow h [.int .u8 b],?_,⟨by simpa using I,.inr (.inl ⟨h.next,[],1,rfl,?_,rfl⟩)⟩,eD.Bt hw _,fun i hi=>by simp[rowIds] at hi;omega⟩
 ·simp only[buildSliceV,aK,eC,n4,V.cells]
  rfl
 ·rw[newRow,gI,aP rfl];rfl
theorem ax.NG (J:C.P=Tryz.prog)(hw:lQ h)(hg:wantE L E o.guard=some true)(hd:o.dst=some d)(hn:Nat.blt d au=true)(I:o.op=.buildSlice t 1 ps)(ht:t=28)
 (hx:lookParts E ps.toList=some [(0,.int .u8 (b:Int))])(hb:b<256)
 (hr:∀v h₁,jS h₁ v [b]→eD 1 [] h h₁→(∀i∈rowIds v,h.next≤i)→ax C au L rest ((d,v)::E) h₁ R): ax C au L (o::rest) E h R:=by
 obtain⟨v,h₁,e1,e2,e3,e4⟩:=Gp hw hb
 refine ax.op hg hd hn (v:=v) (h₁:=h₁) ?_ (hr v h₁ e2 e3 e4)
 rw[I,ht,J]
 exact ke hx e1
theorem ax.app {c:Go.Call}{s x:V}{m:List Nat}(hP:C.P=Tryz.prog)(hw:lQ h)(hg:wantE L E o.guard=some true)(hd:o.dst=some d)(hn:Nat.blt d au=true)(I:o.op=.call c)(hc:c.callee=.builtin .append)
 (J:c.argTypes = #[28,28])(ha:lookArgs E c.args.toList=some [s,x])(hs:jS h s l)(hx:View h x m)(fC:l.length+m.length≤140737488355328)
 (hr:∀v h₁,jS h₁ v (l++m)→eD 1 (rowIds s) h h₁→(∀i∈rowIds v,i∈rowIds s∨h.next≤i)→ax C au L rest ((d,v)::E) h₁ R): ax C au L (o::rest) E h R:=by
 obtain⟨v,h₁,e1,e2,e3,e4⟩:=Ae hw hs hx fC
 refine ax.op hg hd hn (v:=v) (h₁:=h₁) ?_ (hr v h₁ e2 e3 e4)
 rw[I,hP]
 exact jI hc ha (by rw[J];exact e1)
theorem Dw (hw:lQ h)(J:c<1073741824):
  ∃v h₁,makeSliceV Tryz.prog h 28 (.int .i64 0) (.int .i64 (c:Int))=some (v,h₁)∧jS h₁ v []∧eD 1 [] h h₁∧∀i∈rowIds v,h.next≤i:=by
 obtain⟨i,hi,i1,i2⟩:=wX
 refine⟨.sl h.next 0 0 (.exact c),h.new (.cells c (repeatL [.int .u8 0] c) false),?_,⟨by simp,.inr (.inl ⟨h.next,repeatL [.int .u8 0] c,c,rfl,?_,?_⟩)⟩,eD.Bt hw _,fun i hi=>by simp[rowIds] at hi;omega⟩
 ·simp only[makeSliceV,aK,hi,n4,i1,i2,V.cells,bF,cG,dY,eF]
  rw[show(decide ((0:Int)≤0)&&decide ((0:Int)≤(c:Int))&&decide ((c:Int)<1073741824)&&Nat.ble 1 4096&&Nat.beq (0+1) 1&&Nat.ble 1 1)=true by simp;omega,aj]
  rfl
 ·rw[gI,aP rfl];rfl
 ·have:∀n,(repeatL [V.int .u8 0] n).length=n:=fun n=>by
   induction n with
   |zero=>rfl
   |succ n I=>simp[repeatL,I]
  simp[this]
end
section
variable {au:Nat} {v:V} {a b:Operand}
theorem zm (e:(o.op,wantE L E o.guard,o.dst,Nat.blt d au,bA E x)=(Op.move x,some true,some d,true,some v))(hw:ax C au L rest ((d,v)::E) h R): ax C au L (o::rest) E h R:=by
  simp only[bJ] at e;exact ax.op e.2.1 e.2.2.1 e.2.2.2.1 (by rw[e.1];exact bK e.2.2.2.2) hw
theorem za (e:(o.op,wantE L E o.guard,o.dst,Nat.blt d au,bA E x)=(Op.assign x,some true,some d,true,some v))(hw:ax C au L rest ((d,v)::E) h R): ax C au L (o::rest) E h R:=by
  simp only[bJ] at e;exact ax.op e.2.1 e.2.2.1 e.2.2.2.1 (by rw[e.1];exact fD e.2.2.2.2) hw
theorem zn (e:(o.op,wantE L E o.guard,o.dst,Nat.blt d au,bA E x)=(Op.nilCheck x,some true,some d,true,some (V.ptr j k)))(hw:ax C au L rest ((d,.ptr j k)::E) h R): ax C au L (o::rest) E h R:=by
  simp only[bJ] at e;exact ax.op e.2.1 e.2.2.1 e.2.2.2.1 (by rw[e.1];exact pJ e.2.2.2.2) hw
theorem zf (e:(o.op,wantE L E o.guard,o.dst,Nat.blt d au,bA E x)=(Op.fieldAddr t x i,some true,some d,true,some v))(I:fieldAddrV C.P t v i=some r)(hw:ax C au L rest ((d,r)::E) h R): ax C au L (o::rest) E h R:=by
  simp only[bJ] at e;exact ax.op e.2.1 e.2.2.1 e.2.2.2.1 (by rw[e.1];exact lE e.2.2.2.2 I) hw
theorem zl (e:(o.op,wantE L E o.guard,o.dst,Nat.blt d au,bA E x)=(Op.load t x,some true,some d,true,some v))(I:loadV C.P h t v=some r)(hw:ax C au L rest ((d,r)::E) h R): ax C au L (o::rest) E h R:=by
  simp only[bJ] at e;exact ax.op e.2.1 e.2.2.1 e.2.2.2.1 (by rw[e.1];exact aZ e.2.2.2.2 I) hw
theorem ze {l:List V}(e:(o.op,wantE L E o.guard,o.dst,Nat.blt d au,bA E x,nth l i)=(Op.extract x i,some true,some d,true,some (V.bf l),some r))(hw:ax C au L rest ((d,r)::E) h R): ax C au L (o::rest) E h R:=by
  simp only[bJ] at e;exact ax.op e.2.1 e.2.2.1 e.2.2.2.1 (by rw[e.1];exact cS e.2.2.2.2.1 e.2.2.2.2.2) hw
theorem zp (e:(o.op,wantE L E o.guard,o.dst,Nat.blt d au,bA E x,bA E b)=(Op.pick x a b,some true,some d,true,some (V.bool false),some v))(hw:ax C au L rest ((d,v)::E) h R): ax C au L (o::rest) E h R:=by
  simp only[bJ] at e;exact ax.op e.2.1 e.2.2.1 e.2.2.2.1 (by rw[e.1];exact kr e.2.2.2.2.1 e.2.2.2.2.2) hw
theorem zq (e:(o.op,wantE L E o.guard,o.dst,Nat.blt d au,bA E x,bA E a)=(Op.pick x a b,some true,some d,true,some (V.bool true),some v))(hw:ax C au L rest ((d,v)::E) h R): ax C au L (o::rest) E h R:=by
  simp only[bJ] at e;exact ax.op e.2.1 e.2.2.1 e.2.2.2.1 (by rw[e.1];exact iH e.2.2.2.2.1 e.2.2.2.2.2) hw
theorem zb {op:BinOp}(e:(o.op,wantE L E o.guard,o.dst,Nat.blt d au,bA E x,bA E y)=(Op.binOp op t x y t',some true,some d,true,some v,some u))(I:binV C.P h op t x y v u=some r)(hw:ax C au L rest ((d,r)::E) h R): ax C au L (o::rest) E h R:=by
  simp only[bJ] at e;exact ax.op e.2.1 e.2.2.1 e.2.2.2.1 (by rw[e.1];exact aA e.2.2.2.2.1 e.2.2.2.2.2 I) hw
theorem zx (e:(wantE L E o.guard,o.dst,Nat.blt d au)=(some false,some d,true))(hw:ax C au L rest ((d,ct)::E) h R): ax C au L (o::rest) E h R:=by
  simp only[bJ] at e;exact ax.no e.1 e.2.1 e.2.2 hw
theorem zo (e:(wantE L E o.guard,o.dst,Nat.blt d au)=(some true,some d,true))(ho:opE C.P E h o.op=some (v,h₁))(hw:ax C au L rest ((d,v)::E) h₁ R): ax C au L (o::rest) E h R:=by
  simp only[bJ] at e;exact ax.op e.1 e.2.1 e.2.2 ho hw
theorem zv (I:R E h): ax C au L [] E h R:=ax.nil I
variable {c f:Code}
theorem zw (hw:WP C au c E h fun ex E' h'=>match ex with
    |.normal=>WP C au f E' h' Q
    |ex=>Q ex E' h'): WP C au (.seq c f) E h Q:=WP.seq hw
theorem zr (I:ops.toList=L)(hw:ax C au L L E h fun E' h'=>Q .normal E' h'): WP C au (.region k ops false) E h Q:=WP.region I hw
theorem zg (I:ops.toList=L)(hw:ax C au L L E h fun E' h'=>WP C au f E' h' Q): WP C au (.seq (.region k ops false) f) E h Q:=WP.seq (WP.region I hw)
theorem zi (I:bA E x=some (.bool true))(hw:WP C au c E h Q): WP C au (.cond x c f) E h Q:=WP.cond I hw
theorem zj (I:bA E x=some (.bool false))(hw:WP C au f E h Q): WP C au (.cond x c f) E h Q:=WP.cond I hw
end
inductive Md where
  |c (c:Code)
  |o (L l:List Oper)
def Dx (C:fc)(au:Nat)(Q:Ex→List (Nat×V)→H→Prop): List Code→Ex→List (Nat×V)→H→Prop
  |[]=>Q
  |b::K=>fun ex E' h'=>match ex with
    |.normal=>WP C au b E' h' (Dx C au Q K)
    |ex=>Dx C au Q K ex E' h'
def Vt : List (Nat×V)→Nat→Option V
  |[],_=>none
  |(d,v)::E,k=>cond (Nat.beq d k) (some v) (Vt E k)
theorem PZ : ∀(E:List (Nat×V)) (k:Nat),Vt E k=look E k
  |[],_=>rfl
  |(d,v)::E,k=>by simp only[Vt,look,PZ E k]
def Dy (E:List (Nat×V)): Operand→Option V
  |.tmp t=>Vt E t
  |.const c=>ofValue c
  |.global _=>none
  |.func f=>some (.fn (.func f) [] [])
theorem P3 (E:List (Nat×V))(x:Operand): Dy E x=bA E x:=by cases x<;>first|rfl|exact PZ _ _
def Zq (E:List (Nat×V)): Op→Option V
  |.move x=>Dy E x
  |.assign x=>Dy E x
  |.nilCheck x=>match Dy E x with
    |some (.ptr j k)=>some (.ptr j k)
    |_=>none
  |.extract x i=>match Dy E x with
    |some (.bf l)=>nth l i
    |_=>none
  |.pick x a b=>match Dy E x with
    |some (.bool true)=>Dy E a
    |some (.bool false)=>Dy E b
    |_=>none
  |_=>none
def runM (au:Nat): Nat→Md→List (Nat×V)→List Code→Option (Md×List (Nat×V)×List Code)
  |0,m,E,K=>some (m,E,K)
  |n+1,.o _ [],E,b::K=>runM au n (.c b) E K
  |n+1,.o L (o::l),E,K=>match wantE L E o.guard,o.dst with
    |some false,some d=>cond (Nat.blt d au) (runM au n (.o L l) ((d,ct)::E) K) none
    |some true,some d=>match Zq E o.op with
      |some v=>cond (Nat.blt d au) (runM au n (.o L l) ((d,v)::E) K) none
      |none=>none
    |_,_=>none
  |n+1,.c (.seq a b),E,K=>runM au n (.c a) E (b::K)
  |n+1,.c (.region _ ops false),E,K=>runM au n (.o ops.toList ops.toList) E K
  |n+1,.c (.cond x a b),E,K=>match Dy E x with
    |some (.bool true)=>runM au n (.c a) E K
    |some (.bool false)=>runM au n (.c b) E K
    |_=>none
  |n+1,.c .skip,E,b::K=>runM au n (.c b) E K
  |_+1,_,_,_=>none
abbrev Gl (C:fc)(au:Nat)(h:H)(Q:Ex→List (Nat×V)→H→Prop)(m:Md)(E:List (Nat×V))(K:List Code): Prop:=match m with
  |.c c=>WP C au c E h (Dx C au Q K)
  |.o L l=>ax C au L l E h fun E' h'=>Dx C au Q K .normal E' h'
class Iy (C:fc)(au:Nat)(R:List (Nat×V)→H→Prop)(Q:outParam (Ex→List (Nat×V)→H→Prop))where
  K:List Code
  eq:R=fun E' h'=>Dx C au Q K .normal E' h'
class Vu (C:fc)(au:Nat)(R:Ex→List (Nat×V)→H→Prop)(Q:outParam (Ex→List (Nat×V)→H→Prop))where
  K:List Code
  eq:R=Dx C au Q K
instance (priority:=50) (C:fc) (au:Nat) (R:List (Nat×V)→H→Prop):Iy C au R (fun _=>R):=⟨[],rfl⟩
instance (priority:=60) (C:fc) (au:Nat) (Q:Ex→List (Nat×V)→H→Prop):Iy C au (fun E' h'=>Q .normal E' h') Q:=⟨[],rfl⟩
instance (priority:=70) (C:fc) (au:Nat) (f:Code) (Q:Ex→List (Nat×V)→H→Prop) (K:List Code):Iy C au (fun E' h'=>WP C au f E' h' (Dx C au Q K)) Q:=⟨f::K,rfl⟩
instance (priority:=65) (C:fc) (au:Nat) (f:Code) (Q:Ex→List (Nat×V)→H→Prop):Iy C au (fun E' h'=>WP C au f E' h' Q) Q:=⟨[f],rfl⟩
instance (priority:=80) (C:fc) (au:Nat) (K:List Code) (Q:Ex→List (Nat×V)→H→Prop):Iy C au (fun E' h'=>Dx C au Q K .normal E' h') Q:=⟨K,rfl⟩
instance (priority:=50) (C:fc) (au:Nat) (Q:Ex→List (Nat×V)→H→Prop):Vu C au Q Q:=⟨[],rfl⟩
instance (priority:=80) (C:fc) (au:Nat) (K:List Code) (Q:Ex→List (Nat×V)→H→Prop):Vu C au (Dx C au Q K) Q:=⟨K,rfl⟩
section
variable {au:Nat} {l:List Oper} {m m':Md} {K K':List Code} {f:Code}
theorem Zr {o:Op}{v:V}(e:Zq E o=some v): opE C.P E h o=some (v,h):=by
  unfold Zq at e
  simp only[P3] at e
  split at e
  · exact bK e
  · exact fD e
  · split at e
    · rename_i I
      cases e;exact pJ I
    · cases e
  · split at e
    · rename_i I
      exact cS I e
    · cases e
  · split at e
    · rename_i I;exact iH I e
    · rename_i I;exact kr I e
    · cases e
  · cases e
theorem L2 : ∀(n:Nat) (m:Md) (E:List (Nat×V)) (K:List Code),runM au n m E K=some (m',E',K')→Gl C au h Q m' E' K'→Gl C au h Q m E K:=by
  intro n
  induction n with
  |zero=>intro m E K e hw;simp only[runM,az,bJ] at e;obtain⟨rfl,rfl,rfl⟩:=e;exact hw
  |succ n I =>
    intro m E K e hw
    unfold runM at e
    split at e
    · rename_i he;cases he
    · rename_i he;cases he
      exact ax.nil (I _ _ _ e hw)
    · rename_i he;cases he
      split at e
      · rename_i d hg hd
        cases J:Nat.blt d au with
        |false=>rw[J] at e;cases e
        |true=>rw[J] at e;exact ax.no hg hd J (I _ _ _ e hw)
      · rename_i d hg hd
        split at e
        · rename_i v hv
          cases J:Nat.blt d au with
          |false=>rw[J] at e;cases e
          |true=>rw[J] at e;exact ax.op hg hd J (Zr hv) (I _ _ _ e hw)
        · cases e
      · cases e
    · rename_i he;cases he
      exact WP.seq (I _ _ _ e hw)
    · rename_i he;cases he
      exact WP.region rfl (I _ _ _ e hw)
    · rename_i he;cases he
      rw[P3] at e
      split at e
      · rename_i hx;exact WP.cond hx (I _ _ _ e hw)
      · rename_i hx;exact WP.cond hx (I _ _ _ e hw)
      · cases e
    · rename_i he;cases he
      exact WP.skip (I _ _ _ e hw)
    · cases e
theorem zk (n:Nat)[a:Iy C au R Q](e:runM au n (.o L l) E (Iy.K C au R)=some (m',E',K'))(hw:Gl C au h Q m' E' K'): ax C au L l E h R:=by
  rw[a.eq];exact L2 n (.o L l) E _ e hw
theorem zK {I:Ex→List (Nat×V)→H→Prop}(n:Nat)[a:Vu C au I Q](e:runM au n (.c f) E (Vu.K C au I)=some (m',E',K'))(hw:Gl C au h Q m' E' K'): WP C au f E h I:=by
  rw[a.eq];exact L2 n (.c f) E _ e hw
end
section
variable {au:Nat} {l:List Oper}
def OpR (C:fc)(E:List (Nat×V))(h:H)(o:Oper)(R:V→H→Prop): Prop:=∃v h₁,R v h₁∧∀env,iX env E→∃N,evOp C (ev C N) env h o=some (v,h₁)
theorem OpR.call {k:FuncId}{R:V→H→Prop}(J:o.op=.call cl)(hc:cl.callee=.value x)(hx:bA E x=some (.fn (.func k) first cap))
 (ha:lookArgs E cl.args.toList=some args)(I:Am.Call C k (first++(args++cap)) h R): OpR C E h o R:=by
 obtain⟨v,h₁,Aa,hr⟩:=I
 exact⟨v,h₁,hr,fun env hE=>Gd hE J hc hx ha Aa⟩
theorem OpR.of {v:V}{R:V→H→Prop}(ho:opE C.P E h o.op=some (v,h₁))(I:R v h₁): OpR C E h o R:=⟨v,h₁,I,fun _ J=>⟨0,Dq J ho⟩⟩
theorem ax.any (hg:wantE L E o.guard=some true)(hd:o.dst=some d)(hn:Nat.blt d au=true)(ho:OpR C E h o z7)
 (hw:∀v h₁,z7 v h₁→ax C au L rest ((d,v)::E) h₁ R): ax C au L (o::rest) E h R:=by
 intro env J
 obtain⟨v,h₁,hr,nK⟩:=ho
 obtain⟨N,hN⟩:=nK env J
 obtain⟨M,I,h',E',h1,h2,h3⟩:=hw v h₁ hr (env.set d (some v)) (J.set d v)
 refine⟨Nat.max N M,I,h',E',?_,h2,h3⟩
 simp only[evOps,kA J hg,aj,mI (dA (nr N M)) hN,St.put,hd,hn]
 exact qQ (dA (nk N M)) _ _ _ h1
def NH : List (Env×V)→List (List (Nat×V)×V)→Prop
 |[],[]=>True
 |x::l,y::m=>iX x.1 y.1∧x.2=y.2∧NH l m
 |_,_=>False
def ay (C:fc)(au:Nat)(L l:List Oper)(E:List (Nat×V))(h:H)(hs:List H)(Q:List (Nat×V)→H→List (List (Nat×V)×V)→List H→Prop): Prop :=
 ∀env,iX env E→∃N I h' E' tr ts J,trace C (ev C N) L l ⟨env,au,h⟩ hs=some (tr,J,⟨I,au,h'⟩)∧iX I E'∧NH tr ts∧Q E' h' ts J
variable {Q:List (Nat×V)→H→List (List (Nat×V)×V)→List H→Prop}
theorem ay.nil (I:Q E h [] hs): ay C au L [] E h hs Q:=fun env J=>⟨0,env,h,E,[],[],hs,rfl,J,aa,I⟩
theorem ay.any {e:Bool}(hg:wantE L E o.guard=some true)(hd:o.dst=some d)(hn:Nat.blt d au=true)(he:isEff C o.op=e)(ho:OpR C E h o z7)
 (hw:∀v h₁,z7 v h₁→ay C au L rest ((d,v)::E) h₁ (cond e (hs++[h₁]) hs) fun E' h' ts I=>Q E' h' ((E,v)::ts) I): ay C au L (o::rest) E h hs Q:=by
 intro env hE
 obtain⟨v,h₁,hr,nK⟩:=ho
 obtain⟨N,hN⟩:=nK env hE
 obtain⟨M,J,h',E',tr,ts,I,h1,h2,h3,h4⟩:=hw v h₁ hr (env.set d (some v)) (hE.set d v)
 refine⟨Nat.max N M,J,h',E',(env,v)::tr,(E,v)::ts,I,?_,h2,⟨hE,rfl,h3⟩,h4⟩
 simp only[trace,kA hE hg,aj,mI (dA (nr N M)) hN,St.put,hd,hn,he]
 rw[xU (dA (nk N M)) _ _ _ _ h1]
theorem ay.ij {e:Bool}(hg:wantE L E o.guard=some true)(hd:o.dst=none)(he:isEff C o.op=e)(ho:OpR C E h o z7)
 (hw:∀v h₁,z7 v h₁→ay C au L rest E h₁ (cond e (hs++[h₁]) hs) fun E' h' ts I=>Q E' h' ((E,v)::ts) I): ay C au L (o::rest) E h hs Q:=by
 intro env hE
 obtain⟨v,h₁,hr,nK⟩:=ho
 obtain⟨N,hN⟩:=nK env hE
 obtain⟨M,J,h',E',tr,ts,I,h1,h2,h3,h4⟩:=hw v h₁ hr env hE
 refine⟨Nat.max N M,J,h',E',(env,v)::tr,(E,v)::ts,I,?_,h2,⟨hE,rfl,h3⟩,h4⟩
 simp only[trace,kA hE hg,aj,mI (dA (nr N M)) hN,St.put,hd,he]
 rw[xU (dA (nk N M)) _ _ _ _ h1]
theorem ay.op {v:V}(J:wantE L E o.guard=some true)(hd:o.dst=some d)(hn:Nat.blt d au=true)(he:isEff C o.op=false)(ho:opE C.P E h o.op=some (v,h))
 (hw:ay C au L rest ((d,v)::E) h hs fun E' h' ts I=>Q E' h' ((E,v)::ts) I): ay C au L (o::rest) E h hs Q :=
 ay.any J hd hn he (OpR.of (R:=fun v' h'=>v'=v∧h'=h) ho ⟨rfl,rfl⟩) (fun v' h' hr=>by obtain⟨rfl,rfl⟩:=hr;exact hw)
theorem ay.no {e:Bool}(hg:wantE L E o.guard=some false)(hd:o.dst=some d)(hn:Nat.blt d au=true)(he:isEff C o.op=e)
 (hw:ay C au L rest ((d,ct)::E) h (cond e (hs++[h]) hs) fun E' h' ts I=>Q E' h' ((E,ct)::ts) I): ay C au L (o::rest) E h hs Q:=by
 intro env hE
 obtain⟨M,J,h',E',tr,ts,I,h1,h2,h3,h4⟩:=hw (env.set d (some ct)) (hE.set d ct)
 refine⟨M,J,h',E',(env,ct)::tr,(E,ct)::ts,I,?_,h2,⟨hE,rfl,h3⟩,h4⟩
 simp only[trace,kA hE hg,aY,St.put,hd,hn,aj,he]
 rw[h1]
def Iz (C:fc)(L:List Oper)(o:Oper)(x:List (Nat×V)×V)(h:H): Prop :=
 wantE L x.1 o.guard=some false∨(wantE L x.1 o.guard=some true∧(∃h',opE C.P x.1 h o.op=some (x.2,h'))∧x.2.beq x.2=true)
def HJ (C:fc)(L:List Oper)(an es:List Nat)(hs:List H): List Oper→List (List (Nat×V)×V)→Nat→Prop
 |o::l,x::tr,i=>(isEff C o.op=true∨(qL ((nth an i).getD 0) es&&Nat.beq (lD ((nth an i).getD 0) es) (oR an i es))=true ∨
   (qL ((nth an i).getD 0) es=true∧∀h∈(hs.drop (lD ((nth an i).getD 0) es)).take (oR an i es+1-lD ((nth an i).getD 0) es),Iz C L o x h))∧HJ C L an es hs l tr (i+1)
 |[],[],_=>True
 |_,_,_=>False
theorem P4 {x:Env×V}{y:List (Nat×V)×V}(J:iX x.1 y.1)(hv:x.2=y.2): ∀(hs:List H),(∀h∈hs,Iz C L o y h)→sameIn C self L o x hs=true:=by
 intro hs
 induction hs with
 |nil=>intro _;rfl
 |cons h hs ih =>
  intro I
  simp only[sameIn]
  rcases I h bZ with hg|⟨hg,⟨h',ho⟩,hb⟩
  ·rw[kA J hg,aY]
  ·rw[kA J hg,aj,Dq J ho]
   simp only
   rw[hv,hb,aj]
   exact ih (fun h hh=>I h (b8 _ hh))
theorem P5 {an:List Nat}: ∀(l:List Oper) (tr:List (Env×V)) (ts:List (List (Nat×V)×V)) (i:Nat),NH tr ts→HJ C L an es hs l ts i→stayOk C self L an es hs l tr i=true:=by
 intro l
 induction l with
 |nil=>intro tr ts i hn J;cases tr<;>cases ts<;>first|rfl|(exact J.elim)|(exact hn.elim)
 |cons o l ih =>
  intro tr ts i hn J
  cases tr with
  |nil=>cases ts with
   |nil=>exact J.elim
   |cons y ts=>exact hn.elim
  |cons x tr =>
   cases ts with
   |nil=>exact hn.elim
   |cons y ts =>
    obtain⟨n1,n2,n3⟩:=hn
    obtain⟨s1,s2⟩:=J
    simp only[stayOk]
    have I:=ih tr ts (i+1) n3 s2
    cases he:isEff C o.op with
    |true=>rw[aj];exact I
    |false =>
     rw[aY]
     rcases s1 with s1|s1|⟨s1,s3⟩
     ·rw[he] at s1;cases s1
     ·rw[s1,aj];exact I
     ·cases hq:(qL ((nth an i).getD 0) es&&Nat.beq (lD ((nth an i).getD 0) es) (oR an i es)) with
      |true=>rw[aj];exact I
      |false=>rw[aY,s1,P4 n1 n2 _ s3,jz,aj];exact I
theorem WP.draw {Q:Ex→List (Nat×V)→H→Prop}(hl:ops.toList=L)(J:pN C false L=true)
 (hw:ay C au L L E h [h] fun E' h' ts hs=>HJ C L (ancs L []) (eP C L 0) hs L ts 0∧Q .normal E' h'): WP C au (.region id ops true) E h Q:=by
 intro env hE
 obtain⟨N,I,h',E',tr,ts,Gn,h1,h2,h3,h4,h5⟩:=hw env hE
 refine⟨N+1,.normal,I,h',E',?_,h2,h5⟩
 subst hl
 rw[jA]
 simp only[evStep,aj,qM,J,h1,P5 _ _ _ _ h3 h4]
end
def planOk (C:fc)(an es:List Nat): List Oper→List (Option (Nat×Nat))→Nat→Bool
 |[],[],_=>true
 |o::l,p::ps,i=>(match p with
   |none=>isEff C o.op||(qL ((nth an i).getD 0) es&&Nat.beq (lD ((nth an i).getD 0) es) (oR an i es))
   |some (lo,n)=>qL ((nth an i).getD 0) es&&Nat.beq lo (lD ((nth an i).getD 0) es)&&Nat.beq n (oR an i es+1-lD ((nth an i).getD 0) es))&&planOk C an es l ps (i+1)
 |_,_,_=>false
def Dz (C:fc)(L:List Oper)(hs:List H): List Oper→List (List (Nat×V)×V)→List (Option (Nat×Nat))→Prop
 |o::l,x::tr,p::ps=>(match p with
   |none=>True
   |some (lo,n)=>∀h∈(hs.drop lo).take n,Iz C L o x h)∧Dz C L hs l tr ps
 |[],[],_=>True
 |_,_,_=>False
theorem Dz.stay {an:List Nat}: ∀(l:List Oper) (ts:List (List (Nat×V)×V)) (ps:List (Option (Nat×Nat))) (i:Nat),planOk C an es l ps i=true→Dz C L hs l ts ps→HJ C L an es hs l ts i:=by
 intro l
 induction l with
 |nil=>intro ts ps i h1 J;cases ts with
  |nil=>trivial
  |cons x ts=>exact J.elim
 |cons o l ih =>
  intro ts ps i h1 J
  cases ts with
  |nil=>cases ps<;>exact J.elim
  |cons x ts =>
   cases ps with
   |nil=>exact J.elim
   |cons p ps =>
    simp only[planOk,bQ] at h1
    obtain⟨I,a2⟩:=h1
    obtain⟨b1,b2⟩:=J
    refine⟨?_,ih ts ps (i+1) a2 b2⟩
    cases p with
    |none =>
     simp only[Bc] at I
     rcases I with I|I
     ·exact .inl I
     ·exact .inr (.inl I)
    |some q =>
     obtain⟨lo,n⟩:=q
     simp only[bQ,beq_iff] at I
     obtain⟨⟨c1,c2⟩,c3⟩:=I
     refine .inr (.inr ⟨c1,?_⟩)
     subst c2
     subst c3
     exact b1
theorem WP.drawn {au:Nat}(ps:List (Option (Nat×Nat)))(hl:ops.toList=L)(J:pN C false L=true)
 (hp:planOk C (ancs L []) (eP C L 0) L ps 0=true)
 (hw:ay C au L L E h [h] fun E' h' ts hs=>Dz C L hs L ts ps∧Q .normal E' h'): WP C au (.region id ops true) E h Q:=by
 refine WP.draw hl J ?_
 intro env hE
 obtain⟨N,I,h',E',tr,ts,Gn,h1,h2,h3,h4,h5⟩:=hw env hE
 exact⟨N,I,h',E',tr,ts,Gn,h1,h2,h3,Dz.stay _ _ _ _ hp h4,h5⟩
theorem eE {a b:H}{l:List H}{p:H→Prop}(J:p a)(hb:p b): ∀x∈((a::b::l).drop 0).take 2,p x:=by
 intro x I
 simp only[gV,List.take_succ_cons,wC,kP,ow,ug] at I
 rcases I with rfl|rfl
 ·exact J
 ·exact hb
theorem qU {a b c:H}{l:List H}{p:H→Prop}(J:p a)(hb:p b)(hc:p c): ∀x∈((a::b::c::l).drop 0).take 3,p x:=by
 intro x I
 simp only[gV,List.take_succ_cons,wC,kP,ow,ug] at I
 rcases I with rfl|rfl|rfl
 ·exact J
 ·exact hb
 ·exact hc
theorem dx (k:IntKind): ikBeq k k=true:=by cases k<;>rfl
theorem lF (n:Int): intBeq n n=true:=by cases n<;>simp[intBeq]
theorem B3 (c:Cap): c.beq c=true:=by cases c<;>simp[Cap.beq]
theorem HK (a b c:Nat)(d:Cap): (V.sl a b c d).beq (.sl a b c d)=true:=by simp[V.beq,B3]
theorem dB {v:V}(hv:View h v l): v.beq v=true:=by
 obtain⟨_,hv⟩:=hv
 rcases hv with⟨rfl|⟨I,rfl⟩,_⟩|⟨id,off,cap,n,cs,st,rfl,_⟩
 ·simp[V.beq]
 ·simp[V.beq]
 ·exact HK _ _ _ _
section
variable {au:Nat} {Q:List (Nat×V)→H→List (List (Nat×V)×V)→List H→Prop} {v:V} {a b:Operand}
theorem zM (e:(o.op,wantE L E o.guard,o.dst,Nat.blt d au,isEff C o.op,bA E x)=(Op.move x,some true,some d,true,false,some v))(hw:ay C au L rest ((d,v)::E) h hs fun E' h' ts I=>Q E' h' ((E,v)::ts) I): ay C au L (o::rest) E h hs Q:=by
  simp only[bJ] at e;exact ay.op e.2.1 e.2.2.1 e.2.2.2.1 e.2.2.2.2.1 (by rw[e.1];exact bK e.2.2.2.2.2) hw
theorem zA (e:(o.op,wantE L E o.guard,o.dst,Nat.blt d au,isEff C o.op,bA E x)=(Op.assign x,some true,some d,true,false,some v))(hw:ay C au L rest ((d,v)::E) h hs fun E' h' ts I=>Q E' h' ((E,v)::ts) I): ay C au L (o::rest) E h hs Q:=by
  simp only[bJ] at e;exact ay.op e.2.1 e.2.2.1 e.2.2.2.1 e.2.2.2.2.1 (by rw[e.1];exact fD e.2.2.2.2.2) hw
theorem zN (e:(o.op,wantE L E o.guard,o.dst,Nat.blt d au,isEff C o.op,bA E x)=(Op.nilCheck x,some true,some d,true,false,some (V.ptr j k)))(hw:ay C au L rest ((d,.ptr j k)::E) h hs fun E' h' ts I=>Q E' h' ((E,.ptr j k)::ts) I): ay C au L (o::rest) E h hs Q:=by
  simp only[bJ] at e;exact ay.op e.2.1 e.2.2.1 e.2.2.2.1 e.2.2.2.2.1 (by rw[e.1];exact pJ e.2.2.2.2.2) hw
theorem zF (e:(o.op,wantE L E o.guard,o.dst,Nat.blt d au,isEff C o.op,bA E x)=(Op.fieldAddr t x i,some true,some d,true,false,some v))(J:fieldAddrV C.P t v i=some r)(hw:ay C au L rest ((d,r)::E) h hs fun E' h' ts I=>Q E' h' ((E,r)::ts) I): ay C au L (o::rest) E h hs Q:=by
  simp only[bJ] at e;exact ay.op e.2.1 e.2.2.1 e.2.2.2.1 e.2.2.2.2.1 (by rw[e.1];exact lE e.2.2.2.2.2 J) hw
theorem zL (e:(o.op,wantE L E o.guard,o.dst,Nat.blt d au,isEff C o.op,bA E x)=(Op.load t x,some true,some d,true,false,some v))(J:loadV C.P h t v=some r)(hw:ay C au L rest ((d,r)::E) h hs fun E' h' ts I=>Q E' h' ((E,r)::ts) I): ay C au L (o::rest) E h hs Q:=by
  simp only[bJ] at e;exact ay.op e.2.1 e.2.2.1 e.2.2.2.1 e.2.2.2.2.1 (by rw[e.1];exact aZ e.2.2.2.2.2 J) hw
theorem zO (e:(wantE L E o.guard,o.dst,Nat.blt d au,isEff C o.op)=(some true,some d,true,false))(ho:opE C.P E h o.op=some (v,h))(hw:ay C au L rest ((d,v)::E) h hs fun E' h' ts I=>Q E' h' ((E,v)::ts) I): ay C au L (o::rest) E h hs Q:=by
  simp only[bJ] at e;exact ay.op e.1 e.2.1 e.2.2.1 e.2.2.2 ho hw
end
abbrev PM := Nat→Option Obj
variable {m':PM}
def PM.le (a b:PM): Prop:=∀i o,a i=some o→b i=some o
def PM.dj (a b:PM): Prop:=∀i,a i=none∨b i=none
def PM.upd (m:PM)(id:Nat)(o:Option Obj): PM:=fun i=>if i=id then o else m i
def PM.un (a b:PM): PM:=fun i=>(a i).orElse fun _=>b i
theorem PM.le_refl (a:PM): a.le a:=fun _ _ h=>h
theorem PM.le_trans {a b c:PM}(x:a.le b)(y:b.le c): a.le c:=fun i o h=>y i o (x i o h)
theorem PM.n_ {a b I J:PM}(hd:a.dj b)(ha:I.le a)(hb:J.le b): I.dj J:=by
 intro i
 rcases hd i with h|h
 ·left
  cases h1:I i with
  |none=>rfl
  |some o=>rw[ha i o h1] at h;cases h
 ·right
  cases h1:J i with
  |none=>rfl
  |some o=>rw[hb i o h1] at h;cases h
theorem PM.qn {a b:PM}(h:a.dj b): b.dj a:=fun i=>(h i).symm
theorem PM.IA (a b:PM): a.le (a.un b):=fun i o h=>by simp[PM.un,h]
theorem PM.IB {a b:PM}(hd:a.dj b): b.le (a.un b):=fun i o h=>by
 rcases hd i with I|I<;>grind[PM.un]
theorem PM.DB {a b c:PM}(J:a.le c)(hb:b.le c): (a.un b).le c:=fun i o h=>by
 simp only[PM.un] at h
 cases I:a i with
 |none=>rw[I] at h;exact hb i o h
 |some x=>rw[I] at h;injection h with h;subst h;exact J i _ I
theorem PM.DC {a b c:PM}(I:a.dj c)(J:b.dj c): (a.un b).dj c:=fun i=>by
 rcases I i with h|h
 ·rcases J i with h2|h2<;>grind[PM.un]
 ·grind
def ViewM (m:PM)(v:V)(l:List Nat): Prop:=(∀b∈l,b<256)∧(((v=.a_∨∃a,v=.sle a)∧l=[]) ∨
 ∃id off cap n cs st,v=.sl id off l.length cap∧m id=some (.cells n cs st)∧cs.length=n∧off+l.length≤n∧(cs.drop off).take l.length=ofBytes l ∧
  (match cap with|.exact c=>l.length≤c|.rest e _=>e=1))
def tu (m:PM)(v:V)(l:List Nat): Prop:=(∀b∈l,b<256)∧((v=.a_∧l=[]) ∨
 (∃id cs c,v=.sl id 0 l.length (.exact c)∧m id=some (.cells c (ofBytes l++cs) false)∧l.length+cs.length=c) ∨
 (∃id,v=.sl id 0 l.length (.rest 1 0)∧m id=some (.cells l.length (ofBytes l) false)∧1≤l.length))
theorem ViewM.up {m:PM}{v:V}(h:ViewM m v l)(hm:PM.le m m'): ViewM m' v l:=by
 obtain⟨J,I⟩:=h
 refine⟨J,?_⟩
 rcases I with I|⟨id,off,cap,n,cs,st,e,hg,h3⟩
 ·grind
 ·exact .inr ⟨id,off,cap,n,cs,st,e,hm _ _ hg,h3⟩
theorem tu.up {m:PM}{v:V}(h:tu m v l)(hm:PM.le m m'): tu m' v l:=by
 obtain⟨h1,h2⟩:=h
 refine⟨h1,?_⟩
 rcases h2 with h2|⟨id,cs,c,e,I,J⟩|⟨id,e,I,J⟩
 ·grind
 ·exact .inr (.inl ⟨id,cs,c,e,hm _ _ I,J⟩)
 ·exact .inr (.inr ⟨id,e,hm _ _ I,J⟩)
theorem tu.view {m:PM}{v:V}(I:tu m v l): ViewM m v l:=by
 obtain⟨J,I⟩:=I
 refine⟨J,?_⟩<;>grind[dV]
def rN (m:PM)(k:Nat)(v:V)(cs:List V): Prop:=cs.all storable=true∧((v=.a_∧cs=[]) ∨
 ∃id n cap N rest,v=.sl id 0 n cap∧m id=some (.cells N (cs++rest) false)∧cs.length=n*k∧cs.length+rest.length=N∧rest.all storable=true ∧
  (match cap with|.exact c=>N=c*k∧n≤c|.rest e alt=>e=k∧alt=0∧rest=[]∧1≤n))
theorem rN.up {m:PM}{v:V}(h:rN m k v cs)(hm:PM.le m m'): rN m' k v cs:=by
 obtain⟨J,I⟩:=h
 refine⟨J,?_⟩
 rcases I with I|⟨id,n,cap,N,rest,e,hg,h3⟩
 ·grind
 ·exact .inr ⟨id,n,cap,N,rest,e,hm _ _ hg,h3⟩
inductive aL : Type 1 where
 |pt (id:Nat) (o:Obj)
 |ro (id:Nat) (o:Obj)
 |pu (φ:Prop)
 |buf (v:V) (l:List Nat)
 |bY (v:V) (l:List Nat)
 |Zs (v:V) (l:List Nat)
 |arr (k:Nat) (v:V) (cs:List V)
 |an (A B:aL)
 |xs {α:Type} (f:α→aL)
 |all {α:Type} (f:α→aL)
 |se (A B:aL)
variable {A B X:aL} {S S':List aL}
abbrev pt := aL.pt
abbrev ro := aL.ro
abbrev pu := aL.pu
abbrev xs {α:Type}(f:α→aL): aL:=aL.xs f
abbrev aQ := aL.buf
abbrev B4 := aL.bY
abbrev cQ := aL.Zs
def aL.p : aL→PM→PM→Prop
 |.pt id o,m,_=>m id=some o
 |.ro id o,_,r=>r id=some o
 |.pu φ,_,_=>φ
 |.buf v l,m,_=>tu m v l
 |.bY v l,_,r=>ViewM r v l
 |.Zs v l,m,r=>ViewM m v l∨ViewM r v l
 |.arr k v cs,m,_=>rN m k v cs
 |.an A B,m,r=>A.p m r∧B.p m r
 |.xs f,m,r=>∃x,(f x).p m r
 |.all f,m,r=>∀x,(f x).p m r
 |.se A B,m,r=>∃a b,PM.dj a b∧PM.le a m∧PM.le b m∧A.p a r∧B.p b r
theorem aL.mono : ∀(A:aL) (m m' r J:PM),PM.le m m'→PM.le r J→A.p m r→A.p m' J:=by
 intro A
 induction A with
 |pt id o=>intro m m' r J hm I h;exact hm _ _ h
 |ro id o=>intro m m' r J hm I h;exact I _ _ h
 |pu φ=>intro m m' r J hm I h;exact h
 |buf v l=>intro m m' r J hm I h;exact tu.up h hm
 |bY v l=>intro m m' r J hm I h;exact ViewM.up h I
 |Zs v l =>
  intro m m' r J hm I h
  rcases h with h|h
  ·exact .inl (ViewM.up h hm)
  ·exact .inr (ViewM.up h I)
 |arr k v cs=>intro m m' r J hm I h;exact rN.up h hm
 |an A B ia ib=>intro m m' r J hm I h;exact⟨ia _ _ _ _ hm I h.1,ib _ _ _ _ hm I h.2⟩
 |xs f ih=>intro m m' r J hm I h;obtain⟨x,hx⟩:=h;exact⟨x,ih x _ _ _ _ hm I hx⟩
 |all f ih=>intro m m' r J hm I h x;exact ih x _ _ _ _ hm I (h x)
 |se A B ia ib =>
  intro m m' r J hm I h
  obtain⟨a,b,h1,h2,h3,h4,h5⟩:=h
  exact⟨a,b,h1,PM.le_trans h2 hm,PM.le_trans h3 hm,ia _ _ _ _ (PM.le_refl _) I h4,ib _ _ _ _ (PM.le_refl _) I h5⟩
def star : List aL→aL
 |[]=>.pu True
 |A::L=>.se A (star L)
theorem aL.up {m r I:PM}(h:A.p m r)(hm:m.le m')(J:r.le I): A.p m' I:=A.mono m m' r I hm J h
def cL (A B:aL): Prop:=∀m r,A.p m r→B.p m r
def aV (A:aL): Prop:=∀m r,A.p m r→A.p (fun _=>none) r
theorem aV.ro (id:Nat)(o:Obj): aV (.ro id o):=fun _ _ h=>h
theorem aV.pu (φ:Prop): aV (.pu φ):=fun _ _ h=>h
theorem aV.xs {f:α→aL}(h:∀x,aV (f x)): aV (.xs f):=fun m r ⟨x,I⟩=>⟨x,h x m r I⟩
theorem aV.an (I:aV A)(J:aV B): aV (.an A B):=fun m r h=>⟨I m r h.1,J m r h.2⟩
def getA : List aL→Nat→Option aL
 |[],_=>none
 |A::_,0=>some A
 |_::L,k+1=>getA L k
theorem nA (I:getA S k=some X): getA (A::S) (k+1)=some X:=I
def setA : List aL→Nat→aL→List aL
 |[],_,_=>[]
 |_::L,0,B=>B::L
 |A::L,k+1,B=>A::setA L k B
def aI : List aL→Nat→List aL
 |[],_=>[]
 |_::L,0=>L
 |A::L,k+1=>A::aI L k
def bringA (S:List aL): List Nat→List aL
 |[]=>S
 |k::ks=>match getA S k with
  |some A=>A::bringA (aI S k) ks
  |none=>[]
def NI (k:Nat): List Nat→Nat
 |[]=>0
 |x::l=>cond (Nat.blt x k) (NI k l+1) (NI k l)
def Zt : List Nat→List Nat→List Nat
 |_,[]=>[]
 |seen,k::ks=>(k-NI k seen)::Zt (k::seen) ks
theorem P6 {L:List aL}{m r:PM}(h:(star (A::B::L)).p m r): (star (B::A::L)).p m r:=by
 obtain⟨a,b,h1,h2,h3,h4,c,d,g1,g2,g3,g4,g5⟩:=h
 have J:a.dj c:=PM.n_ h1 (PM.le_refl _) g2
 have I:a.dj d:=PM.n_ h1 (PM.le_refl _) g3
 exact⟨c,a.un d,PM.qn (PM.DC J (PM.qn g1)),PM.le_trans g2 h3,PM.DB h2 (PM.le_trans g3 h3),g4,a,d,I,PM.IA _ _,PM.IB I,h4,g5⟩
theorem Af {L I:List aL}(h:∀m r,(star L).p m r→(star I).p m r){m r:PM}(hs:(star (A::L)).p m r): (star (A::I)).p m r:=by
 obtain⟨a,b,J,h2,h3,h4,h5⟩:=hs
 exact⟨a,b,J,h2,h3,h4,h _ _ h5⟩
theorem Ag : ∀ {S:List aL} {k:Nat} {A:aL},getA S k=some A→∀m r,(star S).p m r→(star (A::aI S k)).p m r:=by
 intro S
 induction S with
 |nil=>intro k A h;cases h
 |cons B S I =>
  intro k A h m r hs
  cases k with
  |zero=>injection h with h;subst h;exact hs
  |succ k =>
   exact P6 (Af (I h) hs)
theorem Ah {L:List aL}{m r:PM}(h:(star (A::L)).p m r): (star L).p m r:=by
 obtain⟨a,b,I,J,h3,h4,h5⟩:=h<;>grind[aL.up,PM.le_refl]
theorem P7 {L:List aL}{m r:PM}(h:(star (A::L)).p m r): A.p m r:=by
 obtain⟨a,b,I,J,h3,h4,h5⟩:=h<;>grind[aL.up,PM.le_refl]
theorem DD : ∀(ks:List Nat) (S:List aL) (m r:PM),(star S).p m r→(bringA S ks=[]∨True)→(star (bringA S ks)).p m r:=by
 intro ks
 induction ks with
 |nil=>intro S m r h _;exact h
 |cons k ks I =>
  intro S m r h _
  simp only[bringA]
  cases J:getA S k with
  |none=>trivial
  |some A=>exact Af (fun m r h=>I _ m r h (.inr aa)) (Ag J m r h)
theorem IC {L:List aL}: ∀m r,(star (star L::S)).p m r↔(star (L++S)).p m r:=by
 induction L with
 |nil =>
  intro m r
  constructor
  ·intro h;exact Ah h
  ·intro h;exact⟨fun _=>none,m,fun _=>.inl rfl,fun _ _ h=>(by cases h),PM.le_refl _,aa,h⟩
 |cons A L ih =>
  intro m r
  constructor
  ·rintro⟨a,b,J,h2,h3,⟨c,d,g1,g2,g3,g4,g5⟩,h5⟩
   have I:c.dj b:=PM.n_ J g2 (PM.le_refl _)
   have B5:d.dj b:=PM.n_ J g3 (PM.le_refl _)
   exact⟨c,d.un b,PM.qn (PM.DC (PM.qn g1) (PM.qn I)),PM.le_trans g2 h2,PM.DB (PM.le_trans g3 h2) h3,g4,(ih _ _).1 ⟨d,b,B5,PM.IA _ _,PM.IB B5,g5,h5⟩⟩
  ·rintro⟨c,e,J,h2,h3,h4,h5⟩
   obtain⟨d,b,g1,g2,g3,g4,g5⟩:=(ih _ _).2 h5
   have sI:c.dj d:=PM.n_ J (PM.le_refl _) g2
   have I:c.dj b:=PM.n_ J (PM.le_refl _) g3
   exact⟨c.un d,b,PM.DC I g1,PM.DB h2 (PM.le_trans g2 h3),PM.le_trans g3 h3,⟨c,d,sI,PM.IA _ _,PM.IB sI,h4,g4⟩,g5⟩
structure Sat (h:H)(S:List aL): Prop where
 wf:lQ h
 ok:∃m r,PM.le m (T.get h.tr)∧PM.le r (T.get h.tr)∧PM.dj m r∧(star S).p m r
section
theorem Sat.map (s:Sat h S)(I:∀m r,(star S).p m r→(star S').p m r): Sat h S':=by
 obtain⟨m,r,J,h2,h3,h4⟩:=s.ok
 exact⟨s.wf,m,r,J,h2,h3,I _ _ h4⟩
theorem Sat.at (s:Sat h S)(I:getA S k=some A): ∃m r,PM.le m (T.get h.tr)∧PM.le r (T.get h.tr)∧A.p m r:=by
 obtain⟨m,r,J,h2,h3,h4⟩:=s.ok
 exact⟨m,r,J,h2,P7 (Ag I m r h4)⟩
theorem Sat.take (k:Nat)(s:Sat h S)(I:getA S k=some A): Sat h (A::aI S k):=s.map (Ag I)
theorem Sat.qV (ks:List Nat)(s:Sat h S): Sat h (bringA S (Zt [] ks)):=s.map fun m r h=>DD _ S m r h (.inr aa)
theorem Sat.ae (ks:List Nat)(s:Sat h S): Sat h (bringA S ks):=s.map fun m r h=>DD _ S m r h (.inr aa)
theorem Sat.drop (s:Sat h (A::S)): Sat h S:=s.map fun _ _ h=>Ah h
theorem Tf : ∀(S:List aL) (k:Nat) (m r:PM),(star S).p m r→(star (aI S k)).p m r:=by
 intro S
 induction S with
 |nil=>intro k m r h;exact h
 |cons B S I =>
  intro k m r h
  cases k with
  |zero=>exact Ah h
  |succ k=>exact Af (I k) h
theorem Sat.del (k:Nat)(s:Sat h S): Sat h (aI S k):=s.map (Tf S k)
theorem Sat.gK (s:Sat h (A::S))(he:cL A B): Sat h (B::S):=s.map fun m r ⟨a,b,I,J,h3,h4,h5⟩=>⟨a,b,I,J,h3,he _ _ h4,h5⟩
theorem Sat.dup (s:Sat h (A::S))(J:aV A): Sat h (A::A::S):=s.map fun m r hs=>by
 obtain⟨a,b,h1,h2,h3,I,h5⟩:=hs
 exact⟨fun _=>none,m,fun _=>.inl rfl,fun _ _ h=>(by cases h),PM.le_refl _,J _ _ I,a,b,h1,h2,h3,I,h5⟩
theorem Sat.gD (s:Sat h S)(I:φ): Sat h (pu φ::S):=s.map fun m _ hs=>⟨fun _=>none,m,fun _=>.inl rfl,fun _ _ h=>(by cases h),PM.le_refl _,I,hs⟩
theorem Sat.two {C:aL}(s:Sat h (A::B::S))(I:aV A)(J:aV B)(hC:∀m r,A.p m r→B.p m r→C.p m r): Sat h (C::S):=s.map fun m r hs=>by
 obtain⟨a,b,h1,h2,h3,h4,c,d,g1,g2,g3,g4,g5⟩:=hs
 exact⟨fun _=>none,d,fun _=>.inl rfl,fun _ _ h=>(by cases h),PM.le_trans g3 h3,hC _ _ (I _ _ h4) (J _ _ g4),g5⟩
theorem g_ {f:α→aL}: Sat h (xs f::S)↔∃x,Sat h (f x::S):=by
 constructor
 ·intro s
  obtain⟨m,r,I,J,h3,a,b,g1,g2,g3,⟨x,g4⟩,g5⟩:=s.ok
  exact⟨x,s.wf,m,r,I,J,h3,a,b,g1,g2,g3,g4,g5⟩
 ·rintro⟨x,s⟩
  exact s.gK fun m r h=>⟨x,h⟩
theorem eS : Sat h (pu φ::S)↔φ∧Sat h S:=by
 constructor
 ·intro s
  obtain⟨m,r,I,h2,h3,a,b,g1,g2,g3,J,g5⟩:=s.ok
  exact⟨J,s.drop⟩
 ·rintro⟨I,s⟩;exact s.gD I
theorem bn {L:List aL}: Sat h (star L::S)↔Sat h (L++S) :=
 ⟨fun s=>s.map fun m r hs=>(IC m r).1 hs,fun s=>s.map fun m r hs=>(IC m r).2 hs⟩
theorem Sat.row {o:Obj}(s:Sat h S)(I:getA S k=some (pt id o)): T.get h.tr id=some o:=by
 obtain⟨m,r,J,h2,h3⟩:=s.at I
 exact J _ _ h3
theorem Sat.ne {o:Obj}(s:Sat h (pt i o::pt j o'::S)): i≠j:=by
 rintro rfl
 obtain⟨m,r,h1,h2,h3,a,b,I,g2,g3,J,c,d,k1,k2,k3,k4,k5⟩:=s.ok
 have e1:a i=some o:=J
 have e2:b i=some o':=k2 _ _ k4
 rcases I i with e|e
 ·grind
 ·grind
theorem Zu {m:PM}{t:T Obj}{o:Option Obj}(hm:m.le (T.get t)): (m.upd id o).le (T.get (t.set id o)):=by
 intro i x I
 rw[bp]
 simp only[PM.upd] at I
 split
 ·grind
 ·rename_i e;rw[ak e] at I;exact hm i x I
theorem ID {m:PM}{o:Option Obj}(hm:m.le (T.get h.tr))(J:m id=none): m.le (T.get (h.put id o).tr):=by
 intro i x I
 rw[dK]
 split
 ·grind
 ·exact hm i x I
theorem Tg : ∀ {S:List aL} {k id:Nat} {o o':Obj},getA S k=some (pt id o)→∀m r,(star S).p m r→m id=some o∧(star (setA S k (pt id o'))).p (m.upd id (some o')) r:=by
 intro S
 induction S with
 |nil=>intro k id o o' h;cases h
 |cons B S ih =>
  intro k id o o' J m r hs
  obtain⟨a,b,h1,h2,h3,h4,h5⟩:=hs
  cases k with
  |zero =>
   injection J with J
   subst J
   have ha:a id=some o:=h4
   have hb:b id=none:=by
    rcases h1 id with e|e
    ·grind
    ·exact e
   refine⟨h2 _ _ ha,a.upd id (some o'),b,fun i => ?_,fun i x I => ?_,fun i x I => ?_,?_,h5⟩
   ·by_cases e:i=id
    ·grind
    ·simp only[PM.upd,ak e];exact h1 i
   ·simp only[PM.upd] at I ⊢
    split
    ·grind
    ·rename_i e;rw[ak e] at I;exact h2 i x I
   ·simp only[PM.upd]
    split
    ·grind
    ·exact h3 i x I
   ·show(a.upd id (some o')) id=some o'
    simp[PM.upd]
  |succ k =>
   obtain⟨g1,g2⟩:=ih (o':=o') J b r h5
   have ha:a id=none:=by
    rcases h1 id with e|e
    ·exact e
    ·grind
   refine⟨h3 _ _ g1,a,b.upd id (some o'),fun i => ?_,fun i x I => ?_,fun i x I => ?_,h4,g2⟩
   ·by_cases e:i=id
    ·grind
    ·simp only[PM.upd,ak e];exact h1 i
   ·simp only[PM.upd]
    split
    ·grind
    ·exact h2 i x I
   ·simp only[PM.upd] at I ⊢
    split
    ·grind
    ·rename_i e;rw[ak e] at I;exact h3 i x I
theorem Sat.put {o:Obj}(s:Sat h S)(hk:getA S k=some (pt id o)): Sat (h.put id (some o')) (setA S k (pt id o')):=by
 obtain⟨m,r,I,h2,J,h4⟩:=s.ok
 obtain⟨g1,g2⟩:=Tg (o':=o') hk m r h4
 have hr:r id=none:=by
  rcases J id with e|e
  ·grind
  ·exact e
 refine⟨s.wf.put (s.wf _ _ (I _ _ g1)) _,m.upd id (some o'),r,Zu I,ID h2 hr,fun i => ?_,g2⟩
 by_cases e:i=id
 ·grind
 ·simp only[PM.upd,ak e];exact J i
theorem Sat.new (s:Sat h S)(o:Obj): Sat (h.new o) (pt h.next o::S):=by
 obtain⟨m,r,h1,h2,h3,h4⟩:=s.ok
 have hm:m h.next=none:=by
  cases e:m h.next with
  |none=>rfl
  |some x=>exact absurd (s.wf _ _ (h1 _ _ e)) (Nat.lt_irrefl _)
 have hr:r h.next=none:=by
  cases e:r h.next with
  |none=>rfl
  |some x=>exact absurd (s.wf _ _ (h2 _ _ e)) (Nat.lt_irrefl _)
 have J:∀(q:PM),q.le (T.get h.tr)→q h.next=none→q.le (T.get (h.new o).tr):=fun q hq hn i x I=>by
  rw[gI]
  split
  ·grind
  ·exact hq i x I
 refine⟨s.wf.new o,m.upd h.next (some o),r,fun i x I => ?_,J r h2 hr,fun i => ?_,fun i=>if i=h.next then some o else none,m,fun i => ?_,fun i x I => ?_,fun i x I => ?_,?_,h4⟩
 ·rw[gI]
  simp only[PM.upd] at I
  split
  ·grind
  ·rename_i e;rw[ak e] at I;exact h1 i x I
 ·by_cases e:i=h.next
  ·grind
  ·simp only[PM.upd,ak e];exact h3 i
 ·grind
 ·grind[PM.upd]
 ·grind[PM.upd]
 ·show(if h.next=h.next then some o else none)=some o
  simp
theorem Sat.kill {o:Obj}(s:Sat h (pt id o::S)): Sat (h.put id none) S:=by
 obtain⟨m,r,I,h2,J,a,b,g1,g2,g3,g4,g5⟩:=s.ok
 have ha:a id=some o:=g4
 have hb:b id=none:=by
  rcases g1 id with e|e
  ·grind
  ·exact e
 have hr:r id=none:=by
  rcases J id with e|e
  ·rw[g2 _ _ ha] at e;cases e
  ·exact e
 exact⟨s.wf.put (s.wf _ _ (I _ _ (g2 _ _ ha))) _,b,r,ID (PM.le_trans g3 I) hb,ID h2 hr,PM.n_ J g3 (PM.le_refl _),g5⟩
theorem Sat.freeze {o:Obj}(s:Sat h (pt id o::S)): Sat h (ro id o::S):=by
 obtain⟨m,r,J,h2,h3,a,b,g1,g2,g3,g4,g5⟩:=s.ok
 have ha:a id=some o:=g4
 have hb:b id=none:=by
  rcases g1 id with e|e
  ·grind
  ·exact e
 have hr:r id=none:=by
  rcases h3 id with e|e
  ·rw[g2 _ _ ha] at e;cases e
  ·exact e
 have hle:r.le (r.upd id (some o)):=fun i x I=>by
  grind[PM.upd]
 refine⟨s.wf,b,r.upd id (some o),PM.le_trans g3 J,fun i x I => ?_,fun i => ?_,fun _=>none,b,fun _=>.inl rfl,fun _ _ h=>(by cases h),PM.le_refl _,?_,aL.up g5 (PM.le_refl _) hle⟩
 ·simp only[PM.upd] at I
  split at I
  ·rename_i e;subst e;injection I with I;subst I;exact J _ _ (g2 _ _ ha)
  ·exact h2 i x I
 ·by_cases e:i=id
  ·grind
  ·simp only[PM.upd,ak e];exact PM.n_ h3 g3 (PM.le_refl _) i
 ·show(r.upd id (some o)) id=some o
  simp[PM.upd]
theorem Sat.kH (s:Sat h S)(J:eD k [] h h'): Sat h' S:=by
 obtain⟨m,r,h1,h2,h3,h4⟩:=s.ok
 have I:∀(q:PM),q.le (T.get h.tr)→q.le (T.get h'.tr):=fun q hq i x hx=>by
  rw[J.get i (s.wf _ _ (hq _ _ hx)) ow]
  exact hq _ _ hx
 exact⟨J.wf,m,r,I m h1,I r h2,h3,h4⟩
theorem Sat.Zv {X:List Nat}{m₀:PM}(s:Sat h (A::S))(hk:eD k X h h')(hX:∀m r,PM.le m (T.get h.tr)→PM.le r (T.get h.tr)→A.p m r→∀i∈X,m i≠none)
 (hm:PM.le m₀ (T.get h'.tr))(hB:∀r,B.p m₀ r)(hn:∀i,m₀ i≠none→i∈X∨h.next≤i): Sat h' (B::S):=by
 obtain⟨m,r,h1,h2,h3,a,b,g1,g2,g3,g4,g5⟩:=s.ok
 have hXa:∀i∈X,a i≠none:=hX a r (PM.le_trans g2 h1) h2 g4
 have hXb:∀i∈X,b i=none:=fun i hi=>by
  rcases g1 i with e|e<;>grind
 have hXr:∀i∈X,r i=none:=fun i hi=>by
  cases e:a i with
  |none=>grind
  |some o =>
   rcases h3 i with J|J
   ·rw[g2 _ _ e] at J;cases J
   ·exact J
 have hup:∀(q:PM),q.le (T.get h.tr)→(∀i∈X,q i=none)→q.le (T.get h'.tr):=fun q hq hz i x hx=>by
  rw[hk.get i (s.wf _ _ (hq _ _ hx)) (fun hi=>by grind)]
  exact hq _ _ hx
 have I:∀(q:PM),q.le (T.get h.tr)→(∀i∈X,q i=none)→m₀.dj q:=fun q hq hz i=>by
  cases e:m₀ i with
  |none=>simp
  |some x =>
   right
   rcases hn i (by grind) with hi|hi
   ·grind
   ·cases J:q i with
    |none=>rfl
    |some y=>exact absurd (s.wf _ _ (hq _ _ J)) (Nat.not_lt.2 hi)
 have nU:=hup b (PM.le_trans g3 h1) hXb
 have hd:=I b (PM.le_trans g3 h1) hXb
 exact⟨hk.wf,m₀.un b,r,PM.DB hm nU,hup r h2 hXr,PM.DC (I r h2 hXr) (PM.n_ h3 g3 (PM.le_refl _)),m₀,b,hd,PM.IA _ _,PM.IB hd,hB r,g5⟩
end
theorem bk (v:V)(l:List Nat): cL (aQ v l) (cQ v l):=fun _ _ h=>.inl (tu.view h)
theorem c8 (v:V)(l:List Nat): cL (B4 v l) (cQ v l):=fun _ _ h=>.inr h
theorem aV.bY (v:V)(l:List Nat): aV (.bY v l):=fun _ _ h=>h
section
variable {v:V}
theorem Sat.aD (s:Sat h S)(J:getA S k=some X)(hX:cL X (cQ v l)): View h v l:=by
 obtain⟨m,r,h1,h2,h3⟩:=s.at J
 rcases hX _ _ h3 with I|I
 ·exact ViewM.up I h1
 ·exact ViewM.up I h2
theorem Sat.buf (s:Sat h S)(I:getA S k=some (aQ v l)): jS h v l:=by
 obtain⟨m,r,J,h2,h3⟩:=s.at I
 exact tu.up (l:=l) h3 J
theorem L3 {m:PM}(I:tu m v l): ∀i∈rowIds v,m i≠none:=by
 obtain⟨_,J⟩:=I<;>grind[rowIds]
theorem L4 (I:jS h v l): tu (fun i=>if i∈rowIds v then T.get h.tr i else none) v l:=by
 obtain⟨J,h2⟩:=I
 refine⟨J,?_⟩<;>grind[rowIds]
theorem P8 (L:List Nat): PM.le (fun i=>if i∈L then T.get h.tr i else none) (T.get h.tr):=fun i x I=>by
 grind
theorem Sat.IE (s:Sat h S)(I:eD k [] h h')(J:jS h' v l)(hn:∀i∈rowIds v,h.next≤i): Sat h' (aQ v l::S):=by
 have s':Sat h (pu True::S):=s.gD aa
 refine s'.Zv (B:=aQ v l) (m₀:=fun i=>if i∈rowIds v then T.get h'.tr i else none) I (fun _ _ _ _ _ i hi=>by cases hi) (P8 _) (fun _=>L4 J) (fun i hi=>.inr ?_)<;>grind
theorem Sat.Bv {v':V}{I:List Nat}(s:Sat h (aQ v l::S))(J:eD k (rowIds v) h h')(hb:jS h' v' I)(hn:∀i∈rowIds v',i∈rowIds v∨h.next≤i): Sat h' (aQ v' I::S):=by
 refine s.Zv (B:=aQ v' I) (m₀:=fun i=>if i∈rowIds v' then T.get h'.tr i else none) J (fun _ _ _ _ h=>L3 h) (P8 _) (fun _=>L4 hb) (fun i hi => ?_)<;>grind
theorem Sat.ga (s:Sat h (aQ v l::S)): Sat h (B4 v l::S):=by
 obtain⟨m,r,J,h2,h3,a,b,g1,g2,g3,g4,g5⟩:=s.ok
 have I:r.dj a:=PM.qn (PM.n_ h3 g2 (PM.le_refl _))
 refine⟨s.wf,b,r.un a,PM.le_trans g3 J,PM.DB h2 (PM.le_trans g2 J),PM.qn (PM.DC (PM.qn (PM.n_ h3 g3 (PM.le_refl _))) g1),fun _=>none,b,fun _=>.inl rfl,fun _ _ h=>(by cases h),PM.le_refl _,?_,aL.up g5 (PM.le_refl _) (PM.IA _ _)⟩
 exact(tu.view g4).up (PM.IB I)
end
theorem P9 {a b c d:H}{l:List H}{p:H→Prop}(I:p a)(J:p b)(hc:p c)(hd:p d): ∀x∈((a::b::c::d::l).drop 0).take 4,p x:=by
 grind
section
variable {st:Bool} {v:V}
theorem Sat.ld (s:Sat h S)(I:getA S k=some (pt id (.cells n cs st)))(J:isAggT P t=some false)(hn:nth cs off=some v): loadV P h t (.ptr id off)=some v:=PY J (s.row I) hn
theorem Sat.dn (s:Sat h S)(I:getA S k=some (pt id (.cells n cs st)))(J:isAggT P t=some true)(hs:bN P t=some n): loadV P h t (.ptr id 0)=some (.agg cs):=Am.dn J hs (s.row I)
theorem Sat.eH (s:Sat h S)(J:getA S k=some (pt id (.cells n cs false)))(hs:bN P t=some 1)(hl:cs.length=n)(ho:off<n)(hv:v.cells=[v])(I:storable v=true):
  ∃h₁,gY P h t (.ptr id off) v=some h₁∧Sat h₁ (setA S k (pt id (.cells n (cs.set off v) false))):=by
 refine⟨h.put id (some (.cells n (cs.set off v) false)),?_,s.put J⟩
 simp only[gY,hs,hv,bF,cG,iT,iU,I,Bool.and_true]
 rw[show Nat.beq (0+1) 1=true from rfl,aj]
 simp only[wrN,s.row J,bF,cG]
 rw[bg.2 (show off+(0+1)≤n by omega),aj]
 congr 3
 rw[LG,aP (by omega)]
 cases hc:(Nat.beq off 0&&Nat.beq (0+1) n) with
 |true =>
  simp only[bQ,beq_iff] at hc
  obtain⟨rfl,rfl⟩:=hc
  rw[aj]
  have:cs.drop (0+1)=[]:=lX (by omega)
  simp[this]
 |false=>rw[aY];rfl
theorem Sat.stN {l:List V}(s:Sat h S)(J:getA S k=some (pt id (.cells n cs false)))(hs:bN P t=some l.length)(hl:cs.length=n)(ho:off+l.length≤n)(I:l.all storable=true):
  ∃h₁,gY P h t (.ptr id off) (.agg l)=some h₁∧Sat h₁ (setA S k (pt id (.cells n (cs.take off++(l++cs.drop (off+l.length))) false))):=by
 refine⟨h.put id (some (.cells n (cs.take off++(l++cs.drop (off+l.length))) false)),?_,s.put J⟩
 simp only[gY,hs,V.cells,I,fP,jz,aj,wrN,s.row J]
 grind[bg,beq_iff,List.drop_eq_nil_of_le]
end
section
variable {au:Nat}
theorem ax.cm (s:Sat h S)(I:wantE L E o.guard=some true)(hd:o.dst=some d)(J:Nat.blt d au=true)(ho:opE C.P E h o.op=some (.ptr h.next 0,newRow h cs))
 (hr:∀id h₁,Sat h₁ (pt id (.cells cs.length cs false)::S)→ax C au L rest ((d,.ptr id 0)::E) h₁ R): ax C au L (o::rest) E h R :=
 ax.op I hd J ho (hr _ _ (s.new _))
theorem ax.eA {v:V}(J:wantE L E o.guard=some true)(hd:o.dst=none)(I:o.op=.store t x y)(hx:bA E x=some v)(hy:bA E y=some u)
 (ho:∃h₁,gY C.P h t v u=some h₁∧Sat h₁ S')(hr:∀h₁,Sat h₁ S'→ax C au L rest E h₁ R): ax C au L (o::rest) E h R:=by
 obtain⟨h₁,e1,e2⟩:=ho
 exact ax.Vn J hd (by rw[I];exact wY hx hy e1) (hr h₁ e2)
theorem WP.label {l:Nat}(I:Q .normal E h): WP C au (.label l) E h Q:=fun env J=>⟨1,.normal,env,h,E,rfl,J,I⟩
theorem WP.split {a b:Code}{t:Bool}(I:bA E x=some (.bool t))(J:t=true→WP C au a E h Q)(h2:t=false→WP C au b E h Q): WP C au (.cond x a b) E h Q:=by
 grind[WP.cond]
theorem WP.NJ {a b:Code}{t:Bool}(I:bA E x=some (.bool t))(J:t=true)(h1:WP C au a E h Q): WP C au (.cond x a b) E h Q:=by
 subst J;exact WP.cond I h1
theorem WP.Vv {a b:Code}{t:Bool}(I:bA E x=some (.bool t))(J:t=false)(h1:WP C au b E h Q): WP C au (.cond x a b) E h Q:=by
 subst J;exact WP.cond I h1
end
section
variable {a b:Operand} {v:V}
theorem aa4 {t:Nat}(I:bA E x=some v)(J:sA P t v i=some r): opE P E h (.field t x i)=some (r,h):=by grind[opE,jR,bO]
theorem aa5 : opE P E h (.makeMap t none)=some (.map h.next,h.new (.map [] 0)):=rfl
theorem iL {ok:Bool}(I:bA E x=some v)(J:bA E y=some u)(hf:fR P h t v u ok=some r): opE P E h (.lookup t x y ok)=some (r,h):=by grind[opE,vq,bO]
theorem aa6 {t:Nat}(I:sA P t (.agg cs) i=nth cs off)(J:nth cs off=some r): sA P t (.agg cs) i=some r:=by grind
theorem jE {s d:TypeId}{k k':IntKind}{n:Int}(hs:P.underlying s=some td)(hd:P.underlying d=some (.int k'))(I:k'.wrap n=n): convV P h s d (.int k n)=some (.int k' n,h):=by simp only[convV,hs,hd,I]
theorem DE {o:Nat}{c:Cap}(hu:P.underlying t=some (.slice e)): lenV P h t (.sl i o n c)=some (.int .i64 n):=by simp only[lenV,hu]
theorem L5 (hu:P.underlying t=some (.slice e)): lenV P h t .a_=some (.int .i64 0):=by simp only[lenV,hu]
theorem aW (hu:P.underlying t=some (.slice e))(hv:View h v l): lenV P h t v=some (.int .i64 l.length):=by
 obtain⟨_,hv⟩:=hv
 rcases hv with⟨rfl|⟨I,rfl⟩,rfl⟩|⟨id,off,cap,n,cs,st,rfl,_⟩<;>simp[lenV,hu]
theorem mki_of (hu:P.underlying t=some td)(I:(match td with|.interface _=>false|_=>true)=true): makeIfaceV P t v=some (.iface t v):=by
 grind[makeIfaceV]
end
section
theorem aB {n:Int}(I : -9223372036854775808≤n)(J:n<9223372036854775808): IntKind.wrap .i64 n=n:=by
 grind[IntKind.bits,IntKind.wrap,IntKind.signed]
theorem fZ {n:Int}(I:0≤n)(J:n<18446744073709551616): IntKind.wrap .u64 n=n:=by
 grind[IntKind.wrap,IntKind.bits,IntKind.signed]
theorem W3 {n:Int}(I:0≤n)(J:n<4294967296): IntKind.wrap .u32 n=n:=by
 grind[IntKind.wrap,IntKind.bits,IntKind.signed]
theorem DF {n:Int}(I:0≤n)(J:n<256): IntKind.wrap .u8 n=n:=by
 grind[IntKind.wrap,IntKind.bits,IntKind.signed]
variable {a b:Int}
theorem bC {k:IntKind}(hw:k.wrap (a+b)=a+b): binV P h .add t x y (.int k a) (.int k b)=some (.int k (a+b)):=by
 simp_all[binV,dx,intV]
theorem iM {k:IntKind}(hw:k.wrap (a-b)=a-b): binV P h .sub t x y (.int k a) (.int k b)=some (.int k (a-b)):=by
 simp_all[binV,dx,intV]
theorem kJ {k:IntKind}(hw:k.wrap (a*b)=a*b): binV P h .mul t x y (.int k a) (.int k b)=some (.int k (a*b)):=by
 simp_all[binV,dx,intV]
theorem eu {k:IntKind}: binV P h .eql t x y (.int k a) (.int k b)=some (.bool (decide (a=b))):=by
 simp only[binV,dx,aj,intV]
 cases I:intBeq a b with
 |true=>simp[vp I]
 |false =>
  by_cases he:a=b
  ·grind[lF]
  ·grind
theorem aE {k:IntKind}: binV P h .neq t x y (.int k a) (.int k b)=some (.bool (!decide (a=b))):=by
 simp only[binV,dx,aj,intV]
 cases I:intBeq a b with
 |true=>simp[vp I]
 |false =>
  by_cases he:a=b
  ·grind[lF]
  ·grind
theorem bh {k:IntKind}: binV P h .lss t x y (.int k a) (.int k b)=some (.bool (decide (a<b))):=by simp[binV,dx,intV]
theorem uN {k:IntKind}: binV P h .leq t x y (.int k a) (.int k b)=some (.bool (decide (a≤b))):=by simp[binV,dx,intV]
theorem gA {k:IntKind}: binV P h .gtr t x y (.int k a) (.int k b)=some (.bool (decide (a>b))):=by simp[binV,dx,intV]
theorem oa {k:IntKind}: binV P h .geq t x y (.int k a) (.int k b)=some (.bool (decide (a≥b))):=by simp[binV,dx,intV]
theorem vQ : ∀ {l m:List Nat},natsBeq l m=decide (l=m):=by
 intro l
 induction l with
 |nil=>grind[natsBeq]
 |cons a l I =>
  intro m
  cases m<;>grind[natsBeq,Nat.beq_refl,eo]
theorem NK {m:List Nat}: binV P h .eql t x y (.str l) (.str m)=some (.bool (decide (l=m))):=by simp[binV,strV,vQ]
theorem Vw {m:List Nat}: binV P h .neq t x y (.str l) (.str m)=some (.bool (!decide (l=m))):=by simp[binV,strV,vQ]
end
section
variable {au:Nat} {p:Bool}
theorem ax.tE (I:wantE L E o.guard=some true)(hd:o.dst=some d)(J:Nat.blt d au=true)(ho:opE C.P E h o.op=some (.bool p,h))(hp:p=true)(hw:ax C au L rest ((d,.bool true)::E) h R): ax C au L (o::rest) E h R:=by
 grind[ax.op]
theorem ax.oN (I:wantE L E o.guard=some true)(hd:o.dst=some d)(J:Nat.blt d au=true)(ho:opE C.P E h o.op=some (.bool p,h))(hp:p=false)(hw:ax C au L rest ((d,.bool false)::E) h R): ax C au L (o::rest) E h R:=by
 grind[ax.op]
theorem ax.Zw (I:wantE L E o.guard=some true)(hd:o.dst=some d)(J:Nat.blt d au=true)(ho:opE C.P E h o.op=some (.bool p,h))(ht:p=true→ax C au L rest ((d,.bool true)::E) h R)(hf:p=false→ax C au L rest ((d,.bool false)::E) h R): ax C au L (o::rest) E h R:=by
 cases p<;>grind[ax.op]
theorem ax.Ai (s:Sat h S)(J:wantE L E o.guard=some true)(hd:o.dst=some d)(hn:Nat.blt d au=true)(I:o.op=.makeMap t none)
 (hr:∀id h₁,Sat h₁ (pt id (.map [] 0)::S)→ax C au L rest ((d,.map id)::E) h₁ R): ax C au L (o::rest) E h R :=
 ax.op J hd hn (by rw[I];exact aa5) (hr _ _ (s.new _))
theorem ax.ij (hg:wantE L E o.guard=some true)(hd:o.dst=none)(ho:OpR C E h o z7)
 (hw:∀v h₁,z7 v h₁→ax C au L rest E h₁ R): ax C au L (o::rest) E h R:=by
 intro env J
 obtain⟨v,h₁,hr,nK⟩:=ho
 obtain⟨N,hN⟩:=nK env J
 obtain⟨M,I,h',E',h1,h2,h3⟩:=hw v h₁ hr env J
 refine⟨Nat.max N M,I,h',E',?_,h2,h3⟩
 simp only[evOps,kA J hg,aj,mI (dA (nr N M)) hN,St.put,hd]
 exact qQ (dA (nk N M)) _ _ _ h1
variable {Q:List (Nat×V)→H→List (List (Nat×V)×V)→List H→Prop}
theorem ay.tE (J:wantE L E o.guard=some true)(hd:o.dst=some d)(hn:Nat.blt d au=true)(he:isEff C o.op=false)(ho:opE C.P E h o.op=some (.bool p,h))(hp:p=true)
 (hw:ay C au L rest ((d,.bool true)::E) h hs fun E' h' ts I=>Q E' h' ((E,.bool true)::ts) I): ay C au L (o::rest) E h hs Q:=by
 grind[ay.op]
theorem ay.oN (J:wantE L E o.guard=some true)(hd:o.dst=some d)(hn:Nat.blt d au=true)(he:isEff C o.op=false)(ho:opE C.P E h o.op=some (.bool p,h))(hp:p=false)
 (hw:ay C au L rest ((d,.bool false)::E) h hs fun E' h' ts I=>Q E' h' ((E,.bool false)::ts) I): ay C au L (o::rest) E h hs Q:=by
 grind[ay.op]
theorem ay.Zw (J:wantE L E o.guard=some true)(hd:o.dst=some d)(hn:Nat.blt d au=true)(he:isEff C o.op=false)(ho:opE C.P E h o.op=some (.bool p,h))
 (ht:p=true→ay C au L rest ((d,.bool true)::E) h hs fun E' h' ts I=>Q E' h' ((E,.bool true)::ts) I)
 (hf:p=false→ay C au L rest ((d,.bool false)::E) h hs fun E' h' ts I=>Q E' h' ((E,.bool false)::ts) I): ay C au L (o::rest) E h hs Q:=by
 cases p<;>grind[ay.op]
theorem OpR.eA {v:V}(I:o.op=.store t x y)(hx:bA E x=some v)(hy:bA E y=some u)
 (ho:∃h₁,gY C.P h t v u=some h₁∧Sat h₁ S'): OpR C E h o fun w h₁=>w=ct∧Sat h₁ S':=by
 obtain⟨h₁,e1,J⟩:=ho
 exact OpR.of (by grind[wY]) ⟨rfl,J⟩
theorem OpR.cm (s:Sat h S)(ho:opE C.P E h o.op=some (.ptr h.next 0,newRow h cs)):
  OpR C E h o fun v h₁=>∃id,v=.ptr id 0∧Sat h₁ (pt id (.cells cs.length cs false)::S) :=
 OpR.of ho ⟨_,rfl,s.new _⟩
end
theorem HL {t:Nat}{p v w:V}(I:look E a=some p)(hd:loadV P h t p=some v)(J:look E b=some w): resLE P E h [.cell a t,.tmp b]=some (.bf [v,w]):=by grind[resLE,mapO,resE]
theorem pO {t:Nat}{v:V}(I:look E t=some v): resLE P E h [.tmp t]=some v:=by grind[resLE,mapO,resE]
def aco : Code→Nat→Code
 |.seq a _,0=>a
 |.seq _ b,_=>b
 |.cond _ a _,0=>a
 |.cond _ _ b,_=>b
 |.block _ a,_=>a
 |.loop a,_=>a
 |.scope a,_=>a
 |c,_=>c
def cN : List Nat→Code→Code
 |[],c=>c
 |k::ks,c=>cN ks (aco c k)
section
variable {au:Nat} {v:V} {p:Bool}
theorem zc {k:FuncId}(e:(wantE L E o.guard,o.dst,Nat.blt d au,o.op,cl.callee,bA E x,lookArgs E cl.args.toList)=(some true,some d,true,Op.call cl,Callee.value x,some (.fn (.func k) first cap),some args))
 (I:Call C k (first++(args++cap)) h z7)(hw:∀v h₁,z7 v h₁→ax C au L rest ((d,v)::E) h₁ R): ax C au L (o::rest) E h R:=by
  simp only[bJ] at e;exact ax.call e.1 e.2.1 e.2.2.1 e.2.2.2.1 e.2.2.2.2.1 e.2.2.2.2.2.1 e.2.2.2.2.2.2 I hw
theorem zt (e:(wantE L E o.guard,o.dst,Nat.blt d au)=(some true,some d,true))(ho:opE C.P E h o.op=some (.bool p,h))(I:p=true)(hw:ax C au L rest ((d,.bool true)::E) h R): ax C au L (o::rest) E h R:=by
  simp only[bJ] at e;exact ax.tE e.1 e.2.1 e.2.2 ho I hw
theorem zh (e:(wantE L E o.guard,o.dst,Nat.blt d au)=(some true,some d,true))(ho:opE C.P E h o.op=some (.bool p,h))(I:p=false)(hw:ax C au L rest ((d,.bool false)::E) h R): ax C au L (o::rest) E h R:=by
  simp only[bJ] at e;exact ax.oN e.1 e.2.1 e.2.2 ho I hw
theorem zd (e:(wantE L E o.guard,o.dst,Nat.blt d au)=(some true,some d,true))(ho:opE C.P E h o.op=some (.bool p,h))(I:p=true→ax C au L rest ((d,.bool true)::E) h R)(J:p=false→ax C au L rest ((d,.bool false)::E) h R): ax C au L (o::rest) E h R:=by
  simp only[bJ] at e;exact ax.Zw e.1 e.2.1 e.2.2 ho I J
theorem zB {op:BinOp}(e:(o.op,wantE L E o.guard,o.dst,Nat.blt d au,bA E x,bA E y)=(Op.binOp op t x y t',some true,some d,true,some v,some u))(I:binV C.P h op t x y v u=some (.bool p))(J:p=true)(hw:ax C au L rest ((d,.bool true)::E) h R): ax C au L (o::rest) E h R:=by
  simp only[bJ] at e;exact ax.tE e.2.1 e.2.2.1 e.2.2.2.1 (by rw[e.1];exact aA e.2.2.2.2.1 e.2.2.2.2.2 I) J hw
theorem zC {op:BinOp}(e:(o.op,wantE L E o.guard,o.dst,Nat.blt d au,bA E x,bA E y)=(Op.binOp op t x y t',some true,some d,true,some v,some u))(I:binV C.P h op t x y v u=some (.bool p))(J:p=false)(hw:ax C au L rest ((d,.bool false)::E) h R): ax C au L (o::rest) E h R:=by
  simp only[bJ] at e;exact ax.oN e.2.1 e.2.2.1 e.2.2.2.1 (by rw[e.1];exact aA e.2.2.2.2.1 e.2.2.2.2.2 I) J hw
theorem zy {st:Bool}(s:Sat h S)(k:Nat)(I:isAggT C.P t=some false)(e:(o.op,wantE L E o.guard,o.dst,Nat.blt d au,bA E x,getA S k,nth cs off)=(Op.load t x,some true,some d,true,some (V.ptr id off),some (pt id (.cells n cs st)),some v))(hw:ax C au L rest ((d,v)::E) h R): ax C au L (o::rest) E h R:=by
  simp only[bJ] at e;exact ax.op e.2.1 e.2.2.1 e.2.2.2.1 (by rw[e.1];exact aZ e.2.2.2.2.1 (s.ld e.2.2.2.2.2.1 I e.2.2.2.2.2.2)) hw
theorem zY {I:Oper}{J:Operand}{adL:TypeId}{st:Bool}(s:Sat h S)(k:Nat)(hf:∀a b:Nat,fieldAddrV C.P adL (.ptr a b) i=some (.ptr a (b+j)))(ha:isAggT C.P t=some false)
 (e:(I.op,wantE L E I.guard,I.dst,Nat.blt nZ au,bA E J,o.op,wantE L ((nZ,.ptr a (b+j))::E) o.guard,o.dst,Nat.blt d au,bA ((nZ,.ptr a (b+j))::E) x,getA S k,nth cs (b+j))=(Op.fieldAddr adL J i,some true,some nZ,true,some (V.ptr a b),Op.load t x,some true,some d,true,some (V.ptr a (b+j)),some (pt a (.cells n cs st)),some v))
 (hw:ax C au L rest ((d,v)::(nZ,.ptr a (b+j))::E) h R): ax C au L (I::o::rest) E h R:=by
  simp only[bJ] at e
  obtain⟨e1,e2,e3,e4,e5,e6,e7,e8,e9,Zx,Y_,e12⟩:=e
  exact ax.op e2 e3 e4 (by rw[e1];exact lE e5 (hf a b)) (ax.op e7 e8 e9 (by rw[e6];exact aZ Zx (s.ld Y_ ha e12)) hw)
theorem zS (e:(wantE L E o.guard,o.dst,o.op,bA E x,bA E y)=(some true,none,Op.store t x y,some v,some u))(ho:∃h₁,gY C.P h t v u=some h₁∧Sat h₁ S')(I:∀h₁,Sat h₁ S'→ax C au L rest E h₁ R): ax C au L (o::rest) E h R:=by
  simp only[bJ] at e;exact ax.eA e.1 e.2.1 e.2.2.1 e.2.2.2.1 e.2.2.2.2 ho I
end
theorem jF : bN Tryz.prog 3=some 1:=by kernel_rfl
theorem dN : isAggT Tryz.prog 3=some false:=by kernel_rfl
theorem uO : zeroT Tryz.prog 3=some (.int .i64 0):=by kernel_rfl
theorem yX : bN Tryz.prog 4=some 1:=by kernel_rfl
theorem kZ : isAggT Tryz.prog 4=some false:=by kernel_rfl
theorem zt4 : zeroT Tryz.prog 4=some (.bool false):=by kernel_rfl
theorem sz5 : bN Tryz.prog 5=some 1:=by kernel_rfl
theorem ag5 : isAggT Tryz.prog 5=some false:=by kernel_rfl
theorem Aj : isAggT Tryz.prog 24=some false:=by kernel_rfl
theorem Zy : bN Tryz.prog 26=some 1:=by kernel_rfl
theorem IF : isAggT Tryz.prog 26=some false:=by kernel_rfl
theorem gU : bN Tryz.prog 28=some 1:=by kernel_rfl
theorem bE : isAggT Tryz.prog 28=some false:=by kernel_rfl
theorem oT : zeroT Tryz.prog 28=some .a_:=by kernel_rfl
theorem Zz : bN Tryz.prog 30=some 1:=by kernel_rfl
theorem ZA : isAggT Tryz.prog 30=some false:=by kernel_rfl
theorem ZB : zeroT Tryz.prog 30=some (.int .i64 0):=by kernel_rfl
theorem IG : bN Tryz.prog 33=some 1:=by kernel_rfl
theorem ob : isAggT Tryz.prog 33=some false:=by kernel_rfl
theorem acp : zeroT Tryz.prog 33=some .a_:=by kernel_rfl
theorem vR : bN Tryz.prog 43=some 1:=by kernel_rfl
theorem mh : isAggT Tryz.prog 43=some false:=by kernel_rfl
theorem ZC : zeroT Tryz.prog 43=some (.int .u64 0):=by kernel_rfl
theorem NL : bN Tryz.prog 46=some 1:=by kernel_rfl
theorem uP : isAggT Tryz.prog 46=some false:=by kernel_rfl
theorem ik : bN Tryz.prog 48=some 6:=by kernel_rfl
theorem oc : isAggT Tryz.prog 48=some true:=by kernel_rfl
theorem rO : zeroT Tryz.prog 48=some (.agg [(.int .i64 0),(.int .u64 0),(.int .u64 0),(.int .u64 0),.a_,.a_]):=by kernel_rfl
theorem uQ (a b:Nat): fieldAddrV Tryz.prog 48 (.ptr a b) 0=some (.ptr a (b+0)):=by kernel_rfl
theorem P_ (a b:Nat): fieldAddrV Tryz.prog 48 (.ptr a b) 1=some (.ptr a (b+1)):=by kernel_rfl
theorem Qa (a b:Nat): fieldAddrV Tryz.prog 48 (.ptr a b) 2=some (.ptr a (b+2)):=by kernel_rfl
theorem Qb (a b:Nat): fieldAddrV Tryz.prog 48 (.ptr a b) 3=some (.ptr a (b+3)):=by kernel_rfl
theorem Ak (a b:Nat): fieldAddrV Tryz.prog 48 (.ptr a b) 4=some (.ptr a (b+4)):=by kernel_rfl
theorem m5 (a b:Nat): fieldAddrV Tryz.prog 48 (.ptr a b) 5=some (.ptr a (b+5)):=by kernel_rfl
theorem Fk (ps:List (Nat×V)): buildV Tryz.prog 48 ps=(fillV (nth [(0,1),(1,1),(2,1),(3,1),(4,1),(5,1)]) ((.agg [(.int .i64 0),(.int .u64 0),(.int .u64 0),(.int .u64 0),.a_,.a_]):V).cells ps).map .agg:=by kernel_rfl
theorem II : bN Tryz.prog 56=some 1:=by kernel_rfl
theorem Th : isAggT Tryz.prog 56=some false:=by kernel_rfl
theorem Ti : zeroT Tryz.prog 56=some .a_:=by kernel_rfl
theorem Al : bN Tryz.prog 58=some 2:=by kernel_rfl
theorem IJ : zeroT Tryz.prog 58=some (.agg [(.int .i64 0),.a_]):=by kernel_rfl
theorem DG (a b:Nat): fieldAddrV Tryz.prog 58 (.ptr a b) 0=some (.ptr a (b+0)):=by kernel_rfl
theorem Qc (a b:Nat): fieldAddrV Tryz.prog 58 (.ptr a b) 1=some (.ptr a (b+1)):=by kernel_rfl
theorem acq (ps:List (Nat×V)): buildV Tryz.prog 58 ps=(fillV (nth [(0,1),(1,1)]) ((.agg [(.int .i64 0),.a_]):V).cells ps).map .agg:=by kernel_rfl
theorem pP : isAggT Tryz.prog 62=some false:=by kernel_rfl
theorem ZD : bN Tryz.prog 85=some 3:=by kernel_rfl
theorem acr : isAggT Tryz.prog 85=some true:=by kernel_rfl
theorem acs : zeroT Tryz.prog 85=some (.agg [(.int .i64 0),(.int .i64 0),(.int .u8 0)]):=by kernel_rfl
theorem Qd (a b:Nat): fieldAddrV Tryz.prog 85 (.ptr a b) 0=some (.ptr a (b+0)):=by kernel_rfl
theorem ZE (a b:Nat): fieldAddrV Tryz.prog 85 (.ptr a b) 1=some (.ptr a (b+1)):=by kernel_rfl
theorem ZF (a b:Nat): fieldAddrV Tryz.prog 85 (.ptr a b) 2=some (.ptr a (b+2)):=by kernel_rfl
theorem Cy : isAggT Tryz.prog 86=some false:=by kernel_rfl
theorem acu : isAggT Tryz.prog 99=some false:=by kernel_rfl
theorem jT : isAggT Tryz.prog 109=some false:=by kernel_rfl
theorem aa7 : bN Tryz.prog 111=some 3:=by kernel_rfl
theorem qo (a b:Nat): fieldAddrV Tryz.prog 111 (.ptr a b) 0=some (.ptr a (b+0)):=by kernel_rfl
theorem rP (a b:Nat): fieldAddrV Tryz.prog 111 (.ptr a b) 1=some (.ptr a (b+1)):=by kernel_rfl
theorem Bw (a b:Nat): fieldAddrV Tryz.prog 111 (.ptr a b) 2=some (.ptr a (b+2)):=by kernel_rfl
theorem aa8 (ps:List (Nat×V)): buildV Tryz.prog 111 ps=(fillV (nth [(0,1),(1,1),(2,1)]) ((.agg [.b_,.lC,(.bool false)]):V).cells ps).map .agg:=by kernel_rfl
theorem vt : isAggT Tryz.prog 112=some false:=by kernel_rfl
theorem qp (a b:Nat): fieldAddrV Tryz.prog 114 (.ptr a b) 0=some (.ptr a (b+0)):=by kernel_rfl
theorem uu (a b:Nat): fieldAddrV Tryz.prog 114 (.ptr a b) 1=some (.ptr a (b+1)):=by kernel_rfl
theorem qq (a b:Nat): fieldAddrV Tryz.prog 114 (.ptr a b) 2=some (.ptr a (b+2)):=by kernel_rfl
theorem rQ (a b:Nat): fieldAddrV Tryz.prog 114 (.ptr a b) 3=some (.ptr a (b+3)):=by kernel_rfl
theorem W4 (a b:Nat): fieldAddrV Tryz.prog 114 (.ptr a b) 4=some (.ptr a (b+4)):=by kernel_rfl
theorem W8 (a b:Nat): fieldAddrV Tryz.prog 114 (.ptr a b) 5=some (.ptr a (b+5)):=by kernel_rfl
theorem Vx (ps:List (Nat×V)): buildV Tryz.prog 114 ps=(fillV (nth [(0,1),(1,1),(2,1),(3,1),(4,1),(5,1)]) ((.agg [.b_,.b_,.b_,.b_,.a_,(.int .u64 0)]):V).cells ps).map .agg:=by kernel_rfl
theorem sx : isAggT Tryz.prog 145=some false:=by kernel_rfl
theorem Vy (a b l:Nat)(c:Cap)(k:IntKind)(n:Int): indexAddrV Tryz.prog 145 (.sl a b l c) (.int k n)=cond (decide (0≤n)&&decide (n<(l:Int))) (some (.ptr a (b+n.toNat*1))) none:=by kernel_rfl
theorem Vz : bN Tryz.prog 146=some 1:=by kernel_rfl
theorem DH : isAggT Tryz.prog 146=some false:=by kernel_rfl
theorem aa9 : bN Tryz.prog 147=some 1:=by kernel_rfl
theorem HM : isAggT Tryz.prog 147=some false:=by kernel_rfl
theorem L6 (a b:Nat): fieldAddrV Tryz.prog 149 (.ptr a b) 0=some (.ptr a (b+0)):=by kernel_rfl
theorem nC (a b:Nat): fieldAddrV Tryz.prog 149 (.ptr a b) 1=some (.ptr a (b+1)):=by kernel_rfl
theorem uw (a b:Nat): fieldAddrV Tryz.prog 149 (.ptr a b) 2=some (.ptr a (b+2)):=by kernel_rfl
theorem Bx (a b:Nat): fieldAddrV Tryz.prog 149 (.ptr a b) 3=some (.ptr a (b+3)):=by kernel_rfl
theorem ku (a b:Nat): fieldAddrV Tryz.prog 149 (.ptr a b) 4=some (.ptr a (b+4)):=by kernel_rfl
theorem ux (a b:Nat): fieldAddrV Tryz.prog 149 (.ptr a b) 5=some (.ptr a (b+5)):=by kernel_rfl
theorem Fo (a b:Nat): fieldAddrV Tryz.prog 149 (.ptr a b) 6=some (.ptr a (b+6)):=by kernel_rfl
theorem wZ (a b:Nat): fieldAddrV Tryz.prog 149 (.ptr a b) 7=some (.ptr a (b+7)):=by kernel_rfl
theorem By (a b:Nat): fieldAddrV Tryz.prog 149 (.ptr a b) 8=some (.ptr a (b+8)):=by kernel_rfl
theorem kx (a b:Nat): fieldAddrV Tryz.prog 149 (.ptr a b) 9=some (.ptr a (b+9)):=by kernel_rfl
theorem uR (a b:Nat): fieldAddrV Tryz.prog 149 (.ptr a b) 10=some (.ptr a (b+10)):=by kernel_rfl
theorem Cz (a b:Nat): fieldAddrV Tryz.prog 149 (.ptr a b) 11=some (.ptr a (b+11)):=by kernel_rfl
theorem aa_ (ps:List (Nat×V)): buildV Tryz.prog 149 ps=(fillV (nth [(0,1),(1,1),(2,1),(3,1),(4,1),(5,1),(6,1),(7,1),(8,1),(9,1),(10,1),(11,1)]) ((.agg [(.int .i64 0),.a_,.a_,.lC,.a_,(.int .i64 0),.a_,(.int .i64 0),(.int .i64 0),(.bool false),.b_,.a_]):V).cells ps).map .agg:=by kernel_rfl
theorem DI : bN Tryz.prog 151=some 2:=by kernel_rfl
theorem VA : isAggT Tryz.prog 151=some true:=by kernel_rfl
theorem HN : zeroT Tryz.prog 151=some (.agg [(.int .i64 0),.a_]):=by kernel_rfl
theorem Fp (a b:Nat): fieldAddrV Tryz.prog 151 (.ptr a b) 0=some (.ptr a (b+0)):=by kernel_rfl
theorem Fq (a b:Nat): fieldAddrV Tryz.prog 151 (.ptr a b) 1=some (.ptr a (b+1)):=by kernel_rfl
theorem aba (ps:List (Nat×V)): buildV Tryz.prog 151 ps=(fillV (nth [(0,1),(1,1)]) ((.agg [(.int .i64 0),.a_]):V).cells ps).map .agg:=by kernel_rfl
theorem L7 (a b:Nat): fieldAddrV Tryz.prog 155 (.ptr a b) 0=some (.ptr a (b+0)):=by kernel_rfl
theorem mj (a b:Nat): fieldAddrV Tryz.prog 155 (.ptr a b) 1=some (.ptr a (b+1)):=by kernel_rfl
theorem ff (a b:Nat): fieldAddrV Tryz.prog 155 (.ptr a b) 2=some (.ptr a (b+2)):=by kernel_rfl
theorem oD (a b:Nat): fieldAddrV Tryz.prog 155 (.ptr a b) 3=some (.ptr a (b+3)):=by kernel_rfl
theorem w8 (a b:Nat): fieldAddrV Tryz.prog 155 (.ptr a b) 4=some (.ptr a (b+4)):=by kernel_rfl
theorem L8 (a b:Nat): fieldAddrV Tryz.prog 155 (.ptr a b) 5=some (.ptr a (b+5)):=by kernel_rfl
theorem VB (ps:List (Nat×V)): buildV Tryz.prog 155 ps=(fillV (nth [(0,1),(1,1),(2,1),(3,1),(4,1),(5,1)]) ((.agg [.b_,(.int .u64 0),.a_,.a_,(.int .i64 0),(.int .u64 0)]):V).cells ps).map .agg:=by kernel_rfl
theorem bS : bN Tryz.prog 163=some 1:=by kernel_rfl
theorem cO : isAggT Tryz.prog 163=some true:=by kernel_rfl
theorem jU : zeroT Tryz.prog 163=some (.agg [.a_]):=by kernel_rfl
theorem iI (a b:Nat): fieldAddrV Tryz.prog 163 (.ptr a b) 0=some (.ptr a (b+0)):=by kernel_rfl
theorem Bz (ps:List (Nat×V)): buildV Tryz.prog 163 ps=(fillV (nth [(0,1)]) ((.agg [.a_]):V).cells ps).map .agg:=by kernel_rfl
theorem VC : bN Tryz.prog 173=some 2:=by kernel_rfl
theorem VD : zeroT Tryz.prog 173=some (.agg [(.int .i64 0),.a_]):=by kernel_rfl
theorem W9 (a b:Nat): fieldAddrV Tryz.prog 173 (.ptr a b) 0=some (.ptr a (b+0)):=by kernel_rfl
theorem L9 (a b:Nat): fieldAddrV Tryz.prog 173 (.ptr a b) 1=some (.ptr a (b+1)):=by kernel_rfl
theorem HO (ps:List (Nat×V)): buildV Tryz.prog 173 ps=(fillV (nth [(0,1),(1,1)]) ((.agg [(.int .i64 0),.a_]):V).cells ps).map .agg:=by kernel_rfl
theorem pK : bN Tryz.prog 180=some 4:=by kernel_rfl
theorem HP : isAggT Tryz.prog 180=some true:=by kernel_rfl
theorem oE : zeroT Tryz.prog 180=some (.agg [(.int .i64 0),(.int .i64 0),(.bool false),.a_]):=by kernel_rfl
theorem oF (a b:Nat): fieldAddrV Tryz.prog 180 (.ptr a b) 0=some (.ptr a (b+0)):=by kernel_rfl
theorem qt (a b:Nat): fieldAddrV Tryz.prog 180 (.ptr a b) 1=some (.ptr a (b+1)):=by kernel_rfl
theorem w9 (a b:Nat): fieldAddrV Tryz.prog 180 (.ptr a b) 2=some (.ptr a (b+2)):=by kernel_rfl
theorem nD (a b:Nat): fieldAddrV Tryz.prog 180 (.ptr a b) 3=some (.ptr a (b+3)):=by kernel_rfl
theorem NM (ps:List (Nat×V)): buildV Tryz.prog 180 ps=(fillV (nth [(0,1),(1,1),(2,1),(3,1)]) ((.agg [(.int .i64 0),(.int .i64 0),(.bool false),.a_]):V).cells ps).map .agg:=by kernel_rfl
theorem pL : isAggT Tryz.prog 185=some false:=by kernel_rfl
theorem abb (a b l:Nat)(c:Cap)(k:IntKind)(n:Int): indexAddrV Tryz.prog 185 (.sl a b l c) (.int k n)=cond (decide (0≤n)&&decide (n<(l:Int))) (some (.ptr a (b+n.toNat*5))) none:=by kernel_rfl
theorem xZ : isAggT Tryz.prog 186=some false:=by kernel_rfl
theorem x_ : isAggT Tryz.prog 187=some false:=by kernel_rfl
theorem w_ (a b:Nat): fieldAddrV Tryz.prog 189 (.ptr a b) 0=some (.ptr a (b+0)):=by kernel_rfl
theorem W_ (a b:Nat): fieldAddrV Tryz.prog 189 (.ptr a b) 1=some (.ptr a (b+1)):=by kernel_rfl
theorem kR (a b:Nat): fieldAddrV Tryz.prog 189 (.ptr a b) 2=some (.ptr a (b+2)):=by kernel_rfl
theorem rR (a b:Nat): fieldAddrV Tryz.prog 189 (.ptr a b) 3=some (.ptr a (b+3)):=by kernel_rfl
theorem rS (a b:Nat): fieldAddrV Tryz.prog 189 (.ptr a b) 4=some (.ptr a (b+4)):=by kernel_rfl
theorem Fs (a b:Nat): fieldAddrV Tryz.prog 189 (.ptr a b) 5=some (.ptr a (b+5)):=by kernel_rfl
theorem abc (ps:List (Nat×V)): buildV Tryz.prog 189 ps=(fillV (nth [(0,1),(1,1),(2,1),(3,1),(4,1),(5,1)]) ((.agg [.b_,.b_,.a_,.lC,.lC,(.int .i64 0)]):V).cells ps).map .agg:=by kernel_rfl
theorem DJ : bN Tryz.prog 193=some 5:=by kernel_rfl
theorem abd : isAggT Tryz.prog 193=some true:=by kernel_rfl
theorem abe : zeroT Tryz.prog 193=some (.agg [(.int .i64 0),.a_,(.int .i64 0),(.bool false),(.bool false)]):=by kernel_rfl
theorem qu (a b:Nat): fieldAddrV Tryz.prog 193 (.ptr a b) 0=some (.ptr a (b+0)):=by kernel_rfl
theorem BA (a b:Nat): fieldAddrV Tryz.prog 193 (.ptr a b) 1=some (.ptr a (b+1)):=by kernel_rfl
theorem rT (a b:Nat): fieldAddrV Tryz.prog 193 (.ptr a b) 2=some (.ptr a (b+2)):=by kernel_rfl
theorem Ft (a b:Nat): fieldAddrV Tryz.prog 193 (.ptr a b) 3=some (.ptr a (b+3)):=by kernel_rfl
theorem Fu (a b:Nat): fieldAddrV Tryz.prog 193 (.ptr a b) 4=some (.ptr a (b+4)):=by kernel_rfl
theorem HQ (ps:List (Nat×V)): buildV Tryz.prog 193 ps=(fillV (nth [(0,1),(1,1),(2,1),(3,1),(4,1)]) ((.agg [(.int .i64 0),.a_,(.int .i64 0),(.bool false),(.bool false)]):V).cells ps).map .agg:=by kernel_rfl
theorem vu : bN Tryz.prog 199=some 2:=by kernel_rfl
theorem NN : isAggT Tryz.prog 199=some true:=by kernel_rfl
theorem ya : zeroT Tryz.prog 199=some (.agg [(.int .u64 0),(.bool false)]):=by kernel_rfl
theorem Fv (a b:Nat): fieldAddrV Tryz.prog 199 (.ptr a b) 0=some (.ptr a (b+0)):=by kernel_rfl
theorem Xa (cs:List V): sA Tryz.prog 199 (.agg cs) 0=nth cs 0:=by kernel_rfl
theorem Fw (a b:Nat): fieldAddrV Tryz.prog 199 (.ptr a b) 1=some (.ptr a (b+1)):=by kernel_rfl
theorem abf (ps:List (Nat×V)): buildV Tryz.prog 199 ps=(fillV (nth [(0,1),(1,1)]) ((.agg [(.int .u64 0),(.bool false)]):V).cells ps).map .agg:=by kernel_rfl
theorem VE : isAggT Tryz.prog 208=some false:=by kernel_rfl
theorem qv (a b:Nat): fieldAddrV Tryz.prog 210 (.ptr a b) 0=some (.ptr a (b+0)):=by kernel_rfl
theorem L_ (a b:Nat): fieldAddrV Tryz.prog 210 (.ptr a b) 1=some (.ptr a (b+1)):=by kernel_rfl
theorem VF (ps:List (Nat×V)): buildV Tryz.prog 210 ps=(fillV (nth [(0,1),(1,1)]) ((.agg [.lC,.lC]):V).cells ps).map .agg:=by kernel_rfl
theorem VG (a b:Nat)(k:IntKind)(n:Int): indexAddrV Tryz.prog 227 (.ptr a b) (.int k n)=cond (decide (0≤n)&&decide (n<(512:Nat))) (some (.ptr a (b+n.toNat*1))) none:=by kernel_rfl
theorem abg : bN Tryz.prog 239=some 512:=by kernel_rfl
theorem abh : isAggT Tryz.prog 239=some true:=by kernel_rfl
theorem abi (ps:List (Nat×V)): buildV Tryz.prog 244 ps=(fillV (fun i=>some (i*1,1)) ((.agg [(.int .u64 0),(.int .u64 0),(.int .u64 0)]):V).cells ps).map .agg:=by kernel_rfl
theorem mo (a b:Nat): fieldAddrV Tryz.prog 261 (.ptr a b) 0=some (.ptr a (b+0)):=by kernel_rfl
theorem abj (ps:List (Nat×V)): buildV Tryz.prog 261 ps=(fillV (nth [(0,1)]) ((.agg [.a_]):V).cells ps).map .agg:=by kernel_rfl
theorem NO : bN Tryz.prog 269=some 1:=by kernel_rfl
theorem NP : isAggT Tryz.prog 269=some false:=by kernel_rfl
theorem abk (ps:List (Nat×V)): buildV Tryz.prog 270 ps=(fillV (fun i=>some (i*1,1)) ((.agg [.b_,.b_,.b_]):V).cells ps).map .agg:=by kernel_rfl
def slR (v:V)(a b:Nat): V:=match v with
 |.sl id off _ (.exact c)=>.sl id (cond (Nat.beq c a) off (off+a*1)) (b-a) (.exact (c-a))
 |.sl id off _ (.rest _ alt)=>.sl id (off+a*1) (b-a) (.rest 1 (cond (Nat.beq a 0) alt (cond (Nat.blt a b) (off+a*1) off)))
 |v=>v
theorem gP {v:V}(hv:View h v l)(oY:a≤b)(hb:b≤l.length):
  sliceV Tryz.prog h 28 v (some a) (some b) none=some (slR v a b)∧View h (slR v a b) ((l.take b).drop a)∧∀i∈rowIds (slR v a b),i∈rowIds v:=by
 have I:∀x∈(l.take b).drop a,x<256:=fun x hx=>hv.1 x (ko (qd hx))
 have hlen:((l.take b).drop a).length=b-a:=by grind
 obtain⟨hl,J⟩:=hv
 rcases J with⟨rfl|⟨ea,rfl⟩,rfl⟩|⟨id,off,cap,n,cs,st,rfl,hg,h1,h2,h3,h4⟩
 ·simp only[cG] at hb
  have:b=0:=by omega
  have:a=0:=by omega
  subst_vars
  refine⟨?_,⟨by simp,.inl ⟨.inl rfl,by simp⟩⟩,fun i hi=>hi⟩
  simp only[sliceV,aK,eC]
  rfl
 ·simp only[cG] at hb
  have:b=0:=by omega
  have:a=0:=by omega
  subst_vars
  refine⟨?_,⟨by simp,.inl ⟨.inr ⟨ea,rfl⟩,by simp⟩⟩,fun i hi=>hi⟩
  simp only[sliceV,aK,eC]
  rfl
 ·have HI:∀o,o=off+a∨b-a=0→(cs.drop o).take (b-a)=ofBytes ((l.take b).drop a):=by
   grind[ofBytes,List.map_drop,List.map_take,List.drop_take,List.drop_drop]
  cases cap with
  |exact c =>
   refine⟨?_,⟨I,.inr ⟨id,_,_,n,cs,st,by rw[hlen];rfl,hg,h1,?_,?_,?_⟩⟩,fun i hi=>by simpa[rowIds,slR] using hi⟩
   ·simp only[sliceV,slR,aK,eC,iD]
    grind[bg]
   ·grind
   ·grind[eo]
   ·omega
  |rest e alt =>
   have he:e=1:=h4
   subst he
   refine⟨?_,⟨I,.inr ⟨id,_,_,n,cs,st,by rw[hlen];rfl,hg,h1,by omega,by grind,rfl⟩⟩,fun i hi=>by simpa[rowIds,slR] using hi⟩
   simp only[sliceV,slR,aK,eC,iD,fP]
   grind[bg]
theorem fu {v:V}(hv:View h v l)(ha:a≤l.length):
  sliceV Tryz.prog h 28 v (some a) none none=some (slR v a l.length)∧View h (slR v a l.length) (l.drop a)∧∀i∈rowIds (slR v a l.length),i∈rowIds v:=by
 obtain⟨J,h2,h3⟩:=gP hv ha (aU _)
 refine⟨?_,by grind,h3⟩
 obtain⟨_,I⟩:=hv
 rcases I with⟨rfl|⟨ea,rfl⟩,rfl⟩|⟨id,off,cap,n,cs,st,rfl,hg,g1,g2,g3,g4⟩
 ·simpa[sliceV,aK,eC] using J
 ·simpa[sliceV,aK,eC] using J
 ·simp_all[sliceV]
theorem iQ {v:V}(hv:View h v l)(hb:b≤l.length):
  sliceV Tryz.prog h 28 v none (some b) none=some (slR v 0 b)∧View h (slR v 0 b) (l.take b)∧∀i∈rowIds (slR v 0 b),i∈rowIds v:=by
 obtain⟨J,h2,h3⟩:=gP hv (fe b) hb
 refine⟨?_,by grind,h3⟩
 obtain⟨_,I⟩:=hv
 rcases I with⟨rfl|⟨ea,rfl⟩,rfl⟩|⟨id,off,cap,n,cs,st,rfl,hg,g1,g2,g3,g4⟩
 ·simpa[sliceV,aK,eC] using J
 ·simpa[sliceV,aK,eC] using J
 ·simp_all[sliceV]
theorem eU {v:V}(hv:View h v l)(hi:l[i]?=some b):
  ∃id off,indexAddrV Tryz.prog 28 v (.int .i64 (i:Int))=some (.ptr id off)∧loadV Tryz.prog h 5 (.ptr id off)=some (.int .u8 (b:Int)):=by
 obtain⟨hl,I⟩:=hv
 rcases I with⟨_,rfl⟩|⟨id,off,cap,n,cs,st,rfl,J,h1,h2,h3,h4⟩
 ·grind
 ·refine⟨id,off+i*1,?_,?_⟩
  ·simp only[indexAddrV,aK,eC,dY]
   grind
  ·simp only[loadV,LY,zG,J,ir,eF]
   have e:=jm (fun q=>q[i]?) h3
   grind[ofBytes]
theorem View.cells {v:V}(hv:View h v l): v.cells=[v]∧Am.storable v=true:=by
 obtain⟨_,hv⟩:=hv
 rcases hv with⟨rfl|⟨I,rfl⟩,_⟩|⟨id,off,cap,n,cs,st,rfl,_⟩<;>exact⟨rfl,rfl⟩
def plain1 : V→Bool
 |.bool _|.int _ _|.str _|.b_|.ptr _ _|.a_|.sl _ _ _ _|.lC|.map _|.F2|.jQ|.uz _ _=>true
 |.fn (.func _) [] []=>true
 |_=>false
def ZG : V→Bool
 |.agg l=>l.all plain1
 |.bf l=>l.all plain1
 |.iface _ v=>plain1 v
 |v=>plain1 v
theorem NQ (k:FloatKind): fkBeq k k=true:=by cases k<;>rfl
theorem IK : ∀l:List Nat,natsBeq l l=true:=by grind[vQ]
theorem Tj (v:V)(h:plain1 v=true): v.beq v=true:=by
 cases v<;>simp[plain1,V.beq,dx,lF,B3,IK,NQ] at h ⊢
 rename_i f a b
 cases f<;>cases a<;>cases b<;>simp[plain1,V.beq,V.beqL] at h ⊢
theorem VH : ∀(l:List V),l.all plain1=true→V.beqL l l=true:=by
 intro l
 induction l<;>grind[V.beqL,Tj]
theorem bH (v:V)(h:ZG v=true): v.beq v=true:=by
 cases v with
 |agg l=>exact VH l h
 |bf l=>exact VH l h
 |iface t v=>simp only[V.beq,fP,Bool.true_and];exact Tj v h
 |_=>exact Tj _ h
section
variable {v w:V} {m:List Nat}
theorem DL (s:Sat h (aQ v l::X::S))(J:cL X (cQ w m))(I:l.length+m.length≤140737488355328):
  ∃v' h',appendV Tryz.prog h #[28,28] v w=some (v',h')∧Sat h' (aQ v' (l++m)::X::S):=by
 obtain⟨v',h',e1,e2,e3,e4⟩:=Ae s.wf (s.buf (k:=0) rfl) (s.aD (k:=1) rfl J) I
 exact⟨v',h',e1,s.Bv e3 e2 e4⟩
theorem Gq (s:Sat h S)(I:c<1073741824):
  ∃v h',makeSliceV Tryz.prog h 28 (.int .i64 0) (.int .i64 (c:Int))=some (v,h')∧Sat h' (aQ v []::S):=by
 obtain⟨v,h',J,e2,e3,e4⟩:=Dw s.wf I
 exact⟨v,h',J,s.IE e3 e2 e4⟩
theorem Xb : ∀n:Nat,repeatL [V.int .u8 0] n=ofBytes (List.replicate n 0):=by
 intro n
 induction n<;>grind[repeatL,ofBytes]
theorem Qe (s:Sat h S)(J:c<1073741824):
  ∃v h',makeSliceV Tryz.prog h 28 (.int .i64 (c:Int)) (.int .i64 (c:Int))=some (v,h')∧Sat h' (aQ v (List.replicate c 0)::S):=by
 obtain⟨i,hi,i1,i2⟩:=wX
 have I:jS (h.new (.cells c (repeatL [.int .u8 0] c) false)) (.sl h.next 0 c (.exact c)) (List.replicate c 0):=by
  refine⟨fun b I=>by grind,.inr (.inl ⟨h.next,[],c,by simp,?_,by simp⟩)⟩<;>grind[gI,Xb]
 refine⟨.sl h.next 0 c (.exact c),h.new (.cells c (repeatL [.int .u8 0] c) false),?_,s.IE (eD.Bt s.wf _) I fun i hi=>by simp[rowIds] at hi;omega⟩
 grind[makeSliceV,Tryz.underlying28,n4,V.cells,Nat.ble,Nat.beq]
theorem Qf (s:Sat h S)(I:b<256): ∃v h',buildSliceV Tryz.prog h 28 1 [(0,.int .u8 b)]=some (v,h')∧Sat h' (aQ v [b]::S):=by
 obtain⟨v,h',J,e2,e3,e4⟩:=Gp s.wf I
 exact⟨v,h',J,s.IE e3 e2 e4⟩
theorem Sat.gq (s:Sat h (aQ v l::S))(hl:1≤l.length): ∃id c cap rest,v=.sl id 0 l.length cap∧Sat h (pt id (.cells c (ofBytes l++rest) false)::S)∧l.length+rest.length=c ∧
  (∀(h':H) (I:List Nat),I.length=l.length→(∀b∈I,b<256)→Sat h' (pt id (.cells c (ofBytes I++rest) false)::S)→Sat h' (aQ v I::S)):=by
 obtain⟨m,r,h1,h2,h3,a,b,g1,g2,g3,⟨gl,g4⟩,g5⟩:=s.ok
 rcases g4 with⟨rfl,rfl⟩|⟨id,cs,c,rfl,J,hc⟩|⟨id,rfl,J,h5⟩
 ·grind
 ·refine⟨id,c,_,cs,rfl,⟨s.wf,m,r,h1,h2,h3,a,b,g1,g2,g3,J,g5⟩,hc,fun h' I e1 e2 s'=>s'.gK ?_⟩
  intro m' r' hm
  exact⟨e2,.inr (.inl ⟨id,cs,c,by rw[e1],hm,by omega⟩)⟩
 ·refine⟨id,l.length,_,[],rfl,⟨s.wf,m,r,h1,h2,h3,a,b,g1,g2,g3,by rw[dS];exact J,g5⟩,by simp,fun h' I e1 e2 s'=>s'.gK ?_⟩
  intro m' r' hm
  have B1:m' id=some (.cells l.length (ofBytes I++[]) false):=hm
  exact⟨e2,.inr (.inr ⟨id,by rw[e1],by grind,by omega⟩)⟩
theorem KS (l:List Nat)(i b:Nat): (ofBytes l).set i (.int .u8 (b:Int))=ofBytes (l.set i b):=by simp[ofBytes,List.map_set]
theorem An (l:List Nat)(n:Nat): (ofBytes l).take n=ofBytes (l.take n):=by simp[ofBytes,List.map_take]
theorem IL (l:List Nat)(n:Nat): (ofBytes l).drop n=ofBytes (l.drop n):=by simp[ofBytes,List.map_drop]
theorem nE (s:Sat h (aQ v l::S))(hi:i<l.length)(hb:b<256):
  ∃id off,indexAddrV Tryz.prog 28 v (.int .i64 (i:Int))=some (.ptr id off)∧∃h',gY Tryz.prog h 5 (.ptr id off) (.int .u8 (b:Int))=some h'∧Sat h' (aQ v (l.set i b)::S):=by
 have hv:=(s.buf (k:=0) rfl).1
 obtain⟨id,c,cap,rest,rfl,s1,hc,J⟩:=s.gq (by omega)
 refine⟨id,i,?_,?_⟩
 ·simp_all[indexAddrV,eC]
 ·obtain⟨h',e1,I⟩:=s1.eH (t:=5) (P:=Tryz.prog) (v:=.int .u8 (b:Int)) (k:=0) (off:=i) rfl eC (by simp[dV];omega) (by omega) rfl rfl
  refine⟨h',e1,J h' (l.set i b) (by simp) (fun x hx => ?_) ?_⟩
  ·grind
  ·have e3:(ofBytes l++rest).set i (.int .u8 (b:Int))=ofBytes (l.set i b)++rest:=by
    grind[dV,KS]
   rw[e3] at I
   exact I
def bu (l:List Nat)(a:Nat)(m:List Nat): List Nat:=l.take a++(m++l.drop (a+m.length))
theorem c9 (h:a+m.length≤l.length): (bu l a m).length=l.length:=by simp[bu];omega
theorem Ao (I:∀b∈l,b<256)(hm:∀b∈m,b<256): ∀b∈bu l a m,b<256:=by grind[bu]
theorem CA (s:Sat h (aQ v l::X::S))(hX:cL X (cQ w m))(oY:a<b)(hb:b≤l.length)(hm:1≤m.length):
  ∃h',copyV Tryz.prog h 28 (slR v a b) w=some (.int .i64 (min m.length (b-a):Nat),h')∧Sat h' (aQ v (bu l a (m.take (b-a)))::X::S):=by
 have hw:=s.aD (k:=1) rfl hX
 have Ap:=hw.1
 have hv:=(s.buf (k:=0) rfl).1
 obtain⟨id,c,cap,rest,rfl,s1,hc,hf⟩:=s.gq (by omega)
 have kz:∃J,slR (.sl id 0 l.length cap) a b=.sl id a (b-a) J:=by
  cases cap with
  |exact c =>
   refine⟨.exact (c-a),?_⟩
   simp only[slR]
   by_cases hca:c=a
   ·obtain⟨m',r,h1,h2,h3⟩:=s.at (k:=0) rfl
    rcases h3.2 with⟨e,_⟩|⟨Da,cs',c',e,hg,hc'⟩|⟨Da,e,_⟩
    ·cases e
    ·grind
    ·grind
   grind[eo]
  |rest e alt=>simp[slR]
 obtain⟨J,kz⟩:=kz
 rw[kz]
 have pn:=hw
 rcases pn.2 with⟨_,rfl⟩|⟨kF,I,IM,n2,Gr,ZH,rfl,DM,q1,q2,q3,q4⟩
 ·grind
 ·have acv:Nat.min m.length (b-a)=(m.take (b-a)).length:=by
   grind
  have jw:rdN h kF I (Nat.min m.length (b-a)*1)=some (ofBytes (m.take (b-a))):=by
   have nL:View h (.sl kF I (m.take (b-a)).length IM) (m.take (b-a)):=by
    refine⟨fun x hx=>Ap x (ko hx),.inr ⟨kF,I,IM,n2,Gr,ZH,rfl,DM,q1,?_,?_,?_⟩⟩
    ·grind
    ·rw[←An,←q3,List.take_take,fO]
    ·grind
   rw[eF,acv]
   exact nL.rdN.2
  simp only[copyV,aK,eC,jw]
  have hlen:(m.take (b-a)).length≤b-a:=by grind
  have vx:wrN h id a (ofBytes (m.take (b-a)))=some (h.put id (some (.cells c (ofBytes (bu l a (m.take (b-a)))++rest) false))):=by
   simp only[wrN,s1.row (k:=0) rfl,dV]
   rw[bg.2 (by omega),aj]
   have e0:(ofBytes l++rest).take a++(ofBytes (m.take (b-a))++(ofBytes l++rest).drop (a+(m.take (b-a)).length))=ofBytes (bu l a (m.take (b-a)))++rest:=by
    grind[dV,An,IL,bu,su]
   cases Qg:(Nat.beq a 0&&Nat.beq (m.take (b-a)).length c)<;>grind[beq_iff,List.drop_eq_nil_of_le,dV]
  rw[vx]
  refine⟨_,rfl,hf _ _ (c9 (by omega)) (Ao hv (fun x hx=>Ap x (ko hx))) ?_⟩
  exact s1.put (k:=0) rfl
end
section
variable {v w x:V}
theorem ZI {st:Bool}(I:isAggT P t=some true)(hs:bN P t=some q)(J:T.get h.tr id=some (.cells n cs st))(hl:cs.length=n)(hb:off+q≤n):
  loadV P h t (.ptr id off)=some (.agg ((cs.drop off).take q)):=by
 grind[loadV,rdN,bg,beq_iff]
theorem Sat.VI (s:Sat h S)(I:getA S j=some (.arr k v cs)): cs.all storable=true:=by
 obtain⟨m,r,h1,h2,J⟩:=s.at I
 exact J.1
theorem Sat.ju (s:Sat h S)(I:getA S j=some (.arr k v cs)): v.cells=[v]∧storable v=true∧v.beq v=true:=by
 obtain⟨m,r,h1,h2,J⟩:=s.at I
 rcases J.2 with⟨rfl,_⟩|⟨id,n,cap,N,rest,rfl,_⟩
 ·exact⟨rfl,rfl,rfl⟩
 ·exact⟨rfl,rfl,HK _ _ _ _⟩
theorem Sat.dZ (s:Sat h S)(hj:getA S j=some (.arr k v cs))(hn:cs.length=n*k)(J:1≤k)(hu:P.underlying t=some (.slice e)): lenV P h t v=some (.int .i64 n):=by
 obtain⟨m,r,h1,h2,h3⟩:=s.at hj
 rcases h3.2 with⟨rfl,rfl⟩|⟨id,n',cap,N,rest,rfl,_,q,_⟩
 ·have:n=0:=by
   rcases A7 n with I|I
   ·exact I
   ·have:=rK I J
    simp at hn
    omega
  simp_all[lenV]
 ·have:n'=n:=LI J (by omega)
  subst this
  simp only[lenV,hu]
theorem vS (z:List V)(n:Nat): (repeatL z n).length=n*z.length:=by
 induction n<;>grind[repeatL]
theorem DN {z:List V}(I:z.all storable=true)(n:Nat): (repeatL z n).all storable=true:=by
 induction n<;>grind[repeatL]
theorem qw (s:Sat h S){i:TypeInfo}(hu:P.underlying t=some (.slice e))(hi:P.info? e=some i)(hz:zeroT P e=some z)(hk:i.size=k)(hb:i.bytes≤4096)(J:z.cells.length=k)(I:z.cells.all storable=true)
 (h1:1≤k)(hn:n≤c)(hc:c<1073741824):
  ∃v h',makeSliceV P h t (.int .i64 (n:Int)) (.int .i64 (c:Int))=some (v,h')∧Sat h' (.arr k v (repeatL z.cells n)::S):=by
 refine⟨.sl h.next 0 n (.exact c),h.new (.cells (c*k) (repeatL z.cells c) false),?_,(s.new _).gK fun m r hm => ?_⟩
 ·grind[makeSliceV,bg,Nat.beq_refl]
 ·refine⟨DN I n,.inr ⟨h.next,n,.exact c,c*k,repeatL z.cells (c-n),rfl,?_,by rw[vS,J],?_,DN I _,rfl,hn⟩⟩
  ·have:repeatL z.cells n++repeatL z.cells (c-n)=repeatL z.cells c:=by
    have:∀a b,repeatL z.cells a++repeatL z.cells b=repeatL z.cells (a+b):=fun a b=>by
     induction a<;>grind[repeatL]
    rw[this,show n+(c-n)=c by omega]
   rw[this];exact hm
  ·rw[vS,vS,J,←rL,show n+(c-n)=c by omega]
theorem Xc (I:T.get h.tr id=some (.cells n cs false))(J:cs.length=n)(hb:off+vs.length≤n):
  wrN h id off vs=some (h.put id (some (.cells n (cs.take off++(vs++cs.drop (off+vs.length))) false))):=by
 grind[wrN,bg,beq_iff,List.drop_eq_nil_of_le]
theorem uS {st:Bool}(I:T.get h.tr id=some (.cells n cs st))(J:cs.length=n)(hb:off+q≤n): rdN h id off q=some ((cs.drop off).take q):=by
 grind[rdN,bg,beq_iff]
theorem gv (s:Sat h (.arr k v cs::.arr k w ds::S)){i:TypeInfo}(hu:P.underlying t=some (.slice e))(hi:P.info? e=some i)(hz:zeroT P e=some z)(hk:i.size=k)(hb:i.bytes≤4096)(hl:z.cells.length=k)
 (h1:1≤k)(fC:cs.length+ds.length≤1073741824):
  ∃v' h',appendV P h #[t,t] v w=some (v',h')∧Sat h' (.arr k v' (cs++ds)::.arr k w ds::S):=by
 have ZJ:=s.VI (j:=0) rfl
 have NR:=s.VI (j:=1) rfl
 have qO:(cs++ds).all storable=true:=by grind
 -- what is appended
 have vO:∃m,srcV h k w=some (ds,m)∧ds.length=m*k:=by
  obtain⟨m,r,q1,q2,q3⟩:=s.at (k:=1) rfl
  rcases q3.2 with⟨rfl,rfl⟩|⟨id,n,cap,N,rest,rfl,J,e1,e2,e3,e4⟩
  ·exact⟨0,rfl,by simp⟩
  ·refine⟨n,?_,e1⟩
   simp only[srcV]
   rw[uS (q1 _ _ J) (by grind) (by omega)]
   grind
 obtain⟨m,vO,hm⟩:=vO
 have I:∀n:Nat,n*k=cs.length→kT (n+m) i.bytes=true:=fun n hn=>by
  have e2:n+m≤(n+m)*k:=Nat.le_mul_of_pos_right _ h1
  have e3:(n+m)*i.bytes≤(n+m)*4096:=Nat.mul_le_mul_left _ hb
  grind[xO]
 have xP:∀(σ:H) (n:Nat) (T:List aL),Sat σ T→n*k=cs.length→1≤m→Sat (oz σ k cs ds (n+m)).2 (.arr k (oz σ k cs ds (n+m)).1 (cs++ds)::T):=by
  intro σ n T sT hn Aq
  refine(sT.new (.cells ((n+m)*k) (cs++ds) false)).gK fun a r B1=>⟨qO,.inr ⟨σ.next,n+m,.rest k 0,(n+m)*k,[],rfl,by rw[dS];exact B1,by grind,by grind,rfl,rfl,rfl,rfl,by omega⟩⟩
 unfold appendV
 simp only[hu,hi,hz,hk,hl,vO]
 rw[show(Nat.ble 1 k&&Nat.ble i.bytes 4096&&Nat.beq k k)=true by simp_all,aj]
 cases F4:Nat.beq m 0 with
 |true =>
  have:m=0:=beq_iff.1 F4
  subst this
  have hd0:ds=[]:=nf (by omega)
  subst hd0
  obtain⟨m,r,q1,q2,q3⟩:=s.at (k:=0) rfl
  rcases q3.2 with⟨rfl,rfl⟩|⟨id,n,cap,N,rest,rfl,J,e1,e2,e3,e4⟩
  ·grind
  ·grind
 |false =>
  have Aq:1≤m:=by
   grind[oS]
  obtain⟨a,r,q1,q2,q3⟩:=s.at (k:=0) rfl
  rcases q3.2 with⟨rfl,rfl⟩|⟨id,n,cap,N,rest,rfl,J,e1,e2,e3,e4⟩
  ·have J:=I 0 (by simp)
   rw[gG] at J
   simp only[J,aj]
   have:=xP h 0 (.arr k .a_ []::.arr k w ds::S) s (by simp) Aq
   rw[gG] at this
   refine⟨_,_,rfl,?_⟩
   exact(this.qV [1]).drop
  ·cases cap with
   |exact c =>
    obtain⟨e4,e5⟩:=e4
    simp only[gG]
    have ql:(cs++rest).take cs.length=cs:=nt rfl
    cases hq:Nat.ble (n+m) c with
    |true =>
     have zJ:=bg.1 hq
     have eX:n*k+ds.length≤N:=by rw[hm,←rL,e4];exact rH _ zJ
     rw[Xc (q1 _ _ J) (by grind) eX]
     obtain⟨m',r',p1,p2,p3,x1,x2,x3,x4,x5,⟨_,x6⟩,x7⟩:=s.ok
     have xY:x1 id=some (.cells N (cs++rest) false):=by
      rcases x6 with⟨x6,_⟩|⟨Da,n',SI,N',aa1,x6,x8,x9,x10,_⟩
      ·cases x6
      ·injection x6 with y1 y2 y3 y4
       subst y1
       rw[x8]
       have:=p1 _ _ (x4 _ _ x8)
       rw[q1 _ _ J] at this
       injection this with this
       rw[this]
     have s0:Sat h (pt id (.cells N (cs++rest) false)::.arr k w ds::S):=⟨s.wf,m',r',p1,p2,p3,x1,x2,x3,x4,x5,xY,x7⟩
     have s1:=s0.put (k:=0) (o':=.cells N ((cs++rest).take (n*k)++(ds++(cs++rest).drop (n*k+ds.length))) false) rfl
     refine⟨_,_,rfl,Sat.gK s1 fun a' r'' ha=>⟨qO,.inr ⟨id,n+m,.exact c,N,rest.drop ds.length,rfl,?_,by grind,by grind,?_,e4,zJ⟩⟩⟩
     ·have ZK:a' id=some (.cells N ((cs++rest).take (n*k)++(ds++(cs++rest).drop (n*k+ds.length))) false):=ha
      simp_all[A_]
     ·grind
    |false =>
     rw[aY,I n e1.symm,aj,uS (q1 _ _ J) (by grind) (by omega)]
     rw[gV,←e1,ql]
     have:=xP h n _ s e1.symm Aq
     exact⟨_,_,rfl,(this.qV [1]).drop⟩
   |rest e' alt =>
    obtain⟨ek,rfl,rfl,e7⟩:=e4
    have ek:=ek.symm
    subst ek
    simp only[fP,aj,dS,gG] at J e2 ⊢
    have Cp:mX h id 0 k=n:=by
     simp only[mX,q1 _ _ J]
     grind[Nat.mul_div_cancel]
    rw[Cp]
    rw[show Nat.ble (n+m) n=false by
     grind[bg],aY,I n e1.symm,show Nat.ble 2 ((n+m)*k)=true from bg.2 (by
      have:2*1≤(n+m)*k:=rK (by omega) h1
      omega),jz,aj,uS (q1 _ _ J) (by omega) (by omega),q1 _ _ J]
    simp only
    obtain⟨m',r',p1,p2,p3,x1,x2,x3,x4,x5,⟨_,x6⟩,x7⟩:=s.ok
    have xY:x1 id=some (.cells N cs false):=by
     grind
    have s0:Sat h (pt id (.cells N cs false)::.arr k w ds::S):=⟨s.wf,m',r',p1,p2,p3,x1,x2,x3,x4,x5,xY,x7⟩
    have:=xP (h.put id none) n _ s0.kill e1.symm Aq
    rw[gV,gj (by omega)]
    exact⟨_,_,rfl,this⟩
end
section
variable {v w x:V}
theorem Sat.fS {l:List V}(s:Sat h S)(J:getA S j=some (pt id (.cells n cs false)))(hs:bN P t=some n)(hl:l.length=n)(I:l.all storable=true):
  ∃h₁,gY P h t (.ptr id 0) (.agg l)=some h₁∧Sat h₁ (setA S j (pt id (.cells n l false))):=by
 refine⟨h.put id (some (.cells n l false)),?_,s.put J⟩
 simp only[gY,hs,V.cells,I,hl,fP,jz,aj,wrN,s.row J]
 grind[bg]
theorem jB (s:Sat h S)(hu:P.underlying t=some (.slice e))(hz:zeroT P e=some z)(hk:bN P e=some k)(hl:z.cells.length=k)(h1:1≤k)(h2:k≤65536)(J:x.cells.length=k)(I:x.cells.all storable=true):
  ∃v h',buildSliceV P h t 1 [(0,x)]=some (v,h')∧Sat h' (.arr k v x.cells::S):=by
 refine⟨.sl h.next 0 1 (.exact 1),newRow h x.cells,?_,?_⟩
 ·grind[buildSliceV,repeatL,fillV,Nat.beq_refl,bg]
 ·refine(s.new _).gK fun m r hm=>⟨I,.inr ⟨h.next,1,.exact 1,k,[],rfl,?_,by omega,by omega,rfl,by omega,aU _⟩⟩
  rw[hm,J,dS]
end
section
variable {v w x:V}
theorem ViewM.slice {m:PM}(hv:ViewM m v l)(oY:a≤b)(hb:b≤l.length): ViewM m (slR v a b) ((l.take b).drop a):=by
 have I:∀x∈(l.take b).drop a,x<256:=fun x hx=>hv.1 x (ko (qd hx))
 have hlen:((l.take b).drop a).length=b-a:=by grind
 obtain⟨hl,J⟩:=hv
 rcases J with⟨rfl|⟨ea,rfl⟩,rfl⟩|⟨id,off,cap,n,cs,st,rfl,hg,h1,h2,h3,h4⟩
 ·simp at hb
  subst_vars
  exact⟨by simp,.inl ⟨.inl rfl,by simp⟩⟩
 ·simp at hb
  subst_vars
  exact⟨by simp,.inl ⟨.inr ⟨ea,rfl⟩,by simp⟩⟩
 ·have HI:∀o,o=off+a∨b-a=0→(cs.drop o).take (b-a)=ofBytes ((l.take b).drop a):=by
   grind[ofBytes,List.map_take,List.map_drop,List.drop_take,List.drop_drop]
  cases cap with
  |exact c =>
   refine⟨I,.inr ⟨id,_,_,n,cs,st,by rw[hlen];rfl,hg,h1,?_,?_,?_⟩⟩<;>grind[eo]
  |rest e alt =>
   exact⟨I,.inr ⟨id,_,_,n,cs,st,by rw[hlen];rfl,hg,h1,by omega,by grind,rfl⟩⟩
theorem lG (hX:cL X (cQ v l))(I:a≤b)(J:b≤l.length): cL X (cQ (slR v a b) ((l.take b).drop a)):=fun m r hm =>
 (hX m r hm).imp (fun h=>ViewM.slice h I J) (fun h=>ViewM.slice h I J)
theorem rU (I:cL X (cQ v l))(J:a≤l.length): cL X (cQ (slR v a l.length) (l.drop a)):=by
 grind[lG,List.take_length]
theorem yb (I:cL X (cQ v l))(J:b≤l.length): cL X (cQ (slR v 0 b) (l.take b)):=by
 have:=lG I (fe b) J
 rwa [gV] at this
theorem Sat.m6 (s:Sat h S): Sat h (.arr k .a_ []::S):=(s.gD aa).gK fun _ _ _=>⟨rfl,.inl ⟨rfl,rfl⟩⟩
theorem Sat.DO (s:Sat h S): Sat h (aQ .a_ []::S):=(s.gD aa).gK fun _ _ _=>⟨by simp,.inl ⟨rfl,rfl⟩⟩
theorem Sat.sy (s:Sat h S): Sat h (B4 .a_ []::S):=(s.gD aa).gK fun _ _ _=>⟨by simp,.inl ⟨.inl rfl,rfl⟩⟩
theorem Gs (s:Sat h S){i:TypeInfo}(hu:P.underlying t=some (.slice e))(hi:P.info? e=some i)(I:zeroT P e=some z)(J:i.size=k)(hb:i.bytes≤4096)(hl:z.cells.length=k)
 (h1:1≤k)(hn:n<1073741824):
  ∃id h',makeSliceV P h t (.int .i64 (n:Int)) (.int .i64 (n:Int))=some (.sl id 0 n (.exact n),h')∧Sat h' (pt id (.cells (n*k) (repeatL z.cells n) false)::S):=by
 refine⟨h.next,h.new (.cells (n*k) (repeatL z.cells n) false),?_,s.new _⟩<;>grind[makeSliceV,bg,Nat.beq_refl]
theorem qx {o:Nat}{c:Cap}(hv:v=.sl i o n c)(hu:P.underlying t=some (.slice e)): lenV P h t v=some (.int .i64 n):=by subst hv;exact DE hu
theorem acw {ts:Array TypeId}{a b:Int}: builtinV P h .max ts [.int .i64 a,.int .i64 b]=some (.int .i64 (max a b),h):=by
 grind[builtinV,foldV,maxV,ikBeq]
theorem CC {c:Go.Call}{b:Builtin}(I:c.callee=.builtin b)(J:lookArgs E c.args.toList=some args)(hf:builtinV P h b c.argTypes args=some (r,h')): opE P E h (.call c)=some (r,h'):=by
 simp only[opE,I,J,hf]
end
def slR3 (v:V)(a b m:Nat): V:=match v with
 |.sl id off _ _=>.sl id (cond (Nat.beq m a) off (off+a*1)) (b-a) (.exact (m-a))
 |v=>v
section
variable {v w x:V}
theorem ViewM.slice3 {m:PM}(hv:ViewM m v l)(oY:a≤b)(hb:b≤c)(hc:c≤l.length)(hl:1≤l.length): ViewM m (slR3 v a b c) ((l.take b).drop a):=by
 have I:∀x∈(l.take b).drop a,x<256:=fun x hx=>hv.1 x (ko (qd hx))
 have hlen:((l.take b).drop a).length=b-a:=by grind
 obtain⟨_,J⟩:=hv
 rcases J with⟨_,rfl⟩|⟨id,off,cap,n,cs,st,rfl,hg,h1,h2,h3,h4⟩
 ·grind
 ·have HI:∀o,o=off+a∨b-a=0→(cs.drop o).take (b-a)=ofBytes ((l.take b).drop a):=by
   grind[ofBytes,List.map_take,List.map_drop,List.drop_take,List.drop_drop]
  refine⟨I,.inr ⟨id,_,_,n,cs,st,by rw[hlen];rfl,hg,h1,?_,?_,?_⟩⟩<;>grind[eo]
theorem Gt (hX:cL X (cQ v l))(I:a≤b)(J:b≤c)(hc:c≤l.length)(hl:1≤l.length): cL X (cQ (slR3 v a b c) ((l.take b).drop a)):=fun m r hm =>
 (hX m r hm).imp (fun h=>ViewM.slice3 h I J hc hl) (fun h=>ViewM.slice3 h I J hc hl)
theorem B6 (hv:View h v l)(J:a≤b)(hb:b≤c)(hc:c≤l.length)(hl:1≤l.length): sliceV Tryz.prog h 28 v (some a) (some b) (some c)=some (slR3 v a b c):=by
 obtain⟨_,I⟩:=hv
 rcases I with⟨_,rfl⟩|⟨id,off,cap,n,cs,st,rfl,hg,h1,h2,h3,h4⟩
 ·grind
 ·cases cap with
  |exact q =>
   simp only[sliceV,slR3,aK,eC,iD]
   grind[bg]
  |rest e alt =>
   have he:e=1:=h4
   subst he
   simp only[sliceV,slR3,aK,eC,iD,fP]
   grind[Nat.blt,bg]
theorem iY (hv:View h v l)(I:1≤l.length): ∃id off cap,v=.sl id off l.length cap:=by
 rcases hv.2 with⟨_,rfl⟩|⟨id,off,cap,_,_,_,rfl,_⟩<;>grind
theorem fT {k:IntKind}{n:Int}(I:0≤n): jb (some (V.int k n))=some (some n.toNat):=by
 grind[jb,bndV]
end
section
variable {v w x:V} {m:List Nat}
theorem Qh (s:Sat h S)(J:getA S j=some (.arr q v cs))(hi:i*q+q≤cs.length)(hq:1≤q)(hu:P.underlying t=some (.slice e))(I:bN P e=some q):
  ∃id off,indexAddrV P t v (.int .i64 (i:Int))=some (.ptr id off)∧(isAggT P e=some true→loadV P h e (.ptr id off)=some (.agg ((cs.drop (i*q)).take q))):=by
 obtain⟨m,r,h1,h2,h3⟩:=s.at J
 rcases h3.2 with⟨_,rfl⟩|⟨id,n,cap,N,rest,rfl,hg,e1,e2,_⟩
 ·grind
 ·refine⟨id,i*q,?_,fun ht => ?_⟩
  ·simp only[indexAddrV,hu,I,dY]
   have:i<n:=by
    have h4:i*q+q=(i+1)*q:=by grind
    rw[h4,e1] at hi
    exact ER (EB hi hq)
   grind
  ·rw[ZI ht I (h1 _ _ hg) (by grind) (by omega)]
   grind
theorem Sat.ZL (s:Sat h (aQ v l::X::S))(hX:cL X (cQ w m)): ∀i∈rowIds w,i∉rowIds v:=by
 intro i hi J
 obtain⟨a,r,h1,h2,h3,b,c,g1,g2,g3,g4,d,e,k1,k2,k3,k4,k5⟩:=s.ok
 have hb:=L3 g4 i J
 have hw:∀q:PM,ViewM q w m→q i≠none:=fun q hq=>by
  rcases hq.2 with⟨rfl|⟨ea,rfl⟩,_⟩|⟨id,off,cap,n,cs,st,rfl,hg,_⟩<;>grind[rowIds]
 rcases hX _ _ k4 with hq|hq
 ·cases hd:d i with
  |none=>grind
  |some o =>
   rcases g1 i with I|I
   ·grind
   ·rw[k2 _ _ hd] at I;cases I
 ·cases VJ:b i with
  |none=>grind
  |some o =>
   rcases h3 i with I|I
   ·rw[g2 _ _ VJ] at I;cases I
   ·grind
end
abbrev cn := List (Int×V×Nat)
def eR (e:Int×V×Nat): V×V×Nat:=(.int .i64 e.1,e.2)
def lookE (n:Int): cn→Option V
 |[]=>none
 |e::l=>if e.1=n then some e.2.1 else lookE n l
def kf (n:Int)(v:V)(c:Nat): cn→cn
 |[]=>[(n,v,c)]
 |e::l=>if e.1=n then(e.1,v,e.2.2)::l else e::kf n v c l
def nH (n:Int): cn→cn
 |[]=>[]
 |e::l=>if e.1=n then l else e::nH n l
def clkE (n:Int)(c:Nat)(l:cn): Nat:=match lookE n l with
 |some _=>c
 |none=>c+1
abbrev gB (id:Nat)(l:cn)(c:Nat): aL:=pt id (.map (l.map eR) c)
def idxE (n:Int): cn→Nat→Option (Nat×V)
 |[],_=>none
 |e::l,i=>if e.1=n then some (i,e.2.1) else idxE n l (i+1)
theorem mS (a b:Int): intBeq a b=decide (a=b):=by
 grind[vp,lF]
theorem rV {k:IntKind}{n:Int}: ∀(l:cn) (i:Nat),findK (.int k) (.int .i64 n) (l.map eR) i=some (idxE n l i):=by
 intro l
 induction l<;>grind[findK,eR,keyBeq,dx,mS,idxE]
theorem qy {n:Int}: ∀(l:cn) (i:Nat),(idxE n l i).map (·.2)=lookE n l:=by
 intro l
 induction l<;>grind[idxE,lookE]
theorem Ma {n:Int}: ∀(l:cn) (i j:Nat) (v:V),idxE n l i=some (j,v)→i≤j:=by
 intro l
 induction l<;>grind[idxE]
theorem abl {n:Int}{v:V}: ∀(l:cn) (i j:Nat) (u:V),idxE n l i=some (j,u)→setNth (l.map eR) (j-i) (fun e=>(e.1,v,e.2.2))=(kf n v c l).map eR:=by
 intro l
 induction l with
 |nil=>intro i j u h;cases h
 |cons e l J =>
  intro i j u h
  simp only[idxE] at h
  simp only[kf,iE,setNth]
  by_cases he:e.1=n
  ·rw[aP he] at h;injection h with h;injection h with I h2
   subst I
   rw[aP he,wE]
   rfl
  ·rw[ak he] at h
   have h3:=Ma _ _ _ _ h
   grind[eo]
theorem ZM {n:Int}: ∀(l:cn) (i j:Nat) (u:V),idxE n l i=some (j,u)→l8 (l.map eR) (j-i)=(nH n l).map eR:=by
 intro l
 induction l with
 |nil=>intro i j u h;cases h
 |cons e l I =>
  intro i j u h
  simp only[idxE] at h
  simp only[nH,iE,l8]
  by_cases he:e.1=n
  ·simp_all
  ·rw[ak he] at h
   have J:=Ma _ _ _ _ h
   grind[eo]
theorem Xd {n:Int}{v:V}: ∀(l:cn),lookE n l=none→kf n v c l=l++[(n,v,c)]:=by
 intro l
 induction l<;>grind[lookE,kf]
theorem Tk {n:Int}: ∀(l:cn),lookE n l=none→nH n l=l:=by
 intro l
 induction l<;>grind[lookE,nH]
section
variable {v:V} {k:IntKind} {l:cn} {n:Int}
theorem Sat.VK (s:Sat h S)(I:getA S j=some (gB id l c))(hu:P.underlying t=some (.map kt et))(J:P.underlying kt=some (.int k))(hz:zeroT P et=some z):
  fR P h t (.map id) (.int .i64 n) true=some (match lookE n l with|some v=>.bf [v,.bool true]|none=>.bf [z,.bool false]):=by
 have hg:=s.row I
 simp only[fR,lookupV,hu,J,hz,hg,keyBeq,dx,aj,rV]
 rw[←qy l 0]
 cases idxE n l 0<;>grind
theorem Sat.abm (s:Sat h S)(I:getA S j=some (gB id l c))(hu:P.underlying t=some (.map kt et))(J:P.underlying kt=some (.int k))(hz:zeroT P et=some z):
  fR P h t (.map id) (.int .i64 n) false=some (match lookE n l with|some v=>v|none=>z):=by
 have hg:=s.row I
 simp only[fR,lookupV,hu,J,hz,hg,keyBeq,dx,aj,rV]
 rw[←qy l 0]
 cases idxE n l 0<;>grind
theorem Sat.update (s:Sat h S)(hj:getA S j=some (gB id l c))(hu:P.underlying t=some (.map kt et))(hk:P.underlying kt=some (.int k)):
  ∃h',mapUpdateV P h t (.map id) (.int .i64 n) v=some h'∧Sat h' (setA S j (gB id (kf n v c l) (clkE n c l))):=by
 have hg:=s.row hj
 refine⟨h.put id (some (.map ((kf n v c l).map eR) (clkE n c l))),?_,s.put hj⟩
 simp only[mapUpdateV,hu,hk,hg,keyBeq,dx,aj,rV]
 have I:=qy (n:=n) l 0
 cases J:idxE n l 0 with
 |none =>
  rw[J] at I
  have I:lookE n l=none:=I.symm
  simp only[clkE,I,Xd l I,List.map_append]
  rfl
 |some q =>
  obtain⟨i,u⟩:=q
  rw[J] at I
  have I:lookE n l=some u:=I.symm
  simp only[clkE,I]
  rw[←abl (v:=v) (c:=c) l 0 i u J,l7]
theorem Sat.delete (s:Sat h S)(J:getA S j=some (gB id l c))(hu:P.underlying t=some (.map kt et))(hk:P.underlying kt=some (.int k)):
  ∃h',ny P h t (.map id) (.int .i64 n)=some h'∧Sat h' (setA S j (gB id (nH n l) c)):=by
 have hg:=s.row J
 simp only[ny,hu,hk,hg,keyBeq,dx,aj,rV]
 have I:=qy (n:=n) l 0
 cases hq:idxE n l 0 with
 |none =>
  rw[hq] at I
  have I:lookE n l=none:=I.symm
  refine⟨h,rfl,?_⟩
  rw[Tk l I]
  have:∀(S:List aL) (j:Nat) (A:aL),getA S j=some A→setA S j A=S:=by
   intro S
   induction S with
   |nil=>intro j A h;cases h
   |cons B S ih =>
    intro j A h
    cases j<;>grind[getA,setA]
  rw[this S j _ J]
  exact s
 |some q =>
  obtain⟨i,u⟩:=q
  refine⟨_,rfl,?_⟩
  have e:=ZM l 0 i u hq
  rw[l7] at e
  rw[e]
  exact s.put J
theorem Sat.acy (s:Sat h S)(I:getA S j=some (gB id l c))(hu:P.underlying t=some (.map kt et)): lenV P h t (.map id)=some (.int .i64 (l.length:Int)):=by
 have J:=s.row I
 simp_all[lenV]
end
section
variable {z:Operand} {a b v:V}
theorem OpR.upd (J:∀env,iX env E→evOp C (ev C 0) env h o=(match mapUpdateV C.P h t a b v with|some h'=>some (ct,h')|none=>none))
 (ho:∃h₁,mapUpdateV C.P h t a b v=some h₁∧Sat h₁ S'): OpR C E h o fun _ h₁=>Sat h₁ S':=by
 obtain⟨h₁,e1,I⟩:=ho
 exact⟨ct,h₁,I,fun env he=>⟨0,by grind⟩⟩
theorem OpR.mapUpdate (I:o.op=.mapUpdate t x y z)(J:bA E x=some a)(hy:bA E y=some b)(hz:bA E z=some v)
 (ho:∃h₁,mapUpdateV C.P h t a b v=some h₁∧Sat h₁ S'): OpR C E h o fun _ h₁=>Sat h₁ S':=by
 refine OpR.upd (t:=t) (a:=a) (b:=b) (v:=v) (fun env he => ?_) ho
 simp only[evOp,I,bU he J,bU he hy,bU he hz,tJ]
 cases mapUpdateV C.P h t a b v<;>rfl
theorem OpR.builtin {bi:Builtin}{R:V→H→Prop}(I:o.op=.call cl)(J:cl.callee=.builtin bi)(ha:lookArgs E cl.args.toList=some args)(ho:∃v h₁,builtinV C.P h bi cl.argTypes args=some (v,h₁)∧R v h₁): OpR C E h o R:=by
 grind[OpR.of,opE]
theorem OpR.pQ {m:List Nat}(hP:C.P=Tryz.prog)(s:Sat h (aQ v l::X::S))(hX:cL X (cQ u m))(I:o.op=.call cl)(hc:cl.callee=.builtin .append)(J:cl.argTypes = #[28,28])(ha:lookArgs E cl.args.toList=some [v,u])
 (fC:l.length+m.length≤140737488355328): OpR C E h o fun v' h₁=>Sat h₁ (aQ v' (l++m)::X::S):=by
 grind[DL,OpR.builtin,builtinV]
theorem OpR.sJ (J:C.P=Tryz.prog)(s:Sat h S)(I:o.op=.makeSlice t x y)(ht:t=28)(hx:bA E x=some (.int .i64 0))(hy:bA E y=some (.int .i64 (c:Int)))(hc:c<1073741824): OpR C E h o fun v' h₁=>Sat h₁ (aQ v' []::S):=by
 grind[Gq,OpR.of,qT]
theorem OpR.gQ (J:C.P=Tryz.prog)(s:Sat h S)(I:o.op=.makeSlice t x y)(ht:t=28)(hx:bA E x=some (.int .i64 (c:Int)))(hy:bA E y=some (.int .i64 (c:Int)))(hc:c<1073741824): OpR C E h o fun v' h₁=>Sat h₁ (aQ v' (List.replicate c 0)::S):=by
 grind[Qe,OpR.of,qT]
theorem OpR.abn {m:List Nat}{p:Nat}(hP:C.P=Tryz.prog)(s:Sat h (aQ v l::X::S))(hX:cL X (cQ u m))(I:o.op=.call cl)(hc:cl.callee=.builtin .copy)(J:cl.argTypes = #[28,28])(ha:lookArgs E cl.args.toList=some [slR v p q,u])
 (hpq:p<q)(hq:q≤l.length)(hm:1≤m.length): OpR C E h o fun _ h₁=>Sat h₁ (aQ v (bu l p (m.take (q-p)))::X::S):=by
 grind[CA,OpR.builtin,builtinV]
theorem OpR.NS (J:C.P=Tryz.prog)(s:Sat h S)(I:o.op=.buildSlice t 1 ps)(ht:t=28)(hx:lookParts E ps.toList=some [(0,.int .u8 (n:Int))])(hn:n<256): OpR C E h o fun v' h₁=>Sat h₁ (aQ v' [n]::S):=by
 grind[Qf,OpR.of,ke]
end
section
def lookL (n:Int): List (Int×α)→Option α
 |[]=>none
 |e::l=>if e.1=n then some e.2 else lookL n l
def cD (n:Int)(a:α): List (Int×α)→List (Int×α)
 |[]=>[(n,a)]
 |e::l=>if e.1=n then(n,a)::l else e::cD n a l
def oU (n:Int): List (Int×α)→List (Int×α)
 |[]=>[]
 |e::l=>if e.1=n then l else e::oU n l
theorem gL {n k:Int}{a:α}: ∀l:List (Int×α),lookL k (cD n a l)=if n=k then some a else lookL k l:=by
 intro l
 induction l<;>grind[cD,lookL]
theorem gx {n:Int}: ∀ {l:List (Int×α)},lookL n l=none↔n∉l.map (·.1):=by
 intro l
 induction l<;>grind[lookL]
theorem Gu {n k:Int}: ∀ {l:List (Int×α)},(l.map (·.1)).Nodup→lookL k (oU n l)=if n=k then none else lookL k l:=by
 intro l
 induction l<;>grind[oU,lookL,gx]
theorem pR {n:Int}{a:α}: ∀ {l:List (Int×α)} {k:Int},k∈(cD n a l).map (·.1)↔k=n∨k∈l.map (·.1):=by
 intro l
 induction l<;>grind[cD]
theorem jh {n:Int}{a:α}: ∀ {l:List (Int×α)},(l.map (·.1)).Nodup→((cD n a l).map (·.1)).Nodup:=by
 intro l
 induction l<;>grind[cD,pR]
theorem Tl {n:Int}: ∀ {l:List (Int×α)} {k:Int},k∈(oU n l).map (·.1)→k∈l.map (·.1):=by
 intro l
 induction l<;>grind[oU]
theorem yc {n:Int}: ∀ {l:List (Int×α)},(l.map (·.1)).Nodup→((oU n l).map (·.1)).Nodup:=by
 intro l
 induction l<;>grind[oU,Tl]
def eV (f:V→α→aL): cn→List (Int×α)→aL
 |[],[]=>.pu True
 |e::l,x::m=>.an (.an (.pu (e.1=x.1)) (f e.2.1 x.2)) (eV f l m)
 |_,_=>.pu False
variable {f:V→α→aL} {a b:PM}
theorem tR : ∀ {l:cn} {m:List (Int×α)},(eV f l m).p a b→l.map (·.1)=m.map (·.1):=by
 intro l
 induction l with
 |nil=>intro m h;cases m with
  |nil=>rfl
  |cons x m=>exact h.elim
 |cons e l I=>intro m h;cases m with
  |nil=>exact h.elim
  |cons x m=>simp only[iE];rw[h.1.1,I h.2]
theorem tS {n:Int}: ∀ {l:cn} {m:List (Int×α)},(eV f l m).p a b→(lookE n l=none∧lookL n m=none)∨∃u x,lookE n l=some u∧lookL n m=some x∧(f u x).p a b:=by
 intro l
 induction l with
 |nil=>intro m h;cases m with
  |nil=>exact .inl ⟨rfl,rfl⟩
  |cons x m=>exact h.elim
 |cons e l J=>intro m h;cases m with
  |nil=>exact h.elim
  |cons x m =>
   obtain⟨⟨I,h2⟩,h3⟩:=h
   have I:e.1=x.1:=I
   grind[lookE,lookL]
theorem Gv {n:Int}{x:α}(hu:(f u x).p a b): ∀ {l:cn} {m:List (Int×α)},(eV f l m).p a b→(eV f (kf n u c l) (cD n x m)).p a b:=by
 intro l
 induction l with
 |nil=>intro m h;cases m with
  |nil=>exact⟨⟨rfl,hu⟩,aa⟩
  |cons x m=>exact h.elim
 |cons e l ih=>intro m h;cases m with
  |nil=>exact h.elim
  |cons y m =>
   obtain⟨⟨I,h2⟩,J⟩:=h
   have I:e.1=y.1:=I
   simp only[kf,cD,←I]
   by_cases he:e.1=n
   ·rw[aP he,aP he];exact⟨⟨he,hu⟩,J⟩
   ·rw[ak he,ak he];exact⟨⟨I,h2⟩,ih J⟩
theorem Qi {n:Int}: ∀ {l:cn} {m:List (Int×α)},(eV f l m).p a b→(eV f (nH n l) (oU n m)).p a b:=by
 intro l
 induction l with
 |nil=>intro m h;cases m with
  |nil=>trivial
  |cons x m=>exact h.elim
 |cons e l J=>intro m h;cases m with
  |nil=>exact h.elim
  |cons y m =>
   obtain⟨⟨I,h2⟩,h3⟩:=h
   have I:e.1=y.1:=I
   simp only[nH,oU,←I]
   by_cases he:e.1=n
   ·grind
   ·rw[ak he,ak he];exact⟨⟨I,h2⟩,J h3⟩
theorem aV.IN (I:∀u x,aV (f u x)): ∀(l:cn) (m:List (Int×α)),aV (eV f l m):=by
 intro l
 induction l with
 |nil=>intro m;cases m<;>exact aV.pu _
 |cons e l J=>intro m;cases m with
  |nil=>exact aV.pu _
  |cons x m=>exact aV.an (aV.an (aV.pu _) (I _ _)) (J m)
def fy (c:Nat): Nat→cn→Prop
 |_,[]=>True
 |b,e::l=>b≤e.2.2∧e.2.2<c∧fy c (e.2.2+1) l
theorem DP : ∀ {l:cn} {b I:Nat},I≤b→fy c b l→fy c I l:=by
 intro l
 cases l with
 |nil=>intro b I _ _;trivial
 |cons e l=>intro b I h J;exact⟨bX h J.1,J.2⟩
theorem Ar {k:Int}(hn:n=c): ∀ {l:cn} {b:Nat},b≤c→fy c b l→fy (clkE k c l) b (kf k u n l):=by
 subst hn
 intro l
 induction l with
 |nil=>intro b J _;exact⟨J,A9 _,aa⟩
 |cons e l ih =>
  intro b J h
  have I:=ih (b:=e.2.2+1) (by have:=h.2.1;omega) h.2.2
  by_cases he:e.1=k
  ·simp only[kf,clkE,lookE,aP he];exact h
  ·simp only[kf,clkE,lookE,ak he]
   refine⟨h.1,?_,I⟩
   have:=h.2.1
   split<;>omega
theorem Qj {k:Int}: ∀ {l:cn} {b:Nat},fy c b l→fy c b (nH k l):=by
 intro l
 induction l with
 |nil=>intro b h;exact h
 |cons e l I =>
  intro b h
  simp only[nH]
  by_cases he:e.1=k
  ·rw[aP he];exact DP (by have:=h.1;omega) h.2.2
  ·rw[ak he];exact⟨h.1,h.2.1,I h.2.2⟩
def jv (f:V→α→aL)(v:V)(m:List (Int×α)): aL :=
 xs fun id:Nat=>xs fun l:cn=>xs fun c:Nat=>star [.pu (v=.map id∧fy c 0 l∧(m.map (·.1)).Nodup),gB id l c,eV f l m]
section
variable {v:V} {k:IntKind} {m:List (Int×α)} {n:Int} {x:α}
theorem eM : Sat h (jv f v m::S)↔∃id l c,v=.map id∧fy c 0 l∧(m.map (·.1)).Nodup∧Sat h (gB id l c::eV f l m::S):=by
 simp[jv,g_,bn,eS,and_assoc]
theorem mK (hf:∀u x,aV (f u x))(s:Sat h (jv f v m::S))(hu:P.underlying t=some (.map kt et))(I:P.underlying kt=some (.int k))(J:zeroT P et=some z):
  (lookL n m=none∧fR P h t v (.int .i64 n) true=some (.bf [z,.bool false])∧fR P h t v (.int .i64 n) false=some z) ∨
  ∃u x,lookL n m=some x∧fR P h t v (.int .i64 n) true=some (.bf [u,.bool true])∧fR P h t v (.int .i64 n) false=some u∧Sat h (f u x::jv f v m::S):=by
 obtain⟨id,l,c,rfl,hb,hn,s1⟩:=eM.1 s
 have e2:=s1.VK (n:=n) (j:=0) rfl hu I J
 have e1:=s1.abm (n:=n) (j:=0) rfl hu I J
 obtain⟨a,b,q1,q2,q3⟩:=s1.at (k:=1) rfl
 rcases tS (n:=n) q3 with⟨g1,g2⟩|⟨u,x,g1,g2,g3⟩
 ·grind
 ·rw[g1] at e1 e2
  refine .inr ⟨u,x,g2,e2,e1,?_⟩
  have s2:Sat h (eV f l m::gB id l c::S):=s1.qV [1]
  have s3:=s2.dup (aV.IN hf l m)
  have s4:Sat h (f u x::eV f l m::gB id l c::S):=s3.gK fun a' b' h'=>by
   grind[tS]
  have s5:Sat h (gB id l c::eV f l m::f u x::S):=s4.qV [2,1]
  exact(eM.2 ⟨id,l,c,rfl,hb,hn,s5⟩:Sat h (jv f (.map id) m::f u x::S)).qV [1]
theorem pS (I:∀u x,aV (f u x))(s:Sat h (f u x::jv f v m::S))(hu:P.underlying t=some (.map kt et))(J:P.underlying kt=some (.int k)):
  ∃h',mapUpdateV P h t v (.int .i64 n) u=some h'∧Sat h' (jv f v (cD n x m)::S):=by
 have s0:Sat h (jv f v m::f u x::S):=s.qV [1]
 obtain⟨id,l,c,rfl,hb,hn,s1⟩:=eM.1 s0
 obtain⟨h',e1,e2⟩:=s1.update (n:=n) (v:=u) (j:=0) rfl hu J
 refine⟨h',e1,?_⟩
 have e3:Sat h' (f u x::eV f l m::gB id (kf n u c l) (clkE n c l)::S):=e2.qV [2,1]
 have e4:Sat h' (eV f (kf n u c l) (cD n x m)::gB id (kf n u c l) (clkE n c l)::S):=e3.map fun a b h=>by
  obtain⟨p1,p2,d1,d2,d3,d4,p3,p4,d5,d6,d7,d8,d9⟩:=h
  exact⟨fun _=>none,p4,fun _=>.inl rfl,fun _ _ h=>(by cases h),PM.le_trans d7 d3,Gv (I _ _ _ _ d4) (aV.IN I _ _ _ _ d8),d9⟩
 exact eM.2 ⟨id,_,_,rfl,Ar rfl (fe _) hb,jh hn,e4.qV [1]⟩
theorem Tm (s:Sat h (jv f v m::S))(hu:P.underlying t=some (.map kt et))(I:P.underlying kt=some (.int k)):
  ∃h',ny P h t v (.int .i64 n)=some h'∧Sat h' (jv f v (oU n m)::S):=by
 obtain⟨id,l,c,rfl,J,hn,s1⟩:=eM.1 s
 obtain⟨h',e1,e2⟩:=s1.delete (n:=n) (j:=0) rfl hu I
 refine⟨h',e1,?_⟩
 have e3:Sat h' (eV f l m::gB id (nH n l) c::S):=e2.qV [1]
 have e4:Sat h' (eV f (nH n l) (oU n m)::gB id (nH n l) c::S):=e3.gK fun a b h=>Qi h
 exact eM.2 ⟨id,_,_,rfl,Qj J,yc hn,e4.qV [1]⟩
theorem IP (s:Sat h (jv f v m::S))(hu:P.underlying t=some (.map kt et)): lenV P h t v=some (.int .i64 (m.length:Int)):=by
 obtain⟨id,l,c,rfl,J,hn,s1⟩:=eM.1 s
 have e:=s1.acy (j:=0) rfl hu
 obtain⟨a,b,q1,q2,I⟩:=s1.at (k:=1) rfl
 have:=jm List.length (tR I)
 grind
theorem uT (s:Sat h (pt id (.map [] 0)::S)): Sat h (jv f (.map id) []::S):=by
 have s1:Sat h (eV f [] []::pt id (.map [] 0)::S):=s.gD aa
 exact eM.2 ⟨id,[],0,rfl,aa,by simp,s1.qV [1]⟩
theorem DQ (s:Sat h S)(I:getA S j=some (jv f v m)): ∃id,v=.map id:=by
 have s1:=s.take j I
 grind[eM]
end
end
theorem OpR.delete {u:TypeId}{m k:V}(I:o.op=.call cl)(J:cl.callee=.builtin .delete)(hty:cl.argTypes = #[t,u])(ha:lookArgs E cl.args.toList=some [m,k])
 (ho:∃h₁,ny C.P h t m k=some h₁∧Sat h₁ S'): OpR C E h o fun _ h₁=>Sat h₁ S':=by
 obtain⟨h₁,e1,e2⟩:=ho
 refine OpR.builtin I J ha ⟨.bf [],h₁,?_,e2⟩<;>grind[builtinV]
end Go.Proofs.YtefepnnfphdkpaaGreat.Am
