/- TxLong: a part of its proof; conditions: its statement's. -/
import Derived.Test.YtiojppeahfoiaaaGreatK01
import Derived.Scope
import Derived.Test.YtiojppeahfoiaaaGreatProg
import Derived.KernelRfl
import Derived.Shelf.SlIterI.Sorted
import Derived.Defers
import Derived.Recover
set_option linter.defProp false
namespace Go.Proofs.YtiojppeahfoiaaaGreat.Am
open Go
def aN:=@Tryz.underlying23
def Cc:=@Tryz.func217
abbrev cC:=Nat→Option (List V→H→Option (V×H))
variable {ps:Array (Nat×Operand)} {ops:Array Oper} {st:Bool} {C:eO} {code:Code} {c₀:Ctx} {env:Env} {Q:Ex→List (Nat×V)→H→Prop} {fn:Func} {f:FuncId} {h h' σ h₁ cV:H} {κ:IntKind} {E E':List (Nat×V)} {R:List (Nat×V)→H→Prop} {d₀:List Deferred} {hs:List H} {d_ es l:List Nat} {L rest:List Oper} {args first cap vs cs ds:List V} {a b i c k id n d off j g mQ k' q:Nat} {Hs:Nat→H} {early:Nat→Option (Nat×FV)} {Fl:Nat→Prop} {vv:Nat→V} {o':Obj} {o:Oper} {x y:Operand} {P:Program} {φ:Prop} {self:Self} {s s':St} {α:Type} {td:TypeDesc} {t t' e kt et:TypeId} {r u z:V} {yl:V→H→Prop} {w₀:World}
theorem QM {a b:IntKind}(h:ikBeq a b=true): a=b:=by cases a<;>cases b<;>first|rfl|(simp[ikBeq] at h)
theorem ug {a b:Int}(h:intBeq a b=true): a=b:=by
 cases a<;>cases b<;>simp[intBeq] at h<;>rw[h]
theorem Cd : ∀ {a b:List Nat},natsBeq a b=true→a=b
 |[],[],_=>rfl
 |[],_::_,h=>by simp[natsBeq] at h
 |_::_,[],h=>by simp[natsBeq] at h
 |x::a,y::b,h=>by
  simp only[natsBeq] at h
  cases I:Nat.beq x y with
  |false=>grind
  |true=>rw[I,ah] at h;rw[beq_iff.1 I,Cd h]
theorem NK {a b:Cap}(h:a.beq b=true): a=b:=by
 cases a<;>cases b<;>simp[Cap.beq] at h
 ·rw[h]
 ·grind
mutual
theorem DW : ∀(a b:V),V.beq a b=true→a=b
 |.bool a,b,h=>by cases b<;>simp[V.beq] at h;rw[h]
 |.int j a,b,h=>by
  cases b<;>simp[V.beq] at h
  rw[QM h.1,ug h.2]
 |.str a,b,h=>by cases b<;>simp[V.beq] at h;rw[Cd h]
 |.aZ,b,h=>by cases b<;>simp[V.beq] at h;rfl
 |.ptr x y,b,h=>by cases b<;>simp[V.beq] at h;rw[h.1,h.2]
 |.aV,b,h=>by cases b<;>simp[V.beq] at h;rfl
 |.sl x y z u,b,h=>by
  cases b<;>simp[V.beq] at h
  rw[h.1.1.1,h.1.1.2,h.1.2,NK h.2]
 |.jN,b,h=>by cases b<;>simp[V.beq] at h;rfl
 |.map x,b,h=>by cases b<;>simp[V.beq] at h;rw[h]
 |.fn f x y,b,h=>by
  cases f with
  |func k=>cases b with
   |fn g u v=>cases g with
    |func j =>
     simp[V.beq] at h
     rw[h.1.1,tB x u h.1.2,tB y v h.2]
    |_=>simp[V.beq] at h
   |_=>simp[V.beq] at h
  |_=>cases b<;>simp[V.beq] at h
 |.EF,b,h=>by cases b<;>simp[V.beq] at h;rfl
 |.iface t v,b,h=>by
  cases b<;>simp[V.beq] at h
  rw[h.1,DW v _ h.2]
 |.iP,b,h=>by cases b<;>simp[V.beq] at h;rfl
 |.agg l,b,h=>by cases b<;>simp[V.beq] at h;rw[tB l _ h]
 |.aO l,b,h=>by cases b<;>simp[V.beq] at h;rw[tB l _ h]
 |.BT _,b,h=>by cases b<;>simp[V.beq] at h
 |.sle a,b,h=>by cases b<;>simp[V.beq] at h;rw[h]
 |.tf k x,b,h=>by
  cases b with
  |tf j y =>
   simp[V.beq] at h
   rw[h.2]
   cases k<;>cases j<;>first|rfl|(simp[fkBeq] at h)
  |_=>simp[V.beq] at h
theorem tB : ∀(a b:List V),V.beqL a b=true→a=b
 |[],b,h=>by cases b<;>simp[V.beqL] at h;rfl
 |x::a,b,h=>by
  cases b with
  |nil=>simp[V.beqL] at h
  |cons y b =>
   simp only[V.beqL] at h
   cases I:V.beq x y with
   |false=>rw[I] at h;cases h
   |true=>rw[I,ah] at h;rw[DW x y I,tB a b h]
end
theorem DX {m:Nat}: ∀(es:List Nat),(∀idx p,idx<kO m es→es[idx]?=some p→bit m p=true)∧kO m es≤es.length:=by
 intro es
 induction es<;>grind[kO]
theorem QN {m:Nat}: ∀(es:List Nat),pI m es=true→∀(I J p q:Nat),I≤J→es[I]?=some p→es[J]?=some q→bit m q=true→bit m p=true:=by
 intro es
 induction es<;>grind[pI]
theorem Ke : ∀(es:List Nat),nU d_ i es≤es.length∧∀p,es[nU d_ i es]?=some p→bit ((nth d_ p).getD 0) i=true:=by
 intro es
 induction es<;>grind[nU]
section
theorem NL {x:Env×V}: ∀(l:List H),sameIn C self L o x l=true→wantedV L x.1 o=true→∀h∈l,∃h',evOp C self x.1 h o=some (x.2,h'):=by
 intro l
 induction l with
 |nil=>simp
 |cons y l I =>
  intro hs hw h hm
  simp only[sameIn,hw,ah] at hs
  cases he:evOp C self x.1 y o with
  |none=>grind
  |some r =>
   grind[DW]
theorem ES : ∀(l:List Oper) (tr:List (Env×V)) (k:Nat),stayOk C self L d_ es hs l tr k=true →
  ∀j o x,l[j]?=some o→tr[j]?=some x→isEff C o.op=false →
   pI ((nth d_ (k+j)).getD 0) es=true∧(kO ((nth d_ (k+j)).getD 0) es=nU d_ (k+j) es ∨
    sameIn C self L o x ((hs.drop (kO ((nth d_ (k+j)).getD 0) es)).take (nU d_ (k+j) es+1-kO ((nth d_ (k+j)).getD 0) es))=true):=by
 intro l
 induction l with
 |nil=>simp
 |cons y l I =>
  intro tr k h j o x ho J he
  cases tr with
  |nil=>grind
  |cons z tr =>
   simp only[stayOk] at h
   cases j<;>grind[beq_iff]
theorem Ut {ops:List Oper}: ∀(l:List Oper) (tr:List (Env×V)),allW ops l tr=true→∀(i:Nat) (o:Oper) (x:Env×V),l[i]?=some o→tr[i]?=some x→isAlloc true o=true→wantedV ops x.1 o=true:=by
 intro l
 induction l with
 |nil=>simp
 |cons y l I =>
  intro tr h i o x ho J ha
  cases tr<;>grind[allW]
theorem FW (h:isAlloc false o=true): isAlloc true o=true∧o.guard=none:=by
 grind[isAlloc]
theorem QO {z:St}(hr:pJ C self L s=some z):
    ∃Fl st vv Hs,gN C self Fl L s st vv (ej C L 0) Hs∧st L.length=z∧L.all (fun o => !Gv o.op)=true:=by
  unfold pJ at hr
  cases htr:trace C self L L s [s.h] with
  |none=>grind
  |some q =>
      obtain⟨tr,hs,z'⟩:=q
      simp only[htr] at hr
      cases J:stayOk C self L (ancs L []) (ej C L 0) hs L tr 0 with
      |false=>grind
      |true =>
        rw[J,ah] at hr
        obtain⟨fl,fW,hW,hr⟩:∃fl,oC C fl L=true∧(∀(i:Nat) (o:Oper) (x:Env×V),L[i]?=some o→tr[i]?=some x→isAlloc fl o=true→isAlloc true o=true∧wantedV L x.1 o=true)∧z'=z:=by
          cases h0:oC C false L with
          |true =>
            rw[h0,ah] at hr
            refine⟨false,h0,fun i o x _ _ ha => ?_,b6 hr⟩<;>grind[FW,wantedV]
          |false =>
            grind[Ut]
        subst hr
        simp only[oC,bK] at fW
        obtain⟨⟨⟨s1,s2⟩,s3⟩,s4⟩:=fW
        obtain⟨st,t1,t2,t3,t4,t5⟩:=QK L 0 s [s.h] tr hs z' htr
        simp only[gd] at t2 t5
        have Tr:∀i o,L[i]?=some o→∀e∈o.after,fT e=true→e.on<i:=fun i o ho e he hb=>by
          have:=GQ L 0 s1 i o ho e he hb;omega
        have aci:∀i o,L[i]?=some o→∀j,bit ((nth (ancs L []) i).getD 0) j=true→j<i:=fun i o ho j hj =>
          (GP Tr (fun _=>True) i o ho (fun _ _ _ _ _ _ _ _=>trivial) (fun _ _ _=>trivial) j hj).2
        have I:=(yh (C:=C) L 0).1
        have J7:∀p,p∈ej C L 0↔∃o,L[p]?=some o∧isEff C o.op=true:=fun p=>by
          grind[NF]
        have hHs:∀k p,(ej C L 0)[k]?=some p→hs[k+1]?=some (st (p+1)).h:=fun k p hp=>by
          grind
        have hH0:hs[0]?=some s.h:=by grind
        have ab4:hs.length=(ej C L 0).length+1:=by grind
        have sr:∀i o,L[i]?=some o→∃h,(st i).put o.dst (((tr[i]?).map (·.2)).getD bW) h=some (st (i+1)) ∧
            (wantedV L (st i).env o=true→evOp C self (st i).env (st i).h o=some (((tr[i]?).map (·.2)).getD bW,h))∧(wantedV L (st i).env o=false→((tr[i]?).map (·.2)).getD bW=bW∧h=(st i).h):=fun i o ho=>by
          grind
        -- all but 'same'; it is wanted for 'heapAt'
        have acj:(∀i o,L[i]?=some o→isEff C o.op=false→∀k,k≤(ej C L 0).length→(∀idx p,idx<k→(ej C L 0)[idx]?=some p→bit ((nth (ancs L []) p).getD 0) i=false) →
              (∀idx p,k≤idx→(ej C L 0)[idx]?=some p→bit ((nth (ancs L []) i).getD 0) p=false) →
              wantedV L (st i).env o=true→∃h',evOp C self (st i).env ((hs[k]?).getD s.h) o=some (((tr[i]?).map (·.2)).getD bW,h')) →
            gN C self (fun i=>∃o,L[i]?=some o∧isAlloc fl o=true) L s st (fun i=>((tr[i]?).map (·.2)).getD bW) (ej C L 0) (fun k=>(hs[k]?).getD s.h):=fun Lj =>
          { back:=Tr
            Lt:=fun j o ho i x hi hx=>by
              have:=Lr L 0 s2 j o ho i x (by omega) hx
              grind
            Ak:=fun i o ho ⟨o',EO,ha⟩=>by
              grind
            NH:=fun i o ho ⟨o',EO,ha⟩ j u hu cJ=>by
              rw[ho] at EO
              obtain rfl:=b6 EO
              rcases Jh L 0 s3 i o ho ha j u hu (by omega) with h|h<;>grind[NG]
            rD:=J7
            sorted:=I
            start:=t1
            step:=sr
            Lu:=by grind
            B9:=fun k p hp=>by grind
            gap:=fun i o ho he=>by
              obtain⟨v,h,e1,_⟩:=t5 i o ho
              have:=(ES L tr 0 J i o _ ho e1 he).1
              grind[QN]
            same:=Lj }
        refine⟨_,st,_,_,acj ?_,t2,s4⟩
        intro i o ho he k hk h1 h2 hw
        obtain⟨v,h,e1,e2,e3,e4⟩:=t5 i o ho
        obtain⟨g1,g2⟩:=ES L tr 0 J i o _ ho e1 he
        simp only[gd] at g1 g2
        have aaA:kO ((nth (ancs L []) i).getD 0) (ej C L 0)≤k:=vn fun cJ=>by
          obtain⟨p,hp⟩:∃p,(ej C L 0)[k]?=some p:=⟨_,bw (by have:=(DX (m:=(nth (ancs L []) i).getD 0) (ej C L 0)).2;omega)⟩<;>grind[DX]
        have ack:k≤nU (ancs L []) i (ej C L 0):=vn fun cJ=>by
          grind[Ke]
        have QA:((tr[i]?).map (·.2)).getD bW=v:=by grind
        rw[QA]
        rcases g2 with g2|g2
        · -- its place is known
          have Tk:(st i).h=(hs[k]?).getD s.h:=by
            have xA:k=nU (ancs L []) i (ej C L 0):=by omega
            have cJ:∀idx p,idx<k→(ej C L 0)[idx]?=some p→p<i:=fun idx p cJ hp=>by
              grind[DX]
            have WJ:∀idx p,k≤idx→(ej C L 0)[idx]?=some p→i≤p:=fun idx p hle hp=>by
              obtain⟨q,hq⟩:∃q,(ej C L 0)[k]?=some q:=⟨_,bw (by grind)⟩
              have hb:=(Ke (d_:=ancs L []) (i:=i) (ej C L 0)).2 q (by grind)
              obtain⟨x,hx,_⟩:=(J7 q).1 (bJ hq)<;>grind[List.pairwise_iff_getElem]
            exact B_ (Hs:=fun k=>(hs[k]?).getD s.h) sr (fun p=>J7 p) I t1 (by grind) (fun k p hp=>by grind) i k (by grind) hk cJ WJ
          rw[←Tk]
          exact⟨h,e3 hw⟩
        · have hm:(hs[k]?).getD s.h∈(hs.drop (kO ((nth (ancs L []) i).getD 0) (ej C L 0))).take (nU (ancs L []) i (ej C L 0)+1-kO ((nth (ancs L []) i).getD 0) (ej C L 0)):=by
            have aaB:k<hs.length:=by omega
            refine bJ (i:=k-kO ((nth (ancs L []) i).getD 0) (ej C L 0)) ?_
            rw[Dv,aC (by omega),zX,Nat.add_sub_cancel' aaA,bw aaB]
            simp
          exact NL _ g2 hw _ hm
theorem Uu {S:Nat→Prop}(hb:∀i o,L[i]?=some o→∀e∈o.after,fT e=true→e.on<i)(I:∀i o,¬ kX L S i o): ∀i,i<L.length→S i:=by
 intro i
 induction i using Nat.strongRecOn with
 |_ i ih =>
  intro hi
  refine J2 fun J => ?_
  refine I i L[i] ⟨bw hi,J,fun e he Ts => ?_⟩<;>grind
theorem gy.done {st:Nat→St}{c:Ctx}{w:World}{S:Nat→Prop}{a:Act}
 (D:gN C self Fl L s st vv es Hs)(I:gy C self Fl L s st vv es Hs c₀ w₀ d₀ S early k c a w)(j8:∀p,es[k]?=some p→¬ S p)(pL:∀i,i<L.length→S i):
  Rel c (st L.length).h w∧cX c (st L.length).env (st L.length).ak a:=by
 have cJ:∀p∈es,p<L.length:=fun p J=>by
  obtain⟨o,ho,_⟩:=(D.rD p).1 J<;>grind
 have abN:∀p,early p=none:=fun p=>by
  cases h:early p with
  |none=>rfl
  |some b =>
   obtain⟨_,idx,h1,h2⟩:=I.sU p b h<;>grind
 refine⟨?_,?_⟩
 ·rw[D.GR L.length k (aQ _) I.J9 (fun idx p _ J=>cJ p (bJ J)) (fun idx p hle J=>by grind)]
  exact I.rel
 ·have hv:∀t,a.tmps.getD t undef=conc c ((st L.length).env.v t)∧wf c ((st L.length).env.v t):=fun t=>by
   rcases I.tmp t with⟨i,o,g1,g2,g3,g4,g5⟩|⟨g1,g2,g3⟩
   ·have:(st L.length).env.v t=vv i:=by
     rcases D.F8 t L.length (aQ _) with⟨j,oj,h1,h2,h3,h4,h5⟩|⟨h1,_⟩<;>grind
    rcases g5 with⟨b,e1,_⟩|⟨_,e2,e3⟩
    ·grind
    ·grind
   ·have:(st L.length).env.v t=s.env.v t:=by
     rcases D.F8 t L.length (aQ _) with⟨j,oj,h1,h2,h3,h4,h5⟩|⟨_,h⟩<;>grind
    rw[this];exact⟨g2,g3⟩
  exact⟨by rw[I.size,D.ak L.length (aQ _)],fun t=>(hv t).1,fun t=>(hv t).2⟩
theorem gy.congr {st:Nat→St}{c:Ctx}{w:World}{S S':Nat→Prop}{a:Act}
 (I:gy C self Fl L s st vv es Hs c₀ w₀ d₀ S early k c a w)(h:∀j,S j↔S' j): gy C self Fl L s st vv es Hs c₀ w₀ d₀ S' early k c a w:=by
 have:S=S':=funext fun j=>propext (h j)
 rw[←this];exact I
theorem QS (hS:ij C.P self)(hT:ep C){r:Option Nat}(hL:ops.toList=L){Q:Exit→Act→World→Prop}{st:Nat→St}(D:gN C self Fl L s st vv es Hs)
 (hQ:∀c a w,Rel c (st L.length).h w→cX c (st L.length).env (st L.length).ak a→bZ c₀ w₀ c w→a.defers=d₀→Q .normal a w):
  ∀(fuel:Nat) (J:Array Bool) (early:Nat→Option (Nat×FV)) (k:Nat) (c:Ctx) (a:Act) (w:World),J.size=L.length→J.count false≤fuel →
   gy C self Fl L s st vv es Hs c₀ w₀ d₀ (fun j=>J.getD j false=true) early k c a w→wpAnyIn (Fr r) 0 C.P .any ops Q fuel J a w:=by
 intro fuel
 induction fuel with
 |zero =>
  intro J early k c a w eH aaC I
  have pL:∀i,i<L.length→J.getD i false=true:=fun i hi=>by
   have h0:J.count false=0:=by omega
   have:false∉J:=Array.count_eq_zero.1 h0
   rw[vb,Dr (by omega)]
   grind
  obtain⟨mP,k',c',I',j8⟩:=gy.ER D (es.length-k) k early c rfl I
  obtain⟨r1,r2⟩:=I'.done D j8 pL
  refine⟨?_,hQ c' a w r1 r2 I'.J_ I'.defers⟩
  refine List.eq_nil_iff_forall_not_mem.2 fun j hj => ?_
  obtain⟨h1,o,h2,_⟩:=mem_ready.1 hj
  have cJ:j<L.length:=by grind
  have h3:=pL j cJ
  rw[vb,Dr (by omega)] at h1 h3
  simp at h1 h3
  rw[h1] at h3;cases h3
 |succ fuel ih =>
  intro J early k c a w eH aaC I
  obtain⟨mP,k',c',I',j8⟩:=gy.ER D (es.length-k) k early c rfl I
  have WM:∀j,j∈Region.ready .any ops J↔∃o,kX L (fun j=>J.getD j false=true) j o:=fun j=>by
   rw[mem_ready]
   constructor
   ·rintro⟨h1,o,h2,h3⟩
    refine⟨o,by grind,fun h4 => ?_,fun e he hb=>h3 e he ?_⟩
    ·grind
    ·rw[←hb];cases e;rename_i on g;cases g<;>rfl
   ·rintro⟨o,R⟩
    have h2:=R.at_
    rw[←hL,kY] at h2
    refine⟨?_,o,h2,fun e he hb=>R.Lx e he ?_⟩
    ·have cJ:j<J.size:=by grind
     have h4:=R.not
     grind
    ·rw[←hb];cases e;rename_i on g;cases g<;>rfl
  refine⟨fun GN => ?_,fun i hi => ?_⟩
  ·have pL:=Uu (S:=fun j=>J.getD j false=true) D.back (fun i o R=>by
    grind)
   obtain⟨r1,r2⟩:=I'.done D j8 pL
   exact hQ c' a w r1 r2 I'.J_ I'.defers
  ·obtain⟨o,R⟩:=(WM i).1 hi
   have cJ:i<J.size:=by rw[eH];exact(List.getElem?_eq_some_iff.1 R.at_).1
   have abO:J[i]=false:=by
    have:=R.not
    rw[vb,Dr cJ] at this
    simpa using this
   refine I'.WH hS hT hL D j8 R ?_
   intro Uv k'' r8 yf yg I''
   refine ih (J.setIfInBounds i true) Uv k'' r8 yf yg (by grind) ?_ (I''.congr fun j => ?_)
   ·grind
   ·by_cases A6:j=i
    ·subst A6
     simp[vb,cJ]
    simp_all[jL]
theorem NM (hS:ij C.P self)(hT:ep C)(hm:C.P.follows .mixedOrders=true){r:Option Nat}(hr:pJ C self ops.toList s=some s'){Q:Exit→Act→World→Prop}{c:Ctx}{a:Act}{w:World}(h:Rel c s.h w)(he:cX c s.env s.ak a)
 (hQ:∀c' J w',Rel c' s'.h w'→cX c' s'.env s'.ak J→bZ c w c' w'→J.defers=a.defers→Q .normal J w'):
  (Code.region id ops true).wpIn (Fr r) 0 C.P Q a w:=by
 obtain⟨Fl,st,vv,Hs,D,hz,_⟩:=QO hr
 refine wpIn_region_any hm ?_
 have aaD:bZ c w c { w with drawn:=w.drawn+1 }:=bZ.drew c w
 have pK:Rel c s.h { w with drawn:=w.drawn+1 }:=h.drew
 refine QS hS hT rfl D (c₀:=c) (w₀:=w) (d₀:=a.defers) (fun c' J w' r1 r2 r3 r4=>hQ c' J w' (by grind) (by grind) r3 r4)
  ops.size (Array.replicate ops.size false) (fun _=>none) 0 c a _ (by simp) (by simp) ?_
 have I:∀j,¬ (Array.replicate ops.size false).getD j false=true:=fun j=>by
  rw[vb,Array.getElem?_replicate];split<;>simp
 refine⟨fun i o hi=>absurd hi (I i),fun idx p h=>by omega,gR _,fun idx p _ _ hp=>absurd hp (I p),(fun p b h=>by cases h),(by rw[D.Lu];exact pK),he.size,
  fun t=>.inr ⟨fun j o hj=>absurd hj (I j),he.val t,he.ry t⟩,(fun p b h=>by cases h),(fun p q b b' h=>by cases h),aaD,rfl⟩
end
end Go.Proofs.YtiojppeahfoiaaaGreat.Am
namespace Go.Proofs.YtiojppeahfoiaaaGreat.Am
open Go
variable {ps:Array (Nat×Operand)} {ops:Array Oper} {st:Bool} {C:eO} {code:Code} {c₀:Ctx} {env:Env} {Q:Ex→List (Nat×V)→H→Prop} {fn:Func} {f:FuncId} {h h' σ h₁ cV:H} {κ:IntKind} {E E':List (Nat×V)} {R:List (Nat×V)→H→Prop} {d₀:List Deferred} {hs:List H} {d_ es l:List Nat} {L rest:List Oper} {args first cap vs cs ds:List V} {a b i c k id n d off j g mQ k' q:Nat} {Hs:Nat→H} {early:Nat→Option (Nat×FV)} {Fl:Nat→Prop} {vv:Nat→V} {o':Obj} {o:Oper} {x y:Operand} {P:Program} {φ:Prop} {self:Self} {s s':St} {α:Type} {td:TypeDesc} {t t' e kt et:TypeId} {r u z:V} {yl:V→H→Prop} {w₀:World}
section
variable {b:Frame} {a:Act} {k:List Item} {cs:List Frame} {w:World}
theorem nZ {c:Code}: step P (lone (b.atR a (.code (.scope c)::k)) cs w)=.next (lone (b.atR a (.code c::.inScope c::k)) cs w) :=
 by rfl
theorem FX {c:Code}: step P (lone (b.atR a (.inScope c::k)) cs w)=.next (lone (b.atR a k) cs w) :=
 by rfl
end
theorem Lz {r:Option Nat}{c:Code}{Q:Exit→Act→World→Prop}{a:Act}{w:World}(h:c.wpIn (Fr r) 0 P (Exit.noGoto Q) a w): (Code.scope c).wpIn (Fr r) 0 P Q a w:=by
 intro b k cs WN hb hr
 obtain⟨e,J,rC,hq,I⟩:=h b (.inScope c::k) cs WN hb hr
 cases e with
 |normal=>exact⟨.normal,J,rC,hq,.of_steps (.one (fenced_calm hb hr rfl) nZ) (StepsIn.trans I (.one (fenced_calm hb hr rfl) FX))⟩
 |exit id=>exact⟨.exit id,J,rC,hq,.of_steps (.one (fenced_calm hb hr rfl) nZ) ⟨fun k' hk=>I.1 k' (by simpa[exitTo] using hk),fun hr hk=>I.2 hr (by simpa[exitTo] using hk)⟩⟩
 |goto l=>exact hq.elim
 |ret=>exact⟨_,J,rC,hq,.of_steps (.one (fenced_calm hb hr rfl) nZ) I⟩
 |panic ch=>exact⟨_,J,rC,hq,.of_steps (.one (fenced_calm hb hr rfl) nZ) I⟩
 |outgrown=>exact⟨_,J,rC,hq,.of_steps (.one (fenced_calm hb hr rfl) nZ) I⟩
def Ce (P:Program)(self:Self)(m:Nat): Prop:=∀(b:Code) (s:St) (ex:Ex) (s':St),self (.loop b) s=some (ex,s') →
 ∀(r:Option Nat) (c:Ctx) (a:Act) (w:World) (Q:Exit→Act→World→Prop),Rel c s.h w→cX c s.env s.ak a →
  (∀e I w',(e=exOf ex∧I.defers=a.defers∧∃c',Rel c' s'.h w'∧cX c' s'.env s'.ak I∧bZ c w c' w')→Q e I w')→Code.roundsIn (Fr r) 0 P b Q m a w
section
theorem A7 {m:Nat}(hS:ij C.P self)(hL:Ce C.P self m): Ce C.P (evStep C self) (m+1):=by
 intro b s ex s' hr r c a w Q h he hQ
 unfold evStep at hr
 simp only at hr
 cases hb:self b s with
 |none=>grind
 |some q =>
  obtain⟨I,J⟩:=q
  rw[hb] at hr
  refine wpIn_mono (hS b s I J hb r c a w h he) ?_
  rintro e AS rC ⟨rfl,q2,c₁,q3,q4,q5⟩
  cases I with
  |normal =>
   refine hL b J ex s' hr r c₁ AS rC Q q3 q4 ?_
   rintro B5 FU Wu ⟨p1,p2,c₂,p3,p4,p5⟩
   exact hQ _ _ _ ⟨p1,by grind,c₂,p3,p4,q5.trans p5⟩
  |exit i =>
   obtain⟨rfl,rfl⟩:=hr
   exact hQ _ _ _ ⟨rfl,q2,c₁,q3,q4,q5⟩
  |ret =>
   obtain⟨rfl,rfl⟩:=hr
   exact hQ _ _ _ ⟨rfl,q2,c₁,q3,q4,q5⟩
theorem NN {m:Nat}(hm:C.P.follows .mixedOrders=true)(hT:ep C)(hS:ij C.P self)(hL:Ce C.P self m): ij C.P (evStep C self):=by
 intro code s ex s' I r c a w h he
 have same:∀ {ex:Ex} {s':St},(Ex.normal,s)=(ex,s')→exOf ex=.normal∧s'=s:=fun e=>by cases e;exact⟨rfl,rfl⟩
 cases code with
 |skip =>
  simp only[evStep,ay,bz] at I
  obtain⟨rfl,rfl⟩:=I
  exact wpIn_skip ⟨rfl,rfl,c,h,he,bZ.refl c w⟩
 |label l =>
  simp only[evStep,ay,bz] at I
  obtain⟨rfl,rfl⟩:=I
  exact wpIn_label ⟨rfl,rfl,c,h,he,bZ.refl c w⟩
 |region id ops draw =>
  unfold evStep at I
  simp only at I
  cases draw with
  |true =>
   rw[ah] at I
   cases hd:pJ C self ops.toList s with
   |none=>simp[hd] at I
   |some J =>
    simp only[hd,ay,bz] at I
    obtain⟨rfl,rfl⟩:=I
    exact NM hS hT hm hd h he fun c' a' w' r1 r2 r3 r4=>⟨rfl,r4,c',r1,r2,r3⟩
  |false =>
   rw[aL] at I
   cases hd:evOps C self ops.toList ops.toList s with
   |none=>simp[hd] at I
   |some J =>
    simp only[hd,ay,bz] at I
    obtain⟨rfl,rfl⟩:=I
    refine wpIn_region ?_
    rw[Dt,←zU]
    exact QH hS hT ops.toList 0 s J c a w (fun j=>by rw[gd,kY]) hd h he fun c' a' w' r1 r2 r3 r4=>⟨rfl,r4,c',r1,r2,r3⟩
 |seq x y =>
  unfold evStep at I
  simp only at I
  cases hx:self x s with
  |none=>rw[hx] at I;simp at I
  |some r =>
   obtain⟨ET,J⟩:=r
   rw[hx] at I
   refine wpIn_seq (wpIn_mono (hS x s ET J hx r c a w h he) ?_)
   rintro e AS rC ⟨rfl,q2,c₁,q3,q4,q5⟩
   cases ET with
   |normal =>
    simp only at I
    refine wpIn_mono (hS y J ex s' I r c₁ AS rC q3 q4) ?_
    rintro e FU Wu ⟨rfl,p2,c₂,p3,p4,p5⟩
    exact⟨rfl,by rw[p2,q2],c₂,p3,p4,q5.trans p5⟩
   |exit i =>
    simp only[ay,bz] at I
    obtain⟨rfl,rfl⟩:=I
    exact⟨rfl,q2,c₁,q3,q4,q5⟩
   |ret =>
    simp only[ay,bz] at I
    obtain⟨rfl,rfl⟩:=I
    exact⟨rfl,q2,c₁,q3,q4,q5⟩
 |cond x y z =>
  unfold evStep at I
  simp only at I
  split at I
  ·rename_i t hx
   obtain⟨e1,_⟩:=vG he hx
   refine wpIn_cond (t:=t) (by rw[e1];rfl) ?_
   have:=hS (cond t y z) s ex s' I r c a w h he
   cases t<;>simpa using this
  ·cases I
 |block id b =>
  unfold evStep at I
  simp only at I
  cases hb:self b s with
  |none=>rw[hb] at I;simp at I
  |some r =>
   obtain⟨ET,J⟩:=r
   rw[hb] at I
   refine wpIn_block (wpIn_mono (hS b s ET J hb r c a w h he) ?_)
   rintro e AS rC ⟨rfl,q2,c₁,q3,q4,q5⟩
   cases ET with
   |normal =>
    simp only[ay,bz] at I
    obtain⟨rfl,rfl⟩:=I
    simp only[exOf,Exit.inBlock]
    exact⟨aa,q2,c₁,q3,q4,q5⟩
   |exit i =>
    simp only at I
    by_cases hi:i=id
    ·rw[rV hi,ah] at I
     simp only[ay,bz] at I
     obtain⟨rfl,rfl⟩:=I
     simp only[exOf,Exit.inBlock,hi,cA]
     exact⟨aa,q2,c₁,q3,q4,q5⟩
    ·rw[eD hi,aL] at I
     simp only[ay,bz] at I
     obtain⟨rfl,rfl⟩:=I
     simp only[exOf,Exit.inBlock,hi,fb]
     exact⟨aa,q2,c₁,q3,q4,q5⟩
   |ret =>
    simp only[ay,bz] at I
    obtain⟨rfl,rfl⟩:=I
    simp only[exOf,Exit.inBlock]
    exact⟨aa,q2,c₁,q3,q4,q5⟩
 |loop b =>
  exact wpIn_loop_rounds (m+1) (A7 hS hL b s ex s' I r c a w _ h he (fun _ _ _ hq=>hq))
 |exit id =>
  simp only[evStep,ay,bz] at I
  obtain⟨rfl,rfl⟩:=I
  exact wpIn_exit ⟨rfl,rfl,c,h,he,bZ.refl c w⟩
 |scope b =>
  unfold evStep at I
  simp only at I
  refine Lz (wpIn_mono (hS b s ex s' I r c a w h he) ?_)
  rintro e AS rC ⟨rfl,q2,c₁,q3,q4,q5⟩
  cases ex<;>exact⟨rfl,q2,c₁,q3,q4,q5⟩
 |ret =>
  simp only[evStep,ay,bz] at I
  obtain⟨rfl,rfl⟩:=I
  exact wpIn_ret ⟨rfl,rfl,c,h,he,bZ.refl c w⟩
 |_=>simp[evStep] at I
theorem ym (hm:C.P.follows .mixedOrders=true)(J:ep C): ∀n,ij C.P (ev C n)∧Ce C.P (ev C n) n:=by
 intro n
 induction n with
 |zero=>exact⟨fun _ _ _ _ h=>by simp[ev] at h,fun _ _ _ _ h=>by simp[ev] at h⟩
 |succ n I=>exact⟨NN hm J I.1 I.2,A7 I.1 I.2⟩
theorem wM (hm:C.P.follows .mixedOrders=true)(I:ep C)(n:Nat): GI C.P (ev C n)∧True:=⟨(ym hm I n).1.wide,aa⟩
theorem GV (hm:C.P.follows .mixedOrders=true)(J:ep C){v:V}(hr:run C n f args h=some (v,h')){c:Ctx}{w:World}
 (I:Rel c h w)(hw:∀x∈args,wf c x): eo C.P f args c w v h' :=
 (callF_ok (wM hm J n).1 J hr I hw).1
theorem Rel.empty (w:World): Rel ⟨fun _=>(0,0),fun _=>0,0,fun _=>false⟩ ⟨0,.lf⟩ w :=
 ⟨rfl,fun id o h=>by simp[T.tg] at h,fun id h=>absurd h (DD _),fun id h=>absurd h (DD _),fun i j o o' h=>by simp[T.tg] at h,fun id o h=>by simp[T.tg] at h,fun id cs st h=>by simp,fun id o h=>by simp⟩
end
def leftC : Code→Code
 |.seq a _=>a
 |c=>c
def cz : Code→Code
 |.seq _ b=>b
 |c=>c
def l8 (f g:Self): Prop:=∀c s r,f c s=some r→g c s=some r
section
variable {f g:Self}
theorem lQ (h : l8 f g) {r : V × H} (I : callF C f k args σ = some r) : callF C g k args σ = some r := by
 unfold callF at I ⊢
 cases J : C.told k with
 | some t => grind
 | none =>
  simp only [J] at I ⊢
  cases hf : C.P.funcs[k]? with
  | none => grind
  | some fn =>
   simp only [hf] at I ⊢
   cases hb : fn.body with
   | none => grind
   | some c =>
    simp only [hb] at I ⊢
    cases hq : (fn.name == "runtime.NumGoroutine" || Nat.blt fn.ntmps args.length) with
    | true => grind
    | false =>
     simp only [hq, aL] at I ⊢
     cases hs : f c ⟨bindArgs args 0 .lf, fn.ntmps, σ⟩ with
     | none => grind
     | some q => rw [h _ _ _ hs]; rw [hs] at I; exact I
theorem Ji (h:l8 f g){r:V×H}(J:roundV f id args σ=some r): roundV g id args σ=some r:=by
 unfold roundV at J ⊢
 cases ho:σ.tr.get id with
 |none=>grind
 |some o =>
  simp only[ho] at J ⊢
  cases o with
  |loop busy ak env ps d_ bd =>
   cases busy with
   |true=>cases J
   |false =>
    cases he:bindPs ak ps args env with
    |none=>grind
    |some e =>
     simp only[he] at J ⊢
     cases h1:f d_ ⟨e,ak,σ⟩ with
     |none=>grind
     |some q =>
      rw[h d_ _ _ h1]
      simp only[h1] at J
      split at J
      ·rename_i QB hq
       split at J
       ·split at J
        ·rename_i Lo I
         rw[h bd _ _ I]
         exact J
        ·rename_i Lo I
         rw[h bd _ _ I]
         exact J
        ·grind
       ·cases J
      ·cases J
  |_=>cases J
theorem lJ (h:l8 f g){r:V×H}(I:evOp C f env σ o=some r): evOp C g env σ o=some r:=by
 unfold evOp at I ⊢
 cases J:o.op<;>simp only[J] at I ⊢<;>try exact I
 rename_i cl
 unfold evCall at I ⊢
 cases ha:evArgs env cl.args.toList with
 |none=>grind
 |some args =>
  cases hc:cl.callee with
  |builtin b=>grind
  |value x =>
   cases hx:evO env x with
   |none=>grind
   |some fv =>
    unfold callV at I ⊢
    grind[lQ,Ji]
  |invoke x m =>
   grind[lQ]
theorem pM (h:l8 f g): ∀(l:List Oper) (s s':St),evOps C f L l s=some s'→evOps C g L l s=some s':=by
 intro l
 induction l with
 |nil=>intro s s' I;exact I
 |cons o l J =>
  intro s s' I
  simp only[evOps] at I ⊢
  cases hw:wantedV L s.env o with
  |true =>
   cases ho:evOp C f s.env s.h o with
   |none=>grind
   |some q =>
    grind[lJ]
  |false =>
   grind
theorem wN (h:l8 f g): ∀(l:List Oper) (s:St) (hs:List H) (r:List (Env×V)×List H×St),trace C f L l s hs=some r→trace C g L l s hs=some r:=by
 intro l
 induction l with
 |nil=>intro s hs r I;exact I
 |cons o l J =>
  intro s hs r I
  simp only[trace] at I ⊢
  have key:∀q,cond (wantedV L s.env o) (evOp C f s.env s.h o) (some (bW,s.h))=some q→cond (wantedV L s.env o) (evOp C g s.env s.h o) (some (bW,s.h))=some q:=by
   grind[lJ]
  cases hc:cond (wantedV L s.env o) (evOp C f s.env s.h o) (some (bW,s.h)) with
  |none=>grind
  |some q =>
   grind
theorem Jj (h:l8 f g){x:Env×V}: ∀(l:List H),sameIn C f L o x l=true→sameIn C g L o x l=true:=by
 intro l
 induction l with
 |nil=>intro I;exact I
 |cons y l J =>
  intro I
  simp only[sameIn] at I ⊢
  cases hw:wantedV L x.1 o with
  |false=>simp
  |true =>
   cases ho:evOp C f x.1 y o with
   |none=>grind
   |some q =>
    grind[lJ]
theorem Jk (h:l8 f g): ∀(l:List Oper) (tr:List (Env×V)) (i:Nat),stayOk C f L d_ es hs l tr i=true→stayOk C g L d_ es hs l tr i=true:=by
 intro l
 induction l with
 |nil=>intro tr i I;cases tr<;>exact I
 |cons o l J =>
  intro tr i I
  cases tr<;>grind[stayOk,Jj]
theorem Jl (h:l8 f g)(I:pJ C f L s=some s'): pJ C g L s=some s':=by
 grind[pJ,wN,Jk]
theorem Jm (h:l8 f g): l8 (evStep C f) (evStep C g):=by
 intro c s r I
 cases c with
 |region id ops draw =>
  grind[evStep,Jl,pM]
 |seq a b =>
  simp only[evStep] at I ⊢
  cases J:f a s with
  |none=>grind
  |some q =>
   obtain⟨ex,s1⟩:=q
   rw[h _ _ _ J]
   rw[J] at I
   cases ex with
   |normal=>exact h _ _ _ I
   |exit i=>exact I
   |ret=>exact I
 |cond x a b =>
  simp only[evStep] at I ⊢
  split at I
  ·exact h _ _ _ I
  ·cases I
 |block id b =>
  simp only[evStep] at I ⊢
  cases J:f b s with
  |none=>grind
  |some q=>rw[h _ _ _ J];rw[J] at I;exact I
 |loop b =>
  simp only[evStep] at I ⊢
  cases J:f b s with
  |none=>grind
  |some q =>
   obtain⟨ex,s1⟩:=q
   rw[h _ _ _ J]
   rw[J] at I
   cases ex with
   |normal=>exact h _ _ _ I
   |exit i=>exact I
   |ret=>exact I
 |scope b=>exact h _ _ _ I
 |_=>exact I
theorem LA : ∀n,l8 (ev C n) (ev C (n+1)):=by
 intro n
 induction n with
 |zero=>intro c s r I;cases I
 |succ n J=>exact Jm J
theorem dI {m:Nat}(hle:n≤m): l8 (ev C n) (ev C m):=by
 induction hle with
 |refl=>intro c s r I;exact I
 |step _ J=>intro c s r I;exact LA _ c s r (J c s r I)
end
def look : List (Nat×V)→Nat→Option V
 |[],_=>none
 |x::E,k=>cond (Nat.beq x.1 k) (some x.2) (look E k)
def iz (env:Env)(E:List (Nat×V)): Prop:=∀t v,look E t=some v→T.get env t=some v
theorem iz.set (h:iz env E)(d:Nat)(v:V): iz (env.set d (some v)) ((d,v)::E):=by
 intro t u I
 simp only[look] at I
 rw[aR]
 by_cases hd:d=t
 ·simp_all
 ·rw[eD hd,aL] at I
  rw[aj (fun e=>hd e.symm)]
  exact h t u I
theorem iz.sub (h:iz env E)(hs:∀t v,look E' t=some v→look E t=some v): iz env E':=fun t v I=>h t v (hs t v I)
def bf (E:List (Nat×V)): Operand→Option V
 |.tmp t=>look E t
 |.const c=>ofValue c
 |.global _=>none
 |.func f=>some (.fn (.func f) [] [])
theorem bN (h:iz env E){v:V}(I:bf E x=some v): evO env x=some v:=by
 cases x with
 |tmp t=>simp only[evO,Env.v,h t v I]
 |const c=>exact I
 |global g=>cases I
 |func f=>exact I
def lookArgs (E:List (Nat×V)): List Operand→Option (List V)
 |[]=>some []
 |x::l=>match bf E x with
  |none=>none
  |some v=>match lookArgs E l with
   |none=>none
   |some m=>some (v::m)
theorem mu (h:iz env E): ∀ {l:List Operand} {m:List V},lookArgs E l=some m→evArgs env l=some m:=by
 intro l
 induction l<;>grind[lookArgs,evArgs,bN]
def lookParts (E:List (Nat×V)): List (Nat×Operand)→Option (List (Nat×V))
 |[]=>some []
 |x::l=>match bf E x.2 with
  |none=>none
  |some v=>match lookParts E l with
   |none=>none
   |some m=>some ((x.1,v)::m)
theorem yn (h:iz env E): ∀ {l:List (Nat×Operand)} {m:List (Nat×V)},lookParts E l=some m→evParts env l=some m:=by
 intro l
 induction l<;>grind[lookParts,evParts,bN]
def lookOpt (E:List (Nat×V)): Option Operand→Option (Option V)
 |none=>some none
 |some x=>match bf E x with
  |some v=>some (some v)
  |none=>none
theorem wO (h:iz env E){x:Option Operand}{v:Option V}(I:lookOpt E x=some v): optV env x=some v:=by
 cases x<;>grind[lookOpt,optV,bN]
section
variable (P:Program)
def i_ (E:List (Nat×V))(x:Operand)(g:V→Option (V×H)): Option (V×H):=match bf E x with
 |some v=>g v
 |none=>none
def uh (E:List (Nat×V))(x y:Operand)(g:V→V→Option (V×H)): Option (V×H):=match bf E x with
 |some v=>match bf E y with
  |some u=>g v u
  |none=>none
 |none=>none
noncomputable def opE (E:List (Nat×V))(h:H)(o:Op): Option (V×H):=match o with
 |.move x|.assign x=>i_ E x fun v=>some (v,h)
 |.pick c a b=>i_ E c fun v=>match v with
  |.bool t=>i_ E (cond t a b) fun v=>some (v,h)
  |_=>none
 |.alloc t=>match zeroT P t with
  |some z=>some (.ptr h.next 0,newRow h z.cells)
  |none=>none
 |.box _ x=>i_ E x fun v=>cond (v.cells.all storable) (some (.ptr h.next 0,newRow h v.cells)) none
 |.build t ps=>match lookParts E ps.toList with
  |some l=>bD (buildV P t l) h
  |none=>none
 |.buildSlice t n ps=>match lookParts E ps.toList with
  |some l=>buildSliceV P h t n l
  |none=>none
 |.load t a=>i_ E a fun v=>bD (loadV P h t v) h
 |.store t a x=>uh E a x fun p v=>t_ (fB P h t p v)
 |.nilCheck x=>i_ E x fun v=>match v with
  |.ptr a b=>some (.ptr a b,h)
  |_=>none
 |.binOp op t x y _=>uh E x y fun a b=>bD (binV P h op t x y a b) h
 |.unOp op _ x=>i_ E x fun a=>bD (unV op a) h
 |.convert s d x=>i_ E x fun a=>match convV P h s d a with
   |some r=>some r
   |none=>convB P h s d a
 |.sliceToArrayPointer d x=>i_ E x fun a=>bD (arrPtrV P d a) h
 |.makeInterface t x=>i_ E x fun a=>bD (makeIfaceV P t a) h
 |.makeFunc f a b=>match lookArgs E a.toList with
  |some x=>match lookArgs E b.toList with
   |some y=>some (.fn f x y,h)
   |none=>none
  |none=>none
 |.makeMap _ r=>match r with
  |none=>some (.map h.next,h.new (.map [] 0))
  |some _=>none
 |.makeSlice t l c=>uh E l c fun a b=>makeSliceV P h t a b
 |.slice t x lo hi mx=>i_ E x fun v=>match lookOpt E lo with
  |some a=>match lookOpt E hi with
   |some b=>match lookOpt E mx with
    |some c=>match jO a with
     |some a=>match jO b with
      |some b=>match jO c with
       |some c=>bD (sliceV P h t v a b c) h
       |none=>none
      |none=>none
     |none=>none
    |none=>none
   |none=>none
  |none=>none
 |.fieldAddr t x i=>i_ E x fun v=>bD (fieldAddrV P t v i) h
 |.field t x i=>i_ E x fun v=>bD (rj P t v i) h
 |.indexAddr t x i=>uh E x i fun v j=>bD (indexAddrV P t v j) h
 |.index t x i=>uh E x i fun v j=>bD (indexV P t v j) h
 |.lookup t x k ok=>uh E x k fun m j=>bD (dZ P h t m j ok) h
 |.extract t i=>i_ E t fun v=>match v with
  |.aO l=>bD (nth l i) h
  |_=>none
 |.typeAssert x _ a ok=>i_ E x fun v=>bD (assertV P v a ok) h
 |.call c=>match c.callee with
  |.builtin b=>match lookArgs E c.args.toList with
   |some args=>builtinV P h b c.argTypes args
   |none=>none
  |_=>none
 |_=>none
end
theorem ik {g:V→Option (V×H)}{r:V×H}(h:i_ E x g=some r): ∃v,bf E x=some v∧g v=some r:=by
 grind[i_]
theorem sV {g:V→V→Option (V×H)}{r:V×H}(h:uh E x y g=some r): ∃v u,bf E x=some v∧bf E y=some u∧g v u=some r:=by
 grind[uh]
set_option maxHeartbeats 1000000 in
theorem Cf {r:V×H}(hE:iz env E)(hr:opE C.P E h o.op=some r): evOp C self env h o=some r:=by
 unfold opE at hr
 unfold evOp
 split at hr
 ·rename_i x I;obtain⟨v,h1,J⟩:=ik hr;simp only[I,bN hE h1,bD];exact J
 ·rename_i x I;obtain⟨v,h1,J⟩:=ik hr;simp only[I,bN hE h1,bD];exact J
 ·rename_i c a b I
  obtain⟨v,h1,J⟩:=ik hr
  split at J
  ·rename_i t
   obtain⟨u,h3,h4⟩:=ik J
   simp only[I,bN hE h1,bN hE h3,bD];exact h4
  ·cases J
 ·rename_i t I;simp only[I];exact hr
 ·rename_i t x I;obtain⟨v,h1,J⟩:=ik hr;simp only[I,bN hE h1];exact J
 ·rename_i t ps I
  cases hp:lookParts E ps.toList with
  |none=>simp[hp] at hr
  |some l=>simp only[hp] at hr;simp only[I,yn hE hp];exact hr
 ·rename_i t n ps I
  cases hp:lookParts E ps.toList with
  |none=>simp[hp] at hr
  |some l=>simp only[hp] at hr;simp only[I,yn hE hp];exact hr
 ·rename_i t a I;obtain⟨v,h1,J⟩:=ik hr;simp only[I,bN hE h1];exact J
 ·rename_i t a x I;obtain⟨v,u,h1,J,h3⟩:=sV hr;simp only[I,bN hE h1,bN hE J];exact h3
 ·rename_i x I
  obtain⟨v,h1,J⟩:=ik hr
  split at J
  ·simp only[I,bN hE h1];exact J
  ·cases J
 ·rename_i op t x y u I;obtain⟨v,u,h1,J,h3⟩:=sV hr;simp only[I,bN hE h1,bN hE J];exact h3
 ·rename_i op t x I;obtain⟨v,h1,J⟩:=ik hr;simp only[I,bN hE h1];exact J
 ·rename_i s d x I;obtain⟨v,h1,J⟩:=ik hr;simp only[I,bN hE h1];exact J
 ·rename_i d x I;obtain⟨v,h1,J⟩:=ik hr;simp only[I,bN hE h1];exact J
 ·rename_i t x I;obtain⟨v,h1,J⟩:=ik hr;simp only[I,bN hE h1];exact J
 ·rename_i f a b I
  cases ha:lookArgs E a.toList with
  |none=>simp[ha] at hr
  |some x =>
   cases hb:lookArgs E b.toList with
   |none=>simp[ha,hb] at hr
   |some y=>simp only[ha,hb] at hr;simp only[I,mu hE ha,mu hE hb];exact hr
 ·rename_i t r I
  simp only[I]
  exact hr
 ·rename_i t l c I;obtain⟨v,u,h1,J,h3⟩:=sV hr;simp only[I,bN hE h1,bN hE J];exact h3
 ·rename_i t x lo hi mx I
  obtain⟨v,h1,J⟩:=ik hr
  cases ha:lookOpt E lo with
  |none=>simp[ha] at J
  |some a =>
   cases hb:lookOpt E hi with
   |none=>simp[ha,hb] at J
   |some b =>
    cases hc:lookOpt E mx with
    |none=>simp[ha,hb,hc] at J
    |some c =>
     simp only[ha,hb,hc] at J
     simp only[I,bN hE h1,wO hE ha,wO hE hb,wO hE hc]
     cases pa:jO a with
     |none=>simp[pa] at J
     |some a =>
      cases pb:jO b with
      |none=>simp[pa,pb] at J
      |some b =>
       cases pc:jO c with
       |none=>simp[pa,pb,pc] at J
       |some c=>simp only[pa,pb,pc] at J ⊢;exact J
 ·rename_i t x i I;obtain⟨v,h1,J⟩:=ik hr;simp only[I,bN hE h1];exact J
 ·rename_i t x i I;obtain⟨v,h1,J⟩:=ik hr;simp only[I,bN hE h1];exact J
 ·rename_i t x i I;obtain⟨v,u,h1,J,h3⟩:=sV hr;simp only[I,bN hE h1,bN hE J];exact h3
 ·rename_i t x i I;obtain⟨v,u,h1,J,h3⟩:=sV hr;simp only[I,bN hE h1,bN hE J];exact h3
 ·rename_i t x k ok I;obtain⟨v,u,h1,J,h3⟩:=sV hr;simp only[I,bN hE h1,bN hE J];exact h3
 ·rename_i t i I
  obtain⟨v,h1,J⟩:=ik hr
  split at J
  ·simp only[I,bN hE h1];exact J
  ·cases J
 ·rename_i x t a ok I;obtain⟨v,h1,J⟩:=ik hr;simp only[I,bN hE h1];exact J
 ·rename_i cl I
  split at hr
  ·rename_i b hc
   cases ha:lookArgs E cl.args.toList with
   |none=>simp[ha] at hr
   |some args=>simp only[ha] at hr;simp only[I,evCall,hc,mu hE ha];exact hr
  ·cases hr
 ·cases hr
def fL (C:eO)(f:FuncId)(args:List V)(h:H)(v:V)(h':H): Prop:=∃N,callF C (ev C N) f args h=some (v,h')
def Call (C:eO)(f:FuncId)(args:List V)(h:H)(R:V→H→Prop): Prop:=∃v h',fL C f args h v h'∧R v h'
variable {cl:Go.Call}
theorem Call.mono {R I:V→H→Prop}(J:Call C f args h R)(hr:∀v h',R v h'→I v h'): Call C f args h I:=by
 obtain⟨v,h',h1,h2⟩:=J
 exact⟨v,h',h1,hr v h' h2⟩
theorem fL.told {g:List V→H→Option (V×H)}{v:V}(I:C.told f=some g)(J:C.P.funcs[f]?=some fn)(hb:fn.body.isSome=true)(hr:g args h=some (v,h')): fL C f args h v h':=by
 refine⟨0,?_⟩<;>grind[callF,hasBody]
theorem fL.body {v:V}(hd:fL C f args h v h'): hasBody C.P f=true:=by
 obtain⟨N,I⟩:=hd<;>grind[callF,hasBody]
theorem iD (C:eO)(n:Nat)(c:Code)(s:St): ev C (n+1) c s=evStep C (ev C n) c s:=rfl
def WP (C:eO)(ak:Nat)(code:Code)(E:List (Nat×V))(h:H)(Q:Ex→List (Nat×V)→H→Prop): Prop :=
 ∀env,iz env E→∃N ex I h' E',ev C N code ⟨env,ak,h⟩=some (ex,⟨I,ak,h'⟩)∧iz I E'∧Q ex E' h'
def au (C:eO)(ak:Nat)(L l:List Oper)(E:List (Nat×V))(h:H)(Q:List (Nat×V)→H→Prop): Prop :=
 ∀env,iz env E→∃N I h' E',evOps C (ev C N) L l ⟨env,ak,h⟩=some ⟨I,ak,h'⟩∧iz I E'∧Q E' h'
section
variable {ak:Nat} {l:List Oper}
theorem WP.sub {I:List (Nat×V)}(hs:∀t v,look I t=some v→look E t=some v)(hw:WP C ak code I h Q): WP C ak code E h Q:=fun env J=>hw env (J.sub hs)
theorem WP.skip (I:Q .normal E h): WP C ak .skip E h Q:=fun env J=>⟨1,.normal,env,h,E,rfl,J,I⟩
theorem WP.ret (I:Q .ret E h): WP C ak .ret E h Q:=fun env J=>⟨1,.ret,env,h,E,rfl,J,I⟩
theorem WP.exit (I:Q (.exit i) E h): WP C ak (.exit i) E h Q:=fun env J=>⟨1,.exit i,env,h,E,rfl,J,I⟩
theorem WP.region (hl:ops.toList=l)(hw:au C ak l l E h fun E' h'=>Q .normal E' h'): WP C ak (.region id ops false) E h Q:=by
 intro env J
 obtain⟨N,I,h',E',h1,h2,h3⟩:=hw env J
 refine⟨N+1,.normal,I,h',E',?_,h2,h3⟩<;>grind[iD,evStep]
theorem WP.seq {a b:Code}(hw:WP C ak a E h fun ex E' h'=>match ex with
  |.normal=>WP C ak b E' h' Q
  |ex=>Q ex E' h'): WP C ak (.seq a b) E h Q:=by
 intro env hE
 obtain⟨N,ex,I,h',E',h1,h2,h3⟩:=hw env hE
 cases ex with
 |normal =>
  obtain⟨M,r9,J,NO,E2,g1,g2,g3⟩:=h3 I h2
  refine⟨Nat.max N M+1,r9,J,NO,E2,?_,g2,g3⟩
  rw[iD]
  simp only[evStep,dI (oN N M) _ _ _ h1]
  exact dI (oM N M) _ _ _ g1
 |exit i =>
  refine⟨N+1,.exit i,I,h',E',?_,h2,h3⟩<;>grind[iD,evStep]
 |ret =>
  refine⟨N+1,.ret,I,h',E',?_,h2,h3⟩<;>grind[iD,evStep]
theorem WP.cond {a b:Code}{t:Bool}(hx:bf E x=some (.bool t))(hw:WP C ak (_root_.cond t a b) E h Q): WP C ak (.cond x a b) E h Q:=by
 intro env J
 obtain⟨N,ex,I,h',E',h1,h2,h3⟩:=hw env J
 refine⟨N+1,ex,I,h',E',?_,h2,h3⟩<;>grind[iD,evStep,bN]
theorem WP.block {b:Code}(hw:WP C ak b E h fun ex E' h'=>match ex with
  |.exit j=>_root_.cond (Nat.beq j i) (Q .normal E' h') (Q (.exit j) E' h')
  |ex=>Q ex E' h'): WP C ak (.block i b) E h Q:=by
 intro env hE
 obtain⟨N,ex,I,h',E',h1,h2,J⟩:=hw env hE
 cases ex with
 |exit j =>
  cases hj:Nat.beq j i with
  |true =>
   simp only[hj,ah] at J
   refine⟨N+1,.normal,I,h',E',?_,h2,J⟩<;>grind[iD,evStep]
  |false =>
   simp only[hj,aL] at J
   refine⟨N+1,.exit j,I,h',E',?_,h2,J⟩<;>grind[iD,evStep]
 |normal =>
  refine⟨N+1,.normal,I,h',E',?_,h2,J⟩<;>grind[iD,evStep]
 |ret =>
  refine⟨N+1,.ret,I,h',E',?_,h2,J⟩<;>grind[iD,evStep]
theorem WP.scope {b:Code}(hw:WP C ak b E h Q): WP C ak (.scope b) E h Q:=by
 intro env J
 obtain⟨N,ex,I,h',E',h1,h2,h3⟩:=hw env J
 exact⟨N+1,ex,I,h',E',h1,h2,h3⟩
theorem WP.loop {b:Code}(hw:WP C ak b E h fun ex E' h'=>match ex with
  |.normal=>WP C ak (.loop b) E' h' Q
  |ex=>Q ex E' h'): WP C ak (.loop b) E h Q:=by
 intro env hE
 obtain⟨N,ex,I,h',E',h1,h2,h3⟩:=hw env hE
 cases ex with
 |normal =>
  obtain⟨M,r9,J,NO,E2,g1,g2,g3⟩:=h3 I h2
  refine⟨Nat.max N M+1,r9,J,NO,E2,?_,g2,g3⟩
  rw[iD]
  simp only[evStep,dI (oN N M) _ _ _ h1]
  exact dI (oM N M) _ _ _ g1
 |exit i =>
  refine⟨N+1,.exit i,I,h',E',?_,h2,h3⟩<;>grind[iD,evStep]
 |ret =>
  refine⟨N+1,.ret,I,h',E',?_,h2,h3⟩<;>grind[iD,evStep]
theorem au.nil (I:R E h): au C ak L [] E h R:=fun env J=>⟨0,env,h,E,rfl,J,I⟩
def wantE (L:List Oper)(E:List (Nat×V))(g:Option (Nat×Bool)): Option Bool:=match g with
 |none=>some true
 |some (j,want)=>match (nth L j).bind (·.dst) with
  |some d=>match look E d with
   |some (.bool b)=>some (b == want)
   |some _=>some false
   |none=>none
  |none=>none
theorem jU {b:Bool}(J:iz env E)(hw:wantE L E o.guard=some b): wantedV L env o=b:=by
 unfold wantE at hw
 unfold wantedV
 split at hw
 ·grind
 ·rename_i j want hg
  simp only[hg]
  split at hw
  ·rename_i d hd
   simp only[hd]
   split at hw
   ·rename_i b' I
    simp only[Env.v,J d _ I]
    simpa using hw
   ·rename_i v nM I
    simp only[Env.v,J d _ I]
    grind
   ·cases hw
  ·cases hw
theorem au.op {v:V}(hg:wantE L E o.guard=some true)(hd:o.dst=some d)(hn:Nat.blt d ak=true)(ho:opE C.P E h o.op=some (v,h₁))
 (hw:au C ak L rest ((d,v)::E) h₁ R): au C ak L (o::rest) E h R:=by
 intro env J
 obtain⟨N,I,h',E',h1,h2,h3⟩:=hw (env.set d (some v)) (J.set d v)<;>grind[evOps,jU,Cf,St.put]
theorem au.NP {v:V}(hg:wantE L E o.guard=some true)(hd:o.dst=none)(ho:opE C.P E h o.op=some (v,h₁))
 (hw:au C ak L rest E h₁ R): au C ak L (o::rest) E h R:=by
 intro env J
 obtain⟨N,I,h',E',h1,h2,h3⟩:=hw env J<;>grind[evOps,jU,Cf,St.put]
theorem au.no (hg:wantE L E o.guard=some false)(hd:o.dst=some d)(hn:Nat.blt d ak=true)
 (hw:au C ak L rest ((d,bW)::E) h R): au C ak L (o::rest) E h R:=by
 intro env J
 obtain⟨N,I,h',E',h1,h2,h3⟩:=hw (env.set d (some bW)) (J.set d bW)<;>grind[evOps,jU,St.put]
theorem EU {k:FuncId}{v:V}(hE:iz env E)(J:o.op=.call cl)(hc:cl.callee=.value x)
 (hx:bf E x=some (.fn (.func k) first cap))(ha:lookArgs E cl.args.toList=some args)(I:fL C k (first++(args++cap)) h v h₁):
  ∃N,evOp C (ev C N) env h o=some (v,h₁):=by
 have hb:=I.body
 obtain⟨N,hN⟩:=I
 refine⟨N,?_⟩
 simp only[evOp,J,evCall,mu hE ha,hc,bN hE hx,callV,hb,ah]
 exact hN
theorem au.call {k:FuncId}(hg:wantE L E o.guard=some true)(hd:o.dst=some d)(hn:Nat.blt d ak=true)
 (WQ:o.op=.call cl)(hc:cl.callee=.value x)(hx:bf E x=some (.fn (.func k) first cap))(ha:lookArgs E cl.args.toList=some args)
 (I:Call C k (first++(args++cap)) h yl)(hw:∀v h₁,yl v h₁→au C ak L rest ((d,v)::E) h₁ R): au C ak L (o::rest) E h R:=by
 intro env hE
 obtain⟨v,h₁,yo,hr⟩:=I
 obtain⟨N,hN⟩:=EU hE WQ hc hx ha yo
 obtain⟨M,J,h',E',h1,h2,h3⟩:=hw v h₁ hr (env.set d (some v)) (hE.set d v)
 refine⟨Nat.max N M,J,h',E',?_,h2,h3⟩
 simp only[evOps,jU hE hg,ah,lJ (dI (oN N M)) hN,St.put,hd,hn]
 exact pM (dI (oM N M)) _ _ _ h1
end
def Has (E:List (Nat×V)): List (Nat×V)→Prop
 |[]=>True
 |p::F=>look E p.1=some p.2∧Has E F
theorem Has.sub : ∀ {F:List (Nat×V)},Has E F→∀t v,look F t=some v→look E t=some v:=by
 intro F
 induction F with
 |nil=>intro _ t v h;cases h
 |cons p F ih =>
  intro I t v h
  simp only[look] at h
  by_cases J:p.1=t
  ·subst J
   rw[rV rfl,ah] at h
   rw[I.1];exact h
  ·rw[eD J,aL] at h
   exact ih I.2 t v h
theorem WP.has {ak:Nat}{F:List (Nat×V)}(I:Has E F)(hw:WP C ak code F h Q): WP C ak code E h Q:=WP.sub I.sub hw
theorem Zf (I:iz s.env E){t:Nat}{v:V}(h:look E t=some v): resV P s (.tmp t)=some v:=by
 simp only[resV,Env.v,I t v h]
noncomputable def resE (P:Program)(E:List (Nat×V))(h:H): ResultVar→Option V
 |.tmp t=>look E t
 |.cell a t=>match look E a with
  |some p=>loadV P h t p
  |none=>none
theorem Uw (J:iz s.env E){x:ResultVar}{v:V}(I:resE P E s.h x=some v): resV P s x=some v:=by
 cases x with
 |tmp t=>exact Zf J I
 |cell a t =>
  simp only[resE] at I
  cases ha:look E a with
  |none=>grind
  |some p=>simp only[ha] at I;simp only[resV,Env.v,J a p ha];exact I
noncomputable def resLE (P:Program)(E:List (Nat×V))(h:H)(rs:List ResultVar): Option V:=match mapO (resE P E h) rs with
 |some [v]=>some v
 |some vs=>some (.aO vs)
 |none=>none
theorem vN (I:iz s.env E): ∀ {rs:List ResultVar} {vs:List V},mapO (resE P E s.h) rs=some vs→mapO (resV P s) rs=some vs:=by
 intro rs
 induction rs<;>grind[mapO,Uw]
def argE : List V→Nat→List (Nat×V)
 |[],_=>[]
 |v::l,k=>(k,v)::argE l (k+1)
theorem NQ : ∀(l:List V) (k t:Nat),look (argE l k) t=if k≤t∧t<k+l.length then l[t-k]? else none:=by
 intro l
 induction l with
 |nil=>simp[argE,look]
 |cons v l I =>
  intro k t
  simp only[argE,look]
  by_cases h:k=t
  ·simp_all
  grind[eD]
theorem sW (l:List V): iz (bindArgs l 0 .lf) (argE l 0):=by
 intro t v h
 grind[NQ,tu]
theorem Call.of_wp {R : V → H → Prop} (ht : C.told f = none) (hf : C.P.funcs[f]? = some fn) (hb : fn.body = some code)
  (hq : (fn.name == "runtime.NumGoroutine" || Nat.blt fn.ntmps args.length) = false)
  (hw : WP C fn.ntmps code (argE args 0) h fun ex E' h' => (match ex with | .exit _ => False | _ => True) ∧ ∃ v, resLE C.P E' h' fn.results.toList = some v ∧ R v h') : Call C f args h R := by
 obtain ⟨N, ex, I, h', E', h1, J, h3, v, h4, h5⟩ := hw _ (sW args)
 refine ⟨v, h', ⟨N, ?_⟩, h5⟩
 unfold callF
 unfold resLE at h4
 cases hm : mapO (resE C.P E' h') fn.results.toList with
 | none => grind
 | some vs =>
  have EV := vN (P := C.P) (s := ⟨I, fn.ntmps, h'⟩) J hm
  cases ex with
  | exit i => grind
  | normal =>
   grind
  | ret =>
   grind
noncomputable section
end
def crcStep : Nat→Nat→Nat
 |r,0=>r
 |r,k+1=>crcStep (cond (Nat.beq (r%2) 1) (Nat.xor (r/2) 3988292384) (r/2)) k
def crcL : Nat→List Nat→Nat
 |r,[]=>r
 |r,b::l=>crcL (crcStep (Nat.xor r b) 8) l
def bytesIn : List V→Option (List Nat)
 |[]=>some []
 |.int .u8 n::l=>cond (decide (0≤n)&&decide (n<256)) (match bytesIn l with
  |some m=>some (n.toNat::m)
  |none=>none) none
 |_=>none
def vO (s:Int)(l:List Nat): V:=.int .u32 ((Nat.xor (crcL (Nat.xor s.toNat 4294967295) l) 4294967295:Nat):Int)
noncomputable def toldMore : List V→H→Option (V×H)
 |[.int .u32 s,.sl id off len _],h=>cond (decide (0≤s)&&decide (s<4294967296)&&Nat.ble len 4611686018427387904) (match rdN h id off len with
  |some cs=>match bytesIn cs with
   |some l=>some (vO s l,h)
   |none=>none
  |none=>none) none
 |[.int .u32 s,.aV],h=>cond (decide (0≤s)&&decide (s<4294967296)) (some (vO s [],h)) none
 |[.int .u32 s,.sle _],h=>cond (decide (0≤s)&&decide (s<4294967296)) (some (vO s [],h)) none
 |_,_=>none
theorem wrap_u32 (h:n<4294967296): IntKind.wrap .u32 (n:Int)=(n:Int):=by
 grind[IntKind.wrap,IntKind.bits,IntKind.signed]
theorem EW (h:n<4294967296): ((n:Int)%(2^(IntKind.u32).bits:Int)).toNat=n:=by
 grind[IntKind.bits]
theorem n4 (I:a<4294967296)(J:b<4294967296): Nat.xor a b<4294967296:=Nat.xor_lt_two_pow (n:=32) I J
theorem wP (I:a<4294967296)(J:b<4294967296): intV .xor .u32 (a:Int) (b:Int)=some (.int .u32 ((Nat.xor a b:Nat):Int)):=by
 grind[intV,bitsV,EW,wrap_u32,n4]
theorem NR (I:a<4294967296): intV .and .u32 (a:Int) 1=some (.int .u32 ((a%2:Nat):Int)):=by
 have J:((1:Int)%(2^(IntKind.u32).bits:Int)).toNat=1:=by rfl
 simp only[intV,bitsV]
 rw[EW I,J]
 have:Nat.land a 1=a%2:=Nat.and_one_is_mod a
 rw[this,wrap_u32 (by omega)]
theorem Cg : shiftV .shr .u32 (a:Int) 1=some (.int .u32 ((a/2:Nat):Int)):=by
 grind[shiftV,IntKind.bits]
theorem Ux {c:Ctx}{w:World}(h:Rel c σ w)(I:rdN σ id off k=some vs): vs.length=k∧∀j,j<k→xS σ id (off+j)=vs[j]?:=by
 unfold rdN at I
 split at I
 ·rename_i n cs st J
  have hn:n=cs.length:=(h.obj id _ J).1
  grind[aG,beq_iff,xS,gS]
 ·cases I
def unblk : Code→Code
 |.block _ c=>c
 |c=>c
def unloop : Code→Code
 |.loop c=>c
 |c=>c
noncomputable def js : Code:=(Tryz.f217.body).getD .skip
noncomputable def jo : Code:=unloop (unblk (cz (leftC (cz (cz js)))))
noncomputable def nq : Code:=unblk (leftC (cz (cz jo)))
noncomputable def n_ : Code:=unloop (unblk (cz (cz (cz nq))))
theorem gG (C:eO)(n:Nat)(c:Code)(s:St): ev C (n+1) c s=evStep C (ev C n) c s:=rfl
theorem wrap_i64 (h:n<9223372036854775808): IntKind.wrap .i64 (n:Int)=(n:Int):=by
 grind[IntKind.bits,IntKind.wrap]
theorem yp (h:n<9223372036854775807): intV .add .i64 (n:Int) 1=some (.int .i64 ((n+1:Nat):Int)):=by
 have:((n:Int)+1)=((n+1:Nat):Int):=by omega
 simp only[intV,this,wrap_i64 (show n+1<9223372036854775808 by omega)]
section
theorem bS (J:o.guard=none)(hd:o.dst=some d)(I:Nat.blt d n=true):
  evOps C self L (o::rest) ⟨env,n,h⟩=(evOp C self env h o).bind fun r=>evOps C self L rest ⟨env.set d (some r.1),n,r.2⟩:=by
 grind[evOps,wantedV,St.put]
end
noncomputable def WS : Code:=leftC n_
noncomputable def uj : Code:=cz (cz n_)
noncomputable def WU : Code:=leftC (unblk (leftC uj))
noncomputable def WV : Code:=cz (unblk (leftC uj))
noncomputable def QT : Code:=cz uj
section
variable (n:Nat) (env:Env) (h:H)
theorem NS (I:T.get env 20=some (.int .i64 j)): ev C (n+1) WS ⟨env,34,h⟩=some (.normal,⟨env.set 21 (some (.bool (decide ((j:Int)<8)))),34,h⟩):=by
 simp only[WS,n_,nq,jo,js,Tryz.f217,ga,leftC,cz,unblk,unloop,gG,evStep,aL]
 rw[bS rfl rfl rfl]
 simp only[evOp,evO,Env.v,I,ofValue,ofScalar,binV,ikBeq,ah,intV,bD,cQ,evOps]
theorem WW {x:Nat}(J:x<4294967296)(h5:T.get env 5=some (.int .u32 x)):
  ∃I,ev C (n+1) WU ⟨env,34,h⟩=some (.normal,⟨I,34,h⟩)∧T.get I 24=some (.bool (Nat.beq (x%2) 1))∧∀t,t≠22→t≠23→t≠24→T.get I t=T.get env t:=by
 refine⟨((env.set 22 (some (.int .u32 x))).set 23 (some (.int .u32 ((x%2:Nat):Int)))).set 24 (some (.bool (Nat.beq (x%2) 1))),?_,by simp[aR],fun t h1 h2 h3=>by simp[aR,h1,h2,h3]⟩
 simp only[WU,uj,n_,nq,jo,js,Tryz.f217,ga,leftC,cz,unblk,unloop,gG,evStep,aL]
 rw[bS rfl rfl rfl]
 simp only[evOp,evO,Env.v,h5,bD,cQ]
 rw[bS rfl rfl rfl]
 simp only[evOp,evO,Env.v,aR,cA,ofValue,ofScalar,binV,ikBeq,ah,NR J,bD,cQ]
 rw[bS rfl rfl rfl]
 simp only[evOp,evO,Env.v,aR,cA,ofValue,ofScalar,binV,ikBeq,ah,intV,bD,cQ,evOps]
 rfl
theorem NT {x:Nat}(I:x<4294967296): Nat.xor (x/2) 3988292384<4294967296:=n4 (by omega) (by omega)
theorem WY {x:Nat}{b:Bool}(hx:x<4294967296)(h5:T.get env 5=some (.int .u32 x))(I:T.get env 24=some (.bool b)):
  ∃J,ev C (n+2) WV ⟨env,34,h⟩=some (.normal,⟨J,34,h⟩)∧T.get J 5=some (.int .u32 ((cond b (Nat.xor (x/2) 3988292384) (x/2):Nat):Int))∧∀t,t<25→t≠5→T.get J t=T.get env t:=by
 simp only[WV,uj,n_,nq,jo,js,Tryz.f217,ga,leftC,cz,unblk,unloop,gG,evStep,evO,Env.v,I]
 cases b with
 |true =>
  refine⟨(((env.set 25 (some (.int .u32 x))).set 26 (some (.int .u32 ((x/2:Nat):Int)))).set 27 (some (.int .u32 ((Nat.xor (x/2) 3988292384:Nat):Int)))).set 5 (some (.int .u32 ((Nat.xor (x/2) 3988292384:Nat):Int))),?_,by simp[aR],fun t h1 h2 => ?_⟩
  ·simp only[ah,aL]
   rw[bS rfl rfl rfl]
   simp only[evOp,evO,Env.v,h5,bD,cQ]
   rw[bS rfl rfl rfl]
   simp only[evOp,evO,Env.v,aR,cA,ofValue,ofScalar,binV,Cg,bD,cQ]
   rw[bS rfl rfl rfl]
   have:=wP (a:=x/2) (b:=3988292384) (by omega) (by omega)
   rw[show((3988292384:Nat):Int)=3988292384 from rfl] at this
   simp only[evOp,evO,Env.v,aR,cA,ofValue,ofScalar,binV,ikBeq,ah,this,bD,cQ]
   rw[bS rfl rfl rfl]
   simp only[evOp,evO,Env.v,aR,cA,bD,cQ,evOps]
  grind[aR]
 |false =>
  refine⟨((env.set 28 (some (.int .u32 x))).set 29 (some (.int .u32 ((x/2:Nat):Int)))).set 5 (some (.int .u32 ((x/2:Nat):Int))),?_,by simp[aR],fun t h1 h2 => ?_⟩
  ·simp only[aL]
   rw[bS rfl rfl rfl]
   simp only[evOp,evO,Env.v,h5,bD,cQ]
   rw[bS rfl rfl rfl]
   simp only[evOp,evO,Env.v,aR,cA,ofValue,ofScalar,binV,Cg,bD,cQ]
   rw[bS rfl rfl rfl]
   simp only[evOp,evO,Env.v,aR,cA,bD,cQ,evOps]
  grind[aR]
theorem Uy (hj:j<8)(I:T.get env 20=some (.int .i64 j)):
  ∃J,ev C (n+1) QT ⟨env,34,h⟩=some (.normal,⟨J,34,h⟩)∧T.get J 20=some (.int .i64 ((j+1:Nat):Int))∧∀t,t≠20→t≠30→T.get J t=T.get env t:=by
 refine⟨(env.set 30 (some (.int .i64 ((j+1:Nat):Int)))).set 20 (some (.int .i64 ((j+1:Nat):Int))),?_,by simp[aR],fun t h1 h2=>by simp[aR,h1,h2]⟩
 simp only[QT,uj,n_,nq,jo,js,Tryz.f217,ga,leftC,cz,unblk,unloop,gG,evStep,aL]
 rw[bS rfl rfl rfl]
 simp only[evOp,evO,Env.v,I,ofValue,ofScalar,binV,ikBeq,ah,yp (show j<9223372036854775807 by omega),bD,cQ]
 rw[bS rfl rfl rfl]
 simp only[evOp,evO,Env.v,aR,cA,bD,cQ,evOps]
section
variable {n:Nat}
theorem jV {a b:Code}(I:ev C n a s=some (.normal,s')): ev C (n+1) (.seq a b) s=ev C n b s':=by grind[gG,evStep]
theorem uP {a b:Code}(I:ev C n a s=some (.exit i,s')): ev C (n+1) (.seq a b) s=some (.exit i,s'):=by grind[gG,evStep]
theorem vP {a b:Code}{t:Bool}(I:evO s.env x=some (.bool t)): ev C (n+1) (.cond x a b) s=ev C n (cond t a b) s:=by grind[gG,evStep]
theorem GW {c:Code}(h:ev C n c s=some (.normal,s')): ev C (n+1) (.block i c) s=some (.normal,s'):=by grind[gG,evStep]
theorem xI {c:Code}(h:ev C n c s=some (.exit i,s')): ev C (n+1) (.block i c) s=some (.normal,s'):=by simp_all[gG,evStep]
theorem Kf {b:Code}(h:ev C n b s=some (.normal,s')): ev C (n+1) (.loop b) s=ev C n (.loop b) s':=by grind[gG,evStep]
theorem tC {b:Code}(h:ev C n b s=some (.exit i,s')): ev C (n+1) (.loop b) s=some (.exit i,s'):=by grind[gG,evStep]
end
theorem EX : n_=.seq WS (.seq (.cond (.tmp 21) .skip (.exit 2)) uj):=rfl
theorem QU : uj=.seq (.block 3 (.seq WU WV)) QT:=rfl
theorem LB {x:Nat}(hx:x<4294967296)(hj:j<8)(h5:T.get env 5=some (.int .u32 x))(h20:T.get env 20=some (.int .i64 j)):
  ∃J,ev C (n+9) n_ ⟨env,34,h⟩=some (.normal,⟨J,34,h⟩)∧T.get J 5=some (.int .u32 ((crcStep x 1:Nat):Int))∧T.get J 20=some (.int .i64 ((j+1:Nat):Int)) ∧
   ∀t,t<20→t≠5→T.get J t=T.get env t:=by
 have cJ:decide ((j:Int)<8)=true:=by grind
 have q7:=NS (C:=C) (n+7) env h h20
 rw[cJ] at q7
 have g5:T.get (env.set 21 (some (.bool true))) 5=some (.int .u32 x):=by simp[aR,h5]
 obtain⟨e8,q8,q8a,q8b⟩:=WW (C:=C) (n+3) (env.set 21 (some (.bool true))) h hx g5
 have g5':T.get e8 5=some (.int .u32 x):=by grind
 obtain⟨e9,q9,q9a,q9b⟩:=WY (C:=C) (n+2) e8 h hx g5' q8a
 have g20:T.get e9 20=some (.int .i64 j):=by
  grind[aR]
 obtain⟨WZ,q11,I,acm⟩:=Uy (C:=C) (n+5) e9 h hj g20
 refine⟨WZ,?_,?_,I,fun t h1 h2 => ?_⟩
 ·rw[EX,jV q7,jV (s':=⟨env.set 21 (some (.bool true)),34,h⟩) (by rw[vP (t:=true) (by simp[evO,Env.v,aR])];rfl),QU,
   jV (GW (by rw[jV q8];exact q9)),q11]
 ·grind[crcStep]
 ·grind[aR]
theorem LC : ∀(k n:Nat) (env:Env) (x:Nat),k≤8→x<4294967296→T.get env 5=some (.int .u32 x)→T.get env 20=some (.int .i64 ((8-k:Nat):Int)) →
  ∃J,ev C (n+10+k) (.loop n_) ⟨env,34,h⟩=some (.exit 2,⟨J,34,h⟩)∧T.get J 5=some (.int .u32 ((crcStep x k:Nat):Int))∧∀t,t<20→t≠5→T.get J t=T.get env t:=by
 intro k
 induction k with
 |zero =>
  intro n env x _ hx h5 I
  have q7:=NS (C:=C) (n+7) env h I
  refine⟨env.set 21 (some (.bool false)),?_,by simp[aR,h5,crcStep],fun t h1 h2 => ?_⟩
  ·refine tC ?_
   rw[EX,jV q7]
   exact uP (by rw[vP (t:=false) (by simp[evO,Env.v,aR])];rfl)
  grind[aR]
 |succ k ih =>
  intro n env x hk hx h5 I
  obtain⟨e1,q1,q2,q3,q4⟩:=LB (C:=C) (n+1+k) env h hx (show 8-(k+1)<8 by omega) h5 I
  have h8:8-(k+1)+1=8-k:=by omega
  rw[h8] at q3
  have EY:crcStep x 1<4294967296:=by
   grind[crcStep,NT]
  obtain⟨e2,p1,p2,p3⟩:=ih n e1 (crcStep x 1) (by omega) EY q2 q3
  refine⟨e2,?_,?_,fun t h1 h2=>by grind⟩
  ·grind[Kf]
  ·rw[p2];simp only[crcStep]
end
noncomputable def W3 : Code:=leftC jo
noncomputable def F9 : Code:=cz (cz jo)
noncomputable def QV : Code:=cz F9
noncomputable def W4 : Code:=leftC nq
noncomputable def W5 : Code:=leftC (cz nq)
noncomputable def mR6 : Code:=leftC (cz (cz nq))
theorem QW : nq=.seq W4 (.seq W5 (.seq mR6 (.block 2 (.loop n_)))):=rfl
theorem yq : jo=.seq W3 (.seq (.cond (.tmp 13) .skip (.exit 0)) F9):=rfl
theorem QX : F9=.seq (.block 1 nq) QV:=rfl
theorem eT : bB Tryz.prog 5=some 1:=by kernel_rfl
theorem Kg : isAggT Tryz.prog 5=some false:=by kernel_rfl
section
variable {told:cC} (n:Nat) (env:Env) (h:H)
theorem GX {len:Nat}(I:T.get env 12=some (.int .i64 i))(J:T.get env 11=some (.int .i64 len)):
  ev ⟨Tryz.prog,told⟩ (n+1) W3 ⟨env,34,h⟩=some (.normal,⟨env.set 13 (some (.bool (decide ((i:Int)<(len:Int))))),34,h⟩):=by
 simp only[W3,jo,js,Tryz.f217,ga,leftC,cz,unblk,unloop,gG,evStep,aL]
 rw[bS rfl rfl rfl]
 simp_all[evOp,evO,Env.v,binV,ikBeq,intV,bD,evOps]
theorem W6 {len:Nat}{cap:Cap}(hi:i<len)(I:T.get env 12=some (.int .i64 i))(J:T.get env 10=some (.sl id off len cap))(hb:xS h id (off+i)=some (.int .u8 b)):
  ∃e',ev ⟨Tryz.prog,told⟩ (n+1) W4 ⟨env,34,h⟩=some (.normal,⟨e',34,h⟩)∧T.get e' 7=some (.int .u8 b)∧∀t,t≠7→t≠14→t≠15→T.get e' t=T.get env t:=by
 refine⟨((env.set 14 (some (.ptr id (off+i)))).set 15 (some (.int .u8 b))).set 7 (some (.int .u8 b)),?_,by simp[aR],fun t h1 h2 h3=>by simp[aR,h1,h2,h3]⟩
 simp only[W4,nq,jo,js,Tryz.f217,ga,leftC,cz,unblk,unloop,gG,evStep,aL]
 rw[bS rfl rfl rfl]
 have d1:decide ((0:Int)≤(i:Int))=true:=by simp
 have d2:decide ((i:Int)<(len:Int))=true:=by grind
 simp only[evOp,evO,Env.v,J,I,indexAddrV,aN,eT,d1,d2,iX,ah,b7,ig,bD,cQ]
 rw[bS rfl rfl rfl]
 simp only[evOp,evO,Env.v,aR,cA,loadV,Kg,hb,bD,cQ]
 rw[bS rfl rfl rfl]
 simp only[evOp,evO,Env.v,aR,cA,bD,cQ,evOps]
theorem W7 {x:Nat}(hx:x<4294967296)(hb:b<256)(h5:T.get env 5=some (.int .u32 x))(h7:T.get env 7=some (.int .u8 b)):
  ∃I,ev ⟨Tryz.prog,told⟩ (n+1) W5 ⟨env,34,h⟩=some (.normal,⟨I,34,h⟩)∧T.get I 5=some (.int .u32 ((Nat.xor x b:Nat):Int))∧∀t,t<16→t≠5→T.get I t=T.get env t:=by
 refine⟨((((env.set 16 (some (.int .u32 x))).set 17 (some (.int .u8 b))).set 18 (some (.int .u32 b))).set 19 (some (.int .u32 ((Nat.xor x b:Nat):Int)))).set 5 (some (.int .u32 ((Nat.xor x b:Nat):Int))),?_,by simp[aR],fun t h1 h2 => ?_⟩
 ·simp only[W5,nq,jo,js,Tryz.f217,ga,leftC,cz,unblk,unloop,gG,evStep,aL]
  rw[bS rfl rfl rfl]
  simp only[evOp,evO,Env.v,h5,bD,cQ]
  rw[bS rfl rfl rfl]
  have g7:T.get (env.set 16 (some (.int .u32 x))) 7=some (.int .u8 b):=by simp[aR,h7]
  simp only[evOp,evO,Env.v,g7,bD,cQ]
  rw[bS rfl rfl rfl]
  simp only[evOp,evO,Env.v,aR,cA,convV,Tryz.underlying5,Tryz.underlying285,wrap_u32 (show b<4294967296 by omega),cQ]
  rw[bS rfl rfl rfl]
  have J:T.get (((env.set 16 (some (.int .u32 x))).set 17 (some (.int .u8 b))).set 18 (some (.int .u32 b))) 16=some (.int .u32 x):=by simp[aR]
  have g18:T.get (((env.set 16 (some (.int .u32 x))).set 17 (some (.int .u8 b))).set 18 (some (.int .u32 b))) 18=some (.int .u32 b):=by simp[aR]
  simp only[evOp,evO,Env.v,J,g18,binV,ikBeq,ah,wP hx (show b<4294967296 by omega),bD,cQ]
  rw[bS rfl rfl rfl]
  simp only[evOp,evO,Env.v,aR,cA,bD,cQ,evOps]
 grind[aR]
theorem W8 : ev ⟨Tryz.prog,told⟩ (n+1) mR6 ⟨env,34,h⟩=some (.normal,⟨env.set 20 (some (.int .i64 0)),34,h⟩):=by
 rfl
theorem Uz (hi:i<9223372036854775807)(I:T.get env 12=some (.int .i64 i)):
  ∃J,ev ⟨Tryz.prog,told⟩ (n+1) QV ⟨env,34,h⟩=some (.normal,⟨J,34,h⟩)∧T.get J 12=some (.int .i64 ((i+1:Nat):Int))∧∀t,t≠12→t≠31→T.get J t=T.get env t:=by
 refine⟨(env.set 31 (some (.int .i64 ((i+1:Nat):Int)))).set 12 (some (.int .i64 ((i+1:Nat):Int))),?_,by simp[aR],fun t h1 h2=>by simp[aR,h1,h2]⟩
 simp only[QV,F9,jo,js,Tryz.f217,ga,leftC,cz,unblk,unloop,gG,evStep,aL]
 rw[bS rfl rfl rfl]
 simp only[evOp,evO,Env.v,I,ofValue,ofScalar,binV,ikBeq,ah,yp hi,bD,cQ]
 rw[bS rfl rfl rfl]
 simp only[evOp,evO,Env.v,aR,cA,bD,cQ,evOps]
theorem Ch : ∀(k x:Nat),x<4294967296→crcStep x k<4294967296:=by
 intro k
 induction k<;>grind[crcStep,NT]
theorem QY {x len:Nat}{cap:Cap}(hx:x<4294967296)(hb:b<256)(hi:i<len)(h5:T.get env 5=some (.int .u32 x))(I:T.get env 12=some (.int .i64 i))(J:T.get env 10=some (.sl id off len cap))
 (hr:xS h id (off+i)=some (.int .u8 b)):
  ∃e',ev ⟨Tryz.prog,told⟩ (n+22) nq ⟨env,34,h⟩=some (.normal,⟨e',34,h⟩)∧T.get e' 5=some (.int .u32 ((crcStep (Nat.xor x b) 8:Nat):Int))∧∀t,t=10∨t=11∨t=12→T.get e' t=T.get env t:=by
 obtain⟨e4,q4,W9,q4b⟩:=W6 (told:=told) (n+20) env h hi I J hr
 obtain⟨e5,q5,q5a,q5b⟩:=W7 (told:=told) (n+19) e4 h hx hb (by grind) W9
 have q6:=W8 (told:=told) (n+18) e5 h
 obtain⟨e2,q2,Tt,Tu⟩:=LC (C:=⟨Tryz.prog,told⟩) h 8 n (e5.set 20 (some (.int .i64 0))) (Nat.xor x b) (by omega) (n4 hx (by omega)) (by simp[aR,q5a]) (by simp[aR])<;>simp_all[aR,QW,jV,xI]
theorem LF {len:Nat}{cap:Cap}(hlen:len<9223372036854775807): ∀(l:List Nat) (i n:Nat) (env:Env) (x:Nat),i+l.length=len→x<4294967296→(∀b∈l,b<256) →
  (∀j b:Nat,l[j]?=some b→xS h id (off+(i+j))=some (.int .u8 (b:Int)))→T.get env 5=some (.int .u32 x)→T.get env 12=some (.int .i64 i)→T.get env 10=some (.sl id off len cap)→T.get env 11=some (.int .i64 len) →
  ∃e',ev ⟨Tryz.prog,told⟩ (n+30+l.length) (.loop jo) ⟨env,34,h⟩=some (.exit 0,⟨e',34,h⟩)∧T.get e' 5=some (.int .u32 ((crcL x l:Nat):Int)):=by
 intro l
 induction l with
 |nil =>
  intro i n env x hi hx _ _ h5 I h10 W_
  have q3:=GX (told:=told) (n+27) env h I W_
  have hd:decide ((i:Int)<(len:Int))=false:=by grind
  rw[hd] at q3
  refine⟨env.set 13 (some (.bool false)),?_,by simp[aR,h5,crcL]⟩
  refine tC ?_
  rw[yq,jV q3]
  exact uP (by rw[vP (t:=false) (by simp[evO,Env.v,aR])];rfl)
 |cons b l ih =>
  intro i n env x hi hx EZ kB h5 I h10 W_
  simp only[bn] at hi
  have q3:=GX (told:=told) (n+l.length+28) env h I W_
  have hd:decide ((i:Int)<(len:Int))=true:=by grind
  rw[hd] at q3
  have hb:b<256:=EZ b (by simp)
  have hr:=kB 0 b (by simp)
  rw[mj] at hr
  obtain⟨e1,q1,q1a,q1b⟩:=QY (told:=told) (cap:=cap) (n+l.length+4) (env.set 13 (some (.bool true))) h hx hb (show i<len by omega) (by simp[aR,h5]) (by simp[aR,I]) (by simp[aR,h10]) hr
  obtain⟨e2,q2,Tt,Tu⟩:=Uz (told:=told) (n+l.length+26) e1 h (show i<9223372036854775807 by omega) (by grind[aR])
  have nO:crcStep (Nat.xor x b) 8<4294967296:=Ch 8 _ (n4 hx (by omega))
  obtain⟨e3,q3',Xa⟩:=ih (i+1) n e2 (crcStep (Nat.xor x b) 8) (by omega) nO (fun c hc=>EZ c (by grind)) (fun j c hj=>by
   have:=kB (j+1) c (by grind)
   rwa [show i+(j+1)=i+1+j from by omega] at this) (by grind) Tt (by grind[aR]) (by grind[aR])
  refine⟨e3,?_,by rw[Xa];simp only[crcL]⟩
  have J:ev ⟨Tryz.prog,told⟩ (n+l.length+30) jo ⟨env,34,h⟩=some (.normal,⟨e2,34,h⟩):=by
   rw[yq,jV q3,jV (s':=⟨env.set 13 (some (.bool true)),34,h⟩) (by rw[vP (t:=true) (by simp[evO,Env.v,aR])];rfl),QX,
    jV (GW q1),q2]
  rw[bn,show n+30+(l.length+1)=(n+l.length+30)+1 from by omega,Kf J,show n+l.length+30=n+30+l.length from by omega]
  exact q3'
noncomputable def mR0 : Code:=leftC js
noncomputable def Xb : Code:=leftC (cz js)
noncomputable def Xc : Code:=leftC (leftC (cz (cz js)))
noncomputable def QZ : Code:=cz (cz (cz js))
theorem Q0 : js=.seq mR0 (.seq Xb (.seq (.seq Xc (.block 0 (.loop jo))) QZ)):=rfl
theorem Xd : ev ⟨Tryz.prog,told⟩ (n+1) mR0 ⟨env,34,h⟩=some (.normal,⟨env.set 4 (some (.int .u32 0)),34,h⟩):=by
 rfl
theorem Xe {x:Nat}(J:x<4294967296)(h0:T.get env 0=some (.int .u32 x)):
  ∃I,ev ⟨Tryz.prog,told⟩ (n+1) Xb ⟨env,34,h⟩=some (.normal,⟨I,34,h⟩)∧T.get I 5=some (.int .u32 ((Nat.xor x 4294967295:Nat):Int))∧∀t,t≠5→t≠8→t≠9→T.get I t=T.get env t:=by
 refine⟨((env.set 8 (some (.int .u32 x))).set 9 (some (.int .u32 ((Nat.xor x 4294967295:Nat):Int)))).set 5 (some (.int .u32 ((Nat.xor x 4294967295:Nat):Int))),?_,by simp[aR],fun t h1 h2 h3=>by simp[aR,h1,h2,h3]⟩
 simp only[Xb,js,Tryz.f217,ga,leftC,cz,gG,evStep,aL]
 rw[bS rfl rfl rfl]
 simp only[evOp,evO,Env.v,h0,bD,cQ]
 rw[bS rfl rfl rfl]
 have:=wP (a:=x) (b:=4294967295) J (by omega)
 rw[show((4294967295:Nat):Int)=4294967295 from rfl] at this
 simp only[evOp,evO,Env.v,aR,cA,ofValue,ofScalar,binV,ikBeq,ah,this,bD,cQ]
 rw[bS rfl rfl rfl]
 simp only[evOp,evO,Env.v,aR,cA,bD,cQ,evOps]
theorem Xf {x:V}{len:Nat}(J:T.get env 1=some x)(hl:lenV Tryz.prog h 23 x=some (.int .i64 len)):
  ∃I,ev ⟨Tryz.prog,told⟩ (n+1) Xc ⟨env,34,h⟩=some (.normal,⟨I,34,h⟩)∧T.get I 10=some x∧T.get I 11=some (.int .i64 len)∧T.get I 12=some (.int .i64 ((0:Nat):Int))∧T.get I 5=T.get env 5:=by
 refine⟨((env.set 10 (some x)).set 11 (some (.int .i64 len))).set 12 (some (.int .i64 0)),?_,by simp[aR],by simp[aR],by simp[aR],by simp[aR]⟩
 simp only[Xc,js,Tryz.f217,ga,leftC,cz,gG,evStep,aL]
 rw[bS rfl rfl rfl]
 simp only[evOp,evO,Env.v,J,bD,cQ]
 rw[bS rfl rfl rfl]
 simp only[evOp,evCall,evArgs,evO,Env.v,aR,cA,builtinV,hl,ng,cQ]
 rw[bS rfl rfl rfl]
 simp only[evOp,evO,ofValue,ofScalar,bD,cQ,evOps]
theorem UA {x:Nat}(J:x<4294967296)(h5:T.get env 5=some (.int .u32 x)):
  ∃I,ev ⟨Tryz.prog,told⟩ (n+2) QZ ⟨env,34,h⟩=some (.ret,⟨I,34,h⟩)∧T.get I 4=some (.int .u32 ((Nat.xor x 4294967295:Nat):Int)):=by
 refine⟨((env.set 32 (some (.int .u32 x))).set 33 (some (.int .u32 ((Nat.xor x 4294967295:Nat):Int)))).set 4 (some (.int .u32 ((Nat.xor x 4294967295:Nat):Int))),?_,by simp[aR]⟩
 simp only[QZ,js,Tryz.f217,ga,cz,gG,evStep,aL]
 rw[bS rfl rfl rfl]
 simp only[evOp,evO,Env.v,h5,bD,cQ]
 rw[bS rfl rfl rfl]
 have:=wP (a:=x) (b:=4294967295) J (by omega)
 rw[show((4294967295:Nat):Int)=4294967295 from rfl] at this
 simp only[evOp,evO,Env.v,aR,cA,ofValue,ofScalar,binV,ikBeq,ah,this,bD,cQ]
 rw[bS rfl rfl rfl]
 simp only[evOp,evO,Env.v,aR,cA,bD,cQ,evOps]
end
theorem LG : ∀(cs:List V) (l:List Nat),bytesIn cs=some l→cs=l.map (fun(b:Nat)=>V.int .u8 (b:Int))∧∀b∈l,b<256:=by
 intro cs
 induction cs with
 |nil=>grind[bytesIn]
 |cons v cs I =>
  intro l h
  unfold bytesIn at h
  grind
theorem DY : ∀(l:List Nat) (x:Nat),x<4294967296→(∀b∈l,b<256)→crcL x l<4294967296:=by
 intro l
 induction l with
 |nil=>intro x I _;exact I
 |cons b l ih =>
  intro x I J
  have h1:=J b (by simp)
  exact ih _ (Ch 8 _ (n4 I (by omega))) (fun c hc=>J c (by grind))
theorem Bp {s : Int} {x : V} {len : Nat} (hs0 : 0 ≤ s) (fV : s < 4294967296) (hl : lenV Tryz.prog σ 23 x = some (.int .i64 len)) (hlen : len = l.length) (j8 : len < 9223372036854775807)
  (hb : ∀ b ∈ l, b < 256) (hx : l = [] ∨ ∃ id off cap, x = .sl id off len cap ∧ ∀ j b : Nat, l[j]? = some b → xS σ id (off + (0 + j)) = some (.int .u8 (b : Int))) :
  run ⟨Tryz.prog, fun _ => none⟩ (l.length + 40) 217 [.int .u32 s, x] σ = some (vO s l, σ) := by
 obtain ⟨u, rfl⟩ : ∃ u : Nat, s = (u : Int) := ⟨s.toNat, by omega⟩
 have hu : u < 4294967296 := by omega
 have q0 := Xd (told := fun _ => none) (l.length + 38) (bindArgs [.int .u32 u, x] 0 .lf) σ
 obtain ⟨e1, q1, q1a, q1b⟩ := Xe (told := fun _ => none) (l.length + 37) ((bindArgs [.int .u32 u, x] 0 .lf).set 4 (some (.int .u32 0))) σ hu (by rfl)
 obtain ⟨e2, q2, Tt, Tu, q2c, q2d⟩ := Xf (told := fun _ => none) (l.length + 35) e1 σ (x := x) (by grind [aR, bindArgs]) hl
 have I : Nat.xor u 4294967295 < 4294967296 := n4 hu (by omega)
 have J : ∃ e', ev ⟨Tryz.prog, fun _ => none⟩ (5 + 30 + l.length) (.loop jo) ⟨e2, 34, σ⟩ = some (.exit 0, ⟨e', 34, σ⟩) ∧ T.get e' 5 = some (.int .u32 ((crcL (Nat.xor u 4294967295) l : Nat) : Int)) := by
  rcases hx with rfl | ⟨id, off, cap, rfl, kB⟩
  ·have q3 := GX (told := fun _ => none) 32 e2 σ q2c Tu
   have hd : decide ((((0 : Nat) : Int)) < (len : Int)) = false := by grind
   rw [hd] at q3
   refine ⟨e2.set 13 (some (.bool false)), ?_, by simp [aR, q2d, q1a, crcL]⟩
   refine tC ?_
   rw [yq, jV q3]
   exact uP (by rw [vP (t := false) (by simp [evO, Env.v, aR])]; rfl)
  ·exact LF σ j8 l 0 5 e2 _ (by omega) I hb kB (by grind) q2c Tt Tu
 obtain ⟨e3, q3, Xa⟩ := J
 obtain ⟨e4, q4, W9⟩ := UA (told := fun _ => none) (l.length + 35) e3 σ (DY l _ I hb) Xa
 have Zg : ev ⟨Tryz.prog, fun _ => none⟩ (l.length + 40) js ⟨bindArgs [.int .u32 u, x] 0 .lf, 34, σ⟩ = some (.ret, ⟨e4, 34, σ⟩) := by
  rw [Q0, jV q0, jV q1, jV (s' := ⟨e3, 34, σ⟩) (by
   rw [jV q2]
   grind [xI]), q4]
 unfold run callF
 simp only [Cc]
 rw [show Tryz.f217.body = some js from rfl]
 rw [show (Tryz.f217.name == "runtime.NumGoroutine" || Nat.blt Tryz.f217.ntmps [V.int .u32 (u : Int), x].length) = false from rfl]
 simp only [aL]
 rw [show Tryz.f217.ntmps = 34 from rfl, Zg]
 simp only
 rw [show Tryz.f217.results = #[.tmp 4] from rfl]
 simp only [mapO, resV, Env.v, W9, vO, b7]
section
variable {c:Ctx} {w:World}
theorem Jn (hP:C.P=Tryz.prog)(hm:C.P.follows .mixedOrders=true){v:V}(I:toldMore args σ=some (v,cV))(h:Rel c σ w)(hw:∀x∈args,wf c x):
  eo C.P 217 args c w v cV:=by
 rw[hP] at hm ⊢
 have hT:ep ⟨Tryz.prog,fun _=>none⟩:=fun f g hg=>by cases hg
 unfold toldMore at I
 split at I
 ·rename_i s id off len cap
  cases J:(decide (0≤s)&&decide (s<4294967296)&&Nat.ble len 4611686018427387904) with
  |false=>grind
  |true =>
   rw[J,ah] at I
   simp only[bK,gD,aG] at J
   obtain⟨hd,j8⟩:=J
   cases kB:rdN σ id off len with
   |none=>grind
   |some cs =>
    simp only[kB] at I
    cases hb:bytesIn cs with
    |none=>grind
    |some l =>
     simp only[hb,ay,bz] at I
     obtain⟨rfl,rfl⟩:=I
     obtain⟨b1,b2⟩:=LG cs l hb
     obtain⟨d1,d2⟩:=Ux h kB
     have hl:len=l.length:=by grind
     refine GV (C:=⟨Tryz.prog,fun _=>none⟩) hm hT (Bp hd.1 hd.2 (len:=len) (by simp[lenV,aN]) hl (by omega) b2 (.inr ⟨id,off,cap,rfl,fun j b hj => ?_⟩)) h hw
     ·grind
 ·rename_i s
  cases hd:(decide (0≤s)&&decide (s<4294967296)) with
  |false=>grind
  |true =>
   rw[hd,ah] at I
   simp only[bK,gD] at hd
   obtain⟨rfl,rfl⟩:=I
   exact GV (C:=⟨Tryz.prog,fun _=>none⟩) hm hT (Bp hd.1 hd.2 (len:=0) (l:=[]) (by simp[lenV,aN]) rfl (by omega) (by simp) (.inl rfl)) h hw
 ·rename_i s _
  cases hd:(decide (0≤s)&&decide (s<4294967296)) with
  |false=>grind
  |true =>
   rw[hd,ah] at I
   simp only[bK,gD] at hd
   obtain⟨rfl,rfl⟩:=I
   exact GV (C:=⟨Tryz.prog,fun _=>none⟩) hm hT (Bp hd.1 hd.2 (len:=0) (l:=[]) (by simp[lenV,aN]) rfl (by omega) (by simp) (.inl rfl)) h hw
 ·cases I
end
end Go.Proofs.YtiojppeahfoiaaaGreat.Am
namespace Go.Proofs.YtiojppeahfoiaaaGreat.Am
open Go Go.Maps Go.RowKit
variable {ps:Array (Nat×Operand)} {ops:Array Oper} {st:Bool} {C:eO} {code:Code} {c₀:Ctx} {env:Env} {Q:Ex→List (Nat×V)→H→Prop} {fn:Func} {f:FuncId} {cl:Go.Call} {h h' σ h₁ cV:H} {κ:IntKind} {E E':List (Nat×V)} {R:List (Nat×V)→H→Prop} {d₀:List Deferred} {hs:List H} {d_ es l:List Nat} {L rest:List Oper} {args first cap vs cs ds:List V} {a b i c k id n d off j g mQ k' q:Nat} {Hs:Nat→H} {early:Nat→Option (Nat×FV)} {Fl:Nat→Prop} {vv:Nat→V} {o':Obj} {o:Oper} {x y:Operand} {P:Program} {φ:Prop} {self:Self} {s s':St} {α:Type} {td:TypeDesc} {t t' e kt et:TypeId} {r u z:V} {yl:V→H→Prop} {w₀:World}
def keyInts : List (V×V×Nat)→Option (List Int)
 |[]=>some []
 |(.int .i64 n,_,_)::l=>cond (Lit.int .i64 n).wf (match keyInts l with
  |some m=>some (n::m)
  |none=>none) none
 |_=>none
def bornUp (clock:Nat): Nat→List (V×V×Nat)→Bool
 |_,[]=>true
 |b,(_,_,x)::l=>cond (Nat.ble b x&&Nat.blt x clock) (bornUp clock (x+1) l) false
def insI (x:Int): List Int→List Int
 |[]=>[x]
 |y::l=>cond (decide (x≤y)) (x::y::l) (y::insI x l)
def mB : List Int→List Int
 |[]=>[]
 |x::l=>insI x (mB l)
def rE : List Int→Bool
 |[]=>true
 |x::l=>l.all (fun y=>decide (x<y))&&rE l
def dy (l:List Int): List V:=l.map (V.int .i64)
noncomputable def toldSorted (gs:List Nat): List V→H→Option (V×H)
 |[.fn (.func g) [] [.ptr b 0]],h=>match h.tr.get b with
  |some (.cells n [.map id] false)=>match h.tr.get id with
   |some (.map es clock)=>cond (Nat.beq n 1&&wq gs g&&bornUp clock 0 es&&Nat.ble es.length 1048576) (match keyInts es with
    |some ks=>cond (rE (mB ks)) (match ks with
     |[]=>some (.aV,h)
     |_=>some (.sl h.next 0 ks.length (.rest 1 0),newRow h (dy (mB ks)))) none
    |none=>none) none
   |_=>none
  |_=>none
 |_,_=>none
theorem yt (x:Int): ∀l:List Int,(insI x l).Perm (x::l)
 |[]=>.refl _
 |y::l=>by
  simp only[insI]
  cases decide (x≤y) with
  |true=>rfl
  |false=>exact((yt x l).cons y).trans (.swap x y l)
theorem eP : ∀l:List Int,(mB l).Perm l
 |[]=>.refl _
 |x::l=>(yt x _).trans ((eP l).cons x)
theorem E0 : ∀l:List Int,rE l=true→l.Pairwise (· < ·)
 |[],_=>.nil
 |x::l,h=>by
  simp only[rE,bK,vp,gD] at h
  exact List.pairwise_cons.2 ⟨h.1,E0 l h.2⟩
theorem vQ : ∀ {l m:List Int},l.Perm m→l.Pairwise (· ≤ ·)→m.Pairwise (· ≤ ·)→l=m
 |[],m,I,_,_=>I.nil_eq
 |a::r,[],I,_,_=>absurd I.symm.nil_eq (by simp)
 |a::r,b::s,I,h1,h2=>by
  obtain⟨a1,a2⟩:=List.pairwise_cons.1 h1
  obtain⟨b1,b2⟩:=List.pairwise_cons.1 h2
  have J:a=b:=by
   have ha:a∈b::s:=I.mem_iff.1 (by simp)
   have hb:b∈a::r:=I.mem_iff.2 (by simp)
   grind
  subst J
  rw[vQ (List.Perm.cons_inv I) a2 b2]
theorem E5 {clock:Nat}: ∀(l:List (V×V×Nat)) (b:Nat),bornUp clock b l=true→(∀x∈l,b≤x.2.2∧x.2.2<clock)∧(l.map (·.2.2)).Nodup
 |[],_,_=>⟨by simp,by simp⟩
 |(k,v,x)::l,b,h=>by
  simp only[bornUp] at h
  cases I:(Nat.ble b x&&Nat.blt x clock) with
  |false=>grind
  |true =>
   rw[I,ah] at h
   simp only[bK,aG,gF] at I
   obtain⟨i1,i2⟩:=E5 l (x+1) h<;>grind
theorem Ci {c:Ctx}: ∀(l:List (V×V×Nat)) (ks:List Int),keyInts l=some ks→l.map (fun x=>conc c x.1)=ks.map (Value.int .i64)∧∀n∈ks,(Lit.int .i64 n).wf=true
 |[],ks,h=>by grind[keyInts]
 |(k,v,b)::l,ks,h=>by
  unfold keyInts at h
  split at h
  ·grind
  ·rename_i n v' I J he
   obtain⟨⟨rfl,rfl,rfl⟩,rfl⟩:=he
   cases hw:(Lit.int .i64 n).wf with
   |false=>grind
   |true =>
    cases hm:keyInts l with
    |none=>grind
    |some m =>
     simp[hw,hm] at h
     obtain⟨i1,i2⟩:=Ci (c:=c) l m hm<;>grind[conc]
  ·cases h
section
variable {c:Ctx} {w w':World}
theorem Rel.below (h:Rel c σ w)(I:Below w.heap.size w w'): Rel c σ w'∧bZ c w c w':=by
 have rows:∀b,b<w.heap.size→rowSize w' b=rowSize w b:=fun b J=>by unfold rowSize;rw[I.block b J]
 refine⟨⟨h.next,h.live,fun id hi=>gQ (h.k_ id hi) I.size,fun id hi=>by rw[rows _ (h.k_ id hi)];exact h.zz id hi,h.inj,
  fun id o ho=>(h.obj id o ho).later (Ext.refl c) (h.live id o ho) (I.block _ (h.k_ id (h.live id o ho))),h.one,h.fx⟩,
  ⟨Ext.refl c,I.size,rows,fun b J _=>I.block b J,fun id h1 h2=>by omega,I.os,I.output⟩⟩
theorem Rel.take {C:Array Value}{T:TypeId}(h:Rel c σ w)(hb:b<w.heap.size)(hr:∀id,id<c.N→(c.ρ id).1≠b)(J:∀v∈cs,wf c v∧storable v=true)
 (hg:w.heap[b]?=some (.cells C T (0,0)))(hC:C.toList.take cs.length=cs.map (conc c)): Rel (c.grow b 0 C.size) (Am.newRow σ cs) w:=by
 have e:=qU hr 0 C.size
 have hN:(c.grow b 0 C.size).N=c.N+1:=rfl
 have hle:cs.length≤C.size:=by
  have:=iZ List.length hC
  simp at this
  omega
 have key:∀i o,(Am.newRow σ cs).tr.get i=some o→(i=c.N∧o=.cells cs.length cs false)∨(i<c.N∧σ.tr.get i=some o):=by
  intro i o hi
  rw[Am.newRow,fo,h.next] at hi
  by_cases h1:i=c.N
  ·grind
  ·simp[h1] at hi;exact .inr ⟨h.live i o hi,hi⟩
 refine⟨by simp[Am.newRow,H.new,Ctx.grow,h.next],fun i o hi => ?_,fun i hi => ?_,fun i hi => ?_,fun i j o o' hi hj he => ?_,fun i o hi => ?_,fun i xU nL hi hx => ?_,fun i o hi hx => ?_⟩
 ·grind
 ·by_cases h1:i=c.N
  ·grind[bE]
  ·rw[cY c _ _ _ (by omega)];exact h.k_ i (by omega)
 ·by_cases h1:i=c.N
  ·grind[Ctx.grow,rowSize]
  ·rw[cY c _ _ _ (by omega),←h.zz i (by omega)];simp[Ctx.grow,hr i (by omega)]
 ·rcases key i o hi with⟨I,_⟩|⟨I,a2⟩<;>rcases key j o' hj with⟨b1,_⟩|⟨b1,b2⟩
  ·omega
  ·grind[bE,cY]
  ·grind[bE,cY]
  ·rw[cY c _ _ _ I,cY c _ _ _ b1] at he;rw[fK c _ _ _ I,fK c _ _ _ b1];exact h.inj i j _ _ a2 b2 he
 ·rcases key i o hi with⟨rfl,rfl⟩|⟨I,a2⟩
  ·refine⟨rfl,fun v hv=>⟨(b9 e v (J v hv).1).2,(J v hv).2⟩,C,T,(0,0),by rw[bE];exact hg,by grind[bE],fun j v hj => ?_,rfl⟩
   rw[bE,(b9 e v (J v (bJ hj)).1).1]
   have h1:(C.toList.take cs.length)[j]?=some (conc c v):=by grind
   grind
  ·exact(h.obj i o a2).later e I rfl
 ·rcases key i _ hi with⟨rfl,_⟩|⟨I,a2⟩
  ·rw[bE]
  ·rw[fK c _ _ _ I] at hx
   rw[cY c _ _ _ I];exact h.one i xU nL a2 hx
 ·rcases key i o hi with⟨rfl,_⟩|⟨I,a2⟩
  ·grind[wA]
  ·rw[fK c _ _ _ I] at hx;exact h.fx i o a2 hx
def oa (_:Value): Option (DataW Unit×List MemPlace):=some (.nil,[])
def E6 (P:Program)(f K:Nat)(gs:List Nat): Prop:=∀g∈gs,∀(Bm b nn:Nat) (I:DataW Unit) (w:World),Bm<w.heap.size→w.cell? ⟨Bm,0,none⟩=some (.map (some b)) →
 w.ownsMap P K oa b nn I→Maps.size I≤maxLen→Maps.size I*8≤140737488355328 →
 Calls P f #[.func (.func g) #[] #[.pointer (some ⟨Bm,0,none⟩)]] w fun e w'=>∃(v:Value) (J:List Int),e=.returned v∧J.Perm (intKeys I) ∧
  w'.ownsRow w.heap.size K 1 v J.length ((J.mergeSort (fun x y=>decide (x≤y))).map encZ)∧(v=.slice none 0 0↔J=[])∧Below w.heap.size w w'
theorem FY {f K:Nat}{gs:List Nat}(hK:P.underlying K=some (.int .i64))(hS:E6 P f K gs){v:V}(I:toldSorted gs args σ=some (v,cV))
 (h:Rel c σ w): eo P f args c w v cV:=by
 unfold toldSorted at I
 split at I
 ·rename_i g b
  split at I
  ·rename_i n id Tv
   split at I
   ·rename_i es clock hgm
    cases hq:(Nat.beq n 1&&wq gs g&&bornUp clock 0 es&&Nat.ble es.length 1048576) with
    |false=>grind
    |true =>
     rw[hq,ah] at I
     simp only[bK,beq_iff,aG,Bo] at hq
     obtain⟨⟨⟨q1,q2⟩,q3⟩,q4⟩:=hq
     subst q1
     cases hk:keyInts es with
     |none=>grind
     |some ks =>
      simp only[hk] at I
      cases J:rE (mB ks) with
      |false=>grind
      |true =>
       simp only[J,ah] at I
       obtain⟨k1,k2⟩:=Ci (c:=c) es ks hk
       obtain⟨b1,b2⟩:=E5 es 0 q3
       have cJ:=E0 _ J
       have nX:ks.Nodup:=(eP ks).nodup_iff.1 (cJ.imp fun {a b} oT=>by omega)
       have F_:=h.one b _ _ Tv (h.DL Tv (by simp))
       have BV:=cell_of h Tv (j:=0) (v:=.map id) rfl
       have aaE:gz c b 0=⟨(c.ρ b).1,0,none⟩:=by simp[gz,F_]
       rw[aaE] at BV
       have Xg:w.cell? ⟨(c.ρ b).1,0,none⟩=some (.map (some (c.ρ id).1)):=by simpa[conc] using BV
       obtain⟨m1,m2⟩:=h.obj id _ hgm
       have Ga:∀x∈es,∃n,n∈ks∧(cy c x).key=.int .i64 n:=fun x hx=>by
        have:conc c x.1∈ks.map (Value.int .i64):=by grind
        obtain⟨n,hn,he⟩:=List.mem_map.1 this
        exact⟨n,hn,he.symm⟩
       have kB:∀x∈es,∀n,(cy c x).key=.int .i64 n→n∈ks→WideElems.rd P K oa (cy c x)=some (.int .i64 n,.nil):=fun x hx n hn hm=>by
        grind[WideElems.rd,Maps.keyOf_int_mk,oa]
       have aaF:w.ownsMap P K oa (c.ρ id).1 es.length (.map (((es.map (cy c)).toArray.toList.map (WideElems.rg P K oa)).foldr DataW.insert [])):=by
        refine⟨(es.map (cy c)).toArray,clock,m2,⟨by simp[maxLen];omega,⟨fun x hx => ?_,?_,?_⟩,fun x hx => ?_⟩,by simp,rfl⟩
        ·simp only[List.mem_map] at hx
         obtain⟨y,hy,rfl⟩:=hx
         exact(b1 y hy).2
        ·grind[cy]
        ·have:(es.map (cy c)).toArray.toList.map (·.key)=ks.map (Value.int .i64):=by simp_all[cy,Function.comp_def]
         grind
        grind
       have eH:Maps.size (H:=Unit) (.map (((es.map (cy c)).toArray.toList.map (WideElems.rg P K oa)).foldr DataW.insert []))=es.length:=by
        rw[Maps.size_eq,(WideShapes.sorted_perm _).length_eq];simp
       have sA:(intKeys (H:=Unit) (.map (((es.map (cy c)).toArray.toList.map (WideElems.rg P K oa)).foldr DataW.insert []))).Perm ks:=by
        refine((WideShapes.sorted_perm _).map _).trans ?_
        have:(((es.map (cy c)).toArray.toList.map (WideElems.rg P K oa)).map fun p=>intOf p.1)=ks:=by
         have hpt:∀x∈es,Value.int .i64 (intOf (WideElems.rg P K oa (cy c x)).1)=conc c x.1:=fun x hx=>by
          obtain⟨n,hn,he⟩:=Ga x hx
          rw[WideElems.rg_of (kB x hx n he hn)]
          exact he.symm
         have h1:((((es.map (cy c)).toArray.toList.map (WideElems.rg P K oa)).map fun p=>intOf p.1).map (Value.int .i64))=ks.map (Value.int .i64):=by
          grind[List.map_congr_left]
         grind[List.map_inj_right]
        rw[this]
       have LH:=hS g q2 (c.ρ b).1 (c.ρ id).1 es.length _ w (h.k_ b (h.live b _ Tv)) Xg aaF (by rw[eH];simp[maxLen];omega) (by omega)
       have An:([V.fn (.func g) [] [.ptr b 0]].map (conc c)).toArray = #[.func (.func g) #[] #[.pointer (some ⟨(c.ρ b).1,0,none⟩)]]:=by simp[conc,concL,F_]
       unfold eo
       rw[An]
       refine LH.mono ?_
       rintro e w' ⟨rv,ss,rfl,s1,s2,s3,s4⟩
       obtain⟨g1,g2⟩:=h.below s4
       have hss:ss.Perm ks:=s1.trans sA
       have hms:ss.mergeSort (fun x y=>decide (x≤y))=mB ks:=by
        refine vQ (((List.mergeSort_perm ss _).trans hss).trans (eP ks).symm) ?_ (cJ.imp fun {a b} oT=>by omega)<;>grind[List.pairwise_mergeSort]
       rw[hms] at s2
       split at I
       ·-- no key
        have GN:ss=[]:=by simp_all
        grind[conc,wf]
       ·obtain⟨rfl,rfl⟩:=I
        have acn:ss≠[]:=fun e=>by
         simp_all
        have jT:ss.length=ks.length:=hss.length_eq
        rcases s2.2 with⟨e1,_⟩|⟨gb,cap,cur,rfl,l1,l2,l3,l4,l5,l6⟩
        ·grind
        have aaG:gb<w'.heap.size:=(Array.getElem?_eq_some_iff.1 l2).1
        have EK:∀i,i<c.N→(c.ρ i).1≠gb:=fun i hi e=>by have:=h.k_ i hi;omega
        have qf:∀x∈dy (mB ks),wf c x∧storable x=true:=fun x hx=>by
         obtain⟨n,_,rfl⟩:=List.mem_map.1 hx<;>grind[wf,storable]
        have NU:(dy (mB ks)).length=ks.length:=by simp[dy,(eP ks).length_eq]
        have Zh:cur.toList.take (dy (mB ks)).length=(dy (mB ks)).map (conc c):=by
         simp_all[dy,conc]
        have R:=g1.take aaG EK qf l2 Zh
        have ua:(c.grow gb 0 cur.size).room σ.next 0 1=cap:=by
         simp only[Ctx.room,h.next,Ctx.grow,cA]
         simp[l5]
        refine⟨c.grow gb 0 cur.size,?_,?_,R,g2.F7 EK l1⟩
        ·simp only[conc,ua]
         simp[h.next,Ctx.grow,jT]
        ·exact⟨by rw[h.next];simp[Ctx.grow],aQ _,by omega⟩
   ·cases I
  ·cases I
 ·cases I
end
end Go.Proofs.YtiojppeahfoiaaaGreat.Am
namespace Go.Proofs.YtiojppeahfoiaaaGreat.Am
open Go
variable {ps:Array (Nat×Operand)} {ops:Array Oper} {st:Bool} {C:eO} {code:Code} {c₀:Ctx} {env:Env} {Q:Ex→List (Nat×V)→H→Prop} {fn:Func} {f:FuncId} {cl:Go.Call} {h h' σ h₁ cV:H} {κ:IntKind} {E E':List (Nat×V)} {R:List (Nat×V)→H→Prop} {d₀:List Deferred} {hs:List H} {d_ es l:List Nat} {L rest:List Oper} {args first cap vs cs ds:List V} {a b i c k id n d off j g mQ k' q:Nat} {Hs:Nat→H} {early:Nat→Option (Nat×FV)} {Fl:Nat→Prop} {vv:Nat→V} {o':Obj} {o:Oper} {x y:Operand} {P:Program} {φ:Prop} {self:Self} {s s':St} {α:Type} {td:TypeDesc} {t t' e kt et:TypeId} {r u z:V} {yl:V→H→Prop} {w₀:World}
abbrev rF := List (Nat×List V×List V)
noncomputable def resOf (P:Program)(s:St)(rs:List ResultVar): Option V:=match mapO (resV P s) rs with
 |some [v]=>some v
 |some vs=>some (.aO vs)
 |none=>none
noncomputable def evOpsD (C:eO)(self:Self)(L:List Oper): List Oper→St→rF→Option (St×rF)
 |[],s,d=>some (s,d)
 |o::rest,s,d=>match o.op with
  |.defer cl=>match o.guard,o.dst,cl.callee,evArgs s.env cl.args.toList with
   |none,none,.value x,some args=>match evO s.env x with
    |some (.fn (.func g) first cap)=>evOpsD C self L rest s ((g,first++args,cap)::d)
    |_=>none
   |_,_,_,_=>none
  |_=>cond (wantedV L s.env o)
   (match evOp C self s.env s.h o with
    |some (v,h)=>match s.put o.dst v h with
     |some s'=>evOpsD C self L rest s' d
     |none=>none
    |none=>none)
   (match s.put o.dst bW s.h with
    |some s'=>evOpsD C self L rest s' d
    |none=>none)
noncomputable def evTop (C:eO)(n:Nat): Nat→Code→St→rF→Option (Ex×St×rF)
 |0,_,_,_=>none
 |m+1,c,s,d=>match c with
  |.seq a b=>match evTop C n m a s d with
   |some (.normal,s',I)=>evTop C n m b s' I
   |r=>r
  |.region _ ops false=>match evOpsD C (ev C n) ops.toList ops.toList s d with
   |some (s',I)=>some (.normal,s',I)
   |none=>none
  |c=>match ev C n c s with
   |some (ex,s')=>some (ex,s',d)
   |none=>none
def quietParts : Code→Option (Nat×Nat×Code)
 |.seq (.region _ ops false) rest=>match ops.toList with
  |[I,J]=>match I.op,I.guard,I.dst,J.op,J.guard,J.dst with
   |.call cl,none,some mQ,.assign (.tmp t),none,some DZ=>match cl.callee,cl.args.toList with
    |.builtin .recover,[]=>cond (Nat.beq t mQ) (some (mQ,DZ,rest)) none
    |_,_=>none
   |_,_,_,_,_,_=>none
  |_=>none
 |_=>none
noncomputable def defCall (C : eO) (n : Nat) (g : Nat) (args : List V) (h : H) : Option H := match C.P.funcs[g]? with
 | none => none
 | some fn => match fn.body with
  | none => none
  | some code => match quietParts code with
   | some (mQ, I, rest) => cond (Nat.blt mQ fn.ntmps && Nat.blt I fn.ntmps && Nat.ble args.length fn.ntmps && !(fn.name == "runtime.NumGoroutine"))
    (match ev C n rest ⟨((bindArgs args 0 .lf).set mQ (some .iP)).set I (some .iP), fn.ntmps, h⟩ with
     | some (.normal, s) | some (.ret, s) => match resOf C.P s fn.results.toList with
      | some _ => some s.h
      | none => none
     | _ => none) none
   | none => match callF C (ev C n) g args h with
    | some (_, h') => some h'
    | none => none
noncomputable def runDefs (C:eO)(n:Nat): rF→H→Option H
 |[],h=>some h
 |(g,args,cap)::d,h=>match C.told g with
  |some _=>none
  |none=>match defCall C n g (args++cap) h with
   |some h'=>runDefs C n d h'
   |none=>none
noncomputable def toldDefer (C:eO)(n f:Nat)(args:List V)(h:H): Option (V×H):=match C.P.funcs[f]? with
 |none=>none
 |some fn=>match fn.body with
  |none=>none
  |some c=>cond (Nat.blt fn.ntmps args.length) none (match evTop C n 1000 c ⟨bindArgs args 0 .lf,fn.ntmps,h⟩ [] with
   |some (.exit _,_,_)=>none
   |some (_,s,d)=>match runDefs C n d s.h with
    |some h'=>match resOf C.P ⟨s.env,s.ak,h'⟩ fn.results.toList with
     |some v=>some (v,h')
     |none=>none
    |none=>none
   |none=>none)
section
variable {c:Ctx} {w:World}
theorem Bq {a:Act}{v:V}(h:Rel c s.h w)(he:cX c s.env s.ak a)(J:resOf P s fn.results.toList=some v):
  (results fn a.tmps).run P w=.ok (conc c v) w∧wf c v:=by
 unfold resOf at J
 cases I:mapO (resV P s) fn.results.toList with
 |none=>grind
 |some vs =>
  obtain⟨q1,q2⟩:=nm h he I
  rw[q1]
  rcases vs with _|⟨v0,_|⟨v1,vs⟩⟩<;>grind[conc,wf,fq,gT]
structure qV (c:Ctx)(d:rF)(ds:List Deferred): Prop where
 eq:ds=d.map fun x=>{ target:=.fn (.func x.1) (x.2.2.map (conc c)).toArray,args:=(x.2.1.map (conc c)).toArray }
 E7:∀x∈d,(∀v∈x.2.1,wf c v)∧∀v∈x.2.2,wf c v
theorem qV.ext {c':Ctx}{d:rF}{ds:List Deferred}(h:qV c d ds)(e:Ext c c'): qV c' d ds where
 eq:=by
  rw[h.eq]
  refine zT fun x I => ?_
  rw[(mM e (h.E7 x I).1).1,(mM e (h.E7 x I).2).1]
 E7:=fun x I=>⟨(mM e (h.E7 x I).1).2,(mM e (h.E7 x I).2).2⟩
theorem NV {a:Act}(he:cX c env n a): ∀(l:List Operand) (vs:List V),evArgs env l=some vs→l.map a.eval=vs.map (conc c)∧∀v∈vs,wf c v:=by
 intro l
 induction l<;>grind[evArgs,vG]
theorem NX (hS:ij C.P self)(hT:ep C){Q:Exit→Act→World→Prop}: ∀(l:List Oper) (k:Nat) (s s':St) (d d':rF) (c:Ctx) (a:Act) (w:World),
  (∀j,l[j]?=ops[k+j]?)→evOpsD C self ops.toList l s d=some (s',d')→Rel c s.h w→cX c s.env s.ak a→qV c d a.defers →
  (∀c' a' w',Rel c' s'.h w'→cX c' s'.env s'.ak a'→bZ c w c' w'→qV c' d' a'.defers→Q .normal a' w') →
  wpOpsIn (Fr none) 0 C.P ops Q (List.range' k l.length) a w:=by
 intro l
 induction l with
 |nil =>
  grind[evOpsD,wpOpsIn,bZ.refl]
 |cons o l ih =>
  intro k s s' d d' c a w hl I h he hd hQ
  have h0:ops[k]?=some o:=by simpa using(hl 0).symm
  have yc:∀j,l[j]?=ops[k+1+j]?:=fun j=>by have:=hl (j+1);grind
  simp only[bn,zZ,wpOpsIn,h0]
  rw[wL he]
  have common:(cond (wantedV ops.toList s.env o)
    (match evOp C self s.env s.h o with
     |some (v,h)=>match s.put o.dst v h with
      |some s'=>evOpsD C self ops.toList l s' d
      |none=>none
     |none=>none)
    (match s.put o.dst bW s.h with
     |some s'=>evOpsD C self ops.toList l s' d
     |none=>none))=some (s',d') →
    (if wantedV ops.toList s.env o=true then o.wpIn (Fr none) 0 C.P a w (wpOpsIn (Fr none) 0 C.P ops Q (List.range' (k+1) l.length)) Q else(∀f,o.about C.P w a.eval=some f→(Fr none).fn f)∧wpOpsIn (Fr none) 0 C.P ops Q (List.range' (k+1) l.length) (a.put o.dst undef) w):=by
   intro I
   cases hw:wantedV ops.toList s.env o with
   |true =>
    rw[hw,ah] at I
    cases ho:evOp C self s.env s.h o with
    |none=>grind
    |some r =>
     obtain⟨v,cV⟩:=r
     simp only[ho] at I
     cases hp:s.put o.dst v cV with
     |none=>grind
     |some J =>
      simp only[hp] at I
      refine(vL hS hT h (he.GK o) ho).wpIn (lu ho) ?_
      intro c' w' r1 r2 r3
      obtain⟨p1,p2,p3⟩:=St.vF (he.ext r2.ext) r3 hp
      refine ih (k+1) J s' d d' c' _ w' yc I (by grind) p1 (by rw[put_defers];exact hd.ext r2.ext) ?_
      intro r8 yf yg q1 q2 q3 q4
      exact hQ r8 yf yg q1 q2 (r2.trans q3) q4
   |false =>
    refine⟨fun _ _=>trivial,?_⟩
    cases hp:s.put o.dst bW s.h with
    |none=>grind
    |some J =>
     obtain⟨p1,p2,p3⟩:=St.vF he (show wf c bW by simp[bW,wf,fJ]) hp<;>grind[sj,put_defers]
  unfold evOpsD at I
  split at I
  ·rename_i cl jC
   split at I
   ·rename_i x args hg Qx abH An
    split at I
    ·rename_i g first cap hfv
     have Zi:wantedV ops.toList s.env o=true:=by simp[wantedV,hg]
     simp only[Zi,cA]
     obtain⟨e1,e2⟩:=NV he _ _ An
     obtain⟨f1,f2⟩:=vG he hfv
     have fw:(∀x∈first,wf c x)∧(∀x∈cap,wf c x):=by
      grind[wf,gT]
     have tq:(execOp a.eval o).run C.P w=.ok (.defer { target:=.fn (.func g) (cap.map (conc c)).toArray,args:=((first++args).map (conc c)).toArray }) w:=by
      simp_all[conc,fq,execOp,resolve,Deferred.ofValue]
     refine⟨fun _ _=>trivial,?_⟩
     rw[show(Fr none).round=none from rfl,Oper.semAt_none,tq]
     simp only[Oper.uponIn,Qx,Act.put]
     refine ih (k+1) s s' ((g,first++args,cap)::d) d' c _ w yc I h ⟨he.size,he.val,he.ry⟩ ⟨by simp[hd.eq],fun x hx => ?_⟩ ?_
     ·rcases List.mem_cons.1 hx with rfl|hx
      ·grind
      ·exact hd.E7 x hx
     ·omega
    ·cases I
   ·cases I
  ·grind
theorem Q1 (hm:C.P.follows .mixedOrders=true)(hT:ep C): ∀(m:Nat) (code:Code) (s:St) (d:rF) (ex:Ex) (s':St) (d':rF),evTop C n m code s d=some (ex,s',d') →
  ∀(c:Ctx) (a:Act) (w:World),Rel c s.h w→cX c s.env s.ak a→qV c d a.defers →
   code.wp C.P (fun e a' w'=>e=exOf ex∧∃c',Rel c' s'.h w'∧cX c' s'.env s'.ak a'∧bZ c w c' w'∧qV c' d' a'.defers) a w:=by
 have hS:=(wM (C:=C) hm hT n).1
 intro m
 induction m with
 |zero=>grind[evTop]
 |succ m ih =>
  intro code s d ex s' d' J c a w h he hd
  have rest:(match ev C n code s with
    |some (ex,s')=>some (ex,s',d)
    |none=>none)=some (ex,s',d')→code.wp C.P (fun e a' w'=>e=exOf ex∧∃c',Rel c' s'.h w'∧cX c' s'.env s'.ak a'∧bZ c w c' w'∧qV c' d' a'.defers) a w:=by
   intro J
   cases nY:ev C n code s with
   |none=>grind
   |some r =>
    rw[nY] at J
    obtain⟨rfl,rfl,rfl⟩:=J
    refine Code.wp_mono ?_ (hS _ _ _ _ nY c a w h he)
    rintro e a' w' ⟨rfl,q2,c',q3,q4,q5⟩
    exact⟨rfl,c',q3,q4,q5,by rw[q2];exact hd.ext q5.ext⟩
  unfold evTop at J
  split at J
  ·rename_i x y
   cases hx:evTop C n m x s d with
   |none=>grind
   |some r =>
    obtain⟨ET,I,mQ⟩:=r
    rw[hx] at J
    refine wp_seq (Code.wp_mono ?_ (ih x s d ET I mQ hx c a w h he hd))
    rintro e AS rC ⟨rfl,c₁,q3,q4,q5,q6⟩
    cases ET with
    |normal =>
     refine Code.wp_mono ?_ (ih y I mQ ex s' d' J c₁ AS rC q3 q4 q6)
     rintro e FU Wu ⟨rfl,c₂,p3,p4,p5,p6⟩
     exact⟨rfl,c₂,p3,p4,q5.trans p5,p6⟩
    |exit i =>
     obtain⟨rfl,rfl,rfl⟩:=J
     exact⟨rfl,c₁,q3,q4,q5,q6⟩
    |ret =>
     obtain⟨rfl,rfl,rfl⟩:=J
     exact⟨rfl,c₁,q3,q4,q5,q6⟩
  ·rename_i id ops
   cases hx:evOpsD C (ev C n) ops.toList ops.toList s d with
   |none=>grind
   |some r =>
    obtain⟨I,mQ⟩:=r
    rw[hx] at J
    simp only[ay,bz] at J
    obtain⟨rfl,rfl,rfl⟩:=J
    refine wpIn_wide.1 (show(Code.region id ops false).wpIn (Fr none) 0 C.P _ a w from wpIn_region ?_)
    rw[Dt,←zU]
    exact NX (ym (C:=C) hm hT n).1 hT ops.toList 0 s I d mQ c a w (fun j=>by simp) hx h he hd fun c' a' w' r1 r2 r3 r4=>⟨rfl,c',r1,r2,r3,r4⟩
  ·grind
theorem Q2 (hm : C.P.follows .mixedOrders = true) (hT : ep C) {v : V} (hg : C.told g = none) (I : callF C (ev C n) g args σ = some (v, cV)) (h : Rel c σ w) (hw : ∀ x ∈ args, wf c x) :
  CallsD C.P g (args.map (conc c)).toArray .returning w (fun e u' w' => u' = .returning ∧ (∃ x, e = .returned x) ∧ ∃ c', Rel c' cV w' ∧ bZ c w c' w') ∧ ∀ (x : Array Value) (w : World), (callFunc g x).run C.P w = .ok (.enter g x) w := by
 have hS := (wM (C := C) hm hT n).1
 have hen := (callF_ok hS hT I h hw).2
 unfold callF at I
 rw [hg] at I
 simp only at I
 cases hf : C.P.funcs[g]? with
 | none => grind
 | some fn =>
  simp only [hf] at I
  cases hb : fn.body with
  | none => grind
  | some code =>
   simp only [hb] at I
   cases hq : (fn.name == "runtime.NumGoroutine" || Nat.blt fn.ntmps args.length) with
   | true => grind
   | false =>
    simp only [Bool.or_eq_false_iff] at hq
    have hle : args.length ≤ fn.ntmps := by
     grind [gF]
    have J := iR (c := c) hle hw
    have done : ∀ ex s, ev C n code ⟨bindArgs args 0 .lf, fn.ntmps, σ⟩ = some (ex, s) → (ex = .normal ∨ ex = .ret) →
      (match mapO (resV C.P s) fn.results.toList with
       | some [v] => some (v, s.h)
       | some vs => some (.aO vs, s.h)
       | none => none) = some (v, cV) →
      CallsD C.P g (args.map (conc c)).toArray .returning w (fun e u' w' => u' = .returning ∧ (∃ x, e = .returned x) ∧ ∃ c', Rel c' cV w' ∧ bZ c w c' w') := by
     intro ex s hs hex hmr
     have Nq := hS code _ ex s hs c _ w h J
     have Br : resOf C.P s fn.results.toList = some v ∧ s.h = cV := by
      grind [resOf]
     have vR := callsD_of_wp (u := .returning) (R := fun e w' => (∃ x, e = .returned x) ∧ ∃ c', Rel c' cV w' ∧ bZ c w c' w') hf hb (Code.wp_mono (Q' := bodyPost C.P fn fun e w' => (∃ x, e = .returned x) ∧ ∃ c', Rel c' cV w' ∧ bZ c w c' w') ?_ Nq)
     ·omega
     ·rintro e a' w' ⟨rfl, hd, c', r1, r2, r3⟩
      have F6 : a'.defers = [] ∧ ∃ x, (results fn a'.tmps).run C.P w' = .ok x w' ∧ (∃ y, Ending.returned x = .returned y) ∧ ∃ c', Rel c' cV w' ∧ bZ c w c' w' :=
       ⟨hd, _, (Bq r1 r2 Br.1).1, ⟨_, rfl⟩, c', by grind, r3⟩
      grind [bodyPost, exOf]
    split at I
    ·grind
    ·grind
    ·grind
theorem FZ {ρ:Operand→Value}(ho:o.op=.call cl)(I:cl.callee=.builtin .recover)(J:cl.args.toList=[])(w:World): (execOp ρ o).run P w=.ok .recover w:=by
 simp_all[execOp,resolve,invoke,builtin]
theorem E8 (hm:C.P.follows .mixedOrders=true)(hT:ep C){DZ:Nat}{rest:Code}{ex:Ex}{I:St}{v:V}(hf:C.P.funcs[g]?=some fn)(hb:fn.body=some code)
 (J:quietParts code=some (mQ,DZ,rest))(h1:mQ<fn.ntmps)(h2:DZ<fn.ntmps)(hle:args.length≤fn.ntmps)
 (Cj:ev C n rest ⟨((bindArgs args 0 .lf).set mQ (some .iP)).set DZ (some .iP),fn.ntmps,σ⟩=some (ex,I))(hex:ex=.normal∨ex=.ret)(Br:resOf C.P I fn.results.toList=some v)
 (h:Rel c σ w)(hw:∀x∈args,wf c x):
  CallsD C.P g (args.map (conc c)).toArray .returning w (fun e u' w'=>u'=.returning∧(∃x,e=.returned x)∧∃c',Rel c' I.h w'∧bZ c w c' w'):=by
 have hS:=(wM (C:=C) hm hT n).1
 unfold quietParts at J
 split at J
 ·rename_i id ops Zj
  split at J
  ·rename_i I8 Gy aco
   split at J
   ·rename_i cl abP t abQ q6 q2 q4 q9 q3 q5
    split at J
    ·rename_i q7 q8
     cases ht:Nat.beq t abP with
     |false=>grind
     |true =>
      rw[ht,ah] at J
      simp only[ay,bz] at J
      obtain⟨rfl,rfl,rfl⟩:=J
      have:=beq_iff.1 ht
      subst this
      have Zk:ops = #[I8,Gy]:=by grind
      subst Zk
      refine callsD_of_wpS hf hb fun c₀ cs hu=>(wpS_seq ?_)
      have V9:=iR (c:=c) hle hw
      generalize hA:({ tmps:=(args.map (conc c)).toArray++Array.replicate (fn.ntmps-(args.map (conc c)).toArray.size) undef,defers:=[] }:Act)=A at V9 ⊢
      have Xh:A.defers=[]:=by grind
      have tw:=(V9.put (d:=t) (v:=.iP) h1 (by simp[wf])).put (d:=abQ) (v:=.iP) h2 (by simp[wf])
      have tq:=hS _ _ _ _ Cj c _ w h tw
      rw[show conc c .iP=.nilIface from by rfl] at tq
      have Q3:recoverD (c₀::cs)=none:=by simp[recoverD,hu]
      have h5:(A.put (some t) .nilIface).eval (.tmp t)=.nilIface:=by
       have:=(V9.put (d:=t) (v:=.iP) h1 (by simp[wf])).val t
       grind[conc,Act.eval,Env.v,aR]
      refine wpS_region ?_
      rw[show List.range (#[I8,Gy]:Array Oper).size=[0,1] from rfl]
      simp only[wpOpsS,me,l_,mc,Region.wanted,q2,q3,cA]
      rw[FZ q6 q7 q8]
      simp only[Q3,q4]
      have aaH:(execOp (A.put (some t) .nilIface).eval Gy).run C.P w=.ok (.value .nilIface) w:=by simp[execOp,q9,h5]
      rw[aaH]
      simp only[Oper.upon,q5,Exit.thenS]
      refine wpS_of_wp (Code.wp_mono ?_ tq)
      rintro e a' w' ⟨rfl,dd,c',r1,e2,p1⟩
      have F6:a'.defers=[]∧∃u',c₀::cs={ c₀ with mode:=u' }::cs∧∃v,(results fn a'.tmps).run C.P w'=.ok v w'∧(u'=.returning∧(∃x,Ending.returned v=.returned x)∧∃c',Rel c' I.h w'∧bZ c w c' w') :=
       ⟨dd.trans Xh,.returning,by rw[←hu],_,(Bq r1 e2 Br).1,rfl,⟨_,rfl⟩,c',r1,p1⟩
      rcases hex with rfl|rfl
      ·exact F6
      ·exact F6
    ·cases J
   ·cases J
  ·cases J
 ·cases J
theorem LI (hm : C.P.follows .mixedOrders = true) (hT : ep C) (hg : C.told g = none) (I : defCall C n g args σ = some cV) (h : Rel c σ w) (hw : ∀ x ∈ args, wf c x) :
  CallsD C.P g (args.map (conc c)).toArray .returning w (fun e u' w' => u' = .returning ∧ (∃ x, e = .returned x) ∧ ∃ c', Rel c' cV w' ∧ bZ c w c' w') ∧ ∀ (x : Array Value) (w : World), (callFunc g x).run C.P w = .ok (.enter g x) w := by
 unfold defCall at I
 cases hf : C.P.funcs[g]? with
 | none => grind
 | some fn =>
  simp only [hf] at I
  cases hb : fn.body with
  | none => grind
  | some code =>
   simp only [hb] at I
   split at I
   ·rename_i mQ J rest hq
    cases hc : (Nat.blt mQ fn.ntmps && Nat.blt J fn.ntmps && Nat.ble args.length fn.ntmps && !(fn.name == "runtime.NumGoroutine")) with
    | false => grind
    | true =>
     rw [hc, ah] at I
     simp only [bK, gF, aG, Bool.not_eq_true'] at hc
     refine ⟨?_, fun x w => by simp_all [callFunc]⟩
     split at I
     ·grind [E8]
     ·grind [E8]
     ·cases I
   grind [Q2]
theorem NY (hm:C.P.follows .mixedOrders=true)(hT:ep C){v:V}(Br:resOf C.P ⟨s.env,s.ak,h'⟩ fn.results.toList=some v):
  ∀(d:rF) (h:H) (c:Ctx) (a:Act) (ds:List Deferred) (w:World),runDefs C n d h=some h'→Rel c h w→cX c s.env s.ak a→qV c d ds→bZ c₀ w₀ c w →
   Leaves C.P fn a.tmps (fun e w'=>∃c',e=.returned (conc c' v)∧wf c' v∧Rel c' h' w'∧bZ c₀ w₀ c' w') ds .returning w:=by
 intro d
 induction d with
 |nil =>
  intro h c a ds w J I he hd hs
  simp only[runDefs,ay] at J
  subst J
  have:ds=[]:=by rw[hd.eq];rfl
  subst this
  obtain⟨q1,q2⟩:=Bq (s:=⟨s.env,s.ak,h⟩) I he Br
  exact⟨_,q1,c,rfl,q2,I,hs⟩
 |cons x d ih =>
  intro h c a ds w J I he hd hs
  obtain⟨g,args,cap⟩:=x
  simp only[runDefs] at J
  cases ht:C.told g with
  |some t=>grind
  |none =>
   rw[ht] at J
   cases hc:defCall C n g (args++cap) h with
   |none=>grind
   |some h₁ =>
    rw[hc] at J
    have nW:=hd.E7 (g,args,cap) (by simp)
    obtain⟨k1,k2⟩:=LI hm hT ht hc I (fun x hx=>by
     grind)
    have hds:ds={ target:=.fn (.func g) (cap.map (conc c)).toArray,args:=(args.map (conc c)).toArray }::d.map fun x=>{ target:=.fn (.func x.1) (x.2.2.map (conc c)).toArray,args:=(x.2.1.map (conc c)).toArray }:=by rw[hd.eq];rfl
    rw[hds]
    refine leaves_cons (f:=g) (args:=((args++cap).map (conc c)).toArray) (by simp) ?_ ?_
    ·grind[invoke]
    ·refine k1.mono ?_
     rintro e u' rC ⟨rfl,⟨y,rfl⟩,c₁,r1,r2⟩
     have hd':qV c d (d.map fun x=>{ target:=.fn (.func x.1) (x.2.2.map (conc c)).toArray,args:=(x.2.1.map (conc c)).toArray }):=⟨rfl,fun z hz=>hd.E7 z (by grind)⟩
     exact ih h₁ c₁ a _ rC J r1 (he.ext r2.ext) (hd'.ext r2.ext) (hs.trans r2)
theorem yu (hm:C.P.follows .mixedOrders=true)(hT:ep C){f:Nat}{v:V}(J:toldDefer C n f args σ=some (v,cV))(h:Rel c σ w)(hw:∀x∈args,wf c x):
  eo C.P f args c w v cV:=by
 unfold toldDefer at J
 cases hf:C.P.funcs[f]? with
 |none=>grind
 |some fn =>
  simp only[hf] at J
  cases hb:fn.body with
  |none=>grind
  |some code =>
   simp only[hb] at J
   cases hq:Nat.blt fn.ntmps args.length with
   |true=>grind
   |false =>
    rw[hq,aL] at J
    have hle:args.length≤fn.ntmps:=by
     grind[gF]
    have tv:=iR (c:=c) hle hw
    refine calls_of_wp_defers hf hb ?_
    have done:∀ex s d,evTop C n 1000 code ⟨bindArgs args 0 .lf,fn.ntmps,σ⟩ []=some (ex,s,d)→(ex=.normal∨ex=.ret) →
      (match runDefs C n d s.h with
       |some h'=>match resOf C.P ⟨s.env,s.ak,h'⟩ fn.results.toList with
        |some v=>some (v,h')
        |none=>none
       |none=>none)=some (v,cV) →
      code.wp C.P (bodyPostD C.P fn fun e w'=>∃c',e=.returned (conc c' v)∧wf c' v∧Rel c' cV w'∧bZ c w c' w')
       { tmps:=(args.map (conc c)).toArray++Array.replicate (fn.ntmps-(args.map (conc c)).toArray.size) undef,defers:=[] } w:=by
     intro ex s d hs hex I
     refine Code.wp_mono ?_ (Q1 hm hT 1000 code _ [] ex s d hs c _ w h tv ⟨rfl,fun x hx=>by cases hx⟩)
     rintro e a' w' ⟨rfl,c',r1,r2,r3,r4⟩
     cases kB:runDefs C n d s.h with
     |none=>grind
     |some h' =>
      rw[kB] at I
      simp only at I
      cases WN:resOf C.P ⟨s.env,s.ak,h'⟩ fn.results.toList with
      |none=>grind
      |some v' =>
       rw[WN] at I
       obtain⟨rfl,rfl⟩:=I<;>grind[NY,bodyPostD,exOf]
    split at J
    ·cases J
    ·rename_i ex s d nM hs
     cases ex<;>grind
    ·cases J
end

/- Heaps compared. -/
def noIter : Option Obj→Option Obj
 |some (.iter _ _ _ _)=>none
 |v=>v
def flatM {α β:Type}(f:α→Option (List β)): List α→Option (List β)
 |[]=>some []
 |x::l=>match f x with
  |none=>none
  |some a=>match flatM f l with
   |none=>none
   |some b=>some (a++b)
theorem NZ {β:Type}{f:α→Option (List β)}: ∀(l:List α) (R:List β),flatM f l=some R→∀x∈l,∃r,f x=some r∧∀y∈r,y∈R:=by
 intro l
 induction l<;>grind[flatM]
section
variable (C:eO) (self:Self)
noncomputable def opAll (env:Env)(h:H)(o:Oper): Option (List (V×H)):=match o.op with
 |.next it false=>match evO env it with
  |some (.ptr r off)=>cond (Nat.beq off 0) (nextAll h r) none
  |_=>none
 |_=>match evOp C self env h o with
  |some q=>some [q]
  |none=>none
noncomputable def opsAll (ops:List Oper): List Oper→St→Option (List St)
 |[],s=>some [s]
 |o::l,s=>cond (wantedV ops s.env o)
  (match opAll C self s.env s.h o with
   |some I=>flatM (fun q=>match s.put o.dst q.1 q.2 with
    |some s'=>opsAll ops l s'
    |none=>none) I
   |none=>none)
  (match s.put o.dst bW s.h with
   |some s'=>opsAll ops l s'
   |none=>none)
end
section
theorem Q4 (hS:ij C.P self)(hT:ep C){c:Ctx}{w:World}{a:Act}{qs:List (V×H)}(h:Rel c σ w)(he:Ai c env a o)(I:opAll C self env σ o=some qs):
  (∃q∈qs,wJ C.P o a c w q.1 q.2)∧∀d,o.op≠.defer d:=by
 unfold opAll at I
 split at I
 ·rename_i it ho
  refine⟨?_,fun d hd=>by grind⟩
  split at I
  ·rename_i r off hx
   cases hq:Nat.beq off 0 with
   |false=>grind
   |true =>
    have:=beq_iff.1 hq
    subst this
    obtain⟨f1,f2⟩:=he it (by simp[ho,Op.operands]) _ hx
    obtain⟨q,J,hg⟩:=A3 (P:=C.P) h I o.type
    exact⟨q,J,eY (s:=Instr.next (conc c (.ptr r 0)) false o.type) (by simp only[execOp,ho,f1]) hg⟩
  ·cases I
 ·cases nY:evOp C self env σ o with
  |none=>grind
  |some q =>
   grind[vL,lu]
theorem N5 (hS:ij C.P self)(hT:ep C){Q:Exit→Act→World→Prop}: ∀(l:List Oper) (k:Nat) (s:St) (L:List St) (c:Ctx) (a:Act) (w:World),
  (∀j,l[j]?=ops[k+j]?)→opsAll C self ops.toList l s=some L→Rel c s.h w→cX c s.env s.ak a →
  (∀s'∈L,∀c' a' w',Rel c' s'.h w'→cX c' s'.env s'.ak a'→bZ c w c' w'→a'.defers=a.defers→Q .normal a' w') →
  wpOpsIn (Fr none) 0 C.P ops Q (List.range' k l.length) a w:=by
 intro l
 induction l with
 |nil =>
  grind[opsAll,wpOpsIn,bZ.refl]
 |cons o l ih =>
  intro k s L c a w hl J h he hQ
  have h0:ops[k]?=some o:=by simpa using(hl 0).symm
  have yc:∀j,l[j]?=ops[k+1+j]?:=fun j=>by have:=hl (j+1);grind
  simp only[bn,zZ,wpOpsIn,h0]
  rw[wL he]
  simp only[opsAll] at J
  cases hw:wantedV ops.toList s.env o with
  |true =>
   rw[hw,ah] at J
   cases ho:opAll C self s.env s.h o with
   |none=>grind
   |some qs =>
    simp only[ho] at J
    obtain⟨⟨q,hq,WQ⟩,nX⟩:=Q4 hS hT h (he.GK o) ho
    obtain⟨r,GY,Xi⟩:=NZ qs L J q hq
    refine WQ.wpIn nX ?_
    intro c' w' r1 r2 r3
    cases hp:s.put o.dst q.1 q.2 with
    |none=>grind
    |some I =>
     simp only[hp] at GY
     obtain⟨p1,p2,p3⟩:=St.vF (he.ext r2.ext) r3 hp
     refine ih (k+1) I r c' _ w' yc GY (by grind) p1 ?_
     intro s' E9 r8 yf yg q1 q2 q3 q4
     exact hQ s' (Xi s' E9) r8 yf yg q1 q2 (r2.trans q3) (by rw[q4];cases o.dst<;>rfl)
  |false =>
   rw[hw,aL] at J
   refine⟨fun _ _=>trivial,?_⟩
   cases hp:s.put o.dst bW s.h with
   |none=>grind
   |some I =>
    simp only[hp] at J
    obtain⟨p1,p2,p3⟩:=St.vF he (show wf c bW by simp[bW,wf,fJ]) hp
    refine ih (k+1) I L c _ w yc J (by grind) p1 ?_
    intro s' E9 r8 yf yg q1 q2 q3 q4
    exact hQ s' E9 r8 yf yg q1 q2 q3 (by rw[q4];cases o.dst<;>rfl)
end
theorem Rel.Zl {c:Ctx}{w:World}(h:Rel c σ w)(I:cV.next=σ.next)(hs:∀id o,T.get cV.tr id=some o→T.get σ.tr id=some o): Rel c cV w :=
 ⟨I.trans h.next,fun id o ho=>h.live id o (hs id o ho),h.k_,h.zz,fun i j o o' hi J he=>h.inj i j o o' (hs i o hi) (hs j o' J) he,
  fun id o ho=>h.obj id o (hs id o ho),fun id cs st ho=>h.one id cs st (hs id _ ho),fun id o ho=>h.fx id o (hs id o ho)⟩
def kC (h:H): Prop:=∀id o,T.get h.tr id=some o→id<h.next
theorem kC.new (hw:kC h)(o:Obj): kC (h.new o):=by
 intro id q I
 rw[fo] at I
 show id<h.next+1
 split at I
 ·omega
 ·exact Nat.lt_succ_of_lt (hw id q I)
theorem kC.put (hw:kC h)(J:id<h.next)(o:Option Obj): kC (h.put id o):=by
 intro j q I
 rw[cN] at I
 show j<h.next
 split at I
 ·omega
 ·exact hw j q I
structure dL (k:Nat)(S:List Nat)(h h':H): Prop where
 wf:kC h'
 le:h.next≤h'.next
 bd:h'.next≤h.next+k
 get:∀id,id<h.next→id∉S→T.get h'.tr id=T.get h.tr id
theorem dL.refl (hw:kC h)(S:List Nat): dL 0 S h h:=⟨hw,aQ _,aQ _,fun _ _ _=>rfl⟩
theorem dL.trans {S S':List Nat}{I:H}(a:dL k S h h')(b:dL k' S' h' I)(hs:∀i∈S',i∈S∨h.next≤i): dL (k+k') S h I:=by
 refine⟨b.wf,cu a.le b.le,by have:=a.bd;have:=b.bd;omega,fun id J hn => ?_⟩
 rw[b.get id (gQ J a.le) (fun hm => ?_),a.get id J hn]
 rcases hs id hm with h1|h1
 ·exact hn h1
 ·omega
theorem dL.mono {S S':List Nat}(a:dL k S h h')(J:k≤k')(hs:∀i∈S,i∈S'): dL k' S' h h' :=
 ⟨a.wf,a.le,cu a.bd (sJ J _),fun id I hn=>a.get id I (fun hm=>hn (hs id hm))⟩
theorem dL.row {S:List Nat}(a:dL k S h h')(hw:kC h){o:Obj}(I:T.get h.tr id=some o)(J:id∉S): T.get h'.tr id=some o:=by
 rw[a.get id (hw id o I) J];exact I
theorem dL.Ao (hw:kC h)(o:Obj): dL 1 [] h (h.new o) :=
 ⟨hw.new o,mo _,aQ _,fun id I _=>by rw[fo,aj (by omega)]⟩
theorem dL.Gb (hw:kC h)(I:id<h.next)(o:Option Obj): dL 0 [id] h (h.put id o) :=
 ⟨hw.put I o,aQ _,aQ _,fun j _ J=>by rw[cN,aj (fun e=>J (by simp[e]))]⟩
theorem dS (l:List Nat): (ofBytes l).length=l.length:=by simp[ofBytes]
theorem uQ (l m:List Nat): ofBytes (l++m)=ofBytes l++ofBytes m:=by simp[ofBytes]
def View (h:H)(v:V)(l:List Nat): Prop:=(∀b∈l,b<256)∧(((v=.aV∨∃a,v=.sle a)∧l=[]) ∨
 ∃id off cap n cs st,v=.sl id off l.length cap∧T.get h.tr id=some (.cells n cs st)∧cs.length=n∧off+l.length≤n∧(cs.drop off).take l.length=ofBytes l ∧
  (match cap with|.exact c=>l.length≤c|.rest e _=>e=1))
def jq (h:H)(v:V)(l:List Nat): Prop:=(∀b∈l,b<256)∧((v=.aV∧l=[]) ∨
 (∃id cs c,v=.sl id 0 l.length (.exact c)∧T.get h.tr id=some (.cells c (ofBytes l++cs) false)∧l.length+cs.length=c) ∨
 (∃id,v=.sl id 0 l.length (.rest 1 0)∧T.get h.tr id=some (.cells l.length (ofBytes l) false)∧1≤l.length))
def rowIds : V→List Nat
 |.sl id _ _ _=>[id]
 |_=>[]
theorem jq.view {v:V}(I:jq h v l): View h v l:=by
 obtain⟨hl,I⟩:=I
 refine⟨hl,?_⟩
 rcases I with I|⟨id,cs,c,rfl,J,hc⟩|⟨id,rfl,J,h1⟩
 ·exact .inl ⟨.inl I.1,I.2⟩
 ·refine .inr ⟨id,0,.exact c,c,_,false,rfl,J,by simp[dS,hc],by omega,?_,by show l.length≤c;omega⟩
  rw[gE,oO (dS l)]
 ·refine .inr ⟨id,0,.rest 1 0,_,_,false,rfl,J,dS l,by omega,?_,rfl⟩
  rw[gE]
  exact gC (by rw[dS];exact aQ _)
theorem View.jP {S:List Nat}{v:V}(I:View h v l)(hw:kC h)(J:dL k S h h')(hn:∀i∈rowIds v,i∉S): View h' v l:=by
 obtain⟨hl,I⟩:=I
 refine⟨hl,?_⟩
 rcases I with I|⟨id,off,cap,n,cs,st,rfl,hg,h1,h2,h3,h4⟩
 ·exact .inl I
 ·exact .inr ⟨id,off,cap,n,cs,st,rfl,J.row hw hg (hn id (by simp[rowIds])),h1,h2,h3,h4⟩
theorem jq.jP {S:List Nat}{v:V}(I:jq h v l)(hw:kC h)(hk:dL k S h h')(hn:∀i∈rowIds v,i∉S): jq h' v l:=by
 obtain⟨hl,I⟩:=I
 refine⟨hl,?_⟩
 rcases I with I|⟨id,cs,c,rfl,J,hc⟩|⟨id,rfl,J,h1⟩
 ·exact .inl I
 ·exact .inr (.inl ⟨id,cs,c,rfl,hk.row hw J (hn id (by simp[rowIds])),hc⟩)
 ·exact .inr (.inr ⟨id,rfl,hk.row hw J (hn id (by simp[rowIds])),h1⟩)
theorem View.len {v:V}(I:View h v l): lenV Tryz.prog h 23 v=some (.int .i64 l.length):=by
 obtain⟨_,I⟩:=I
 rcases I with⟨rfl|⟨J,rfl⟩,rfl⟩|⟨id,off,cap,n,cs,st,rfl,_⟩<;>simp[lenV,aN]
theorem View.rdN {len:Nat}{cap:Cap}(J:View h (.sl id off len cap) l): len=l.length∧rdN h id off len=some (ofBytes l):=by
 obtain⟨_,J⟩:=J
 rcases J with⟨I,_⟩|⟨B4,off',Lk,n,cs,st,I,hg,h1,h2,h3,h4⟩
 ·rcases I with I|⟨_,I⟩<;>cases I
 ·injection I with e1 e2 e3 e4
  subst e1;subst e2;subst e3
  refine⟨rfl,?_⟩
  unfold Am.rdN
  simp only[hg]
  rw[aG.2 h2,ah]
  cases hc:(Nat.beq off 0&&Nat.beq l.length n) with
  |true =>
   simp only[bK,beq_iff] at hc
   obtain⟨rfl,hn⟩:=hc
   rw[ah,←h3,gE,gC (by omega)]
  |false=>rw[aL,h3]
theorem D1 : ∃i,Tryz.prog.info? 5=some i∧i.size=1∧i.bytes=1:=by
 refine⟨_,(show Tryz.prog.info? 5=some ((Tryz.prog.info? 5).getD default) by kernel_rfl),by kernel_rfl,by kernel_rfl⟩
theorem tD : zeroT Tryz.prog 5=some (.int .u8 0):=by kernel_rfl
theorem LJ {x:V}{m:List Nat}(J:View h x m): srcV h 1 x=some (ofBytes m,m.length):=by
 obtain⟨hl,I⟩:=J
 rcases I with⟨rfl|⟨ea,rfl⟩,rfl⟩|⟨id,off,cap,n,cs,st,rfl,hg,h1,h2,h3,h4⟩
 ·rfl
 ·rfl
 ·simp only[srcV,ig]
  rw[(View.rdN (l:=m) ⟨hl,.inr ⟨id,off,cap,n,cs,st,rfl,hg,h1,h2,h3,h4⟩⟩).2]
  rfl
theorem yw {s x:V}{m:List Nat}(hw:kC h)(hs:jq h s l)(hx:View h x m)(eH:l.length+m.length≤140737488355328):
  ∃v' h',appendV Tryz.prog h #[23,23] s x=some (v',h')∧jq h' v' (l++m)∧dL 1 (rowIds s) h h'∧(∀i∈rowIds v',i∈rowIds s∨h.next≤i):=by
 obtain⟨i,hi,i1,i2⟩:=D1
 have J:∀b∈l++m,b<256:=fun b hb=>by
  rcases List.mem_append.1 hb with hb|hb
  ·exact hs.1 b hb
  ·exact hx.1 b hb
 have Xj:l7 (l.length+m.length) 1=true:=wH.2 ⟨eH,by omega⟩
 unfold appendV
 simp only[aN,hi,tD,i1,i2,V.cells,bn,cr,LJ hx]
 rw[show(Nat.ble 1 1&&Nat.ble 1 4096&&Nat.beq (0+1) 1)=true from rfl,ah]
 cases hm:Nat.beq m.length 0 with
 |true =>
  have EH:m=[]:=ql (beq_iff.1 hm)
  subst EH
  rw[ah,iW]
  have I:=hs
  obtain⟨_,I⟩:=I
  rcases I with⟨rfl,rfl⟩|⟨id,cs,c,rfl,hg,hc⟩|⟨id,rfl,hg,h1⟩
  ·exact⟨_,_,rfl,hs,(dL.refl hw _).mono (gR _) (fun _ h=>h),fun i hi=>.inl hi⟩
  ·exact⟨_,_,rfl,hs,(dL.refl hw _).mono (gR _) (fun _ h=>h),fun i hi=>.inl hi⟩
  ·exact⟨_,_,rfl,hs,(dL.refl hw _).mono (gR _) (fun _ h=>h),fun i hi=>.inl hi⟩
 |false =>
  have EH:1≤m.length:=by
   rcases vl m.length with h0|h0
   ·rw[rV h0] at hm;cases hm
   ·exact h0
  rw[aL]
  have wI:∀(σ:H) (old:List Nat),kC σ→1≤(old++m).length→(∀b∈old++m,b<256)→jq (nj σ 1 (ofBytes old) (ofBytes m) (old.length+m.length)).2 (nj σ 1 (ofBytes old) (ofBytes m) (old.length+m.length)).1 (old++m):=by
   intro σ old _ h1 h2
   refine⟨h2,.inr (.inr ⟨σ.next,?_,?_,h1⟩)⟩
   ·simp only[nj,bY]
   ·simp only[nj]
    rw[fo,aC rfl,ig,bY,uQ]
  have I:=hs
  obtain⟨_,I⟩:=I
  rcases I with⟨rfl,rfl⟩|⟨id,cs,c,rfl,hg,hc⟩|⟨id,rfl,hg,h1⟩
  ·simp only
   have aaI:l7 m.length 1=true:=by simpa using Xj
   rw[aaI,ah]
   have:=wI h [] hw (by simpa using EH) (by simpa using hx.1)
   simp only[cr,gd,dY] at this
   exact⟨_,_,rfl,by rw[dY];exact this,(dL.Ao hw _).mono (aQ _) (fun i hi=>by simp at hi),fun i hi=>.inr (by simp[rowIds] at hi;omega)⟩
  ·simp only[ig,gd]
   have hv:=jq.view hs
   cases hq:Nat.ble (l.length+m.length) c with
   |true =>
    have AV:=aG.1 hq
    rw[ah]
    unfold wrN
    simp only[hg,dS]
    rw[hq,ah]
    simp only
    have qw:(cond (Nat.beq l.length 0&&Nat.beq m.length c) (ofBytes m) ((ofBytes l++cs).take l.length++(ofBytes m++(ofBytes l++cs).drop (l.length+m.length))))=ofBytes (l++m)++cs.drop m.length:=by
     have e1:(ofBytes l++cs).take l.length=ofBytes l:=oO (dS l)
     have e2:(ofBytes l++cs).drop (l.length+m.length)=cs.drop m.length:=by
      rw[z6,dS,show l.length+m.length-l.length=m.length from by omega,jH (by rw[dS];omega),dY]
     cases hz:(Nat.beq l.length 0&&Nat.beq m.length c) with
     |true =>
      simp only[bK,beq_iff] at hz
      have BZ:l=[]:=ql hz.1
      subst BZ
      have qf:cs.drop m.length=[]:=jH (by simp at hc;omega)
      simp[qf]
     |false=>rw[aL,e1,e2,uQ,dB]
    rw[qw]
    refine⟨_,_,rfl,⟨J,.inr (.inl ⟨id,cs.drop m.length,c,by simp,?_,by simp;omega⟩)⟩,(dL.Gb hw (hw id _ hg) _).mono (gR _) (fun i hi=>by simpa[rowIds] using hi),fun i hi=>.inl (by simpa[rowIds] using hi)⟩
    rw[cN,aC rfl]
   |false =>
    rw[aL,Xj,ah,hv.rdN.2]
    simp only
    exact⟨_,_,rfl,wI h l hw (by simp;omega) J,(dL.Ao hw _).mono (aQ _) (fun i hi=>by simp at hi),fun i hi=>.inr (by simp[rowIds] at hi;omega)⟩
  ·simp only[eV,ah,ig,gd]
   have hv:=jq.view hs
   have GC:k8 h id 0 1=l.length:=by simp[k8,hg]
   have hf:Nat.ble (l.length+m.length) l.length=false:=by
    cases hq:Nat.ble (l.length+m.length) l.length with
    |true=>have:=aG.1 hq;omega
    |false=>rfl
   rw[GC,hf,aL,Xj,show Nat.ble 2 (l.length+m.length)=true from aG.2 (by omega),iX,ah,hv.rdN.2,hg]
   simp only
   have tE:kC (h.put id none):=hw.put (hw id _ hg) _
   refine⟨_,_,rfl,wI (h.put id none) l tE (by simp;omega) J,?_,fun i hi=>.inr (by simp[rowIds,H.put] at hi;omega)⟩
   refine((dL.Gb hw (hw id _ hg) none).trans (S':=[]) (dL.Ao tE _) (fun i hi=>by simp at hi)).mono (aQ _) (fun i hi=>by simpa[rowIds] using hi)
section
variable {a b:Operand} {v:V}
theorem aS (I:bf E x=some v): opE P E h (.move x)=some (v,h):=by simp only[opE,i_,I]
theorem eU (I:bf E x=some v): opE P E h (.assign x)=some (v,h):=by simp only[opE,i_,I]
theorem nr (I:bf E x=some (.bool true))(J:bf E a=some v): opE P E h (.pick x a b)=some (v,h):=by simp only[opE,i_,I,ah,J]
theorem qx (I:bf E x=some (.bool false))(J:bf E b=some v): opE P E h (.pick x a b)=some (v,h):=by simp only[opE,i_,I,aL,J]
theorem iL {o:Nat}(I:bf E x=some (.ptr i o)): opE P E h (.nilCheck x)=some (.ptr i o,h):=by simp only[opE,i_,I]
theorem g8 {t:Nat}(I:bf E x=some v)(J:fieldAddrV P t v i=some r): opE P E h (.fieldAddr t x i)=some (r,h):=by simp only[opE,i_,I,J,bD]
theorem aH (I:bf E x=some v)(J:loadV P h t v=some r): opE P E h (.load t x)=some (r,h):=by simp only[opE,i_,I,J,bD]
theorem sX (I:bf E x=some v)(J:bf E y=some u)(hf:fB P h t v u=some h₁): opE P E h (.store t x y)=some (bW,h₁):=by simp only[opE,uh,I,J,hf,t_]
theorem aq {op:BinOp}(I:bf E x=some v)(J:bf E y=some u)(hf:binV P h op t x y v u=some r): opE P E h (.binOp op t x y t')=some (r,h):=by simp only[opE,uh,I,J,hf,bD]
theorem dM {op:UnOp}(I:bf E x=some v)(J:unV op v=some r): opE P E h (.unOp op t x)=some (r,h):=by simp only[opE,i_,I,J,bD]
theorem bO {s d:TypeId}(I:bf E x=some v)(J:convV P h s d v=some (r,h₁)): opE P E h (.convert s d x)=some (r,h₁):=by simp only[opE,i_,I,J]
theorem cZ (I:bf E x=some v)(J:bf E y=some u)(hf:indexAddrV P t v u=some r): opE P E h (.indexAddr t x y)=some (r,h):=by simp only[opE,uh,I,J,hf,bD]
theorem yx (I:bf E x=some v)(J:bf E y=some u)(hf:indexV P t v u=some r): opE P E h (.index t x y)=some (r,h):=by simp only[opE,uh,I,J,hf,bD]
theorem dU {l:List V}(I:bf E x=some (.aO l))(J:nth l i=some r): opE P E h (.extract x i)=some (r,h):=by simp only[opE,i_,I,J,bD]
theorem cx {l:List (Nat×V)}(I:lookParts E ps.toList=some l)(J:buildV P t l=some r): opE P E h (.build t ps)=some (r,h):=by simp only[opE,I,J,bD]
theorem dG (I:bf E x=some v)(hs:v.cells.all storable=true): opE P E h (.box t x)=some (.ptr h.next 0,newRow h v.cells):=by simp only[opE,i_,I,hs,ah]
theorem bR (I:zeroT P t=some v): opE P E h (.alloc t)=some (.ptr h.next 0,newRow h v.cells):=by simp only[opE,I]
theorem qW (I:bf E x=some v)(J:makeIfaceV P t v=some r): opE P E h (.makeInterface t x)=some (r,h):=by simp only[opE,i_,I,J,bD]
theorem sB {f:Fn}{p q:Array Operand}{l m:List V}(I:lookArgs E p.toList=some l)(J:lookArgs E q.toList=some m): opE P E h (.makeFunc f p q)=some (.fn f l m,h):=by simp only[opE,I,J]
theorem a_ {c:Go.Call}(I:c.callee=.builtin .len)(J:lookArgs E c.args.toList=some [v])(ht:c.argTypes.toList=[t])(hf:lenV P h t v=some r): opE P E h (.call c)=some (r,h):=by
 simp only[opE,I,J,builtinV,ht,hf,ng]
theorem ox {c:Go.Call}(I:c.callee=.builtin .append)(J:lookArgs E c.args.toList=some [v,u])(hf:appendV P h c.argTypes v u=some (r,h₁)): opE P E h (.call c)=some (r,h₁):=by
 simp only[opE,I,J,builtinV,hf]
theorem uk (I:bf E x=some v)(J:bf E y=some u)(hf:makeSliceV P h t v u=some (r,h₁)): opE P E h (.makeSlice t x y)=some (r,h₁):=by simp only[opE,uh,I,J,hf]
theorem mC {t:Nat}{l:List (Nat×V)}(I:lookParts E ps.toList=some l)(J:buildSliceV P h t n l=some (r,h₁)): opE P E h (.buildSlice t n ps)=some (r,h₁):=by simp only[opE,I,J]
theorem cj {lo hi mx:Option Operand}{p q m:Option V}{p' q' m':Option Nat}(I:bf E x=some v)(J:lookOpt E lo=some p)(h2:lookOpt E hi=some q)(h3:lookOpt E mx=some m)
 (g1:jO p=some p')(g2:jO q=some q')(g3:jO m=some m')(hf:sliceV P h t v p' q' m'=some r): opE P E h (.slice t x lo hi mx)=some (r,h):=by simp only[opE,i_,I,J,h2,h3,g1,g2,g3,hf,bD]
theorem Q5 {s:TypeId}{ok:Bool}(I:bf E x=some v)(J:assertV P v s ok=some r): opE P E h (.typeAssert x t s ok)=some (r,h):=by simp only[opE,i_,I,J,bD]
theorem N6 (I:isAggT P t=some false)(J:T.get h.tr id=some (.cells n cs st))(hn:nth cs off=some v): loadV P h t (.ptr id off)=some v:=by
 simp only[loadV,I,xS,J,hn]
theorem cK (I:isAggT P t=some true)(hs:bB P t=some n)(J:T.get h.tr id=some (.cells n cs st)): loadV P h t (.ptr id 0)=some (.agg cs):=by
 simp only[loadV,I,hs,rdN,J,gd]
 rw[aG.2 (aQ n),ah,eV,eV]
 rfl
theorem dO (hw:kC h)(hs:bB P t=some 1)(J:T.get h.tr id=some (.cells n cs false))(hl:cs.length=n)(ho:off<n)(hv:v.cells=[v])(I:storable v=true):
  ∃h₁,fB P h t (.ptr id off) v=some h₁∧dL 0 [id] h h₁∧T.get h₁.tr id=some (.cells n (cs.set off v) false):=by
 refine⟨h.put id (some (.cells n (cs.set off v) false)),?_,dL.Gb hw (hw _ _ J) _,by rw[cN,aC rfl]⟩
 simp only[fB,hs,hv,bn,cr,jJ,jK,I,z_]
 rw[show Nat.beq (0+1) 1=true from rfl,ah]
 simp only[wrN,J,bn,cr]
 rw[aG.2 (show off+(0+1)≤n by omega),ah]
 congr 3
 rw[Dq,aC (by omega)]
 cases hc:(Nat.beq off 0&&Nat.beq (0+1) n) with
 |true =>
  simp only[bK,beq_iff] at hc
  obtain⟨rfl,rfl⟩:=hc
  rw[ah]
  have:cs.drop (0+1)=[]:=jH (by omega)
  simp[this]
 |false=>rw[aL];rfl
theorem fM {l:List V}(hw:kC h)(hs:bB P t=some n)(J:T.get h.tr id=some (.cells n cs false))(hl:l.length=n)(I:l.all storable=true):
  ∃h₁,fB P h t (.ptr id 0) (.agg l)=some h₁∧dL 0 [id] h h₁∧T.get h₁.tr id=some (.cells n l false):=by
 refine⟨h.put id (some (.cells n l false)),?_,dL.Gb hw (hw _ _ J) _,by rw[cN,aC rfl]⟩
 simp only[fB,hs,V.cells,hl,I]
 rw[eV,iX,ah]
 simp only[wrN,J,hl,gd]
 rw[aG.2 (aQ n),ah,eV,eV]
 rfl
end
section
variable {ak:Nat}
theorem E_ (hw:kC h)(I:b<256):
  ∃v h₁,buildSliceV Tryz.prog h 23 1 [(0,.int .u8 b)]=some (v,h₁)∧jq h₁ v [b]∧dL 1 [] h h₁∧∀i∈rowIds v,h.next≤i:=by
 refine⟨.sl h.next 0 1 (.exact 1),newRow h [.int .u8 b],?_,⟨by simpa using I,.inr (.inl ⟨h.next,[],1,rfl,?_,rfl⟩)⟩,dL.Ao hw _,fun i hi=>by simp[rowIds] at hi;omega⟩
 ·simp only[buildSliceV,aN,eT,tD,V.cells]
  rfl
 ·rw[newRow,fo,aC rfl];rfl
theorem au.LK (J:C.P=Tryz.prog)(hw:kC h)(hg:wantE L E o.guard=some true)(hd:o.dst=some d)(hn:Nat.blt d ak=true)(I:o.op=.buildSlice t 1 ps)(ht:t=23)
 (hx:lookParts E ps.toList=some [(0,.int .u8 (b:Int))])(hb:b<256)
 (hr:∀v h₁,jq h₁ v [b]→dL 1 [] h h₁→(∀i∈rowIds v,h.next≤i)→au C ak L rest ((d,v)::E) h₁ R): au C ak L (o::rest) E h R:=by
 obtain⟨v,h₁,e1,e2,e3,e4⟩:=E_ hw hb
 refine au.op hg hd hn (v:=v) (h₁:=h₁) ?_ (hr v h₁ e2 e3 e4)
 rw[I,ht,J]
 exact mC hx e1
theorem au.app {c:Go.Call}{s x:V}{m:List Nat}(hP:C.P=Tryz.prog)(hw:kC h)(hg:wantE L E o.guard=some true)(hd:o.dst=some d)(hn:Nat.blt d ak=true)(I:o.op=.call c)(hc:c.callee=.builtin .append)
 (J:c.argTypes = #[23,23])(ha:lookArgs E c.args.toList=some [s,x])(hs:jq h s l)(hx:View h x m)(eH:l.length+m.length≤140737488355328)
 (hr:∀v h₁,jq h₁ v (l++m)→dL 1 (rowIds s) h h₁→(∀i∈rowIds v,i∈rowIds s∨h.next≤i)→au C ak L rest ((d,v)::E) h₁ R): au C ak L (o::rest) E h R:=by
 obtain⟨v,h₁,e1,e2,e3,e4⟩:=yw hw hs hx eH
 refine au.op hg hd hn (v:=v) (h₁:=h₁) ?_ (hr v h₁ e2 e3 e4)
 rw[I,hP]
 exact ox hc ha (by rw[J];exact e1)
theorem Ck (hw:kC h)(J:c<1073741824):
  ∃v h₁,makeSliceV Tryz.prog h 23 (.int .i64 0) (.int .i64 (c:Int))=some (v,h₁)∧jq h₁ v []∧dL 1 [] h h₁∧∀i∈rowIds v,h.next≤i:=by
 obtain⟨i,hi,i1,i2⟩:=D1
 refine⟨.sl h.next 0 0 (.exact c),h.new (.cells c (repeatL [.int .u8 0] c) false),?_,⟨by simp,.inr (.inl ⟨h.next,repeatL [.int .u8 0] c,c,rfl,?_,?_⟩)⟩,dL.Ao hw _,fun i hi=>by simp[rowIds] at hi;omega⟩
 ·simp only[makeSliceV,aN,hi,tD,i1,i2,V.cells,bn,cr,b7,ig]
  rw[show(decide ((0:Int)≤0)&&decide ((0:Int)≤(c:Int))&&decide ((c:Int)<1073741824)&&Nat.ble 1 4096&&Nat.beq (0+1) 1&&Nat.ble 1 1)=true by simp;omega,ah]
  rfl
 ·rw[fo,aC rfl];rfl
 ·have:∀n,(repeatL [V.int .u8 0] n).length=n:=fun n=>by
   induction n with
   |zero=>rfl
   |succ n I=>simp[repeatL,I]
  simp[this]
end
section
variable {ak:Nat} {v:V} {a b:Operand}
theorem zm (e:(o.op,wantE L E o.guard,o.dst,Nat.blt d ak,bf E x)=(Op.move x,some true,some d,true,some v))(hw:au C ak L rest ((d,v)::E) h R): au C ak L (o::rest) E h R:=by
  simp only[bz] at e;exact au.op e.2.1 e.2.2.1 e.2.2.2.1 (by rw[e.1];exact aS e.2.2.2.2) hw
theorem za (e:(o.op,wantE L E o.guard,o.dst,Nat.blt d ak,bf E x)=(Op.assign x,some true,some d,true,some v))(hw:au C ak L rest ((d,v)::E) h R): au C ak L (o::rest) E h R:=by
  simp only[bz] at e;exact au.op e.2.1 e.2.2.1 e.2.2.2.1 (by rw[e.1];exact eU e.2.2.2.2) hw
theorem zn (e:(o.op,wantE L E o.guard,o.dst,Nat.blt d ak,bf E x)=(Op.nilCheck x,some true,some d,true,some (V.ptr j k)))(hw:au C ak L rest ((d,.ptr j k)::E) h R): au C ak L (o::rest) E h R:=by
  simp only[bz] at e;exact au.op e.2.1 e.2.2.1 e.2.2.2.1 (by rw[e.1];exact iL e.2.2.2.2) hw
theorem zf (e:(o.op,wantE L E o.guard,o.dst,Nat.blt d ak,bf E x)=(Op.fieldAddr t x i,some true,some d,true,some v))(I:fieldAddrV C.P t v i=some r)(hw:au C ak L rest ((d,r)::E) h R): au C ak L (o::rest) E h R:=by
  simp only[bz] at e;exact au.op e.2.1 e.2.2.1 e.2.2.2.1 (by rw[e.1];exact g8 e.2.2.2.2 I) hw
theorem zl (e:(o.op,wantE L E o.guard,o.dst,Nat.blt d ak,bf E x)=(Op.load t x,some true,some d,true,some v))(I:loadV C.P h t v=some r)(hw:au C ak L rest ((d,r)::E) h R): au C ak L (o::rest) E h R:=by
  simp only[bz] at e;exact au.op e.2.1 e.2.2.1 e.2.2.2.1 (by rw[e.1];exact aH e.2.2.2.2 I) hw
theorem ze {l:List V}(e:(o.op,wantE L E o.guard,o.dst,Nat.blt d ak,bf E x,nth l i)=(Op.extract x i,some true,some d,true,some (V.aO l),some r))(hw:au C ak L rest ((d,r)::E) h R): au C ak L (o::rest) E h R:=by
  simp only[bz] at e;exact au.op e.2.1 e.2.2.1 e.2.2.2.1 (by rw[e.1];exact dU e.2.2.2.2.1 e.2.2.2.2.2) hw
theorem zp (e:(o.op,wantE L E o.guard,o.dst,Nat.blt d ak,bf E x,bf E b)=(Op.pick x a b,some true,some d,true,some (V.bool false),some v))(hw:au C ak L rest ((d,v)::E) h R): au C ak L (o::rest) E h R:=by
  simp only[bz] at e;exact au.op e.2.1 e.2.2.1 e.2.2.2.1 (by rw[e.1];exact qx e.2.2.2.2.1 e.2.2.2.2.2) hw
theorem zq (e:(o.op,wantE L E o.guard,o.dst,Nat.blt d ak,bf E x,bf E a)=(Op.pick x a b,some true,some d,true,some (V.bool true),some v))(hw:au C ak L rest ((d,v)::E) h R): au C ak L (o::rest) E h R:=by
  simp only[bz] at e;exact au.op e.2.1 e.2.2.1 e.2.2.2.1 (by rw[e.1];exact nr e.2.2.2.2.1 e.2.2.2.2.2) hw
theorem zb {op:BinOp}(e:(o.op,wantE L E o.guard,o.dst,Nat.blt d ak,bf E x,bf E y)=(Op.binOp op t x y t',some true,some d,true,some v,some u))(I:binV C.P h op t x y v u=some r)(hw:au C ak L rest ((d,r)::E) h R): au C ak L (o::rest) E h R:=by
  simp only[bz] at e;exact au.op e.2.1 e.2.2.1 e.2.2.2.1 (by rw[e.1];exact aq e.2.2.2.2.1 e.2.2.2.2.2 I) hw
theorem zx (e:(wantE L E o.guard,o.dst,Nat.blt d ak)=(some false,some d,true))(hw:au C ak L rest ((d,bW)::E) h R): au C ak L (o::rest) E h R:=by
  simp only[bz] at e;exact au.no e.1 e.2.1 e.2.2 hw
theorem zo (e:(wantE L E o.guard,o.dst,Nat.blt d ak)=(some true,some d,true))(ho:opE C.P E h o.op=some (v,h₁))(hw:au C ak L rest ((d,v)::E) h₁ R): au C ak L (o::rest) E h R:=by
  simp only[bz] at e;exact au.op e.1 e.2.1 e.2.2 ho hw
theorem zv (I:R E h): au C ak L [] E h R:=au.nil I
variable {c f:Code}
theorem zw (hw:WP C ak c E h fun ex E' h'=>match ex with
    |.normal=>WP C ak f E' h' Q
    |ex=>Q ex E' h'): WP C ak (.seq c f) E h Q:=WP.seq hw
theorem zr (I:ops.toList=L)(hw:au C ak L L E h fun E' h'=>Q .normal E' h'): WP C ak (.region k ops false) E h Q:=WP.region I hw
theorem zg (I:ops.toList=L)(hw:au C ak L L E h fun E' h'=>WP C ak f E' h' Q): WP C ak (.seq (.region k ops false) f) E h Q:=WP.seq (WP.region I hw)
theorem zi (I:bf E x=some (.bool true))(hw:WP C ak c E h Q): WP C ak (.cond x c f) E h Q:=WP.cond I hw
theorem zj (I:bf E x=some (.bool false))(hw:WP C ak f E h Q): WP C ak (.cond x c f) E h Q:=WP.cond I hw
end
inductive Md where
  |c (c:Code)
  |o (L l:List Oper)
def Cl (C:eO)(ak:Nat)(Q:Ex→List (Nat×V)→H→Prop): List Code→Ex→List (Nat×V)→H→Prop
  |[]=>Q
  |b::K=>fun ex E' h'=>match ex with
    |.normal=>WP C ak b E' h' (Cl C ak Q K)
    |ex=>Cl C ak Q K ex E' h'
def Tw : List (Nat×V)→Nat→Option V
  |[],_=>none
  |(d,v)::E,k=>cond (Nat.beq d k) (some v) (Tw E k)
theorem N7 : ∀(E:List (Nat×V)) (k:Nat),Tw E k=look E k
  |[],_=>rfl
  |(d,v)::E,k=>by simp only[Tw,look,N7 E k]
def Cm (E:List (Nat×V)): Operand→Option V
  |.tmp t=>Tw E t
  |.const c=>ofValue c
  |.global _=>none
  |.func f=>some (.fn (.func f) [] [])
theorem N8 (E:List (Nat×V))(x:Operand): Cm E x=bf E x:=by cases x<;>first|rfl|exact N7 _ _
def Xk (E:List (Nat×V)): Op→Option V
  |.move x=>Cm E x
  |.assign x=>Cm E x
  |.nilCheck x=>match Cm E x with
    |some (.ptr j k)=>some (.ptr j k)
    |_=>none
  |.extract x i=>match Cm E x with
    |some (.aO l)=>nth l i
    |_=>none
  |.pick x a b=>match Cm E x with
    |some (.bool true)=>Cm E a
    |some (.bool false)=>Cm E b
    |_=>none
  |_=>none
def runM (ak:Nat): Nat→Md→List (Nat×V)→List Code→Option (Md×List (Nat×V)×List Code)
  |0,m,E,K=>some (m,E,K)
  |n+1,.o _ [],E,b::K=>runM ak n (.c b) E K
  |n+1,.o L (o::l),E,K=>match wantE L E o.guard,o.dst with
    |some false,some d=>cond (Nat.blt d ak) (runM ak n (.o L l) ((d,bW)::E) K) none
    |some true,some d=>match Xk E o.op with
      |some v=>cond (Nat.blt d ak) (runM ak n (.o L l) ((d,v)::E) K) none
      |none=>none
    |_,_=>none
  |n+1,.c (.seq a b),E,K=>runM ak n (.c a) E (b::K)
  |n+1,.c (.region _ ops false),E,K=>runM ak n (.o ops.toList ops.toList) E K
  |n+1,.c (.cond x a b),E,K=>match Cm E x with
    |some (.bool true)=>runM ak n (.c a) E K
    |some (.bool false)=>runM ak n (.c b) E K
    |_=>none
  |n+1,.c .skip,E,b::K=>runM ak n (.c b) E K
  |_+1,_,_,_=>none
abbrev Gl (C:eO)(ak:Nat)(h:H)(Q:Ex→List (Nat×V)→H→Prop)(m:Md)(E:List (Nat×V))(K:List Code): Prop:=match m with
  |.c c=>WP C ak c E h (Cl C ak Q K)
  |.o L l=>au C ak L l E h fun E' h'=>Cl C ak Q K .normal E' h'
class GZ (C:eO)(ak:Nat)(R:List (Nat×V)→H→Prop)(Q:outParam (Ex→List (Nat×V)→H→Prop))where
  K:List Code
  eq:R=fun E' h'=>Cl C ak Q K .normal E' h'
class Tx (C:eO)(ak:Nat)(R:Ex→List (Nat×V)→H→Prop)(Q:outParam (Ex→List (Nat×V)→H→Prop))where
  K:List Code
  eq:R=Cl C ak Q K
instance (priority:=50) (C:eO) (ak:Nat) (R:List (Nat×V)→H→Prop):GZ C ak R (fun _=>R):=⟨[],rfl⟩
instance (priority:=60) (C:eO) (ak:Nat) (Q:Ex→List (Nat×V)→H→Prop):GZ C ak (fun E' h'=>Q .normal E' h') Q:=⟨[],rfl⟩
instance (priority:=70) (C:eO) (ak:Nat) (f:Code) (Q:Ex→List (Nat×V)→H→Prop) (K:List Code):GZ C ak (fun E' h'=>WP C ak f E' h' (Cl C ak Q K)) Q:=⟨f::K,rfl⟩
instance (priority:=65) (C:eO) (ak:Nat) (f:Code) (Q:Ex→List (Nat×V)→H→Prop):GZ C ak (fun E' h'=>WP C ak f E' h' Q) Q:=⟨[f],rfl⟩
instance (priority:=80) (C:eO) (ak:Nat) (K:List Code) (Q:Ex→List (Nat×V)→H→Prop):GZ C ak (fun E' h'=>Cl C ak Q K .normal E' h') Q:=⟨K,rfl⟩
instance (priority:=50) (C:eO) (ak:Nat) (Q:Ex→List (Nat×V)→H→Prop):Tx C ak Q Q:=⟨[],rfl⟩
instance (priority:=80) (C:eO) (ak:Nat) (K:List Code) (Q:Ex→List (Nat×V)→H→Prop):Tx C ak (Cl C ak Q K) Q:=⟨K,rfl⟩
section
variable {ak:Nat} {l:List Oper} {m m':Md} {K K':List Code} {f:Code}
theorem Xl {o:Op}{v:V}(e:Xk E o=some v): opE C.P E h o=some (v,h):=by
  unfold Xk at e
  simp only[N8] at e
  split at e
  · exact aS e
  · exact eU e
  · split at e
    · rename_i I
      cases e;exact iL I
    · cases e
  · split at e
    · rename_i I
      exact dU I e
    · cases e
  · split at e
    · rename_i I;exact nr I e
    · rename_i I;exact qx I e
    · cases e
  · cases e
theorem Kh : ∀(n:Nat) (m:Md) (E:List (Nat×V)) (K:List Code),runM ak n m E K=some (m',E',K')→Gl C ak h Q m' E' K'→Gl C ak h Q m E K:=by
  intro n
  induction n with
  |zero=>intro m E K e hw;simp only[runM,ay,bz] at e;obtain⟨rfl,rfl,rfl⟩:=e;exact hw
  |succ n I =>
    intro m E K e hw
    unfold runM at e
    split at e
    · rename_i he;cases he
    · rename_i he;cases he
      exact au.nil (I _ _ _ e hw)
    · rename_i he;cases he
      split at e
      · rename_i d hg hd
        cases J:Nat.blt d ak with
        |false=>rw[J] at e;cases e
        |true=>rw[J] at e;exact au.no hg hd J (I _ _ _ e hw)
      · rename_i d hg hd
        split at e
        · rename_i v hv
          cases J:Nat.blt d ak with
          |false=>rw[J] at e;cases e
          |true=>rw[J] at e;exact au.op hg hd J (Xl hv) (I _ _ _ e hw)
        · cases e
      · cases e
    · rename_i he;cases he
      exact WP.seq (I _ _ _ e hw)
    · rename_i he;cases he
      exact WP.region rfl (I _ _ _ e hw)
    · rename_i he;cases he
      rw[N8] at e
      split at e
      · rename_i hx;exact WP.cond hx (I _ _ _ e hw)
      · rename_i hx;exact WP.cond hx (I _ _ _ e hw)
      · cases e
    · rename_i he;cases he
      exact WP.skip (I _ _ _ e hw)
    · cases e
theorem zk (n:Nat)[a:GZ C ak R Q](e:runM ak n (.o L l) E (GZ.K C ak R)=some (m',E',K'))(hw:Gl C ak h Q m' E' K'): au C ak L l E h R:=by
  rw[a.eq];exact Kh n (.o L l) E _ e hw
theorem zK {I:Ex→List (Nat×V)→H→Prop}(n:Nat)[a:Tx C ak I Q](e:runM ak n (.c f) E (Tx.K C ak I)=some (m',E',K'))(hw:Gl C ak h Q m' E' K'): WP C ak f E h I:=by
  rw[a.eq];exact Kh n (.c f) E _ e hw
end
section
variable {ak:Nat} {l:List Oper}
def OpR (C:eO)(E:List (Nat×V))(h:H)(o:Oper)(R:V→H→Prop): Prop:=∃v h₁,R v h₁∧∀env,iz env E→∃N,evOp C (ev C N) env h o=some (v,h₁)
theorem OpR.call {k:FuncId}{R:V→H→Prop}(J:o.op=.call cl)(hc:cl.callee=.value x)(hx:bf E x=some (.fn (.func k) first cap))
 (ha:lookArgs E cl.args.toList=some args)(I:Am.Call C k (first++(args++cap)) h R): OpR C E h o R:=by
 obtain⟨v,h₁,yo,hr⟩:=I
 exact⟨v,h₁,hr,fun env hE=>EU hE J hc hx ha yo⟩
theorem OpR.of {v:V}{R:V→H→Prop}(ho:opE C.P E h o.op=some (v,h₁))(I:R v h₁): OpR C E h o R:=⟨v,h₁,I,fun _ J=>⟨0,Cf J ho⟩⟩
theorem au.any (hg:wantE L E o.guard=some true)(hd:o.dst=some d)(hn:Nat.blt d ak=true)(ho:OpR C E h o yl)
 (hw:∀v h₁,yl v h₁→au C ak L rest ((d,v)::E) h₁ R): au C ak L (o::rest) E h R:=by
 intro env J
 obtain⟨v,h₁,hr,nY⟩:=ho
 obtain⟨N,hN⟩:=nY env J
 obtain⟨M,I,h',E',h1,h2,h3⟩:=hw v h₁ hr (env.set d (some v)) (J.set d v)
 refine⟨Nat.max N M,I,h',E',?_,h2,h3⟩
 simp only[evOps,jU J hg,ah,lJ (dI (oN N M)) hN,St.put,hd,hn]
 exact pM (dI (oM N M)) _ _ _ h1
def LL : List (Env×V)→List (List (Nat×V)×V)→Prop
 |[],[]=>True
 |x::l,y::m=>iz x.1 y.1∧x.2=y.2∧LL l m
 |_,_=>False
def ax (C:eO)(ak:Nat)(L l:List Oper)(E:List (Nat×V))(h:H)(hs:List H)(Q:List (Nat×V)→H→List (List (Nat×V)×V)→List H→Prop): Prop :=
 ∀env,iz env E→∃N I h' E' tr ts J,trace C (ev C N) L l ⟨env,ak,h⟩ hs=some (tr,J,⟨I,ak,h'⟩)∧iz I E'∧LL tr ts∧Q E' h' ts J
variable {Q:List (Nat×V)→H→List (List (Nat×V)×V)→List H→Prop}
theorem ax.nil (I:Q E h [] hs): ax C ak L [] E h hs Q:=fun env J=>⟨0,env,h,E,[],[],hs,rfl,J,aa,I⟩
theorem ax.any {e:Bool}(hg:wantE L E o.guard=some true)(hd:o.dst=some d)(hn:Nat.blt d ak=true)(he:isEff C o.op=e)(ho:OpR C E h o yl)
 (hw:∀v h₁,yl v h₁→ax C ak L rest ((d,v)::E) h₁ (cond e (hs++[h₁]) hs) fun E' h' ts I=>Q E' h' ((E,v)::ts) I): ax C ak L (o::rest) E h hs Q:=by
 intro env hE
 obtain⟨v,h₁,hr,nY⟩:=ho
 obtain⟨N,hN⟩:=nY env hE
 obtain⟨M,J,h',E',tr,ts,I,h1,h2,h3,h4⟩:=hw v h₁ hr (env.set d (some v)) (hE.set d v)
 refine⟨Nat.max N M,J,h',E',(env,v)::tr,(E,v)::ts,I,?_,h2,⟨hE,rfl,h3⟩,h4⟩
 simp only[trace,jU hE hg,ah,lJ (dI (oN N M)) hN,St.put,hd,hn,he]
 rw[wN (dI (oM N M)) _ _ _ _ h1]
theorem ax.gY {e:Bool}(hg:wantE L E o.guard=some true)(hd:o.dst=none)(he:isEff C o.op=e)(ho:OpR C E h o yl)
 (hw:∀v h₁,yl v h₁→ax C ak L rest E h₁ (cond e (hs++[h₁]) hs) fun E' h' ts I=>Q E' h' ((E,v)::ts) I): ax C ak L (o::rest) E h hs Q:=by
 intro env hE
 obtain⟨v,h₁,hr,nY⟩:=ho
 obtain⟨N,hN⟩:=nY env hE
 obtain⟨M,J,h',E',tr,ts,I,h1,h2,h3,h4⟩:=hw v h₁ hr env hE
 refine⟨Nat.max N M,J,h',E',(env,v)::tr,(E,v)::ts,I,?_,h2,⟨hE,rfl,h3⟩,h4⟩
 simp only[trace,jU hE hg,ah,lJ (dI (oN N M)) hN,St.put,hd,he]
 rw[wN (dI (oM N M)) _ _ _ _ h1]
theorem ax.op {v:V}(J:wantE L E o.guard=some true)(hd:o.dst=some d)(hn:Nat.blt d ak=true)(he:isEff C o.op=false)(ho:opE C.P E h o.op=some (v,h))
 (hw:ax C ak L rest ((d,v)::E) h hs fun E' h' ts I=>Q E' h' ((E,v)::ts) I): ax C ak L (o::rest) E h hs Q :=
 ax.any J hd hn he (OpR.of (R:=fun v' h'=>v'=v∧h'=h) ho ⟨rfl,rfl⟩) (fun v' h' hr=>by obtain⟨rfl,rfl⟩:=hr;exact hw)
theorem ax.no {e:Bool}(hg:wantE L E o.guard=some false)(hd:o.dst=some d)(hn:Nat.blt d ak=true)(he:isEff C o.op=e)
 (hw:ax C ak L rest ((d,bW)::E) h (cond e (hs++[h]) hs) fun E' h' ts I=>Q E' h' ((E,bW)::ts) I): ax C ak L (o::rest) E h hs Q:=by
 intro env hE
 obtain⟨M,J,h',E',tr,ts,I,h1,h2,h3,h4⟩:=hw (env.set d (some bW)) (hE.set d bW)
 refine⟨M,J,h',E',(env,bW)::tr,(E,bW)::ts,I,?_,h2,⟨hE,rfl,h3⟩,h4⟩
 simp only[trace,jU hE hg,aL,St.put,hd,hn,ah,he]
 rw[h1]
def G0 (C:eO)(L:List Oper)(o:Oper)(x:List (Nat×V)×V)(h:H): Prop :=
 wantE L x.1 o.guard=some false∨(wantE L x.1 o.guard=some true∧(∃h',opE C.P x.1 h o.op=some (x.2,h'))∧x.2.beq x.2=true)
def Gc (C:eO)(L:List Oper)(an es:List Nat)(hs:List H): List Oper→List (List (Nat×V)×V)→Nat→Prop
 |o::l,x::tr,i=>(isEff C o.op=true∨(pI ((nth an i).getD 0) es&&Nat.beq (kO ((nth an i).getD 0) es) (nU an i es))=true ∨
   (pI ((nth an i).getD 0) es=true∧∀h∈(hs.drop (kO ((nth an i).getD 0) es)).take (nU an i es+1-kO ((nth an i).getD 0) es),G0 C L o x h))∧Gc C L an es hs l tr (i+1)
 |[],[],_=>True
 |_,_,_=>False
theorem N9 {x:Env×V}{y:List (Nat×V)×V}(J:iz x.1 y.1)(hv:x.2=y.2): ∀(hs:List H),(∀h∈hs,G0 C L o y h)→sameIn C self L o x hs=true:=by
 intro hs
 induction hs with
 |nil=>intro _;rfl
 |cons h hs ih =>
  intro I
  simp only[sameIn]
  rcases I h c8 with hg|⟨hg,⟨h',ho⟩,hb⟩
  ·rw[jU J hg,aL]
  ·rw[jU J hg,ah,Cf J ho]
   simp only
   rw[hv,hb,ah]
   exact ih (fun h hh=>I h (cU _ hh))
theorem N_ {an:List Nat}: ∀(l:List Oper) (tr:List (Env×V)) (ts:List (List (Nat×V)×V)) (i:Nat),LL tr ts→Gc C L an es hs l ts i→stayOk C self L an es hs l tr i=true:=by
 intro l
 induction l with
 |nil=>intro tr ts i hn J;cases tr<;>cases ts<;>first|rfl|(exact J.elim)|(exact hn.elim)
 |cons o l ih =>
  intro tr ts i hn J
  cases tr with
  |nil=>cases ts with
   |nil=>exact J.elim
   |cons y ts=>exact hn.elim
  |cons x tr =>
   cases ts with
   |nil=>exact hn.elim
   |cons y ts =>
    obtain⟨n1,n2,n3⟩:=hn
    obtain⟨s1,s2⟩:=J
    simp only[stayOk]
    have I:=ih tr ts (i+1) n3 s2
    cases he:isEff C o.op with
    |true=>rw[ah];exact I
    |false =>
     rw[aL]
     rcases s1 with s1|s1|⟨s1,s3⟩
     ·rw[he] at s1;cases s1
     ·rw[s1,ah];exact I
     ·cases hq:(pI ((nth an i).getD 0) es&&Nat.beq (kO ((nth an i).getD 0) es) (nU an i es)) with
      |true=>rw[ah];exact I
      |false=>rw[aL,s1,N9 n1 n2 _ s3,iX,ah];exact I
theorem WP.draw {Q:Ex→List (Nat×V)→H→Prop}(hl:ops.toList=L)(J:oC C false L=true)
 (hw:ax C ak L L E h [h] fun E' h' ts hs=>Gc C L (ancs L []) (ej C L 0) hs L ts 0∧Q .normal E' h'): WP C ak (.region id ops true) E h Q:=by
 intro env hE
 obtain⟨N,I,h',E',tr,ts,E9,h1,h2,h3,h4,h5⟩:=hw env hE
 refine⟨N+1,.normal,I,h',E',?_,h2,h5⟩
 subst hl
 rw[iD]
 simp only[evStep,ah,pJ,J,h1,N_ _ _ _ _ h3 h4]
end
def planOk (C:eO)(an es:List Nat): List Oper→List (Option (Nat×Nat))→Nat→Bool
 |[],[],_=>true
 |o::l,p::ps,i=>(match p with
   |none=>isEff C o.op||(pI ((nth an i).getD 0) es&&Nat.beq (kO ((nth an i).getD 0) es) (nU an i es))
   |some (lo,n)=>pI ((nth an i).getD 0) es&&Nat.beq lo (kO ((nth an i).getD 0) es)&&Nat.beq n (nU an i es+1-kO ((nth an i).getD 0) es))&&planOk C an es l ps (i+1)
 |_,_,_=>false
def Cn (C:eO)(L:List Oper)(hs:List H): List Oper→List (List (Nat×V)×V)→List (Option (Nat×Nat))→Prop
 |o::l,x::tr,p::ps=>(match p with
   |none=>True
   |some (lo,n)=>∀h∈(hs.drop lo).take n,G0 C L o x h)∧Cn C L hs l tr ps
 |[],[],_=>True
 |_,_,_=>False
theorem Cn.stay {an:List Nat}: ∀(l:List Oper) (ts:List (List (Nat×V)×V)) (ps:List (Option (Nat×Nat))) (i:Nat),planOk C an es l ps i=true→Cn C L hs l ts ps→Gc C L an es hs l ts i:=by
 intro l
 induction l with
 |nil=>intro ts ps i h1 J;cases ts with
  |nil=>trivial
  |cons x ts=>exact J.elim
 |cons o l ih =>
  intro ts ps i h1 J
  cases ts with
  |nil=>cases ps<;>exact J.elim
  |cons x ts =>
   cases ps with
   |nil=>exact J.elim
   |cons p ps =>
    simp only[planOk,bK] at h1
    obtain⟨I,a2⟩:=h1
    obtain⟨b1,b2⟩:=J
    refine⟨?_,ih ts ps (i+1) a2 b2⟩
    cases p with
    |none =>
     simp only[DC] at I
     rcases I with I|I
     ·exact .inl I
     ·exact .inr (.inl I)
    |some q =>
     obtain⟨lo,n⟩:=q
     simp only[bK,beq_iff] at I
     obtain⟨⟨c1,c2⟩,c3⟩:=I
     refine .inr (.inr ⟨c1,?_⟩)
     subst c2
     subst c3
     exact b1
theorem WP.drawn {ak:Nat}(ps:List (Option (Nat×Nat)))(hl:ops.toList=L)(J:oC C false L=true)
 (hp:planOk C (ancs L []) (ej C L 0) L ps 0=true)
 (hw:ax C ak L L E h [h] fun E' h' ts hs=>Cn C L hs L ts ps∧Q .normal E' h'): WP C ak (.region id ops true) E h Q:=by
 refine WP.draw hl J ?_
 intro env hE
 obtain⟨N,I,h',E',tr,ts,E9,h1,h2,h3,h4,h5⟩:=hw env hE
 exact⟨N,I,h',E',tr,ts,E9,h1,h2,h3,Cn.stay _ _ _ _ hp h4,h5⟩
theorem dJ {a b:H}{l:List H}{p:H→Prop}(J:p a)(hb:p b): ∀x∈((a::b::l).drop 0).take 2,p x:=by
 intro x I
 simp only[gE,List.take_succ_cons,z7,jI,kZ,oR] at I
 rcases I with rfl|rfl
 ·exact J
 ·exact hb
theorem rG {a b c:H}{l:List H}{p:H→Prop}(J:p a)(hb:p b)(hc:p c): ∀x∈((a::b::c::l).drop 0).take 3,p x:=by
 intro x I
 simp only[gE,List.take_succ_cons,z7,jI,kZ,oR] at I
 rcases I with rfl|rfl|rfl
 ·exact J
 ·exact hb
 ·exact hc
theorem dR (k:IntKind): ikBeq k k=true:=by cases k<;>rfl
theorem qX (n:Int): intBeq n n=true:=by cases n<;>simp[intBeq]
theorem A8 (c:Cap): c.beq c=true:=by cases c<;>simp[Cap.beq]
theorem Gd (a b c:Nat)(d:Cap): (V.sl a b c d).beq (.sl a b c d)=true:=by simp[V.beq,A8]
theorem eM {v:V}(I:View h v l): v.beq v=true:=by
 obtain⟨_,I⟩:=I
 rcases I with⟨rfl|⟨J,rfl⟩,_⟩|⟨id,off,cap,n,cs,st,rfl,_⟩
 ·simp[V.beq]
 ·simp[V.beq]
 ·exact Gd _ _ _ _
section
variable {ak:Nat} {Q:List (Nat×V)→H→List (List (Nat×V)×V)→List H→Prop} {v:V} {a b:Operand}
theorem zM (e:(o.op,wantE L E o.guard,o.dst,Nat.blt d ak,isEff C o.op,bf E x)=(Op.move x,some true,some d,true,false,some v))(hw:ax C ak L rest ((d,v)::E) h hs fun E' h' ts I=>Q E' h' ((E,v)::ts) I): ax C ak L (o::rest) E h hs Q:=by
  simp only[bz] at e;exact ax.op e.2.1 e.2.2.1 e.2.2.2.1 e.2.2.2.2.1 (by rw[e.1];exact aS e.2.2.2.2.2) hw
theorem zA (e:(o.op,wantE L E o.guard,o.dst,Nat.blt d ak,isEff C o.op,bf E x)=(Op.assign x,some true,some d,true,false,some v))(hw:ax C ak L rest ((d,v)::E) h hs fun E' h' ts I=>Q E' h' ((E,v)::ts) I): ax C ak L (o::rest) E h hs Q:=by
  simp only[bz] at e;exact ax.op e.2.1 e.2.2.1 e.2.2.2.1 e.2.2.2.2.1 (by rw[e.1];exact eU e.2.2.2.2.2) hw
theorem zN (e:(o.op,wantE L E o.guard,o.dst,Nat.blt d ak,isEff C o.op,bf E x)=(Op.nilCheck x,some true,some d,true,false,some (V.ptr j k)))(hw:ax C ak L rest ((d,.ptr j k)::E) h hs fun E' h' ts I=>Q E' h' ((E,.ptr j k)::ts) I): ax C ak L (o::rest) E h hs Q:=by
  simp only[bz] at e;exact ax.op e.2.1 e.2.2.1 e.2.2.2.1 e.2.2.2.2.1 (by rw[e.1];exact iL e.2.2.2.2.2) hw
theorem zF (e:(o.op,wantE L E o.guard,o.dst,Nat.blt d ak,isEff C o.op,bf E x)=(Op.fieldAddr t x i,some true,some d,true,false,some v))(J:fieldAddrV C.P t v i=some r)(hw:ax C ak L rest ((d,r)::E) h hs fun E' h' ts I=>Q E' h' ((E,r)::ts) I): ax C ak L (o::rest) E h hs Q:=by
  simp only[bz] at e;exact ax.op e.2.1 e.2.2.1 e.2.2.2.1 e.2.2.2.2.1 (by rw[e.1];exact g8 e.2.2.2.2.2 J) hw
theorem zL (e:(o.op,wantE L E o.guard,o.dst,Nat.blt d ak,isEff C o.op,bf E x)=(Op.load t x,some true,some d,true,false,some v))(J:loadV C.P h t v=some r)(hw:ax C ak L rest ((d,r)::E) h hs fun E' h' ts I=>Q E' h' ((E,r)::ts) I): ax C ak L (o::rest) E h hs Q:=by
  simp only[bz] at e;exact ax.op e.2.1 e.2.2.1 e.2.2.2.1 e.2.2.2.2.1 (by rw[e.1];exact aH e.2.2.2.2.2 J) hw
theorem zO (e:(wantE L E o.guard,o.dst,Nat.blt d ak,isEff C o.op)=(some true,some d,true,false))(ho:opE C.P E h o.op=some (v,h))(hw:ax C ak L rest ((d,v)::E) h hs fun E' h' ts I=>Q E' h' ((E,v)::ts) I): ax C ak L (o::rest) E h hs Q:=by
  simp only[bz] at e;exact ax.op e.1 e.2.1 e.2.2.1 e.2.2.2 ho hw
end
abbrev PM := Nat→Option Obj
variable {m':PM}
def PM.le (a b:PM): Prop:=∀i o,a i=some o→b i=some o
def PM.dj (a b:PM): Prop:=∀i,a i=none∨b i=none
def PM.upd (m:PM)(id:Nat)(o:Option Obj): PM:=fun i=>if i=id then o else m i
def PM.un (a b:PM): PM:=fun i=>(a i).orElse fun _=>b i
theorem PM.le_refl (a:PM): a.le a:=fun _ _ h=>h
theorem PM.le_trans {a b c:PM}(x:a.le b)(y:b.le c): a.le c:=fun i o h=>y i o (x i o h)
theorem PM.mR {a b I J:PM}(hd:a.dj b)(ha:I.le a)(hb:J.le b): I.dj J:=by
 intro i
 rcases hd i with h|h
 ·left
  cases h1:I i with
  |none=>rfl
  |some o=>rw[ha i o h1] at h;cases h
 ·right
  cases h1:J i with
  |none=>rfl
  |some o=>rw[hb i o h1] at h;cases h
theorem PM.oV {a b:PM}(h:a.dj b): b.dj a:=fun i=>(h i).symm
theorem PM.G1 (a b:PM): a.le (a.un b):=fun i o h=>by simp[PM.un,h]
theorem PM.G2 {a b:PM}(hd:a.dj b): b.le (a.un b):=fun i o h=>by
 rcases hd i with I|I<;>grind[PM.un]
theorem PM.Co {a b c:PM}(J:a.le c)(hb:b.le c): (a.un b).le c:=fun i o h=>by
 simp only[PM.un] at h
 cases I:a i with
 |none=>rw[I] at h;exact hb i o h
 |some x=>rw[I] at h;injection h with h;subst h;exact J i _ I
theorem PM.Cp {a b c:PM}(I:a.dj c)(J:b.dj c): (a.un b).dj c:=fun i=>by
 rcases I i with h|h
 ·rcases J i with h2|h2<;>grind[PM.un]
 ·grind
def ViewM (m:PM)(v:V)(l:List Nat): Prop:=(∀b∈l,b<256)∧(((v=.aV∨∃a,v=.sle a)∧l=[]) ∨
 ∃id off cap n cs st,v=.sl id off l.length cap∧m id=some (.cells n cs st)∧cs.length=n∧off+l.length≤n∧(cs.drop off).take l.length=ofBytes l ∧
  (match cap with|.exact c=>l.length≤c|.rest e _=>e=1))
def rW (m:PM)(v:V)(l:List Nat): Prop:=(∀b∈l,b<256)∧((v=.aV∧l=[]) ∨
 (∃id cs c,v=.sl id 0 l.length (.exact c)∧m id=some (.cells c (ofBytes l++cs) false)∧l.length+cs.length=c) ∨
 (∃id,v=.sl id 0 l.length (.rest 1 0)∧m id=some (.cells l.length (ofBytes l) false)∧1≤l.length))
theorem ViewM.up {m:PM}{v:V}(h:ViewM m v l)(hm:PM.le m m'): ViewM m' v l:=by
 obtain⟨J,I⟩:=h
 refine⟨J,?_⟩
 rcases I with I|⟨id,off,cap,n,cs,st,e,hg,h3⟩
 ·grind
 ·exact .inr ⟨id,off,cap,n,cs,st,e,hm _ _ hg,h3⟩
theorem rW.up {m:PM}{v:V}(h:rW m v l)(hm:PM.le m m'): rW m' v l:=by
 obtain⟨h1,h2⟩:=h
 refine⟨h1,?_⟩
 rcases h2 with h2|⟨id,cs,c,e,I,J⟩|⟨id,e,I,J⟩
 ·grind
 ·exact .inr (.inl ⟨id,cs,c,e,hm _ _ I,J⟩)
 ·exact .inr (.inr ⟨id,e,hm _ _ I,J⟩)
theorem rW.view {m:PM}{v:V}(I:rW m v l): ViewM m v l:=by
 obtain⟨J,I⟩:=I
 refine⟨J,?_⟩<;>grind[dS]
def tF (m:PM)(k:Nat)(v:V)(cs:List V): Prop:=cs.all storable=true∧((v=.aV∧cs=[]) ∨
 ∃id n cap N rest,v=.sl id 0 n cap∧m id=some (.cells N (cs++rest) false)∧cs.length=n*k∧cs.length+rest.length=N∧rest.all storable=true ∧
  (match cap with|.exact c=>N=c*k∧n≤c|.rest e alt=>e=k∧alt=0∧rest=[]∧1≤n))
theorem tF.up {m:PM}{v:V}(h:tF m k v cs)(hm:PM.le m m'): tF m' k v cs:=by
 obtain⟨J,I⟩:=h
 refine⟨J,?_⟩
 rcases I with I|⟨id,n,cap,N,rest,e,hg,h3⟩
 ·grind
 ·exact .inr ⟨id,n,cap,N,rest,e,hm _ _ hg,h3⟩
inductive aP : Type 1 where
 |pt (id:Nat) (o:Obj)
 |ro (id:Nat) (o:Obj)
 |pu (φ:Prop)
 |buf (v:V) (l:List Nat)
 |c9 (v:V) (l:List Nat)
 |Xm (v:V) (l:List Nat)
 |arr (k:Nat) (v:V) (cs:List V)
 |an (A B:aP)
 |xs {α:Type} (f:α→aP)
 |all {α:Type} (f:α→aP)
 |se (A B:aP)
variable {A B X:aP} {S S':List aP}
abbrev pt := aP.pt
abbrev ro := aP.ro
abbrev pu := aP.pu
abbrev xs {α:Type}(f:α→aP): aP:=aP.xs f
abbrev bp := aP.buf
abbrev Cq := aP.c9
abbrev cE := aP.Xm
def aP.p : aP→PM→PM→Prop
 |.pt id o,m,_=>m id=some o
 |.ro id o,_,r=>r id=some o
 |.pu φ,_,_=>φ
 |.buf v l,m,_=>rW m v l
 |.c9 v l,_,r=>ViewM r v l
 |.Xm v l,m,r=>ViewM m v l∨ViewM r v l
 |.arr k v cs,m,_=>tF m k v cs
 |.an A B,m,r=>A.p m r∧B.p m r
 |.xs f,m,r=>∃x,(f x).p m r
 |.all f,m,r=>∀x,(f x).p m r
 |.se A B,m,r=>∃a b,PM.dj a b∧PM.le a m∧PM.le b m∧A.p a r∧B.p b r
theorem aP.mono : ∀(A:aP) (m m' r J:PM),PM.le m m'→PM.le r J→A.p m r→A.p m' J:=by
 intro A
 induction A with
 |pt id o=>intro m m' r J hm I h;exact hm _ _ h
 |ro id o=>intro m m' r J hm I h;exact I _ _ h
 |pu φ=>intro m m' r J hm I h;exact h
 |buf v l=>intro m m' r J hm I h;exact rW.up h hm
 |c9 v l=>intro m m' r J hm I h;exact ViewM.up h I
 |Xm v l =>
  intro m m' r J hm I h
  rcases h with h|h
  ·exact .inl (ViewM.up h hm)
  ·exact .inr (ViewM.up h I)
 |arr k v cs=>intro m m' r J hm I h;exact tF.up h hm
 |an A B ia ib=>intro m m' r J hm I h;exact⟨ia _ _ _ _ hm I h.1,ib _ _ _ _ hm I h.2⟩
 |xs f ih=>intro m m' r J hm I h;obtain⟨x,hx⟩:=h;exact⟨x,ih x _ _ _ _ hm I hx⟩
 |all f ih=>intro m m' r J hm I h x;exact ih x _ _ _ _ hm I (h x)
 |se A B ia ib =>
  intro m m' r J hm I h
  obtain⟨a,b,h1,h2,h3,h4,h5⟩:=h
  exact⟨a,b,h1,PM.le_trans h2 hm,PM.le_trans h3 hm,ia _ _ _ _ (PM.le_refl _) I h4,ib _ _ _ _ (PM.le_refl _) I h5⟩
def star : List aP→aP
 |[]=>.pu True
 |A::L=>.se A (star L)
theorem aP.up {m r I:PM}(h:A.p m r)(hm:m.le m')(J:r.le I): A.p m' I:=A.mono m m' r I hm J h
def cD (A B:aP): Prop:=∀m r,A.p m r→B.p m r
def bC (A:aP): Prop:=∀m r,A.p m r→A.p (fun _=>none) r
theorem bC.pu (φ:Prop): bC (.pu φ):=fun _ _ h=>h
theorem bC.an (I:bC A)(J:bC B): bC (.an A B):=fun m r h=>⟨I m r h.1,J m r h.2⟩
def getA : List aP→Nat→Option aP
 |[],_=>none
 |A::_,0=>some A
 |_::L,k+1=>getA L k
theorem mw (I:getA S k=some X): getA (A::S) (k+1)=some X:=I
def setA : List aP→Nat→aP→List aP
 |[],_,_=>[]
 |_::L,0,B=>B::L
 |A::L,k+1,B=>A::setA L k B
def aK : List aP→Nat→List aP
 |[],_=>[]
 |_::L,0=>L
 |A::L,k+1=>A::aK L k
def bringA (S:List aP): List Nat→List aP
 |[]=>S
 |k::ks=>match getA S k with
  |some A=>A::bringA (aK S k) ks
  |none=>[]
def LM (k:Nat): List Nat→Nat
 |[]=>0
 |x::l=>cond (Nat.blt x k) (LM k l+1) (LM k l)
def Xn : List Nat→List Nat→List Nat
 |_,[]=>[]
 |seen,k::ks=>(k-LM k seen)::Xn (k::seen) ks
theorem Oa {L:List aP}{m r:PM}(h:(star (A::B::L)).p m r): (star (B::A::L)).p m r:=by
 obtain⟨a,b,h1,h2,h3,h4,c,d,g1,g2,g3,g4,g5⟩:=h
 have J:a.dj c:=PM.mR h1 (PM.le_refl _) g2
 have I:a.dj d:=PM.mR h1 (PM.le_refl _) g3
 exact⟨c,a.un d,PM.oV (PM.Cp J (PM.oV g1)),PM.le_trans g2 h3,PM.Co h2 (PM.le_trans g3 h3),g4,a,d,I,PM.G1 _ _,PM.G2 I,h4,g5⟩
theorem yy {L I:List aP}(h:∀m r,(star L).p m r→(star I).p m r){m r:PM}(hs:(star (A::L)).p m r): (star (A::I)).p m r:=by
 obtain⟨a,b,J,h2,h3,h4,h5⟩:=hs
 exact⟨a,b,J,h2,h3,h4,h _ _ h5⟩
theorem yz : ∀ {S:List aP} {k:Nat} {A:aP},getA S k=some A→∀m r,(star S).p m r→(star (A::aK S k)).p m r:=by
 intro S
 induction S with
 |nil=>intro k A h;cases h
 |cons B S I =>
  intro k A h m r hs
  cases k with
  |zero=>injection h with h;subst h;exact hs
  |succ k =>
   exact Oa (yy (I h) hs)
theorem yA {L:List aP}{m r:PM}(h:(star (A::L)).p m r): (star L).p m r:=by
 obtain⟨a,b,I,J,h3,h4,h5⟩:=h<;>grind[aP.up,PM.le_refl]
theorem Ob {L:List aP}{m r:PM}(h:(star (A::L)).p m r): A.p m r:=by
 obtain⟨a,b,I,J,h3,h4,h5⟩:=h<;>grind[aP.up,PM.le_refl]
theorem Cr : ∀(ks:List Nat) (S:List aP) (m r:PM),(star S).p m r→(bringA S ks=[]∨True)→(star (bringA S ks)).p m r:=by
 intro ks
 induction ks with
 |nil=>intro S m r h _;exact h
 |cons k ks I =>
  intro S m r h _
  simp only[bringA]
  cases J:getA S k with
  |none=>trivial
  |some A=>exact yy (fun m r h=>I _ m r h (.inr aa)) (yz J m r h)
theorem G3 {L:List aP}: ∀m r,(star (star L::S)).p m r↔(star (L++S)).p m r:=by
 induction L with
 |nil =>
  intro m r
  constructor
  ·intro h;exact yA h
  ·intro h;exact⟨fun _=>none,m,fun _=>.inl rfl,fun _ _ h=>(by cases h),PM.le_refl _,aa,h⟩
 |cons A L ih =>
  intro m r
  constructor
  ·rintro⟨a,b,J,h2,h3,⟨c,d,g1,g2,g3,g4,g5⟩,h5⟩
   have I:c.dj b:=PM.mR J g2 (PM.le_refl _)
   have G4:d.dj b:=PM.mR J g3 (PM.le_refl _)
   exact⟨c,d.un b,PM.oV (PM.Cp (PM.oV g1) (PM.oV I)),PM.le_trans g2 h2,PM.Co (PM.le_trans g3 h2) h3,g4,(ih _ _).1 ⟨d,b,G4,PM.G1 _ _,PM.G2 G4,g5,h5⟩⟩
  ·rintro⟨c,e,J,h2,h3,h4,h5⟩
   obtain⟨d,b,g1,g2,g3,g4,g5⟩:=(ih _ _).2 h5
   have vR:c.dj d:=PM.mR J (PM.le_refl _) g2
   have I:c.dj b:=PM.mR J (PM.le_refl _) g3
   exact⟨c.un d,b,PM.Cp I g1,PM.Co h2 (PM.le_trans g2 h3),PM.le_trans g3 h3,⟨c,d,vR,PM.G1 _ _,PM.G2 vR,h4,g4⟩,g5⟩
structure Sat (h:H)(S:List aP): Prop where
 wf:kC h
 ok:∃m r,PM.le m (T.get h.tr)∧PM.le r (T.get h.tr)∧PM.dj m r∧(star S).p m r
section
theorem Sat.map (s:Sat h S)(I:∀m r,(star S).p m r→(star S').p m r): Sat h S':=by
 obtain⟨m,r,J,h2,h3,h4⟩:=s.ok
 exact⟨s.wf,m,r,J,h2,h3,I _ _ h4⟩
theorem Sat.at (s:Sat h S)(I:getA S k=some A): ∃m r,PM.le m (T.get h.tr)∧PM.le r (T.get h.tr)∧A.p m r:=by
 obtain⟨m,r,J,h2,h3,h4⟩:=s.ok
 exact⟨m,r,J,h2,Ob (yz I m r h4)⟩
theorem Sat.take (k:Nat)(s:Sat h S)(I:getA S k=some A): Sat h (A::aK S k):=s.map (yz I)
theorem Sat.pN (ks:List Nat)(s:Sat h S): Sat h (bringA S (Xn [] ks)):=s.map fun m r h=>Cr _ S m r h (.inr aa)
theorem Sat.ae (ks:List Nat)(s:Sat h S): Sat h (bringA S ks):=s.map fun m r h=>Cr _ S m r h (.inr aa)
theorem Sat.drop (s:Sat h (A::S)): Sat h S:=s.map fun _ _ h=>yA h
theorem Q6 : ∀(S:List aP) (k:Nat) (m r:PM),(star S).p m r→(star (aK S k)).p m r:=by
 intro S
 induction S with
 |nil=>intro k m r h;exact h
 |cons B S I =>
  intro k m r h
  cases k with
  |zero=>exact yA h
  |succ k=>exact yy (I k) h
theorem Sat.del (k:Nat)(s:Sat h S): Sat h (aK S k):=s.map (Q6 S k)
theorem Sat.j5 (s:Sat h (A::S))(he:cD A B): Sat h (B::S):=s.map fun m r ⟨a,b,I,J,h3,h4,h5⟩=>⟨a,b,I,J,h3,he _ _ h4,h5⟩
theorem Sat.dup (s:Sat h (A::S))(J:bC A): Sat h (A::A::S):=s.map fun m r hs=>by
 obtain⟨a,b,h1,h2,h3,I,h5⟩:=hs
 exact⟨fun _=>none,m,fun _=>.inl rfl,fun _ _ h=>(by cases h),PM.le_refl _,J _ _ I,a,b,h1,h2,h3,I,h5⟩
theorem Sat.gh (s:Sat h S)(I:φ): Sat h (pu φ::S):=s.map fun m _ hs=>⟨fun _=>none,m,fun _=>.inl rfl,fun _ _ h=>(by cases h),PM.le_refl _,I,hs⟩
theorem Sat.two {C:aP}(s:Sat h (A::B::S))(I:bC A)(J:bC B)(hC:∀m r,A.p m r→B.p m r→C.p m r): Sat h (C::S):=s.map fun m r hs=>by
 obtain⟨a,b,h1,h2,h3,h4,c,d,g1,g2,g3,g4,g5⟩:=hs
 exact⟨fun _=>none,d,fun _=>.inl rfl,fun _ _ h=>(by cases h),PM.le_trans g3 h3,hC _ _ (I _ _ h4) (J _ _ g4),g5⟩
theorem lz {f:α→aP}: Sat h (xs f::S)↔∃x,Sat h (f x::S):=by
 constructor
 ·intro s
  obtain⟨m,r,I,J,h3,a,b,g1,g2,g3,⟨x,g4⟩,g5⟩:=s.ok
  exact⟨x,s.wf,m,r,I,J,h3,a,b,g1,g2,g3,g4,g5⟩
 ·rintro⟨x,s⟩
  exact s.j5 fun m r h=>⟨x,h⟩
theorem ob : Sat h (pu φ::S)↔φ∧Sat h S:=by
 constructor
 ·intro s
  obtain⟨m,r,I,h2,h3,a,b,g1,g2,g3,J,g5⟩:=s.ok
  exact⟨J,s.drop⟩
 ·rintro⟨I,s⟩;exact s.gh I
theorem bg {L:List aP}: Sat h (star L::S)↔Sat h (L++S) :=
 ⟨fun s=>s.map fun m r hs=>(G3 m r).1 hs,fun s=>s.map fun m r hs=>(G3 m r).2 hs⟩
theorem Sat.row {o:Obj}(s:Sat h S)(I:getA S k=some (pt id o)): T.get h.tr id=some o:=by
 obtain⟨m,r,J,h2,h3⟩:=s.at I
 exact J _ _ h3
theorem Sat.ne {o:Obj}(s:Sat h (pt i o::pt j o'::S)): i≠j:=by
 rintro rfl
 obtain⟨m,r,h1,h2,h3,a,b,I,g2,g3,J,c,d,k1,k2,k3,k4,k5⟩:=s.ok
 have e1:a i=some o:=J
 have e2:b i=some o':=k2 _ _ k4
 rcases I i with e|e
 ·grind
 ·grind
theorem Xo {m:PM}{t:T Obj}{o:Option Obj}(hm:m.le (T.get t)): (m.upd id o).le (T.get (t.set id o)):=by
 intro i x I
 rw[aR]
 simp only[PM.upd] at I
 split
 ·grind
 ·rename_i e;rw[aj e] at I;exact hm i x I
theorem G5 {m:PM}{o:Option Obj}(hm:m.le (T.get h.tr))(J:m id=none): m.le (T.get (h.put id o).tr):=by
 intro i x I
 rw[cN]
 split
 ·grind
 ·exact hm i x I
theorem Q7 : ∀ {S:List aP} {k id:Nat} {o o':Obj},getA S k=some (pt id o)→∀m r,(star S).p m r→m id=some o∧(star (setA S k (pt id o'))).p (m.upd id (some o')) r:=by
 intro S
 induction S with
 |nil=>intro k id o o' h;cases h
 |cons B S ih =>
  intro k id o o' J m r hs
  obtain⟨a,b,h1,h2,h3,h4,h5⟩:=hs
  cases k with
  |zero =>
   injection J with J
   subst J
   have ha:a id=some o:=h4
   have hb:b id=none:=by
    rcases h1 id with e|e
    ·grind
    ·exact e
   refine⟨h2 _ _ ha,a.upd id (some o'),b,fun i => ?_,fun i x I => ?_,fun i x I => ?_,?_,h5⟩
   ·by_cases e:i=id
    ·grind
    ·simp only[PM.upd,aj e];exact h1 i
   ·simp only[PM.upd] at I ⊢
    split
    ·grind
    ·rename_i e;rw[aj e] at I;exact h2 i x I
   ·simp only[PM.upd]
    split
    ·grind
    ·exact h3 i x I
   ·show(a.upd id (some o')) id=some o'
    simp[PM.upd]
  |succ k =>
   obtain⟨g1,g2⟩:=ih (o':=o') J b r h5
   have ha:a id=none:=by
    rcases h1 id with e|e
    ·exact e
    ·grind
   refine⟨h3 _ _ g1,a,b.upd id (some o'),fun i => ?_,fun i x I => ?_,fun i x I => ?_,h4,g2⟩
   ·by_cases e:i=id
    ·grind
    ·simp only[PM.upd,aj e];exact h1 i
   ·simp only[PM.upd]
    split
    ·grind
    ·exact h2 i x I
   ·simp only[PM.upd] at I ⊢
    split
    ·grind
    ·rename_i e;rw[aj e] at I;exact h3 i x I
theorem Sat.put {o:Obj}(s:Sat h S)(hk:getA S k=some (pt id o)): Sat (h.put id (some o')) (setA S k (pt id o')):=by
 obtain⟨m,r,I,h2,J,h4⟩:=s.ok
 obtain⟨g1,g2⟩:=Q7 (o':=o') hk m r h4
 have hr:r id=none:=by
  rcases J id with e|e
  ·grind
  ·exact e
 refine⟨s.wf.put (s.wf _ _ (I _ _ g1)) _,m.upd id (some o'),r,Xo I,G5 h2 hr,fun i => ?_,g2⟩
 by_cases e:i=id
 ·grind
 ·simp only[PM.upd,aj e];exact J i
theorem Sat.new (s:Sat h S)(o:Obj): Sat (h.new o) (pt h.next o::S):=by
 obtain⟨m,r,h1,h2,h3,h4⟩:=s.ok
 have hm:m h.next=none:=by
  cases e:m h.next with
  |none=>rfl
  |some x=>exact absurd (s.wf _ _ (h1 _ _ e)) (Nat.lt_irrefl _)
 have hr:r h.next=none:=by
  cases e:r h.next with
  |none=>rfl
  |some x=>exact absurd (s.wf _ _ (h2 _ _ e)) (Nat.lt_irrefl _)
 have J:∀(q:PM),q.le (T.get h.tr)→q h.next=none→q.le (T.get (h.new o).tr):=fun q hq hn i x I=>by
  rw[fo]
  split
  ·grind
  ·exact hq i x I
 refine⟨s.wf.new o,m.upd h.next (some o),r,fun i x I => ?_,J r h2 hr,fun i => ?_,fun i=>if i=h.next then some o else none,m,fun i => ?_,fun i x I => ?_,fun i x I => ?_,?_,h4⟩
 ·rw[fo]
  simp only[PM.upd] at I
  split
  ·grind
  ·rename_i e;rw[aj e] at I;exact h1 i x I
 ·by_cases e:i=h.next
  ·grind
  ·simp only[PM.upd,aj e];exact h3 i
 ·grind
 ·grind[PM.upd]
 ·grind[PM.upd]
 ·show(if h.next=h.next then some o else none)=some o
  simp
theorem Sat.kill {o:Obj}(s:Sat h (pt id o::S)): Sat (h.put id none) S:=by
 obtain⟨m,r,I,h2,J,a,b,g1,g2,g3,g4,g5⟩:=s.ok
 have ha:a id=some o:=g4
 have hb:b id=none:=by
  rcases g1 id with e|e
  ·grind
  ·exact e
 have hr:r id=none:=by
  rcases J id with e|e
  ·rw[g2 _ _ ha] at e;cases e
  ·exact e
 exact⟨s.wf.put (s.wf _ _ (I _ _ (g2 _ _ ha))) _,b,r,G5 (PM.le_trans g3 I) hb,G5 h2 hr,PM.mR J g3 (PM.le_refl _),g5⟩
theorem Sat.freeze {o:Obj}(s:Sat h (pt id o::S)): Sat h (ro id o::S):=by
 obtain⟨m,r,J,h2,h3,a,b,g1,g2,g3,g4,g5⟩:=s.ok
 have ha:a id=some o:=g4
 have hb:b id=none:=by
  rcases g1 id with e|e
  ·grind
  ·exact e
 have hr:r id=none:=by
  rcases h3 id with e|e
  ·rw[g2 _ _ ha] at e;cases e
  ·exact e
 have hle:r.le (r.upd id (some o)):=fun i x I=>by
  grind[PM.upd]
 refine⟨s.wf,b,r.upd id (some o),PM.le_trans g3 J,fun i x I => ?_,fun i => ?_,fun _=>none,b,fun _=>.inl rfl,fun _ _ h=>(by cases h),PM.le_refl _,?_,aP.up g5 (PM.le_refl _) hle⟩
 ·simp only[PM.upd] at I
  split at I
  ·rename_i e;subst e;injection I with I;subst I;exact J _ _ (g2 _ _ ha)
  ·exact h2 i x I
 ·by_cases e:i=id
  ·grind
  ·simp only[PM.upd,aj e];exact PM.mR h3 g3 (PM.le_refl _) i
 ·show(r.upd id (some o)) id=some o
  simp[PM.upd]
theorem Sat.jP (s:Sat h S)(J:dL k [] h h'): Sat h' S:=by
 obtain⟨m,r,h1,h2,h3,h4⟩:=s.ok
 have I:∀(q:PM),q.le (T.get h.tr)→q.le (T.get h'.tr):=fun q hq i x hx=>by
  rw[J.get i (s.wf _ _ (hq _ _ hx)) kZ]
  exact hq _ _ hx
 exact⟨J.wf,m,r,I m h1,I r h2,h3,h4⟩
theorem Sat.Xp {X:List Nat}{m₀:PM}(s:Sat h (A::S))(hk:dL k X h h')(hX:∀m r,PM.le m (T.get h.tr)→PM.le r (T.get h.tr)→A.p m r→∀i∈X,m i≠none)
 (hm:PM.le m₀ (T.get h'.tr))(hB:∀r,B.p m₀ r)(hn:∀i,m₀ i≠none→i∈X∨h.next≤i): Sat h' (B::S):=by
 obtain⟨m,r,h1,h2,h3,a,b,g1,g2,g3,g4,g5⟩:=s.ok
 have hXa:∀i∈X,a i≠none:=hX a r (PM.le_trans g2 h1) h2 g4
 have hXb:∀i∈X,b i=none:=fun i hi=>by
  rcases g1 i with e|e<;>grind
 have hXr:∀i∈X,r i=none:=fun i hi=>by
  cases e:a i with
  |none=>grind
  |some o =>
   rcases h3 i with J|J
   ·rw[g2 _ _ e] at J;cases J
   ·exact J
 have hup:∀(q:PM),q.le (T.get h.tr)→(∀i∈X,q i=none)→q.le (T.get h'.tr):=fun q hq hz i x hx=>by
  rw[hk.get i (s.wf _ _ (hq _ _ hx)) (fun hi=>by grind)]
  exact hq _ _ hx
 have I:∀(q:PM),q.le (T.get h.tr)→(∀i∈X,q i=none)→m₀.dj q:=fun q hq hz i=>by
  cases e:m₀ i with
  |none=>simp
  |some x =>
   right
   rcases hn i (by grind) with hi|hi
   ·grind
   ·cases J:q i with
    |none=>rfl
    |some y=>exact absurd (s.wf _ _ (hq _ _ J)) (Nat.not_lt.2 hi)
 have nN:=hup b (PM.le_trans g3 h1) hXb
 have hd:=I b (PM.le_trans g3 h1) hXb
 exact⟨hk.wf,m₀.un b,r,PM.Co hm nN,hup r h2 hXr,PM.Cp (I r h2 hXr) (PM.mR h3 g3 (PM.le_refl _)),m₀,b,hd,PM.G1 _ _,PM.G2 hd,hB r,g5⟩
end
theorem aY (v:V)(l:List Nat): cD (bp v l) (cE v l):=fun _ _ h=>.inl (rW.view h)
theorem eZ (v:V)(l:List Nat): cD (Cq v l) (cE v l):=fun _ _ h=>.inr h
theorem bC.c9 (v:V)(l:List Nat): bC (.c9 v l):=fun _ _ h=>h
section
variable {v:V}
theorem Sat.aI (s:Sat h S)(J:getA S k=some X)(hX:cD X (cE v l)): View h v l:=by
 obtain⟨m,r,h1,h2,h3⟩:=s.at J
 rcases hX _ _ h3 with I|I
 ·exact ViewM.up I h1
 ·exact ViewM.up I h2
theorem Sat.buf (s:Sat h S)(I:getA S k=some (bp v l)): jq h v l:=by
 obtain⟨m,r,J,h2,h3⟩:=s.at I
 exact rW.up (l:=l) h3 J
theorem Ki {m:PM}(I:rW m v l): ∀i∈rowIds v,m i≠none:=by
 obtain⟨_,J⟩:=I<;>grind[rowIds]
theorem Kj (I:jq h v l): rW (fun i=>if i∈rowIds v then T.get h.tr i else none) v l:=by
 obtain⟨J,h2⟩:=I
 refine⟨J,?_⟩<;>grind[rowIds]
theorem Oc (L:List Nat): PM.le (fun i=>if i∈L then T.get h.tr i else none) (T.get h.tr):=fun i x I=>by
 grind
theorem Sat.G6 (s:Sat h S)(I:dL k [] h h')(J:jq h' v l)(hn:∀i∈rowIds v,h.next≤i): Sat h' (bp v l::S):=by
 have s':Sat h (pu True::S):=s.gh aa
 refine s'.Xp (B:=bp v l) (m₀:=fun i=>if i∈rowIds v then T.get h'.tr i else none) I (fun _ _ _ _ _ i hi=>by cases hi) (Oc _) (fun _=>Kj J) (fun i hi=>.inr ?_)<;>grind
theorem Sat.Ap {v':V}{I:List Nat}(s:Sat h (bp v l::S))(J:dL k (rowIds v) h h')(hb:jq h' v' I)(hn:∀i∈rowIds v',i∈rowIds v∨h.next≤i): Sat h' (bp v' I::S):=by
 refine s.Xp (B:=bp v' I) (m₀:=fun i=>if i∈rowIds v' then T.get h'.tr i else none) J (fun _ _ _ _ h=>Ki h) (Oc _) (fun _=>Kj hb) (fun i hi => ?_)<;>grind
theorem Sat.fX (s:Sat h (bp v l::S)): Sat h (Cq v l::S):=by
 obtain⟨m,r,J,h2,h3,a,b,g1,g2,g3,g4,g5⟩:=s.ok
 have I:r.dj a:=PM.oV (PM.mR h3 g2 (PM.le_refl _))
 refine⟨s.wf,b,r.un a,PM.le_trans g3 J,PM.Co h2 (PM.le_trans g2 J),PM.oV (PM.Cp (PM.oV (PM.mR h3 g3 (PM.le_refl _))) g1),fun _=>none,b,fun _=>.inl rfl,fun _ _ h=>(by cases h),PM.le_refl _,?_,aP.up g5 (PM.le_refl _) (PM.G1 _ _)⟩
 exact(rW.view g4).up (PM.G2 I)
end
theorem Xq {a b c d:H}{l:List H}{p:H→Prop}(I:p a)(J:p b)(hc:p c)(hd:p d): ∀x∈((a::b::c::d::l).drop 0).take 4,p x:=by
 grind
section
variable {v:V}
theorem Sat.ld (s:Sat h S)(I:getA S k=some (pt id (.cells n cs st)))(J:isAggT P t=some false)(hn:nth cs off=some v): loadV P h t (.ptr id off)=some v:=N6 J (s.row I) hn
theorem Sat.cK (s:Sat h S)(I:getA S k=some (pt id (.cells n cs st)))(J:isAggT P t=some true)(hs:bB P t=some n): loadV P h t (.ptr id 0)=some (.agg cs):=Am.cK J hs (s.row I)
theorem Sat.dO (s:Sat h S)(J:getA S k=some (pt id (.cells n cs false)))(hs:bB P t=some 1)(hl:cs.length=n)(ho:off<n)(hv:v.cells=[v])(I:storable v=true):
  ∃h₁,fB P h t (.ptr id off) v=some h₁∧Sat h₁ (setA S k (pt id (.cells n (cs.set off v) false))):=by
 refine⟨h.put id (some (.cells n (cs.set off v) false)),?_,s.put J⟩
 simp only[fB,hs,hv,bn,cr,jJ,jK,I,z_]
 rw[show Nat.beq (0+1) 1=true from rfl,ah]
 simp only[wrN,s.row J,bn,cr]
 rw[aG.2 (show off+(0+1)≤n by omega),ah]
 congr 3
 rw[Dq,aC (by omega)]
 cases hc:(Nat.beq off 0&&Nat.beq (0+1) n) with
 |true =>
  simp only[bK,beq_iff] at hc
  obtain⟨rfl,rfl⟩:=hc
  rw[ah]
  have:cs.drop (0+1)=[]:=jH (by omega)
  simp[this]
 |false=>rw[aL];rfl
theorem Sat.stN {l:List V}(s:Sat h S)(J:getA S k=some (pt id (.cells n cs false)))(hs:bB P t=some l.length)(hl:cs.length=n)(ho:off+l.length≤n)(I:l.all storable=true):
  ∃h₁,fB P h t (.ptr id off) (.agg l)=some h₁∧Sat h₁ (setA S k (pt id (.cells n (cs.take off++(l++cs.drop (off+l.length))) false))):=by
 refine⟨h.put id (some (.cells n (cs.take off++(l++cs.drop (off+l.length))) false)),?_,s.put J⟩
 simp only[fB,hs,V.cells,I,eV,iX,ah,wrN,s.row J]
 grind[aG,beq_iff,List.drop_eq_nil_of_le]
end
section
variable {ak:Nat}
theorem au.bP (s:Sat h S)(I:wantE L E o.guard=some true)(hd:o.dst=some d)(J:Nat.blt d ak=true)(ho:opE C.P E h o.op=some (.ptr h.next 0,newRow h cs))
 (hr:∀id h₁,Sat h₁ (pt id (.cells cs.length cs false)::S)→au C ak L rest ((d,.ptr id 0)::E) h₁ R): au C ak L (o::rest) E h R :=
 au.op I hd J ho (hr _ _ (s.new _))
theorem au.rH {v:V}(J:wantE L E o.guard=some true)(hd:o.dst=none)(I:o.op=.store t x y)(hx:bf E x=some v)(hy:bf E y=some u)
 (ho:∃h₁,fB C.P h t v u=some h₁∧Sat h₁ S')(hr:∀h₁,Sat h₁ S'→au C ak L rest E h₁ R): au C ak L (o::rest) E h R:=by
 obtain⟨h₁,e1,e2⟩:=ho
 exact au.NP J hd (by rw[I];exact sX hx hy e1) (hr h₁ e2)
theorem WP.label {l:Nat}(I:Q .normal E h): WP C ak (.label l) E h Q:=fun env J=>⟨1,.normal,env,h,E,rfl,J,I⟩
theorem WP.split {a b:Code}{t:Bool}(I:bf E x=some (.bool t))(J:t=true→WP C ak a E h Q)(h2:t=false→WP C ak b E h Q): WP C ak (.cond x a b) E h Q:=by
 grind[WP.cond]
theorem WP.LN {a b:Code}{t:Bool}(I:bf E x=some (.bool t))(J:t=true)(h1:WP C ak a E h Q): WP C ak (.cond x a b) E h Q:=by
 subst J;exact WP.cond I h1
theorem WP.Ty {a b:Code}{t:Bool}(I:bf E x=some (.bool t))(J:t=false)(h1:WP C ak b E h Q): WP C ak (.cond x a b) E h Q:=by
 subst J;exact WP.cond I h1
end
section
variable {a b:Operand} {v:V}
theorem Tz {t:Nat}(I:bf E x=some v)(J:rj P t v i=some r): opE P E h (.field t x i)=some (r,h):=by grind[opE,i_,bD]
theorem Zm : opE P E h (.makeMap t none)=some (.map h.next,h.new (.map [] 0)):=rfl
theorem fY {ok:Bool}(I:bf E x=some v)(J:bf E y=some u)(hf:dZ P h t v u ok=some r): opE P E h (.lookup t x y ok)=some (r,h):=by grind[opE,uh,bD]
theorem TA {t:Nat}(I:rj P t (.agg cs) i=nth cs off)(J:nth cs off=some r): rj P t (.agg cs) i=some r:=by grind
theorem gB {s d:TypeId}{k k':IntKind}{n:Int}(hs:P.underlying s=some td)(hd:P.underlying d=some (.int k'))(I:k'.wrap n=n): convV P h s d (.int k n)=some (.int k' n,h):=by simp only[convV,hs,hd,I]
theorem cvW {s d:TypeId}{k k':IntKind}{n:Int}(hs:P.underlying s=some td)(hd:P.underlying d=some (.int k')): convV P h s d (.int k n)=some (.int k' (k'.wrap n),h):=by simp only[convV,hs,hd]
theorem Xr {o:Nat}{c:Cap}(hu:P.underlying t=some (.slice e)): lenV P h t (.sl i o n c)=some (.int .i64 n):=by simp only[lenV,hu]
theorem UB (hu:P.underlying t=some (.slice e)): lenV P h t .aV=some (.int .i64 0):=by simp only[lenV,hu]
theorem bA (hu:P.underlying t=some (.slice e))(I:View h v l): lenV P h t v=some (.int .i64 l.length):=by
 obtain⟨_,I⟩:=I
 rcases I with⟨rfl|⟨J,rfl⟩,rfl⟩|⟨id,off,cap,n,cs,st,rfl,_⟩<;>simp[lenV,hu]
theorem mki_of (hu:P.underlying t=some td)(I:(match td with|.interface _=>false|_=>true)=true): makeIfaceV P t v=some (.iface t v):=by
 grind[makeIfaceV]
end
section
theorem az {n:Int}(I : -9223372036854775808≤n)(J:n<9223372036854775808): IntKind.wrap .i64 n=n:=by
 grind[IntKind.bits,IntKind.wrap,IntKind.signed]
theorem eB {n:Int}(I:0≤n)(J:n<18446744073709551616): IntKind.wrap .u64 n=n:=by
 grind[IntKind.wrap,IntKind.bits,IntKind.signed]
theorem UC {n:Int}(I:0≤n)(J:n<4294967296): IntKind.wrap .u32 n=n:=by
 grind[IntKind.wrap,IntKind.bits,IntKind.signed]
theorem vS {n:Int}(I:0≤n)(J:n<256): IntKind.wrap .u8 n=n:=by
 grind[IntKind.wrap,IntKind.bits,IntKind.signed]
variable {a b:Int}
theorem aW {k:IntKind}(hw:k.wrap (a+b)=a+b): binV P h .add t x y (.int k a) (.int k b)=some (.int k (a+b)):=by
 simp_all[binV,dR,intV]
theorem g9 {k:IntKind}(hw:k.wrap (a-b)=a-b): binV P h .sub t x y (.int k a) (.int k b)=some (.int k (a-b)):=by
 simp_all[binV,dR,intV]
theorem iE {k:IntKind}(hw:k.wrap (a*b)=a*b): binV P h .mul t x y (.int k a) (.int k b)=some (.int k (a*b)):=by
 simp_all[binV,dR,intV]
theorem dh {k:IntKind}: binV P h .eql t x y (.int k a) (.int k b)=some (.bool (decide (a=b))):=by
 simp only[binV,dR,ah,intV]
 cases I:intBeq a b with
 |true=>simp[ug I]
 |false =>
  by_cases he:a=b
  ·grind[qX]
  ·grind
theorem aA {k:IntKind}: binV P h .neq t x y (.int k a) (.int k b)=some (.bool (!decide (a=b))):=by
 simp only[binV,dR,ah,intV]
 cases I:intBeq a b with
 |true=>simp[ug I]
 |false =>
  by_cases he:a=b
  ·grind[qX]
  ·grind
theorem aT {k:IntKind}: binV P h .lss t x y (.int k a) (.int k b)=some (.bool (decide (a<b))):=by simp[binV,dR,intV]
theorem yB {k:IntKind}: binV P h .leq t x y (.int k a) (.int k b)=some (.bool (decide (a≤b))):=by simp[binV,dR,intV]
theorem er {k:IntKind}: binV P h .gtr t x y (.int k a) (.int k b)=some (.bool (decide (a>b))):=by simp[binV,dR,intV]
theorem jj {k:IntKind}: binV P h .geq t x y (.int k a) (.int k b)=some (.bool (decide (a≥b))):=by simp[binV,dR,intV]
theorem A9 : ∀ {l m:List Nat},natsBeq l m=decide (l=m):=by
 intro l
 induction l with
 |nil=>grind[natsBeq]
 |cons a l I =>
  intro m
  cases m<;>grind[natsBeq,Nat.beq_refl,eD]
theorem TB {m:List Nat}: binV P h .eql t x y (.str l) (.str m)=some (.bool (decide (l=m))):=by simp[binV,strV,A9]
end
section
variable {ak:Nat} {p:Bool}
theorem au.vT (I:wantE L E o.guard=some true)(hd:o.dst=some d)(J:Nat.blt d ak=true)(ho:opE C.P E h o.op=some (.bool p,h))(hp:p=true)(hw:au C ak L rest ((d,.bool true)::E) h R): au C ak L (o::rest) E h R:=by
 grind[au.op]
theorem au.mG (I:wantE L E o.guard=some true)(hd:o.dst=some d)(J:Nat.blt d ak=true)(ho:opE C.P E h o.op=some (.bool p,h))(hp:p=false)(hw:au C ak L rest ((d,.bool false)::E) h R): au C ak L (o::rest) E h R:=by
 grind[au.op]
theorem au.Xs (I:wantE L E o.guard=some true)(hd:o.dst=some d)(J:Nat.blt d ak=true)(ho:opE C.P E h o.op=some (.bool p,h))(ht:p=true→au C ak L rest ((d,.bool true)::E) h R)(hf:p=false→au C ak L rest ((d,.bool false)::E) h R): au C ak L (o::rest) E h R:=by
 cases p<;>grind[au.op]
theorem au.yC (s:Sat h S)(J:wantE L E o.guard=some true)(hd:o.dst=some d)(hn:Nat.blt d ak=true)(I:o.op=.makeMap t none)
 (hr:∀id h₁,Sat h₁ (pt id (.map [] 0)::S)→au C ak L rest ((d,.map id)::E) h₁ R): au C ak L (o::rest) E h R :=
 au.op J hd hn (by rw[I];exact Zm) (hr _ _ (s.new _))
theorem au.gY (hg:wantE L E o.guard=some true)(hd:o.dst=none)(ho:OpR C E h o yl)
 (hw:∀v h₁,yl v h₁→au C ak L rest E h₁ R): au C ak L (o::rest) E h R:=by
 intro env J
 obtain⟨v,h₁,hr,nY⟩:=ho
 obtain⟨N,hN⟩:=nY env J
 obtain⟨M,I,h',E',h1,h2,h3⟩:=hw v h₁ hr env J
 refine⟨Nat.max N M,I,h',E',?_,h2,h3⟩
 simp only[evOps,jU J hg,ah,lJ (dI (oN N M)) hN,St.put,hd]
 exact pM (dI (oM N M)) _ _ _ h1
variable {Q:List (Nat×V)→H→List (List (Nat×V)×V)→List H→Prop}
theorem ax.vT (J:wantE L E o.guard=some true)(hd:o.dst=some d)(hn:Nat.blt d ak=true)(he:isEff C o.op=false)(ho:opE C.P E h o.op=some (.bool p,h))(hp:p=true)
 (hw:ax C ak L rest ((d,.bool true)::E) h hs fun E' h' ts I=>Q E' h' ((E,.bool true)::ts) I): ax C ak L (o::rest) E h hs Q:=by
 grind[ax.op]
theorem ax.mG (J:wantE L E o.guard=some true)(hd:o.dst=some d)(hn:Nat.blt d ak=true)(he:isEff C o.op=false)(ho:opE C.P E h o.op=some (.bool p,h))(hp:p=false)
 (hw:ax C ak L rest ((d,.bool false)::E) h hs fun E' h' ts I=>Q E' h' ((E,.bool false)::ts) I): ax C ak L (o::rest) E h hs Q:=by
 grind[ax.op]
theorem ax.Xs (J:wantE L E o.guard=some true)(hd:o.dst=some d)(hn:Nat.blt d ak=true)(he:isEff C o.op=false)(ho:opE C.P E h o.op=some (.bool p,h))
 (ht:p=true→ax C ak L rest ((d,.bool true)::E) h hs fun E' h' ts I=>Q E' h' ((E,.bool true)::ts) I)
 (hf:p=false→ax C ak L rest ((d,.bool false)::E) h hs fun E' h' ts I=>Q E' h' ((E,.bool false)::ts) I): ax C ak L (o::rest) E h hs Q:=by
 cases p<;>grind[ax.op]
theorem OpR.rH {v:V}(I:o.op=.store t x y)(hx:bf E x=some v)(hy:bf E y=some u)
 (ho:∃h₁,fB C.P h t v u=some h₁∧Sat h₁ S'): OpR C E h o fun w h₁=>w=bW∧Sat h₁ S':=by
 obtain⟨h₁,e1,J⟩:=ho
 exact OpR.of (by grind[sX]) ⟨rfl,J⟩
theorem OpR.bP (s:Sat h S)(ho:opE C.P E h o.op=some (.ptr h.next 0,newRow h cs)):
  OpR C E h o fun v h₁=>∃id,v=.ptr id 0∧Sat h₁ (pt id (.cells cs.length cs false)::S) :=
 OpR.of ho ⟨_,rfl,s.new _⟩
end
theorem Ge {t:Nat}{p v w:V}(I:look E a=some p)(hd:loadV P h t p=some v)(J:look E b=some w): resLE P E h [.cell a t,.tmp b]=some (.aO [v,w]):=by grind[resLE,mapO,resE]
theorem lR {t:Nat}{v:V}(I:look E t=some v): resLE P E h [.tmp t]=some v:=by grind[resLE,mapO,resE]
def aaJ : Code→Nat→Code
 |.seq a _,0=>a
 |.seq _ b,_=>b
 |.cond _ a _,0=>a
 |.cond _ _ b,_=>b
 |.block _ a,_=>a
 |.loop a,_=>a
 |.scope a,_=>a
 |c,_=>c
def cm : List Nat→Code→Code
 |[],c=>c
 |k::ks,c=>cm ks (aaJ c k)
section
variable {ak:Nat} {v:V} {p:Bool}
theorem zc {k:FuncId}(e:(wantE L E o.guard,o.dst,Nat.blt d ak,o.op,cl.callee,bf E x,lookArgs E cl.args.toList)=(some true,some d,true,Op.call cl,Callee.value x,some (.fn (.func k) first cap),some args))
 (I:Call C k (first++(args++cap)) h yl)(hw:∀v h₁,yl v h₁→au C ak L rest ((d,v)::E) h₁ R): au C ak L (o::rest) E h R:=by
  simp only[bz] at e;exact au.call e.1 e.2.1 e.2.2.1 e.2.2.2.1 e.2.2.2.2.1 e.2.2.2.2.2.1 e.2.2.2.2.2.2 I hw
theorem zt (e:(wantE L E o.guard,o.dst,Nat.blt d ak)=(some true,some d,true))(ho:opE C.P E h o.op=some (.bool p,h))(I:p=true)(hw:au C ak L rest ((d,.bool true)::E) h R): au C ak L (o::rest) E h R:=by
  simp only[bz] at e;exact au.vT e.1 e.2.1 e.2.2 ho I hw
theorem zh (e:(wantE L E o.guard,o.dst,Nat.blt d ak)=(some true,some d,true))(ho:opE C.P E h o.op=some (.bool p,h))(I:p=false)(hw:au C ak L rest ((d,.bool false)::E) h R): au C ak L (o::rest) E h R:=by
  simp only[bz] at e;exact au.mG e.1 e.2.1 e.2.2 ho I hw
theorem zd (e:(wantE L E o.guard,o.dst,Nat.blt d ak)=(some true,some d,true))(ho:opE C.P E h o.op=some (.bool p,h))(I:p=true→au C ak L rest ((d,.bool true)::E) h R)(J:p=false→au C ak L rest ((d,.bool false)::E) h R): au C ak L (o::rest) E h R:=by
  simp only[bz] at e;exact au.Xs e.1 e.2.1 e.2.2 ho I J
theorem zB {op:BinOp}(e:(o.op,wantE L E o.guard,o.dst,Nat.blt d ak,bf E x,bf E y)=(Op.binOp op t x y t',some true,some d,true,some v,some u))(I:binV C.P h op t x y v u=some (.bool p))(J:p=true)(hw:au C ak L rest ((d,.bool true)::E) h R): au C ak L (o::rest) E h R:=by
  simp only[bz] at e;exact au.vT e.2.1 e.2.2.1 e.2.2.2.1 (by rw[e.1];exact aq e.2.2.2.2.1 e.2.2.2.2.2 I) J hw
theorem zC {op:BinOp}(e:(o.op,wantE L E o.guard,o.dst,Nat.blt d ak,bf E x,bf E y)=(Op.binOp op t x y t',some true,some d,true,some v,some u))(I:binV C.P h op t x y v u=some (.bool p))(J:p=false)(hw:au C ak L rest ((d,.bool false)::E) h R): au C ak L (o::rest) E h R:=by
  simp only[bz] at e;exact au.mG e.2.1 e.2.2.1 e.2.2.2.1 (by rw[e.1];exact aq e.2.2.2.2.1 e.2.2.2.2.2 I) J hw
theorem zy (s:Sat h S)(k:Nat)(I:isAggT C.P t=some false)(e:(o.op,wantE L E o.guard,o.dst,Nat.blt d ak,bf E x,getA S k,nth cs off)=(Op.load t x,some true,some d,true,some (V.ptr id off),some (pt id (.cells n cs st)),some v))(hw:au C ak L rest ((d,v)::E) h R): au C ak L (o::rest) E h R:=by
  simp only[bz] at e;exact au.op e.2.1 e.2.2.1 e.2.2.2.1 (by rw[e.1];exact aH e.2.2.2.2.1 (s.ld e.2.2.2.2.2.1 I e.2.2.2.2.2.2)) hw
theorem zY {I:Oper}{J:Operand}{abR:TypeId}(s:Sat h S)(k:Nat)(hf:∀a b:Nat,fieldAddrV C.P abR (.ptr a b) i=some (.ptr a (b+j)))(ha:isAggT C.P t=some false)
 (e:(I.op,wantE L E I.guard,I.dst,Nat.blt mQ ak,bf E J,o.op,wantE L ((mQ,.ptr a (b+j))::E) o.guard,o.dst,Nat.blt d ak,bf ((mQ,.ptr a (b+j))::E) x,getA S k,nth cs (b+j))=(Op.fieldAddr abR J i,some true,some mQ,true,some (V.ptr a b),Op.load t x,some true,some d,true,some (V.ptr a (b+j)),some (pt a (.cells n cs st)),some v))
 (hw:au C ak L rest ((d,v)::(mQ,.ptr a (b+j))::E) h R): au C ak L (I::o::rest) E h R:=by
  simp only[bz] at e
  obtain⟨e1,e2,e3,e4,e5,e6,e7,e8,e9,Xt,WZ,e12⟩:=e
  exact au.op e2 e3 e4 (by rw[e1];exact g8 e5 (hf a b)) (au.op e7 e8 e9 (by rw[e6];exact aH Xt (s.ld WZ ha e12)) hw)
theorem zS (e:(wantE L E o.guard,o.dst,o.op,bf E x,bf E y)=(some true,none,Op.store t x y,some v,some u))(ho:∃h₁,fB C.P h t v u=some h₁∧Sat h₁ S')(I:∀h₁,Sat h₁ S'→au C ak L rest E h₁ R): au C ak L (o::rest) E h R:=by
  simp only[bz] at e;exact au.rH e.1 e.2.1 e.2.2.1 e.2.2.2.1 e.2.2.2.2 ho I
end
theorem j6 : bB Tryz.prog 3=some 1:=by kernel_rfl
theorem dV : isAggT Tryz.prog 3=some false:=by kernel_rfl
theorem Kk : zeroT Tryz.prog 3=some (.int .i64 0):=by kernel_rfl
theorem xJ : bB Tryz.prog 4=some 1:=by kernel_rfl
theorem lK : isAggT Tryz.prog 4=some false:=by kernel_rfl
theorem zt4 : zeroT Tryz.prog 4=some (.bool false):=by kernel_rfl
theorem TC : bB Tryz.prog 5=some 1:=by kernel_rfl
theorem zt5 : zeroT Tryz.prog 5=some (.int .u8 0):=by kernel_rfl
theorem iF : bB Tryz.prog 23=some 1:=by kernel_rfl
theorem b8 : isAggT Tryz.prog 23=some false:=by kernel_rfl
theorem rX : zeroT Tryz.prog 23=some .aV:=by kernel_rfl
theorem jt : isAggT Tryz.prog 25=some false:=by kernel_rfl
theorem lB : isAggT Tryz.prog 26=some false:=by kernel_rfl
theorem mS : bB Tryz.prog 32=some 1:=by kernel_rfl
theorem cS : isAggT Tryz.prog 32=some false:=by kernel_rfl
theorem aaK : zeroT Tryz.prog 32=some (.int .u64 0):=by kernel_rfl
theorem aaL : isAggT Tryz.prog 33=some false:=by kernel_rfl
theorem aaM : zeroT Tryz.prog 34=some (.int .i64 0):=by kernel_rfl
theorem j9 : isAggT Tryz.prog 40=some false:=by kernel_rfl
theorem Q8 : isAggT Tryz.prog 50=some false:=by kernel_rfl
theorem aaN : bB Tryz.prog 54=some 1:=by kernel_rfl
theorem mT : isAggT Tryz.prog 54=some false:=by kernel_rfl
theorem Xu : bB Tryz.prog 78=some 1:=by kernel_rfl
theorem D2 : isAggT Tryz.prog 78=some false:=by kernel_rfl
theorem Aq : bB Tryz.prog 102=some 1:=by kernel_rfl
theorem pO : isAggT Tryz.prog 102=some false:=by kernel_rfl
theorem fe : bB Tryz.prog 104=some 6:=by kernel_rfl
theorem ju : isAggT Tryz.prog 104=some true:=by kernel_rfl
theorem pP : zeroT Tryz.prog 104=some (.agg [(.int .i64 0),(.int .u64 0),(.int .u64 0),(.int .u64 0),.aV,.aV]):=by kernel_rfl
theorem oW (a b:Nat): fieldAddrV Tryz.prog 104 (.ptr a b) 0=some (.ptr a (b+0)):=by kernel_rfl
theorem D3 (a b:Nat): fieldAddrV Tryz.prog 104 (.ptr a b) 1=some (.ptr a (b+1)):=by kernel_rfl
theorem D4 (a b:Nat): fieldAddrV Tryz.prog 104 (.ptr a b) 2=some (.ptr a (b+2)):=by kernel_rfl
theorem Kl (a b:Nat): fieldAddrV Tryz.prog 104 (.ptr a b) 3=some (.ptr a (b+3)):=by kernel_rfl
theorem Ar (a b:Nat): fieldAddrV Tryz.prog 104 (.ptr a b) 4=some (.ptr a (b+4)):=by kernel_rfl
theorem ja (a b:Nat): fieldAddrV Tryz.prog 104 (.ptr a b) 5=some (.ptr a (b+5)):=by kernel_rfl
theorem sC (ps:List (Nat×V)): buildV Tryz.prog 104 ps=(fillV (nth [(0,1),(1,1),(2,1),(3,1),(4,1),(5,1)]) ((.agg [(.int .i64 0),(.int .u64 0),(.int .u64 0),(.int .u64 0),.aV,.aV]):V).cells ps).map .agg:=by kernel_rfl
theorem Gf : isAggT Tryz.prog 106=some false:=by kernel_rfl
theorem TD (a b l:Nat)(c:Cap)(k:IntKind)(n:Int): indexAddrV Tryz.prog 106 (.sl a b l c) (.int k n)=cond (decide (0≤n)&&decide (n<(l:Int))) (some (.ptr a (b+n.toNat*1))) none:=by kernel_rfl
theorem TE : bB Tryz.prog 107=some 1:=by kernel_rfl
theorem LO : isAggT Tryz.prog 107=some false:=by kernel_rfl
theorem mH : isAggT Tryz.prog 108=some false:=by kernel_rfl
theorem Zn : bB Tryz.prog 109=some 1:=by kernel_rfl
theorem Km (a b:Nat): fieldAddrV Tryz.prog 111 (.ptr a b) 0=some (.ptr a (b+0)):=by kernel_rfl
theorem As (a b:Nat): fieldAddrV Tryz.prog 111 (.ptr a b) 1=some (.ptr a (b+1)):=by kernel_rfl
theorem Au (a b:Nat): fieldAddrV Tryz.prog 111 (.ptr a b) 2=some (.ptr a (b+2)):=by kernel_rfl
theorem Av (a b:Nat): fieldAddrV Tryz.prog 111 (.ptr a b) 3=some (.ptr a (b+3)):=by kernel_rfl
theorem qy (a b:Nat): fieldAddrV Tryz.prog 111 (.ptr a b) 4=some (.ptr a (b+4)):=by kernel_rfl
theorem vU (a b:Nat): fieldAddrV Tryz.prog 111 (.ptr a b) 5=some (.ptr a (b+5)):=by kernel_rfl
theorem D5 (a b:Nat): fieldAddrV Tryz.prog 111 (.ptr a b) 6=some (.ptr a (b+6)):=by kernel_rfl
theorem Aw (a b:Nat): fieldAddrV Tryz.prog 111 (.ptr a b) 7=some (.ptr a (b+7)):=by kernel_rfl
theorem Ax (a b:Nat): fieldAddrV Tryz.prog 111 (.ptr a b) 8=some (.ptr a (b+8)):=by kernel_rfl
theorem jM (a b:Nat): fieldAddrV Tryz.prog 111 (.ptr a b) 9=some (.ptr a (b+9)):=by kernel_rfl
theorem Q9 (a b:Nat): fieldAddrV Tryz.prog 111 (.ptr a b) 10=some (.ptr a (b+10)):=by kernel_rfl
theorem Q_ (a b:Nat): fieldAddrV Tryz.prog 111 (.ptr a b) 11=some (.ptr a (b+11)):=by kernel_rfl
theorem Zo (ps:List (Nat×V)): buildV Tryz.prog 111 ps=(fillV (nth [(0,1),(1,1),(2,1),(3,1),(4,1),(5,1),(6,1),(7,1),(8,1),(9,1),(10,1),(11,1)]) ((.agg [(.int .i64 0),.aV,.aV,.jN,.aV,(.int .i64 0),.aV,(.int .i64 0),(.int .i64 0),(.bool false),.aZ,.aV]):V).cells ps).map .agg:=by kernel_rfl
theorem sD : isAggT Tryz.prog 115=some false:=by kernel_rfl
theorem qz (a b:Nat): fieldAddrV Tryz.prog 121 (.ptr a b) 0=some (.ptr a (b+0)):=by kernel_rfl
theorem iq (a b:Nat): fieldAddrV Tryz.prog 121 (.ptr a b) 1=some (.ptr a (b+1)):=by kernel_rfl
theorem nu (a b:Nat): fieldAddrV Tryz.prog 121 (.ptr a b) 2=some (.ptr a (b+2)):=by kernel_rfl
theorem oX (a b:Nat): fieldAddrV Tryz.prog 121 (.ptr a b) 3=some (.ptr a (b+3)):=by kernel_rfl
theorem Kn (a b:Nat): fieldAddrV Tryz.prog 121 (.ptr a b) 4=some (.ptr a (b+4)):=by kernel_rfl
theorem D6 (a b:Nat): fieldAddrV Tryz.prog 121 (.ptr a b) 5=some (.ptr a (b+5)):=by kernel_rfl
theorem Zp (ps:List (Nat×V)): buildV Tryz.prog 121 ps=(fillV (nth [(0,1),(1,1),(2,1),(3,1),(4,1),(5,1)]) ((.agg [.aZ,.aZ,.aZ,.aZ,.aV,(.int .u64 0)]):V).cells ps).map .agg:=by kernel_rfl
theorem TF : bB Tryz.prog 122=some 1:=by kernel_rfl
theorem ny : isAggT Tryz.prog 122=some false:=by kernel_rfl
theorem oY (a b:Nat): fieldAddrV Tryz.prog 124 (.ptr a b) 0=some (.ptr a (b+0)):=by kernel_rfl
theorem ir (a b:Nat): fieldAddrV Tryz.prog 124 (.ptr a b) 1=some (.ptr a (b+1)):=by kernel_rfl
theorem jb (a b:Nat): fieldAddrV Tryz.prog 124 (.ptr a b) 2=some (.ptr a (b+2)):=by kernel_rfl
theorem jc (a b:Nat): fieldAddrV Tryz.prog 124 (.ptr a b) 3=some (.ptr a (b+3)):=by kernel_rfl
theorem sY (a b:Nat): fieldAddrV Tryz.prog 124 (.ptr a b) 4=some (.ptr a (b+4)):=by kernel_rfl
theorem qA (a b:Nat): fieldAddrV Tryz.prog 124 (.ptr a b) 5=some (.ptr a (b+5)):=by kernel_rfl
theorem Zq (ps:List (Nat×V)): buildV Tryz.prog 124 ps=(fillV (nth [(0,1),(1,1),(2,1),(3,1),(4,1),(5,1)]) ((.agg [.aZ,(.int .u64 0),.aV,.aV,(.int .i64 0),(.int .u64 0)]):V).cells ps).map .agg:=by kernel_rfl
theorem LP : bB Tryz.prog 128=some 2:=by kernel_rfl
theorem Zr : isAggT Tryz.prog 128=some true:=by kernel_rfl
theorem LQ : zeroT Tryz.prog 128=some (.agg [(.int .i64 0),.aV]):=by kernel_rfl
theorem UD (a b:Nat): fieldAddrV Tryz.prog 128 (.ptr a b) 1=some (.ptr a (b+1)):=by kernel_rfl
theorem Zs (ps:List (Nat×V)): buildV Tryz.prog 128 ps=(fillV (nth [(0,1),(1,1)]) ((.agg [(.int .i64 0),.aV]):V).cells ps).map .agg:=by kernel_rfl
theorem qB (a b:Nat): fieldAddrV Tryz.prog 139 (.ptr a b) 0=some (.ptr a (b+0)):=by kernel_rfl
theorem vV (a b:Nat): fieldAddrV Tryz.prog 139 (.ptr a b) 1=some (.ptr a (b+1)):=by kernel_rfl
theorem Zt (ps:List (Nat×V)): buildV Tryz.prog 139 ps=(fillV (nth [(0,1),(1,1)]) ((.agg [.aZ,(.int .i64 0)]):V).cells ps).map .agg:=by kernel_rfl
theorem Zu : isAggT Tryz.prog 141=some false:=by kernel_rfl
theorem pQ : isAggT Tryz.prog 142=some false:=by kernel_rfl
theorem lC (a b:Nat): fieldAddrV Tryz.prog 144 (.ptr a b) 0=some (.ptr a (b+0)):=by kernel_rfl
theorem UE (a b:Nat): fieldAddrV Tryz.prog 144 (.ptr a b) 1=some (.ptr a (b+1)):=by kernel_rfl
theorem my (a b:Nat): fieldAddrV Tryz.prog 144 (.ptr a b) 2=some (.ptr a (b+2)):=by kernel_rfl
theorem Ay (a b:Nat): fieldAddrV Tryz.prog 144 (.ptr a b) 3=some (.ptr a (b+3)):=by kernel_rfl
theorem Zv (ps:List (Nat×V)): buildV Tryz.prog 144 ps=(fillV (nth [(0,1),(1,1),(2,1),(3,1)]) ((.agg [.aZ,.iP,.jN,(.int .u64 0)]):V).cells ps).map .agg:=by kernel_rfl
theorem nA : isAggT Tryz.prog 145=some false:=by kernel_rfl
theorem TG : zeroT Tryz.prog 145=some .aZ:=by kernel_rfl
theorem LS : isAggT Tryz.prog 146=some false:=by kernel_rfl
theorem TH : bB Tryz.prog 147=some 1:=by kernel_rfl
theorem Cs : isAggT Tryz.prog 147=some false:=by kernel_rfl
theorem Az (a b:Nat): fieldAddrV Tryz.prog 149 (.ptr a b) 0=some (.ptr a (b+0)):=by kernel_rfl
theorem Ko (a b:Nat): fieldAddrV Tryz.prog 149 (.ptr a b) 1=some (.ptr a (b+1)):=by kernel_rfl
theorem sZ (a b:Nat): fieldAddrV Tryz.prog 149 (.ptr a b) 2=some (.ptr a (b+2)):=by kernel_rfl
theorem qC (a b:Nat): fieldAddrV Tryz.prog 149 (.ptr a b) 3=some (.ptr a (b+3)):=by kernel_rfl
theorem qD (a b:Nat): fieldAddrV Tryz.prog 149 (.ptr a b) 5=some (.ptr a (b+5)):=by kernel_rfl
theorem D7 (a b:Nat): fieldAddrV Tryz.prog 149 (.ptr a b) 6=some (.ptr a (b+6)):=by kernel_rfl
theorem Zw (ps:List (Nat×V)): buildV Tryz.prog 149 ps=(fillV (nth [(0,1),(1,1),(2,1),(3,1),(4,1),(5,1),(6,1)]) ((.agg [(.int .u64 0),(.int .u64 0),(.int .u64 0),(.int .u64 0),.aV,.aV,.jN]):V).cells ps).map .agg:=by kernel_rfl
theorem Kp (a b:Nat): fieldAddrV Tryz.prog 161 (.ptr a b) 0=some (.ptr a (b+0)):=by kernel_rfl
theorem Zx (ps:List (Nat×V)): buildV Tryz.prog 161 ps=(fillV (nth [(0,1)]) ((.agg [.aZ]):V).cells ps).map .agg:=by kernel_rfl
theorem Zy : isAggT Tryz.prog 164=some false:=by kernel_rfl
theorem Zz : zeroT Tryz.prog 164=some .aV:=by kernel_rfl
theorem ZA : bB Tryz.prog 174=some 3:=by kernel_rfl
theorem oZ (a b:Nat): fieldAddrV Tryz.prog 174 (.ptr a b) 0=some (.ptr a (b+0)):=by kernel_rfl
theorem qE (a b:Nat): fieldAddrV Tryz.prog 174 (.ptr a b) 1=some (.ptr a (b+1)):=by kernel_rfl
theorem AA (a b:Nat): fieldAddrV Tryz.prog 174 (.ptr a b) 2=some (.ptr a (b+2)):=by kernel_rfl
theorem ZB (ps:List (Nat×V)): buildV Tryz.prog 174 ps=(fillV (nth [(0,1),(1,1),(2,1)]) ((.agg [.aZ,.jN,(.bool false)]):V).cells ps).map .agg:=by kernel_rfl
theorem bI : bB Tryz.prog 176=some 1:=by kernel_rfl
theorem b_ : isAggT Tryz.prog 176=some true:=by kernel_rfl
theorem jv : zeroT Tryz.prog 176=some (.agg [.aV]):=by kernel_rfl
theorem gH (a b:Nat): fieldAddrV Tryz.prog 176 (.ptr a b) 0=some (.ptr a (b+0)):=by kernel_rfl
theorem AB (ps:List (Nat×V)): buildV Tryz.prog 176 ps=(fillV (nth [(0,1)]) ((.agg [.aV]):V).cells ps).map .agg:=by kernel_rfl
theorem ZC : bB Tryz.prog 182=some 0:=by kernel_rfl
theorem TI : zeroT Tryz.prog 182=some (.agg []):=by kernel_rfl
theorem ZD (ps:List (Nat×V)): buildV Tryz.prog 182 ps=(fillV (nth []) ((.agg []):V).cells ps).map .agg:=by kernel_rfl
theorem sE : bB Tryz.prog 185=some 2:=by kernel_rfl
theorem Gg : isAggT Tryz.prog 185=some true:=by kernel_rfl
theorem Ct : zeroT Tryz.prog 185=some (.agg [(.int .u64 0),(.int .i64 0)]):=by kernel_rfl
theorem UF (a b:Nat): fieldAddrV Tryz.prog 185 (.ptr a b) 0=some (.ptr a (b+0)):=by kernel_rfl
theorem UG (a b:Nat): fieldAddrV Tryz.prog 185 (.ptr a b) 1=some (.ptr a (b+1)):=by kernel_rfl
theorem ZE (ps:List (Nat×V)): buildV Tryz.prog 185 ps=(fillV (nth [(0,1),(1,1)]) ((.agg [(.int .u64 0),(.int .i64 0)]):V).cells ps).map .agg:=by kernel_rfl
theorem LU : bB Tryz.prog 210=some 2:=by kernel_rfl
theorem ZF : isAggT Tryz.prog 210=some true:=by kernel_rfl
theorem Gh : zeroT Tryz.prog 210=some (.agg [(.int .i64 0),(.int .u64 0)]):=by kernel_rfl
theorem UH (a b:Nat): fieldAddrV Tryz.prog 210 (.ptr a b) 1=some (.ptr a (b+1)):=by kernel_rfl
theorem ZG (ps:List (Nat×V)): buildV Tryz.prog 210 ps=(fillV (nth [(0,1),(1,1)]) ((.agg [(.int .i64 0),(.int .u64 0)]):V).cells ps).map .agg:=by kernel_rfl
theorem wQ : isAggT Tryz.prog 213=some false:=by kernel_rfl
theorem oz : isAggT Tryz.prog 214=some false:=by kernel_rfl
theorem ZH (a b l:Nat)(c:Cap)(k:IntKind)(n:Int): indexAddrV Tryz.prog 214 (.sl a b l c) (.int k n)=cond (decide (0≤n)&&decide (n<(l:Int))) (some (.ptr a (b+n.toNat*5))) none:=by kernel_rfl
theorem qY : isAggT Tryz.prog 215=some false:=by kernel_rfl
theorem vW (a b:Nat): fieldAddrV Tryz.prog 217 (.ptr a b) 0=some (.ptr a (b+0)):=by kernel_rfl
theorem UI (a b:Nat): fieldAddrV Tryz.prog 217 (.ptr a b) 1=some (.ptr a (b+1)):=by kernel_rfl
theorem ki (a b:Nat): fieldAddrV Tryz.prog 217 (.ptr a b) 2=some (.ptr a (b+2)):=by kernel_rfl
theorem qF (a b:Nat): fieldAddrV Tryz.prog 217 (.ptr a b) 3=some (.ptr a (b+3)):=by kernel_rfl
theorem mz (a b:Nat): fieldAddrV Tryz.prog 217 (.ptr a b) 4=some (.ptr a (b+4)):=by kernel_rfl
theorem D8 (a b:Nat): fieldAddrV Tryz.prog 217 (.ptr a b) 5=some (.ptr a (b+5)):=by kernel_rfl
theorem ZI (ps:List (Nat×V)): buildV Tryz.prog 217 ps=(fillV (nth [(0,1),(1,1),(2,1),(3,1),(4,1),(5,1)]) ((.agg [.aZ,.aZ,.aV,.jN,.jN,(.int .i64 0)]):V).cells ps).map .agg:=by kernel_rfl
theorem um : bB Tryz.prog 220=some 2:=by kernel_rfl
theorem LV : isAggT Tryz.prog 220=some true:=by kernel_rfl
theorem wR : zeroT Tryz.prog 220=some (.agg [(.int .u64 0),(.bool false)]):=by kernel_rfl
theorem D9 (a b:Nat): fieldAddrV Tryz.prog 220 (.ptr a b) 0=some (.ptr a (b+0)):=by kernel_rfl
theorem Kq (cs:List V): rj Tryz.prog 220 (.agg cs) 0=nth cs 0:=by kernel_rfl
theorem D_ (a b:Nat): fieldAddrV Tryz.prog 220 (.ptr a b) 1=some (.ptr a (b+1)):=by kernel_rfl
theorem ZJ (ps:List (Nat×V)): buildV Tryz.prog 220 ps=(fillV (nth [(0,1),(1,1)]) ((.agg [(.int .u64 0),(.bool false)]):V).cells ps).map .agg:=by kernel_rfl
theorem Cv : bB Tryz.prog 230=some 5:=by kernel_rfl
theorem ZK : isAggT Tryz.prog 230=some true:=by kernel_rfl
theorem ZL : zeroT Tryz.prog 230=some (.agg [(.int .i64 0),.aV,(.int .i64 0),(.bool false),(.bool false)]):=by kernel_rfl
theorem o8 (a b:Nat): fieldAddrV Tryz.prog 230 (.ptr a b) 0=some (.ptr a (b+0)):=by kernel_rfl
theorem AD (a b:Nat): fieldAddrV Tryz.prog 230 (.ptr a b) 1=some (.ptr a (b+1)):=by kernel_rfl
theorem qG (a b:Nat): fieldAddrV Tryz.prog 230 (.ptr a b) 2=some (.ptr a (b+2)):=by kernel_rfl
theorem Ea (a b:Nat): fieldAddrV Tryz.prog 230 (.ptr a b) 3=some (.ptr a (b+3)):=by kernel_rfl
theorem Eb (a b:Nat): fieldAddrV Tryz.prog 230 (.ptr a b) 4=some (.ptr a (b+4)):=by kernel_rfl
theorem Gi (ps:List (Nat×V)): buildV Tryz.prog 230 ps=(fillV (nth [(0,1),(1,1),(2,1),(3,1),(4,1)]) ((.agg [(.int .i64 0),.aV,(.int .i64 0),(.bool false),(.bool false)]):V).cells ps).map .agg:=by kernel_rfl
theorem Kr (a b:Nat): fieldAddrV Tryz.prog 234 (.ptr a b) 0=some (.ptr a (b+0)):=by kernel_rfl
theorem ZM (ps:List (Nat×V)): buildV Tryz.prog 234 ps=(fillV (nth [(0,1),(1,1)]) ((.agg [.jN,.jN]):V).cells ps).map .agg:=by kernel_rfl
theorem pR : bB Tryz.prog 237=some 4:=by kernel_rfl
theorem LW : isAggT Tryz.prog 237=some true:=by kernel_rfl
theorem nC : zeroT Tryz.prog 237=some (.agg [(.int .i64 0),(.int .i64 0),(.bool false),.aV]):=by kernel_rfl
theorem AE (a b:Nat): fieldAddrV Tryz.prog 237 (.ptr a b) 0=some (.ptr a (b+0)):=by kernel_rfl
theorem qH (a b:Nat): fieldAddrV Tryz.prog 237 (.ptr a b) 1=some (.ptr a (b+1)):=by kernel_rfl
theorem AF (a b:Nat): fieldAddrV Tryz.prog 237 (.ptr a b) 2=some (.ptr a (b+2)):=by kernel_rfl
theorem o9 (a b:Nat): fieldAddrV Tryz.prog 237 (.ptr a b) 3=some (.ptr a (b+3)):=by kernel_rfl
theorem LX (ps:List (Nat×V)): buildV Tryz.prog 237 ps=(fillV (nth [(0,1),(1,1),(2,1),(3,1)]) ((.agg [(.int .i64 0),(.int .i64 0),(.bool false),.aV]):V).cells ps).map .agg:=by kernel_rfl
theorem TJ (a b:Nat)(k:IntKind)(n:Int): indexAddrV Tryz.prog 264 (.ptr a b) (.int k n)=cond (decide (0≤n)&&decide (n<(512:Nat))) (some (.ptr a (b+n.toNat*1))) none:=by kernel_rfl
theorem ZN : bB Tryz.prog 281=some 512:=by kernel_rfl
theorem ZO : isAggT Tryz.prog 281=some true:=by kernel_rfl
theorem lD (a b:Nat): fieldAddrV Tryz.prog 320 (.ptr a b) 0=some (.ptr a (b+0)):=by kernel_rfl
theorem ZP (ps:List (Nat×V)): buildV Tryz.prog 320 ps=(fillV (nth [(0,1)]) ((.agg [.aV]):V).cells ps).map .agg:=by kernel_rfl
theorem ZQ (ps:List (Nat×V)): buildV Tryz.prog 334 ps=(fillV (fun i=>some (i*1,1)) ((.agg [(.int .u64 0),(.int .u64 0),(.int .u64 0)]):V).cells ps).map .agg:=by kernel_rfl
theorem LY : bB Tryz.prog 344=some 1:=by kernel_rfl
theorem LZ : isAggT Tryz.prog 344=some false:=by kernel_rfl
theorem ZR (ps:List (Nat×V)): buildV Tryz.prog 345 ps=(fillV (fun i=>some (i*1,1)) ((.agg [.aZ,.aZ,.aZ]):V).cells ps).map .agg:=by kernel_rfl
def slR (v:V)(a b:Nat): V:=match v with
 |.sl id off _ (.exact c)=>.sl id (cond (Nat.beq c a) off (off+a*1)) (b-a) (.exact (c-a))
 |.sl id off _ (.rest _ alt)=>.sl id (off+a*1) (b-a) (.rest 1 (cond (Nat.beq a 0) alt (cond (Nat.blt a b) (off+a*1) off)))
 |v=>v
theorem cR {v:V}(hv:View h v l)(oT:a≤b)(hb:b≤l.length):
  sliceV Tryz.prog h 23 v (some a) (some b) none=some (slR v a b)∧View h (slR v a b) ((l.take b).drop a)∧∀i∈rowIds (slR v a b),i∈rowIds v:=by
 have I:∀x∈(l.take b).drop a,x<256:=fun x hx=>hv.1 x (mg (nc hx))
 have hlen:((l.take b).drop a).length=b-a:=by grind
 obtain⟨hl,J⟩:=hv
 rcases J with⟨rfl|⟨ea,rfl⟩,rfl⟩|⟨id,off,cap,n,cs,st,rfl,hg,h1,h2,h3,h4⟩
 ·simp only[cr] at hb
  have:b=0:=by omega
  have:a=0:=by omega
  subst_vars
  refine⟨?_,⟨by simp,.inl ⟨.inl rfl,by simp⟩⟩,fun i hi=>hi⟩
  simp only[sliceV,aN,eT]
  rfl
 ·simp only[cr] at hb
  have:b=0:=by omega
  have:a=0:=by omega
  subst_vars
  refine⟨?_,⟨by simp,.inl ⟨.inr ⟨ea,rfl⟩,by simp⟩⟩,fun i hi=>hi⟩
  simp only[sliceV,aN,eT]
  rfl
 ·have Ga:∀o,o=off+a∨b-a=0→(cs.drop o).take (b-a)=ofBytes ((l.take b).drop a):=by
   grind[ofBytes,List.map_drop,List.map_take,List.drop_take,List.drop_drop]
  cases cap with
  |exact c =>
   refine⟨?_,⟨I,.inr ⟨id,_,_,n,cs,st,by rw[hlen];rfl,hg,h1,?_,?_,?_⟩⟩,fun i hi=>by simpa[rowIds,slR] using hi⟩
   ·simp only[sliceV,slR,aN,eT,ga]
    grind[aG]
   ·grind
   ·grind[eD]
   ·omega
  |rest e alt =>
   have he:e=1:=h4
   subst he
   refine⟨?_,⟨I,.inr ⟨id,_,_,n,cs,st,by rw[hlen];rfl,hg,h1,by omega,by grind,rfl⟩⟩,fun i hi=>by simpa[rowIds,slR] using hi⟩
   simp only[sliceV,slR,aN,eT,ga,eV]
   grind[aG]
theorem gj {v:V}(J:View h v l)(ha:a≤l.length):
  sliceV Tryz.prog h 23 v (some a) none none=some (slR v a l.length)∧View h (slR v a l.length) (l.drop a)∧∀i∈rowIds (slR v a l.length),i∈rowIds v:=by
 obtain⟨h1,h2,h3⟩:=cR J ha (aQ _)
 refine⟨?_,by grind,h3⟩
 obtain⟨_,I⟩:=J
 rcases I with⟨rfl|⟨ea,rfl⟩,rfl⟩|⟨id,off,cap,n,cs,st,rfl,hg,g1,g2,g3,g4⟩
 ·simpa[sliceV,aN,eT] using h1
 ·simpa[sliceV,aN,eT] using h1
 ·simp_all[sliceV]
theorem tG {v:V}(J:View h v l)(hb:b≤l.length):
  sliceV Tryz.prog h 23 v none (some b) none=some (slR v 0 b)∧View h (slR v 0 b) (l.take b)∧∀i∈rowIds (slR v 0 b),i∈rowIds v:=by
 obtain⟨h1,h2,h3⟩:=cR J (gR b) hb
 refine⟨?_,by grind,h3⟩
 obtain⟨_,I⟩:=J
 rcases I with⟨rfl|⟨ea,rfl⟩,rfl⟩|⟨id,off,cap,n,cs,st,rfl,hg,g1,g2,g3,g4⟩
 ·simpa[sliceV,aN,eT] using h1
 ·simpa[sliceV,aN,eT] using h1
 ·simp_all[sliceV]
theorem fy {v:V}(J:View h v l)(hi:l[i]?=some b):
  ∃id off,indexAddrV Tryz.prog 23 v (.int .i64 (i:Int))=some (.ptr id off)∧loadV Tryz.prog h 5 (.ptr id off)=some (.int .u8 (b:Int)):=by
 obtain⟨hl,I⟩:=J
 rcases I with⟨_,rfl⟩|⟨id,off,cap,n,cs,st,rfl,hg,h1,h2,h3,h4⟩
 ·grind
 ·refine⟨id,off+i*1,?_,?_⟩
  ·simp only[indexAddrV,aN,eT,b7]
   grind
  ·simp only[loadV,Kg,xS,hg,gS,ig]
   have e:=iZ (fun q=>q[i]?) h3
   grind[ofBytes]
theorem View.cells {v:V}(I:View h v l): v.cells=[v]∧Am.storable v=true:=by
 obtain⟨_,I⟩:=I
 rcases I with⟨rfl|⟨J,rfl⟩,_⟩|⟨id,off,cap,n,cs,st,rfl,_⟩<;>exact⟨rfl,rfl⟩
def plain1 : V→Bool
 |.bool _|.int _ _|.str _|.aZ|.ptr _ _|.aV|.sl _ _ _ _|.jN|.map _|.EF|.iP|.tf _ _=>true
 |.fn (.func _) [] []=>true
 |_=>false
def Xv : V→Bool
 |.agg l=>l.all plain1
 |.aO l=>l.all plain1
 |.iface _ v=>plain1 v
 |v=>plain1 v
theorem L0 (k:FloatKind): fkBeq k k=true:=by cases k<;>rfl
theorem G7 : ∀l:List Nat,natsBeq l l=true:=by grind[A9]
theorem Ra (v:V)(h:plain1 v=true): v.beq v=true:=by
 cases v<;>simp[plain1,V.beq,dR,qX,A8,G7,L0] at h ⊢
 rename_i f a b
 cases f<;>cases a<;>cases b<;>simp[plain1,V.beq,V.beqL] at h ⊢
theorem TK : ∀(l:List V),l.all plain1=true→V.beqL l l=true:=by
 intro l
 induction l<;>grind[V.beqL,Ra]
theorem aB (v:V)(h:Xv v=true): v.beq v=true:=by
 cases v with
 |agg l=>exact TK l h
 |aO l=>exact TK l h
 |iface t v=>simp only[V.beq,eV,Bool.true_and];exact Ra v h
 |_=>exact Ra _ h
section
variable {v w:V} {m:List Nat}
theorem L1 (s:Sat h (bp v l::X::S))(J:cD X (cE w m))(I:l.length+m.length≤140737488355328):
  ∃v' h',appendV Tryz.prog h #[23,23] v w=some (v',h')∧Sat h' (bp v' (l++m)::X::S):=by
 obtain⟨v',h',e1,e2,e3,e4⟩:=yw s.wf (s.buf (k:=0) rfl) (s.aI (k:=1) rfl J) I
 exact⟨v',h',e1,s.Ap e3 e2 e4⟩
theorem Od (s:Sat h S)(I:c<1073741824):
  ∃v h',makeSliceV Tryz.prog h 23 (.int .i64 0) (.int .i64 (c:Int))=some (v,h')∧Sat h' (bp v []::S):=by
 obtain⟨v,h',J,e2,e3,e4⟩:=Ck s.wf I
 exact⟨v,h',J,s.G6 e3 e2 e4⟩
theorem UJ : ∀n:Nat,repeatL [V.int .u8 0] n=ofBytes (List.replicate n 0):=by
 intro n
 induction n<;>grind[repeatL,ofBytes]
theorem Oe (s:Sat h S)(J:c<1073741824):
  ∃v h',makeSliceV Tryz.prog h 23 (.int .i64 (c:Int)) (.int .i64 (c:Int))=some (v,h')∧Sat h' (bp v (List.replicate c 0)::S):=by
 obtain⟨i,hi,i1,i2⟩:=D1
 have I:jq (h.new (.cells c (repeatL [.int .u8 0] c) false)) (.sl h.next 0 c (.exact c)) (List.replicate c 0):=by
  refine⟨fun b I=>by grind,.inr (.inl ⟨h.next,[],c,by simp,?_,by simp⟩)⟩<;>grind[fo,UJ]
 refine⟨.sl h.next 0 c (.exact c),h.new (.cells c (repeatL [.int .u8 0] c) false),?_,s.G6 (dL.Ao s.wf _) I fun i hi=>by simp[rowIds] at hi;omega⟩
 grind[makeSliceV,Tryz.underlying23,tD,V.cells,Nat.ble,Nat.beq]
theorem Of (s:Sat h S)(I:b<256): ∃v h',buildSliceV Tryz.prog h 23 1 [(0,.int .u8 b)]=some (v,h')∧Sat h' (bp v [b]::S):=by
 obtain⟨v,h',J,e2,e3,e4⟩:=E_ s.wf I
 exact⟨v,h',J,s.G6 e3 e2 e4⟩
theorem Sat.fF (s:Sat h (bp v l::S))(hl:1≤l.length): ∃id c cap rest,v=.sl id 0 l.length cap∧Sat h (pt id (.cells c (ofBytes l++rest) false)::S)∧l.length+rest.length=c ∧
  (∀(h':H) (I:List Nat),I.length=l.length→(∀b∈I,b<256)→Sat h' (pt id (.cells c (ofBytes I++rest) false)::S)→Sat h' (bp v I::S)):=by
 obtain⟨m,r,h1,h2,h3,a,b,g1,g2,g3,⟨gl,g4⟩,g5⟩:=s.ok
 rcases g4 with⟨rfl,rfl⟩|⟨id,cs,c,rfl,J,hc⟩|⟨id,rfl,J,h5⟩
 ·grind
 ·refine⟨id,c,_,cs,rfl,⟨s.wf,m,r,h1,h2,h3,a,b,g1,g2,g3,J,g5⟩,hc,fun h' I e1 e2 s'=>s'.j5 ?_⟩
  intro m' r' hm
  exact⟨e2,.inr (.inl ⟨id,cs,c,by rw[e1],hm,by omega⟩)⟩
 ·refine⟨id,l.length,_,[],rfl,⟨s.wf,m,r,h1,h2,h3,a,b,g1,g2,g3,by rw[iW];exact J,g5⟩,by simp,fun h' I e1 e2 s'=>s'.j5 ?_⟩
  intro m' r' hm
  have EV:m' id=some (.cells l.length (ofBytes I++[]) false):=hm
  exact⟨e2,.inr (.inr ⟨id,by rw[e1],by grind,by omega⟩)⟩
theorem Jo (l:List Nat)(i b:Nat): (ofBytes l).set i (.int .u8 (b:Int))=ofBytes (l.set i b):=by simp[ofBytes,List.map_set]
theorem yD (l:List Nat)(n:Nat): (ofBytes l).take n=ofBytes (l.take n):=by simp[ofBytes,List.map_take]
theorem G8 (l:List Nat)(n:Nat): (ofBytes l).drop n=ofBytes (l.drop n):=by simp[ofBytes,List.map_drop]
theorem oc (s:Sat h (bp v l::S))(hi:i<l.length)(hb:b<256):
  ∃id off,indexAddrV Tryz.prog 23 v (.int .i64 (i:Int))=some (.ptr id off)∧∃h',fB Tryz.prog h 5 (.ptr id off) (.int .u8 (b:Int))=some h'∧Sat h' (bp v (l.set i b)::S):=by
 have hv:=(s.buf (k:=0) rfl).1
 obtain⟨id,c,cap,rest,rfl,s1,hc,J⟩:=s.fF (by omega)
 refine⟨id,i,?_,?_⟩
 ·simp_all[indexAddrV,eT]
 ·obtain⟨h',e1,I⟩:=s1.dO (t:=5) (P:=Tryz.prog) (v:=.int .u8 (b:Int)) (k:=0) (off:=i) rfl eT (by simp[dS];omega) (by omega) rfl rfl
  refine⟨h',e1,J h' (l.set i b) (by simp) (fun x hx => ?_) ?_⟩
  ·grind
  ·have e3:(ofBytes l++rest).set i (.int .u8 (b:Int))=ofBytes (l.set i b)++rest:=by
    grind[dS,Jo]
   rw[e3] at I
   exact I
def bH (l:List Nat)(a:Nat)(m:List Nat): List Nat:=l.take a++(m++l.drop (a+m.length))
theorem c5 (h:a+m.length≤l.length): (bH l a m).length=l.length:=by simp[bH];omega
theorem Fa (I:∀b∈l,b<256)(hm:∀b∈m,b<256): ∀b∈bH l a m,b<256:=by grind[bH]
theorem G9 (s:Sat h (bp v l::X::S))(hX:cD X (cE w m))(oT:a<b)(hb:b≤l.length)(hm:1≤m.length):
  ∃h',copyV Tryz.prog h 23 (slR v a b) w=some (.int .i64 (min m.length (b-a):Nat),h')∧Sat h' (bp v (bH l a (m.take (b-a)))::X::S):=by
 have hw:=s.aI (k:=1) rfl hX
 have hwl:=hw.1
 have hv:=(s.buf (k:=0) rfl).1
 obtain⟨id,c,cap,rest,rfl,s1,hc,hf⟩:=s.fF (by omega)
 have jT:∃J,slR (.sl id 0 l.length cap) a b=.sl id a (b-a) J:=by
  cases cap with
  |exact c =>
   refine⟨.exact (c-a),?_⟩
   simp only[slR]
   by_cases hca:c=a
   ·obtain⟨m',r,h1,h2,h3⟩:=s.at (k:=0) rfl
    rcases h3.2 with⟨e,_⟩|⟨B4,cs',c',e,hg,hc'⟩|⟨B4,e,_⟩
    ·cases e
    ·grind
    ·grind
   grind[eD]
  |rest e alt=>simp[slR]
 obtain⟨J,jT⟩:=jT
 rw[jT]
 have tE:=hw
 rcases tE.2 with⟨_,rfl⟩|⟨A_,I,L2,n2,Xw,TL,rfl,G_,q1,q2,q3,q4⟩
 ·grind
 ·have Rb:Nat.min m.length (b-a)=(m.take (b-a)).length:=by
   grind
  have kB:rdN h A_ I (Nat.min m.length (b-a)*1)=some (ofBytes (m.take (b-a))):=by
   have uo:View h (.sl A_ I (m.take (b-a)).length L2) (m.take (b-a)):=by
    refine⟨fun x hx=>hwl x (mg hx),.inr ⟨A_,I,L2,n2,Xw,TL,rfl,G_,q1,?_,?_,?_⟩⟩
    ·grind
    ·rw[←yD,←q3,List.take_take,qt]
    ·grind
   rw[ig,Rb]
   exact uo.rdN.2
  simp only[copyV,aN,eT,kB]
  have hlen:(m.take (b-a)).length≤b-a:=by grind
  have He:wrN h id a (ofBytes (m.take (b-a)))=some (h.put id (some (.cells c (ofBytes (bH l a (m.take (b-a)))++rest) false))):=by
   simp only[wrN,s1.row (k:=0) rfl,dS]
   rw[aG.2 (by omega),ah]
   have e0:(ofBytes l++rest).take a++(ofBytes (m.take (b-a))++(ofBytes l++rest).drop (a+(m.take (b-a)).length))=ofBytes (bH l a (m.take (b-a)))++rest:=by
    grind[dS,yD,G8,bH,uQ]
   cases Og:(Nat.beq a 0&&Nat.beq (m.take (b-a)).length c)<;>grind[beq_iff,List.drop_eq_nil_of_le,dS]
  rw[He]
  refine⟨_,rfl,hf _ _ (c5 (by omega)) (Fa hv (fun x hx=>hwl x (mg hx))) ?_⟩
  exact s1.put (k:=0) rfl
end
section
variable {v w x:V}
theorem Xx (I:isAggT P t=some true)(hs:bB P t=some q)(J:T.get h.tr id=some (.cells n cs st))(hl:cs.length=n)(hb:off+q≤n):
  loadV P h t (.ptr id off)=some (.agg ((cs.drop off).take q)):=by
 grind[loadV,rdN,aG,beq_iff]
theorem Sat.Ks (s:Sat h (.arr k v cs::S))(I:cs≠[]): ∃id n cap N rest,v=.sl id 0 n cap∧cs.length=n*k∧N=cs.length+rest.length∧Sat h (pt id (.cells N (cs++rest) false)::S) ∧
  (∀(h':H) (cs':List V) (S':List aP),cs'.length=cs.length→cs'.all storable=true→Sat h' (pt id (.cells N (cs'++rest) false)::S')→Sat h' (.arr k v cs'::S')):=by
 obtain⟨m,r,J,h2,h3,a,b,g1,g2,g3,⟨gl,g4⟩,g5⟩:=s.ok
 rcases g4 with⟨_,e⟩|⟨id,n,cap,N,rest,rfl,hg,q1,q2,q3,q4⟩
 ·grind
 ·refine⟨id,n,cap,N,rest,rfl,q1,q2.symm,⟨s.wf,m,r,J,h2,h3,a,b,g1,g2,g3,hg,g5⟩,fun h' cs' S' e1 e2 s'=>s'.j5 ?_⟩
  intro m' r' hm
  exact⟨e2,.inr ⟨id,n,cap,N,rest,rfl,hm,by omega,by omega,q3,q4⟩⟩
theorem Sat.ZS (s:Sat h S)(I:getA S j=some (.arr k v cs)): cs.all storable=true:=by
 obtain⟨m,r,h1,h2,J⟩:=s.at I
 exact J.1
theorem Sat.jk (s:Sat h S)(I:getA S j=some (.arr k v cs)): v.cells=[v]∧storable v=true∧v.beq v=true:=by
 obtain⟨m,r,h1,h2,J⟩:=s.at I
 rcases J.2 with⟨rfl,_⟩|⟨id,n,cap,N,rest,rfl,_⟩
 ·exact⟨rfl,rfl,rfl⟩
 ·exact⟨rfl,rfl,Gd _ _ _ _⟩
theorem Sat.fN (s:Sat h S)(hj:getA S j=some (.arr k v cs))(hn:cs.length=n*k)(J:1≤k)(hu:P.underlying t=some (.slice e)): lenV P h t v=some (.int .i64 n):=by
 obtain⟨m,r,h1,h2,h3⟩:=s.at hj
 rcases h3.2 with⟨rfl,rfl⟩|⟨id,n',cap,N,rest,rfl,_,q,_⟩
 ·have:n=0:=by
   rcases vl n with I|I
   ·exact I
   ·have:=nh I J
    simp at hn
    omega
  simp_all[lenV]
 ·have:n'=n:=Nat.eq_of_mul_eq_mul_right J (by omega)
  subst this
  simp only[lenV,hu]
theorem qZ (z:List V)(n:Nat): (repeatL z n).length=n*z.length:=by
 induction n<;>grind[repeatL]
theorem Cw {z:List V}(I:z.all storable=true)(n:Nat): (repeatL z n).all storable=true:=by
 induction n<;>grind[repeatL]
theorem uq (s:Sat h S){i:TypeInfo}(hu:P.underlying t=some (.slice e))(hi:P.info? e=some i)(hz:zeroT P e=some z)(hk:i.size=k)(hb:i.bytes≤4096)(J:z.cells.length=k)(I:z.cells.all storable=true)
 (h1:1≤k)(hn:n≤c)(hc:c<1073741824):
  ∃v h',makeSliceV P h t (.int .i64 (n:Int)) (.int .i64 (c:Int))=some (v,h')∧Sat h' (.arr k v (repeatL z.cells n)::S):=by
 refine⟨.sl h.next 0 n (.exact c),h.new (.cells (c*k) (repeatL z.cells c) false),?_,(s.new _).j5 fun m r hm => ?_⟩
 ·grind[makeSliceV,aG,Nat.beq_refl]
 ·refine⟨Cw I n,.inr ⟨h.next,n,.exact c,c*k,repeatL z.cells (c-n),rfl,?_,by rw[qZ,J],?_,Cw I _,rfl,hn⟩⟩
  ·have:repeatL z.cells n++repeatL z.cells (c-n)=repeatL z.cells c:=by
    have:∀a b,repeatL z.cells a++repeatL z.cells b=repeatL z.cells (a+b):=fun a b=>by
     induction a<;>grind[repeatL]
    rw[this,show n+(c-n)=c by omega]
   rw[this];exact hm
  ·rw[qZ,qZ,J,←vC,show n+(c-n)=c by omega]
theorem UK (I:T.get h.tr id=some (.cells n cs false))(J:cs.length=n)(hb:off+vs.length≤n):
  wrN h id off vs=some (h.put id (some (.cells n (cs.take off++(vs++cs.drop (off+vs.length))) false))):=by
 grind[wrN,aG,beq_iff,List.drop_eq_nil_of_le]
theorem yE (I:T.get h.tr id=some (.cells n cs st))(J:cs.length=n)(hb:off+q≤n): rdN h id off q=some ((cs.drop off).take q):=by
 grind[rdN,aG,beq_iff]
def Xy (X:aP)(k:Nat)(v:V)(cs:List V): Prop:=∀m r,X.p m r→tF m k v cs∨tF r k v cs
theorem Hf (k:Nat)(v:V)(cs:List V): Xy (.arr k v cs) k v cs:=fun _ _ h=>.inl h
theorem Sat.Rc (s:Sat h S)(I:getA S j=some X)(J:Xy X k v cs): tF (T.get h.tr) k v cs:=by
 obtain⟨m,r,h1,h2,h3⟩:=s.at I
 rcases J _ _ h3 with q|q
 ·exact q.up h1
 ·exact q.up h2
theorem Re (hX:Xy X k w ds)(s:Sat h (.arr k v cs::X::S)){i:TypeInfo}(hu:P.underlying t=some (.slice e))(hi:P.info? e=some i)(hz:zeroT P e=some z)(hk:i.size=k)(hb:i.bytes≤4096)(hl:z.cells.length=k)
 (h1:1≤k)(eH:cs.length+ds.length≤1073741824):
  ∃v' h',appendV P h #[t,t] v w=some (v',h')∧Sat h' (.arr k v' (cs++ds)::X::S):=by
 have acp:=s.ZS (j:=0) rfl
 have am:=s.Rc (j:=1) rfl hX
 have Rf:=am.1
 have pL:(cs++ds).all storable=true:=by grind
 -- what is appended
 have DS:∃m,srcV h k w=some (ds,m)∧ds.length=m*k:=by
  rcases am.2 with⟨rfl,rfl⟩|⟨id,n,cap,N,rest,rfl,J,e1,e2,e3,e4⟩
  ·exact⟨0,rfl,by simp⟩
  ·refine⟨n,?_,e1⟩
   simp only[srcV]
   rw[yE J (by grind) (by omega)]
   grind
 obtain⟨m,DS,hm⟩:=DS
 have I:∀n:Nat,n*k=cs.length→l7 (n+m) i.bytes=true:=fun n hn=>by
  have e2:n+m≤(n+m)*k:=Nat.le_mul_of_pos_right _ h1
  have e3:(n+m)*i.bytes≤(n+m)*4096:=Du _ hb
  grind[wH]
 have wI:∀(σ:H) (n:Nat) (T:List aP),Sat σ T→n*k=cs.length→1≤m→Sat (nj σ k cs ds (n+m)).2 (.arr k (nj σ k cs ds (n+m)).1 (cs++ds)::T):=by
  intro σ n T sT hn Fb
  refine(sT.new (.cells ((n+m)*k) (cs++ds) false)).j5 fun a r EV=>⟨pL,.inr ⟨σ.next,n+m,.rest k 0,(n+m)*k,[],rfl,by rw[iW];exact EV,by grind,by grind,rfl,rfl,rfl,rfl,by omega⟩⟩
 unfold appendV
 simp only[hu,hi,hz,hk,hl,DS]
 rw[show(Nat.ble 1 k&&Nat.ble i.bytes 4096&&Nat.beq k k)=true by simp_all,ah]
 cases EH:Nat.beq m 0 with
 |true =>
  have:m=0:=beq_iff.1 EH
  subst this
  have TM:ds=[]:=ql (by omega)
  subst TM
  obtain⟨m,r,q1,q2,q3⟩:=s.at (k:=0) rfl
  rcases q3.2 with⟨rfl,rfl⟩|⟨id,n,cap,N,rest,rfl,J,e1,e2,e3,e4⟩
  ·grind
  ·grind
 |false =>
  have Fb:1≤m:=by
   grind[rV]
  obtain⟨a,r,q1,q2,q3⟩:=s.at (k:=0) rfl
  rcases q3.2 with⟨rfl,rfl⟩|⟨id,n,cap,N,rest,rfl,J,e1,e2,e3,e4⟩
  ·have J:=I 0 (by simp)
   rw[gd] at J
   simp only[J,ah]
   have:=wI h 0 (.arr k .aV []::X::S) s (by simp) Fb
   rw[gd] at this
   refine⟨_,_,rfl,?_⟩
   exact(this.pN [1]).drop
  ·cases cap with
   |exact c =>
    obtain⟨e4,e5⟩:=e4
    simp only[gd]
    have qf:(cs++rest).take cs.length=cs:=oO rfl
    cases hq:Nat.ble (n+m) c with
    |true =>
     have AV:=aG.1 hq
     have fu:n*k+ds.length≤N:=by rw[hm,←vC,e4];exact qm _ AV
     rw[UK (q1 _ _ J) (by grind) fu]
     obtain⟨m',r',p1,p2,p3,x1,x2,x3,x4,x5,⟨_,x6⟩,x7⟩:=s.ok
     have qw:x1 id=some (.cells N (cs++rest) false):=by
      rcases x6 with⟨x6,_⟩|⟨B4,n',Lk,N',Zj,x6,x8,x9,x10,_⟩
      ·cases x6
      ·injection x6 with y1 y2 y3 y4
       subst y1
       rw[x8]
       have:=p1 _ _ (x4 _ _ x8)
       rw[q1 _ _ J] at this
       injection this with this
       rw[this]
     have s0:Sat h (pt id (.cells N (cs++rest) false)::X::S):=⟨s.wf,m',r',p1,p2,p3,x1,x2,x3,x4,x5,qw,x7⟩
     have s1:=s0.put (k:=0) (o':=.cells N ((cs++rest).take (n*k)++(ds++(cs++rest).drop (n*k+ds.length))) false) rfl
     refine⟨_,_,rfl,Sat.j5 s1 fun a' r'' ha=>⟨pL,.inr ⟨id,n+m,.exact c,N,rest.drop ds.length,rfl,?_,by grind,by grind,?_,e4,AV⟩⟩⟩
     ·have ha':a' id=some (.cells N ((cs++rest).take (n*k)++(ds++(cs++rest).drop (n*k+ds.length))) false):=ha
      simp_all[z6]
     ·grind
    |false =>
     rw[aL,I n e1.symm,ah,yE (q1 _ _ J) (by grind) (by omega)]
     rw[gE,←e1,qf]
     have:=wI h n _ s e1.symm Fb
     exact⟨_,_,rfl,(this.pN [1]).drop⟩
   |rest e' alt =>
    obtain⟨ek,rfl,rfl,e7⟩:=e4
    have ek:=ek.symm
    subst ek
    simp only[eV,ah,iW,gd] at J e2 ⊢
    have GC:k8 h id 0 k=n:=by
     simp only[k8,q1 _ _ J]
     grind[Nat.mul_div_cancel]
    rw[GC]
    rw[show Nat.ble (n+m) n=false by
     grind[aG],aL,I n e1.symm,show Nat.ble 2 ((n+m)*k)=true from aG.2 (by
      have:2*1≤(n+m)*k:=nh (by omega) h1
      omega),iX,ah,yE (q1 _ _ J) (by omega) (by omega),q1 _ _ J]
    simp only
    obtain⟨m',r',p1,p2,p3,x1,x2,x3,x4,x5,⟨_,x6⟩,x7⟩:=s.ok
    have qw:x1 id=some (.cells N cs false):=by
     grind
    have s0:Sat h (pt id (.cells N cs false)::X::S):=⟨s.wf,m',r',p1,p2,p3,x1,x2,x3,x4,x5,qw,x7⟩
    have:=wI (h.put id none) n _ s0.kill e1.symm Fb
    rw[gE,gC (by omega)]
    exact⟨_,_,rfl,this⟩
theorem g_ (s:Sat h (.arr k v cs::.arr k w ds::S)){i:TypeInfo}(hu:P.underlying t=some (.slice e))(hi:P.info? e=some i)(J:zeroT P e=some z)(hk:i.size=k)(hb:i.bytes≤4096)(hl:z.cells.length=k)
 (h1:1≤k)(I:cs.length+ds.length≤1073741824):
  ∃v' h',appendV P h #[t,t] v w=some (v',h')∧Sat h' (.arr k v' (cs++ds)::.arr k w ds::S):=Re (Hf _ _ _) s hu hi J hk hb hl h1 I
end
section
variable {v w x:V}
theorem Sat.fM {l:List V}(s:Sat h S)(J:getA S j=some (pt id (.cells n cs false)))(hs:bB P t=some n)(hl:l.length=n)(I:l.all storable=true):
  ∃h₁,fB P h t (.ptr id 0) (.agg l)=some h₁∧Sat h₁ (setA S j (pt id (.cells n l false))):=by
 refine⟨h.put id (some (.cells n l false)),?_,s.put J⟩
 simp only[fB,hs,V.cells,I,hl,eV,iX,ah,wrN,s.row J]
 grind[aG]
theorem kj (s:Sat h S)(hu:P.underlying t=some (.slice e))(hz:zeroT P e=some z)(hk:bB P e=some k)(hl:z.cells.length=k)(h1:1≤k)(h2:k≤65536)(J:x.cells.length=k)(I:x.cells.all storable=true):
  ∃v h',buildSliceV P h t 1 [(0,x)]=some (v,h')∧Sat h' (.arr k v x.cells::S):=by
 refine⟨.sl h.next 0 1 (.exact 1),newRow h x.cells,?_,?_⟩
 ·grind[buildSliceV,repeatL,fillV,Nat.beq_refl,aG]
 ·refine(s.new _).j5 fun m r hm=>⟨I,.inr ⟨h.next,1,.exact 1,k,[],rfl,?_,by omega,by omega,rfl,by omega,aQ _⟩⟩
  rw[hm,J,iW]
end
section
variable {v w x:V}
theorem ViewM.slice {m:PM}(hv:ViewM m v l)(oT:a≤b)(hb:b≤l.length): ViewM m (slR v a b) ((l.take b).drop a):=by
 have I:∀x∈(l.take b).drop a,x<256:=fun x hx=>hv.1 x (mg (nc hx))
 have hlen:((l.take b).drop a).length=b-a:=by grind
 obtain⟨hl,J⟩:=hv
 rcases J with⟨rfl|⟨ea,rfl⟩,rfl⟩|⟨id,off,cap,n,cs,st,rfl,hg,h1,h2,h3,h4⟩
 ·simp at hb
  subst_vars
  exact⟨by simp,.inl ⟨.inl rfl,by simp⟩⟩
 ·simp at hb
  subst_vars
  exact⟨by simp,.inl ⟨.inr ⟨ea,rfl⟩,by simp⟩⟩
 ·have Ga:∀o,o=off+a∨b-a=0→(cs.drop o).take (b-a)=ofBytes ((l.take b).drop a):=by
   grind[ofBytes,List.map_take,List.map_drop,List.drop_take,List.drop_drop]
  cases cap with
  |exact c =>
   refine⟨I,.inr ⟨id,_,_,n,cs,st,by rw[hlen];rfl,hg,h1,?_,?_,?_⟩⟩<;>grind[eD]
  |rest e alt =>
   exact⟨I,.inr ⟨id,_,_,n,cs,st,by rw[hlen];rfl,hg,h1,by omega,by grind,rfl⟩⟩
theorem jW (hX:cD X (cE v l))(I:a≤b)(J:b≤l.length): cD X (cE (slR v a b) ((l.take b).drop a)):=fun m r hm =>
 (hX m r hm).imp (fun h=>ViewM.slice h I J) (fun h=>ViewM.slice h I J)
theorem qI (I:cD X (cE v l))(J:a≤l.length): cD X (cE (slR v a l.length) (l.drop a)):=by
 grind[jW,List.take_length]
theorem ZT (I:cD X (cE v l))(J:b≤l.length): cD X (cE (slR v 0 b) (l.take b)):=by
 have:=jW I (gR b) J
 rwa [gE] at this
theorem Sat.mU (s:Sat h S): Sat h (.arr k .aV []::S):=(s.gh aa).j5 fun _ _ _=>⟨rfl,.inl ⟨rfl,rfl⟩⟩
theorem Sat.mV (s:Sat h S): Sat h (bp .aV []::S):=(s.gh aa).j5 fun _ _ _=>⟨by simp,.inl ⟨rfl,rfl⟩⟩
theorem Sat.ur (s:Sat h S): Sat h (Cq .aV []::S):=(s.gh aa).j5 fun _ _ _=>⟨by simp,.inl ⟨.inl rfl,rfl⟩⟩
theorem Fc (s:Sat h S){i:TypeInfo}(hu:P.underlying t=some (.slice e))(hi:P.info? e=some i)(I:zeroT P e=some z)(J:i.size=k)(hb:i.bytes≤4096)(hl:z.cells.length=k)
 (h1:1≤k)(hn:n<1073741824):
  ∃id h',makeSliceV P h t (.int .i64 (n:Int)) (.int .i64 (n:Int))=some (.sl id 0 n (.exact n),h')∧Sat h' (pt id (.cells (n*k) (repeatL z.cells n) false)::S):=by
 refine⟨h.next,h.new (.cells (n*k) (repeatL z.cells n) false),?_,s.new _⟩<;>grind[makeSliceV,aG,Nat.beq_refl]
theorem qJ {o:Nat}{c:Cap}(I:v=.sl i o n c)(hu:P.underlying t=some (.slice e)): lenV P h t v=some (.int .i64 n):=by subst I;exact Xr hu
theorem tH (I:v=.aV)(hu:P.underlying t=some (.slice e)): lenV P h t v=some (.int .i64 0):=by subst I;exact UB hu
theorem Xz {ts:Array TypeId}{k:IntKind}{a b:Int}: builtinV P h .min ts [.int k a,.int k b]=some (.int k (min a b),h):=by
 grind[builtinV,foldV,Bk,dR]
theorem XA {c:Go.Call}{b:Builtin}(I:c.callee=.builtin b)(J:lookArgs E c.args.toList=some args)(hf:builtinV P h b c.argTypes args=some (r,h')): opE P E h (.call c)=some (r,h'):=by
 simp only[opE,I,J,hf]
end
def slR3 (v:V)(a b m:Nat): V:=match v with
 |.sl id off _ _=>.sl id (cond (Nat.beq m a) off (off+a*1)) (b-a) (.exact (m-a))
 |v=>v
section
variable {v w x:V}
theorem ViewM.slice3 {m:PM}(hv:ViewM m v l)(oT:a≤b)(hb:b≤c)(hc:c≤l.length)(hl:1≤l.length): ViewM m (slR3 v a b c) ((l.take b).drop a):=by
 have I:∀x∈(l.take b).drop a,x<256:=fun x hx=>hv.1 x (mg (nc hx))
 have hlen:((l.take b).drop a).length=b-a:=by grind
 obtain⟨_,J⟩:=hv
 rcases J with⟨_,rfl⟩|⟨id,off,cap,n,cs,st,rfl,hg,h1,h2,h3,h4⟩
 ·grind
 ·have Ga:∀o,o=off+a∨b-a=0→(cs.drop o).take (b-a)=ofBytes ((l.take b).drop a):=by
   grind[ofBytes,List.map_take,List.map_drop,List.drop_take,List.drop_drop]
  refine⟨I,.inr ⟨id,_,_,n,cs,st,by rw[hlen];rfl,hg,h1,?_,?_,?_⟩⟩<;>grind[eD]
theorem Fe (hX:cD X (cE v l))(I:a≤b)(J:b≤c)(hc:c≤l.length)(hl:1≤l.length): cD X (cE (slR3 v a b c) ((l.take b).drop a)):=fun m r hm =>
 (hX m r hm).imp (fun h=>ViewM.slice3 h I J hc hl) (fun h=>ViewM.slice3 h I J hc hl)
theorem Ba (J:View h v l)(oT:a≤b)(hb:b≤c)(hc:c≤l.length)(hl:1≤l.length): sliceV Tryz.prog h 23 v (some a) (some b) (some c)=some (slR3 v a b c):=by
 obtain⟨_,I⟩:=J
 rcases I with⟨_,rfl⟩|⟨id,off,cap,n,cs,st,rfl,hg,h1,h2,h3,h4⟩
 ·grind
 ·cases cap with
  |exact q =>
   simp only[sliceV,slR3,aN,eT,ga]
   grind[aG]
  |rest e alt =>
   have he:e=1:=h4
   subst he
   simp only[sliceV,slR3,aN,eT,ga,eV]
   grind[Nat.blt,aG]
theorem gU (I:View h v l)(J:1≤l.length): ∃id off cap,v=.sl id off l.length cap:=by
 rcases I.2 with⟨_,rfl⟩|⟨id,off,cap,_,_,_,rfl,_⟩<;>grind
theorem cF {k:IntKind}{n:Int}(I:0≤n): jO (some (V.int k n))=some (some n.toNat):=by
 grind[jO,bndV]
end
section
variable {v w x:V} {m:List Nat}
theorem Oh (s:Sat h S)(J:getA S j=some (.arr q v cs))(hi:i*q+q≤cs.length)(hq:1≤q)(hu:P.underlying t=some (.slice e))(I:bB P e=some q):
  ∃id off,indexAddrV P t v (.int .i64 (i:Int))=some (.ptr id off)∧(isAggT P e=some true→loadV P h e (.ptr id off)=some (.agg ((cs.drop (i*q)).take q))):=by
 obtain⟨m,r,h1,h2,h3⟩:=s.at J
 rcases h3.2 with⟨_,rfl⟩|⟨id,n,cap,N,rest,rfl,hg,e1,e2,_⟩
 ·grind
 ·refine⟨id,i*q,?_,fun ht => ?_⟩
  ·simp only[indexAddrV,hu,I,b7]
   have:i<n:=by
    have h4:i*q+q=(i+1)*q:=by grind
    rw[h4,e1] at hi
    exact Nat.lt_of_succ_le (J1 hi hq)
   grind
  ·rw[Xx ht I (h1 _ _ hg) (by grind) (by omega)]
   grind
theorem Sat.XB (s:Sat h (bp v l::X::S))(hX:cD X (cE w m)): ∀i∈rowIds w,i∉rowIds v:=by
 intro i hi J
 obtain⟨a,r,h1,h2,h3,b,c,g1,g2,g3,g4,d,e,k1,k2,k3,k4,k5⟩:=s.ok
 have hb:=Ki g4 i J
 have hw:∀q:PM,ViewM q w m→q i≠none:=fun q hq=>by
  rcases hq.2 with⟨rfl|⟨ea,rfl⟩,_⟩|⟨id,off,cap,n,cs,st,rfl,hg,_⟩<;>grind[rowIds]
 rcases hX _ _ k4 with hq|hq
 ·cases hd:d i with
  |none=>grind
  |some o =>
   rcases g1 i with I|I
   ·grind
   ·rw[k2 _ _ hd] at I;cases I
 ·cases XC:b i with
  |none=>grind
  |some o =>
   rcases h3 i with I|I
   ·rw[g2 _ _ XC] at I;cases I
   ·grind
end
abbrev cn := List (Int×V×Nat)
def iS (κ:IntKind)(e:Int×V×Nat): V×V×Nat:=(.int κ e.1,e.2)
abbrev kU := iS .i64
def lookE (n:Int): cn→Option V
 |[]=>none
 |e::l=>if e.1=n then some e.2.1 else lookE n l
def oD (n:Int)(v:V)(c:Nat): cn→cn
 |[]=>[(n,v,c)]
 |e::l=>if e.1=n then(e.1,v,e.2.2)::l else e::oD n v c l
def mD (n:Int): cn→cn
 |[]=>[]
 |e::l=>if e.1=n then l else e::mD n l
def clkE (n:Int)(c:Nat)(l:cn): Nat:=match lookE n l with
 |some _=>c
 |none=>c+1
abbrev lS (κ:IntKind)(id:Nat)(l:cn)(c:Nat): aP:=pt id (.map (l.map (iS κ)) c)
abbrev qK := lS .i64
def idxE (n:Int): cn→Nat→Option (Nat×V)
 |[],_=>none
 |e::l,i=>if e.1=n then some (i,e.2.1) else idxE n l (i+1)
theorem nD (a b:Int): intBeq a b=decide (a=b):=by
 grind[ug,qX]
theorem s_ {k:IntKind}{n:Int}: ∀(l:cn) (i:Nat),findK (.int k) (.int κ n) (l.map (iS κ)) i=some (idxE n l i):=by
 intro l
 induction l<;>grind[findK,iS,keyBeq,dR,nD,idxE]
theorem rI {n:Int}: ∀(l:cn) (i:Nat),(idxE n l i).map (·.2)=lookE n l:=by
 intro l
 induction l<;>grind[idxE,lookE]
theorem Kt {n:Int}: ∀(l:cn) (i j:Nat) (v:V),idxE n l i=some (j,v)→i≤j:=by
 intro l
 induction l<;>grind[idxE]
theorem ZU {n:Int}{v:V}: ∀(l:cn) (i j:Nat) (u:V),idxE n l i=some (j,u)→setNth (l.map (iS κ)) (j-i) (fun e=>(e.1,v,e.2.2))=(oD n v c l).map (iS κ):=by
 intro l
 induction l with
 |nil=>intro i j u h;cases h
 |cons e l J =>
  intro i j u h
  simp only[idxE] at h
  simp only[oD,dQ,setNth]
  by_cases he:e.1=n
  ·rw[aC he] at h;injection h with h;injection h with I h2
   subst I
   rw[aC he,Ac]
   rfl
  ·rw[aj he] at h
   have h3:=Kt _ _ _ _ h
   grind[eD]
theorem XD {n:Int}: ∀(l:cn) (i j:Nat) (u:V),idxE n l i=some (j,u)→k9 (l.map (iS κ)) (j-i)=(mD n l).map (iS κ):=by
 intro l
 induction l with
 |nil=>intro i j u h;cases h
 |cons e l I =>
  intro i j u h
  simp only[idxE] at h
  simp only[mD,dQ,k9]
  by_cases he:e.1=n
  ·simp_all
  ·rw[aj he] at h
   have J:=Kt _ _ _ _ h
   grind[eD]
theorem UL {n:Int}{v:V}: ∀(l:cn),lookE n l=none→oD n v c l=l++[(n,v,c)]:=by
 intro l
 induction l<;>grind[lookE,oD]
theorem Rg {n:Int}: ∀(l:cn),lookE n l=none→mD n l=l:=by
 intro l
 induction l<;>grind[lookE,mD]
section
variable {v:V} {k:IntKind} {l:cn} {n:Int}
theorem Sat.ZV (s:Sat h S)(I:getA S j=some (lS κ id l c))(hu:P.underlying t=some (.map kt et))(J:P.underlying kt=some (.int k))(hz:zeroT P et=some z):
  dZ P h t (.map id) (.int κ n) true=some (match lookE n l with|some v=>.aO [v,.bool true]|none=>.aO [z,.bool false]):=by
 have hg:=s.row I
 simp only[dZ,lookupV,hu,J,hz,hg,keyBeq,dR,ah,s_]
 rw[←rI l 0]
 cases idxE n l 0<;>grind
theorem Sat.ZW (s:Sat h S)(I:getA S j=some (lS κ id l c))(hu:P.underlying t=some (.map kt et))(J:P.underlying kt=some (.int k))(hz:zeroT P et=some z):
  dZ P h t (.map id) (.int κ n) false=some (match lookE n l with|some v=>v|none=>z):=by
 have hg:=s.row I
 simp only[dZ,lookupV,hu,J,hz,hg,keyBeq,dR,ah,s_]
 rw[←rI l 0]
 cases idxE n l 0<;>grind
theorem Sat.update (s:Sat h S)(hj:getA S j=some (lS κ id l c))(hu:P.underlying t=some (.map kt et))(hk:P.underlying kt=some (.int k)):
  ∃h',mapUpdateV P h t (.map id) (.int κ n) v=some h'∧Sat h' (setA S j (lS κ id (oD n v c l) (clkE n c l))):=by
 have hg:=s.row hj
 refine⟨h.put id (some (.map ((oD n v c l).map (iS κ)) (clkE n c l))),?_,s.put hj⟩
 simp only[mapUpdateV,hu,hk,hg,keyBeq,dR,ah,s_]
 have I:=rI (n:=n) l 0
 cases J:idxE n l 0 with
 |none =>
  rw[J] at I
  have I:lookE n l=none:=I.symm
  simp only[clkE,I,UL l I,DE]
  rfl
 |some q =>
  obtain⟨i,u⟩:=q
  rw[J] at I
  have I:lookE n l=some u:=I.symm
  simp only[clkE,I]
  rw[←ZU (v:=v) (c:=c) l 0 i u J,ni]
theorem Sat.delete (s:Sat h S)(J:getA S j=some (lS κ id l c))(hu:P.underlying t=some (.map kt et))(hk:P.underlying kt=some (.int k)):
  ∃h',mq P h t (.map id) (.int κ n)=some h'∧Sat h' (setA S j (lS κ id (mD n l) c)):=by
 have hg:=s.row J
 simp only[mq,hu,hk,hg,keyBeq,dR,ah,s_]
 have I:=rI (n:=n) l 0
 cases hq:idxE n l 0 with
 |none =>
  rw[hq] at I
  have I:lookE n l=none:=I.symm
  refine⟨h,rfl,?_⟩
  rw[Rg l I]
  have:∀(S:List aP) (j:Nat) (A:aP),getA S j=some A→setA S j A=S:=by
   intro S
   induction S with
   |nil=>intro j A h;cases h
   |cons B S ih =>
    intro j A h
    cases j<;>grind[getA,setA]
  rw[this S j _ J]
  exact s
 |some q =>
  obtain⟨i,u⟩:=q
  refine⟨_,rfl,?_⟩
  have e:=XD (κ:=κ) l 0 i u hq
  rw[ni] at e
  rw[e]
  exact s.put J
theorem Sat.aaO (s:Sat h S)(I:getA S j=some (lS κ id l c))(hu:P.underlying t=some (.map kt et)): lenV P h t (.map id)=some (.int .i64 (l.length:Int)):=by
 have J:=s.row I
 simp_all[lenV]
end
section
variable {z:Operand} {a b v:V}
theorem OpR.upd (J:∀env,iz env E→evOp C (ev C 0) env h o=(match mapUpdateV C.P h t a b v with|some h'=>some (bW,h')|none=>none))
 (ho:∃h₁,mapUpdateV C.P h t a b v=some h₁∧Sat h₁ S'): OpR C E h o fun _ h₁=>Sat h₁ S':=by
 obtain⟨h₁,e1,I⟩:=ho
 exact⟨bW,h₁,I,fun env he=>⟨0,by grind⟩⟩
theorem OpR.mapUpdate (I:o.op=.mapUpdate t x y z)(J:bf E x=some a)(hy:bf E y=some b)(hz:bf E z=some v)
 (ho:∃h₁,mapUpdateV C.P h t a b v=some h₁∧Sat h₁ S'): OpR C E h o fun _ h₁=>Sat h₁ S':=by
 refine OpR.upd (t:=t) (a:=a) (b:=b) (v:=v) (fun env he => ?_) ho
 simp only[evOp,I,bN he J,bN he hy,bN he hz,t_]
 cases mapUpdateV C.P h t a b v<;>rfl
theorem OpR.builtin {bi:Builtin}{R:V→H→Prop}(I:o.op=.call cl)(J:cl.callee=.builtin bi)(ha:lookArgs E cl.args.toList=some args)(ho:∃v h₁,builtinV C.P h bi cl.argTypes args=some (v,h₁)∧R v h₁): OpR C E h o R:=by
 grind[OpR.of,opE]
theorem OpR.pS {m:List Nat}(hP:C.P=Tryz.prog)(s:Sat h (bp v l::X::S))(hX:cD X (cE u m))(I:o.op=.call cl)(hc:cl.callee=.builtin .append)(J:cl.argTypes = #[23,23])(ha:lookArgs E cl.args.toList=some [v,u])
 (eH:l.length+m.length≤140737488355328): OpR C E h o fun v' h₁=>Sat h₁ (bp v' (l++m)::X::S):=by
 grind[L1,OpR.builtin,builtinV]
theorem OpR.tI (J:C.P=Tryz.prog)(s:Sat h S)(I:o.op=.makeSlice t x y)(ht:t=23)(hx:bf E x=some (.int .i64 0))(hy:bf E y=some (.int .i64 (c:Int)))(hc:c<1073741824): OpR C E h o fun v' h₁=>Sat h₁ (bp v' []::S):=by
 grind[Od,OpR.of,uk]
theorem OpR.Cx (J:C.P=Tryz.prog)(s:Sat h S)(I:o.op=.makeSlice t x y)(ht:t=23)(hx:bf E x=some (.int .i64 (c:Int)))(hy:bf E y=some (.int .i64 (c:Int)))(hc:c<1073741824): OpR C E h o fun v' h₁=>Sat h₁ (bp v' (List.replicate c 0)::S):=by
 grind[Oe,OpR.of,uk]
theorem OpR.L3 {m:List Nat}{p:Nat}(hP:C.P=Tryz.prog)(s:Sat h (bp v l::X::S))(hX:cD X (cE u m))(I:o.op=.call cl)(hc:cl.callee=.builtin .copy)(J:cl.argTypes = #[23,23])(ha:lookArgs E cl.args.toList=some [slR v p q,u])
 (hpq:p<q)(hq:q≤l.length)(hm:1≤m.length): OpR C E h o fun _ h₁=>Sat h₁ (bp v (bH l p (m.take (q-p)))::X::S):=by
 grind[G9,OpR.builtin,builtinV]
theorem OpR.Gj (J:C.P=Tryz.prog)(s:Sat h S)(I:o.op=.buildSlice t 1 ps)(ht:t=23)(hx:lookParts E ps.toList=some [(0,.int .u8 (n:Int))])(hn:n<256): OpR C E h o fun v' h₁=>Sat h₁ (bp v' [n]::S):=by
 grind[Of,OpR.of,mC]
end
section
def lookL (n:Int): List (Int×α)→Option α
 |[]=>none
 |e::l=>if e.1=n then some e.2 else lookL n l
def cW (n:Int)(a:α): List (Int×α)→List (Int×α)
 |[]=>[(n,a)]
 |e::l=>if e.1=n then(n,a)::l else e::cW n a l
def lE (n:Int): List (Int×α)→List (Int×α)
 |[]=>[]
 |e::l=>if e.1=n then l else e::lE n l
theorem kD {n k:Int}{a:α}: ∀l:List (Int×α),lookL k (cW n a l)=if n=k then some a else lookL k l:=by
 intro l
 induction l<;>grind[cW,lookL]
theorem jw {n:Int}: ∀ {l:List (Int×α)},lookL n l=none↔n∉l.map (·.1):=by
 intro l
 induction l<;>grind[lookL]
theorem Ff {n k:Int}: ∀ {l:List (Int×α)},(l.map (·.1)).Nodup→lookL k (lE n l)=if n=k then none else lookL k l:=by
 intro l
 induction l<;>grind[lE,lookL,jw]
theorem tJ {n:Int}{a:α}: ∀ {l:List (Int×α)} {k:Int},k∈(cW n a l).map (·.1)↔k=n∨k∈l.map (·.1):=by
 intro l
 induction l<;>grind[cW]
theorem lT {n:Int}{a:α}: ∀ {l:List (Int×α)},(l.map (·.1)).Nodup→((cW n a l).map (·.1)).Nodup:=by
 intro l
 induction l<;>grind[cW,tJ]
theorem Rh {n:Int}: ∀ {l:List (Int×α)} {k:Int},k∈(lE n l).map (·.1)→k∈l.map (·.1):=by
 intro l
 induction l<;>grind[lE]
theorem wS {n:Int}: ∀ {l:List (Int×α)},(l.map (·.1)).Nodup→((lE n l).map (·.1)).Nodup:=by
 intro l
 induction l<;>grind[lE,Rh]
def eW (f:V→α→aP): cn→List (Int×α)→aP
 |[],[]=>.pu True
 |e::l,x::m=>.an (.an (.pu (e.1=x.1)) (f e.2.1 x.2)) (eW f l m)
 |_,_=>.pu False
variable {f:V→α→aP} {a b:PM}
theorem nE : ∀ {l:cn} {m:List (Int×α)},(eW f l m).p a b→l.map (·.1)=m.map (·.1):=by
 intro l
 induction l with
 |nil=>intro m h;cases m with
  |nil=>rfl
  |cons x m=>exact h.elim
 |cons e l I=>intro m h;cases m with
  |nil=>exact h.elim
  |cons x m=>simp only[dQ];rw[h.1.1,I h.2]
theorem sF {n:Int}: ∀ {l:cn} {m:List (Int×α)},(eW f l m).p a b→(lookE n l=none∧lookL n m=none)∨∃u x,lookE n l=some u∧lookL n m=some x∧(f u x).p a b:=by
 intro l
 induction l with
 |nil=>intro m h;cases m with
  |nil=>exact .inl ⟨rfl,rfl⟩
  |cons x m=>exact h.elim
 |cons e l J=>intro m h;cases m with
  |nil=>exact h.elim
  |cons x m =>
   obtain⟨⟨I,h2⟩,h3⟩:=h
   have I:e.1=x.1:=I
   grind[lookE,lookL]
theorem Oi {n:Int}{x:α}(hu:(f u x).p a b): ∀ {l:cn} {m:List (Int×α)},(eW f l m).p a b→(eW f (oD n u c l) (cW n x m)).p a b:=by
 intro l
 induction l with
 |nil=>intro m h;cases m with
  |nil=>exact⟨⟨rfl,hu⟩,aa⟩
  |cons x m=>exact h.elim
 |cons e l ih=>intro m h;cases m with
  |nil=>exact h.elim
  |cons y m =>
   obtain⟨⟨I,h2⟩,J⟩:=h
   have I:e.1=y.1:=I
   simp only[oD,cW,←I]
   by_cases he:e.1=n
   ·rw[aC he,aC he];exact⟨⟨he,hu⟩,J⟩
   ·rw[aj he,aj he];exact⟨⟨I,h2⟩,ih J⟩
theorem Oj {n:Int}: ∀ {l:cn} {m:List (Int×α)},(eW f l m).p a b→(eW f (mD n l) (lE n m)).p a b:=by
 intro l
 induction l with
 |nil=>intro m h;cases m with
  |nil=>trivial
  |cons x m=>exact h.elim
 |cons e l J=>intro m h;cases m with
  |nil=>exact h.elim
  |cons y m =>
   obtain⟨⟨I,h2⟩,h3⟩:=h
   have I:e.1=y.1:=I
   simp only[mD,lE,←I]
   by_cases he:e.1=n
   ·grind
   ·rw[aj he,aj he];exact⟨⟨I,h2⟩,J h3⟩
theorem bC.L4 (I:∀u x,bC (f u x)): ∀(l:cn) (m:List (Int×α)),bC (eW f l m):=by
 intro l
 induction l with
 |nil=>intro m;cases m<;>exact bC.pu _
 |cons e l J=>intro m;cases m with
  |nil=>exact bC.pu _
  |cons x m=>exact bC.an (bC.an (bC.pu _) (I _ _)) (J m)
def fO (c:Nat): Nat→cn→Prop
 |_,[]=>True
 |b,e::l=>b≤e.2.2∧e.2.2<c∧fO c (e.2.2+1) l
theorem Cy : ∀ {l:cn} {b I:Nat},I≤b→fO c b l→fO c I l:=by
 intro l
 cases l with
 |nil=>intro b I _ _;trivial
 |cons e l=>intro b I h J;exact⟨cu h J.1,J.2⟩
theorem Ol {k:Int}(hn:n=c): ∀ {l:cn} {b:Nat},b≤c→fO c b l→fO (clkE k c l) b (oD k u n l):=by
 subst hn
 intro l
 induction l with
 |nil=>intro b J _;exact⟨J,Dy _,aa⟩
 |cons e l ih =>
  intro b J h
  have I:=ih (b:=e.2.2+1) (by have:=h.2.1;omega) h.2.2
  by_cases he:e.1=k
  ·simp only[oD,clkE,lookE,aC he];exact h
  ·simp only[oD,clkE,lookE,aj he]
   refine⟨h.1,?_,I⟩
   have:=h.2.1
   split<;>omega
theorem Om {k:Int}: ∀ {l:cn} {b:Nat},fO c b l→fO c b (mD k l):=by
 intro l
 induction l with
 |nil=>intro b h;exact h
 |cons e l I =>
  intro b h
  simp only[mD]
  by_cases he:e.1=k
  ·rw[aC he];exact Cy (by have:=h.1;omega) h.2.2
  ·rw[aj he];exact⟨h.1,h.2.1,I h.2.2⟩
def j_ (κ:IntKind)(f:V→α→aP)(v:V)(m:List (Int×α)): aP :=
 xs fun id:Nat=>xs fun l:cn=>xs fun c:Nat=>star [.pu (v=.map id∧fO c 0 l∧(m.map (·.1)).Nodup),lS κ id l c,eW f l m]
abbrev qL {α:Type}(f:V→α→aP)(v:V)(m:List (Int×α)): aP:=j_ .i64 f v m
section
variable {v:V} {k:IntKind} {m:List (Int×α)} {n:Int} {x:α}
theorem fG : Sat h (j_ κ f v m::S)↔∃id l c,v=.map id∧fO c 0 l∧(m.map (·.1)).Nodup∧Sat h (lS κ id l c::eW f l m::S):=by
 simp[j_,lz,bg,ob,and_assoc]
theorem iT : Sat h (qL f v m::S)↔∃id l c,v=.map id∧fO c 0 l∧(m.map (·.1)).Nodup∧Sat h (qK id l c::eW f l m::S):=fG
theorem kE (hf:∀u x,bC (f u x))(s:Sat h (j_ κ f v m::S))(hu:P.underlying t=some (.map kt et))(I:P.underlying kt=some (.int k))(J:zeroT P et=some z):
  (lookL n m=none∧dZ P h t v (.int κ n) true=some (.aO [z,.bool false])∧dZ P h t v (.int κ n) false=some z) ∨
  ∃u x,lookL n m=some x∧dZ P h t v (.int κ n) true=some (.aO [u,.bool true])∧dZ P h t v (.int κ n) false=some u∧Sat h (f u x::j_ κ f v m::S):=by
 obtain⟨id,l,c,rfl,hb,hn,s1⟩:=fG.1 s
 have e2:=s1.ZV (n:=n) (j:=0) rfl hu I J
 have e1:=s1.ZW (n:=n) (j:=0) rfl hu I J
 obtain⟨a,b,q1,q2,q3⟩:=s1.at (k:=1) rfl
 rcases sF (n:=n) q3 with⟨g1,g2⟩|⟨u,x,g1,g2,g3⟩
 ·grind
 ·rw[g1] at e1 e2
  refine .inr ⟨u,x,g2,e2,e1,?_⟩
  have s2:Sat h (eW f l m::lS κ id l c::S):=s1.pN [1]
  have s3:=s2.dup (bC.L4 hf l m)
  have s4:Sat h (f u x::eW f l m::lS κ id l c::S):=s3.j5 fun a' b' h'=>by
   grind[sF]
  have s5:Sat h (lS κ id l c::eW f l m::f u x::S):=s4.pN [2,1]
  exact(fG.2 ⟨id,l,c,rfl,hb,hn,s5⟩:Sat h (j_ κ f (.map id) m::f u x::S)).pN [1]
theorem lU (I:∀u x,bC (f u x))(s:Sat h (f u x::j_ κ f v m::S))(hu:P.underlying t=some (.map kt et))(J:P.underlying kt=some (.int k)):
  ∃h',mapUpdateV P h t v (.int κ n) u=some h'∧Sat h' (j_ κ f v (cW n x m)::S):=by
 have s0:Sat h (j_ κ f v m::f u x::S):=s.pN [1]
 obtain⟨id,l,c,rfl,hb,hn,s1⟩:=fG.1 s0
 obtain⟨h',e1,e2⟩:=s1.update (n:=n) (v:=u) (j:=0) rfl hu J
 refine⟨h',e1,?_⟩
 have e3:Sat h' (f u x::eW f l m::lS κ id (oD n u c l) (clkE n c l)::S):=e2.pN [2,1]
 have e4:Sat h' (eW f (oD n u c l) (cW n x m)::lS κ id (oD n u c l) (clkE n c l)::S):=e3.map fun a b h=>by
  obtain⟨p1,p2,d1,d2,d3,d4,p3,p4,d5,d6,d7,d8,d9⟩:=h
  exact⟨fun _=>none,p4,fun _=>.inl rfl,fun _ _ h=>(by cases h),PM.le_trans d7 d3,Oi (I _ _ _ _ d4) (bC.L4 I _ _ _ _ d8),d9⟩
 exact fG.2 ⟨id,_,_,rfl,Ol rfl (gR _) hb,lT hn,e4.pN [1]⟩
theorem Bt (s:Sat h (j_ κ f v m::S))(hu:P.underlying t=some (.map kt et))(I:P.underlying kt=some (.int k)):
  ∃h',mq P h t v (.int κ n)=some h'∧Sat h' (j_ κ f v (lE n m)::S):=by
 obtain⟨id,l,c,rfl,J,hn,s1⟩:=fG.1 s
 obtain⟨h',e1,e2⟩:=s1.delete (n:=n) (j:=0) rfl hu I
 refine⟨h',e1,?_⟩
 have e3:Sat h' (eW f l m::lS κ id (mD n l) c::S):=e2.pN [1]
 have e4:Sat h' (eW f (mD n l) (lE n m)::lS κ id (mD n l) c::S):=e3.j5 fun a b h=>Oj h
 exact fG.2 ⟨id,_,_,rfl,Om J,wS hn,e4.pN [1]⟩
theorem Bu (s:Sat h (j_ κ f v m::S))(hu:P.underlying t=some (.map kt et)): lenV P h t v=some (.int .i64 (m.length:Int)):=by
 obtain⟨id,l,c,rfl,J,hn,s1⟩:=fG.1 s
 have e:=s1.aaO (j:=0) rfl hu
 obtain⟨a,b,q1,q2,I⟩:=s1.at (k:=1) rfl
 have:=iZ List.length (nE I)
 grind
theorem Hg (s:Sat h (pt id (.map [] 0)::S)): Sat h (j_ κ f (.map id) []::S):=by
 have s1:Sat h (eW f [] []::pt id (.map [] 0)::S):=s.gh aa
 exact fG.2 ⟨id,[],0,rfl,aa,by simp,s1.pN [1]⟩
theorem qM (s:Sat h (pt id (.map [] 0)::S)): Sat h (qL f (.map id) []::S):=Hg s
theorem yF (s:Sat h S)(I:getA S j=some (j_ κ f v m)): ∃id,v=.map id:=by
 have s1:=s.take j I
 grind[fG]
end
end
theorem OpR.delete {u:TypeId}{m k:V}(I:o.op=.call cl)(J:cl.callee=.builtin .delete)(hty:cl.argTypes = #[t,u])(ha:lookArgs E cl.args.toList=some [m,k])
 (ho:∃h₁,mq C.P h t m k=some h₁∧Sat h₁ S'): OpR C E h o fun _ h₁=>Sat h₁ S':=by
 obtain⟨h₁,e1,e2⟩:=ho
 refine OpR.builtin I J ha ⟨.aO [],h₁,?_,e2⟩<;>grind[builtinV]
end Go.Proofs.YtiojppeahfoiaaaGreat.Am
