/- TreeMany: a part of its proof; conditions: its statement's. -/
import Derived.Test.YtdonpgpfplgigaaGreatQ04
import Derived.Test.YtdonpgpfplgigaaGreatQ02
import Derived.Lib.BytesEntry
import Derived.Laws.Externs
import Derived.WalkKit
import Derived.ProofKit
set_option linter.defProp false
namespace Go.Proofs.YtdonpgpfplgigaaGreat.Am
open Go
def zu:=@Tryz.underlying24
def K0:=@Tryz.func160
variable {X Y:aG} {cap:Cap} {C:gN} {δ P5:Dk} {ε ah:bk} {Q:Ex->List (Nat×V)->H->Prop} {cl:Go.Call} {n e pg:Int} {P':Int->List Nat} {R:LD->Prop} {μ:Lg} {d:List (Int×(Nat×Bool))} {now aJ:List (Int×List Nat)} {cs cs' wK qJ:List (List Nat)} {E:List (Nat×V)} {S:List aG} {b l was data b0 c P6 b' c' ps pO nU nV:List Nat} {g i a r k q dX aQ id bj z tx pv nx kd N j K B link extra off p1 lo L n2 M p8:Nat} {F:Nat->List (List Nat)->Prop} {π cA:Pl} {P:Program} {α β:Type} {t:TypeId} {w x u wh di kv dt:V}
def jW (m:List Fm): Nat:=(m.map (·.changed)).count true
theorem oQ {f g:Fm}: ∀ {m:List Fm} {i:Nat},m[i]?=some f->jW (m.set i g)+f.changed.toNat=jW m+g.changed.toNat:=by
 intro m;induction m with
 |nil=>simp
 |cons x m I =>
  intro i h;cases i<;>grind[jW]
theorem Gg {g:Fm}(I:g.changed=false): ∀ {m:List Fm} {i:Nat},jW (m.set i g)<=jW m:=by
 intro m i;cases h:m[i]? with
 |none =>
  grind[List.set_eq_of_length_le]
 |some f =>
  have:=oQ (g:=g) h;grind
def dH (ε:bk): Nat:=ε.2.2.waiting.length+jW ε.1.aj
theorem tQ : ε.2.2.waiting.length<=dH ε:=C0 _ _
theorem ie.count (I:ie π cA): jW cA.aj=jW π.aj:=by
 have:cA.aj.map (·.changed)=π.aj.map (·.changed):=by
  refine ny λi => ?_;rw[kR,kR];cases h:π.aj[i]? with
  |none =>
   have h1:π.aj.length<=i:=by grind
   have:cA.aj[i]?=none:=by simp[I.len,h1]
   rw[this]
  |some f =>
   obtain⟨t,ht⟩:=I.get i f h;rw[ht];rfl
 simp only[jW,this]
theorem K1 (h:(δ.eP n b).1≠0): (δ.eP n b).2.waiting=δ.waiting:=by
 unfold Dk.eP at h ⊢;split
 .rfl
 .rename_i I;split
  .rfl
  .rename_i h2;split
   .rfl
   grind
theorem VA : dH (outF ε i).2<=dH ε:=by
 grind[outF,dH,Cd,K1,MV,oQ]
theorem Cm {f:Fm}: jW (eF π i f).aj<=jW π.aj:=Gg U
theorem ig.dH (hr:ig ε n e b ah): Am.dH ah<=Am.dH ε:=by
 have uQ:∀ {cA:Pl},ie ε.1 cA->∀i,Am.dH (outF (cA,ε.2) i).2<=Am.dH ε:=λ{cA} I i=>by
  have:=VA (ε:=(cA,ε.2)) (i:=i);refine c_ this ?_;simp only[Am.dH,I.count];exact aH _
 cases hr with
 |arg _=>simp
 |IS i f h1 h2 hl hf =>
  grind[oQ,Am.dH]
 |out cA i f h1 h2 hl I hf hh he=>grind
 |read cA i f h1 h2 hl I hf hh he hr=>exact c_ (CU Cm _) (uQ I i)
 |bad cA i f h1 h2 hl I hf hh he hr hc=>exact c_ (CU Cm _) (uQ I i)
 |load cA i f h1 h2 hl I hf hh he hr hc=>exact c_ (CU (c_ (Gg U) Cm) _) (uQ I i)
theorem Gh : jW (unpinF π n).2.aj=jW π.aj:=by
 grind[unpinF,oQ]
theorem o8.dH (hr:o8 ε n e b ah): Am.dH ah<=Am.dH ε:=by
 cases hr with
 |dead _=>simp
 |mu e b ah I hr he=>exact hr.dH
 |AE b ah I hr he=>have:=hr.dH;grind[Am.dH,Gh]
 |read b ah I hr he=>have:=hr.dH;grind[Am.dH,Gh]
theorem GRd.dH {cK:Bool}(hr:GRd ε now cK n e b ah): Am.dH ah<=Am.dH ε:=by
 cases hr with
 |arg _=>simp
 |cK _ _ _=>simp
 |own _ _ _ _ _=>simp
 |read e b ah I h2 h3 hl hr=>exact hr.dH
theorem wI.dH {cK:Bool}(hr:wI ε now cK n b e aJ ah): Am.dH ah<=Am.dH ε:=by
 cases hr with
 |may e c ah hr he=>exact hr.dH
 |bad c ah hr I=>exact hr.dH
 |done c ah hr I=>exact hr.dH
inductive mQ (now:List (Int×List Nat)): List Int->bk->Int->List fU->bk->Prop where
 |nil (ε:bk):mQ now [] ε 0 [] ε
 |err (n:Int) (l:List Int) (ε:bk) (e:Int) (b:List Nat) (ah:bk) (hr:o8 ε n e b ah) (he:e≠0):mQ now (n::l) ε e [] ah
 |part (n:Int) (l:List Int) (ε:bk) (was b:List Nat) (ah:bk) (c:List fU) (e:Int) (cs:List fU) (mh:bk) (hr:o8 ε n 0 was ah) (hb:lookL n now=some b) (hd:(lookL n ah.1.eu).isSome=true) (hc:SG n was b c) (hl:c.length<=512) (ht:mQ now l ah e cs mh):mQ now (n::l) ε e (c++cs) mh
 |whole (n:Int) (l:List Int) (ε:bk) (was b:List Nat) (ah:bk) (e:Int) (cs:List fU) (mh:bk) (hr:o8 ε n 0 was ah) (hb:lookL n now=some b) (hd:(lookL n ah.1.eu).isSome=false) (ht:mQ now l ah e cs mh):mQ now (n::l) ε e (⟨n,0,true,b⟩::cs) mh
theorem mQ.qN {l:List Int}{cs:List fU}(hr:mQ now l ε e cs ah)(h:lq ε): lq ah:=by
 induction hr with
 |nil ε=>exact h
 |err n l ε e b ah hr he=>exact hr.qN h
 |part n l ε was b ah c e cs I hr hb hd hc hl ht ih=>exact ih (hr.qN h)
 |whole n l ε was b ah e cs I hr hb hd ht ih=>exact ih (hr.qN h)
theorem mQ.dH {l:List Int}{cs:List fU}(hr:mQ now l ε e cs ah): Am.dH ah<=Am.dH ε:=by
 induction hr with
 |nil ε=>simp
 |err n l ε e b ah hr he=>exact hr.dH
 |part n l ε was b ah c e cs I hr hb hd hc hl ht ih=>exact c_ ih hr.dH
 |whole n l ε was b ah e cs I hr hb hd ht ih=>exact c_ ih hr.dH
theorem AH {h:H}{b:Nat}{v:V}(I:look E a=some v)(h2:look E b=some w): resLE P E h [.tmp a,.tmp b]=some (.aV [v,w]):=by grind[resLE,mapO,resE]
section
variable {told:cu} {h:H} {p:Nat} {op v:V} {cK:Bool}
theorem ED (I:W told)(s:Sat h S): Call ⟨Tryz.prog,told⟩ 62 [.map id] h λv h'=>∃b,v=.fn (.func 144) [] [.ptr b 0]/\Sat h' (pt b (.cells 1 [.map id] false)::S):=by
 refine Call.of_wp (I.free _ U) Tryz.func62 U U (zg U ?_);refine au.cg s U U U (fG U U) (λp1 h s => ?_);exact zk 4 U (zo U (JG U U) (zk 2 U (WP.ret ⟨aa,_,U,_,U,s⟩)))
theorem SI (I:W told)(s:Sat h (iS g a now cK::S))(hm:now.length<=1048576)(hk:∀n∈now.map (·.1),(Lit.int .i64 n).wf=true):
  Call ⟨Tryz.prog,told⟩ 136 [.ptr g 0] h λv h'=>Sat h' (.arr 1 v (jA (gK now))::iS g a now cK::S):=by
 obtain⟨nv,s⟩:=fX.1 s;obtain⟨wJ,rfl⟩:=KD s (j:=1) U;refine Call.of_wp (I.free _ U) Tryz.func136 U U (zK 8 U (zY s 0 tH qS U (zc U (ED I s) ?_)));rintro v h ⟨b,rfl,s⟩;refine zc U (Ci I (s.ae [0,1]) (by decide) hm hk) ?_;intro kv h s;exact zk 2 U (WP.ret ⟨aa,_,U,(fX.2 ⟨.map wJ,(s.ae [3,2,0]).del 3⟩).ae [1]⟩)
noncomputable def cgL : Code:=cX [1,1,0,1,0,0] ((Tryz.f58.body).getD .skip)
theorem K2 (hT:W told){ks:List Int}(XP:ks.length<=65536)(sR:∀n∈ks,(lookL n now).isSome=true)(qZ:∀e∈now,e.2.length=512): ∀(j i:Nat) (acc:List fU) (av:V) (cs:List V) (ε:bk) (h:H) (E:List (Nat×V)) (Q:Ex->List (Nat×V)->H->Prop),i+j=ks.length ->
  lq ε->dH ε<=268435456->acc.length<=512*i ->
  Sat h (.arr 4 av cs::fP cs acc::iS g a now cK::gM a p q r op data aQ::gE r p q ε.1::dF q p ε.2.1::bX p ε.2.2::.arr 1 kv (jA ks)::S) ->
  Has E [(0,.ptr g 0),(4,av),(13,kv),(14,.int .i64 ks.length),(15,.int .i64 i)] ->
  (∀e c ah E' h',mQ now (ks.drop i) ε e c ah->e≠0->look E' 2=some .aZ->look E' 3=some (.int .i64 e)->Sat h' (iS g a now cK::gM a p q r op data aQ::gE r p q ah.1::dF q p ah.2.1::bX p ah.2.2::S)->Q .ret E' h') ->
  (∀c ah E' h' A_ cs',mQ now (ks.drop i) ε 0 c ah->acc.length+c.length<=512*ks.length->Has E' [(4,A_)]->Sat h' (.arr 4 A_ cs'::fP cs' (acc++c)::iS g a now cK::gM a p q r op data aQ::gE r p q ah.1::dF q p ah.2.1::bX p ah.2.2::S)->Q (.exit 0) E' h') ->
  WP ⟨Tryz.prog,told⟩ 65 (.loop cgL) E h Q:=by
 intro j;induction j with
 |zero =>
  intro i acc av cs ε h E Q hj b_ hw RV s hE hr hx;refine WP.loop (WP.has hE (zg U (zC U aK (by grind) ?_)));refine zk 3 U (WP.exit ?_);rw[p_ (by omega)] at hx;have s1:=s.del 7;dsimp only[aL] at s1;refine hx [] ε _ _ av cs (.nil ε) (by grind) ⟨U,aa⟩ ?_;rw[gd];exact s1
 |succ j ih =>
  intro i acc av cs ε h E Q hj b_ hw RV s hE hr hx;have hn:ks[i]?=some (ks[i]'(by omega)):=aF _;have xT:ks[i]'(by omega)∈ks:=Hg _;have vq:ks.drop i=ks[i]'(by omega)::ks.drop (i+1):=mC (by omega);generalize (ks[i]'(by omega))=n at hn xT vq;have hc:(jA ks)[i]?=some (.int .i64 n):=by simp[jA,hn]
  obtain⟨b,hb⟩:=Option.isSome_iff_exists.1 (sR n xT);have JO:=qZ _ (oo hb);simp only at JO;rw[vq] at hr hx;obtain⟨id,off,e1,e2⟩:=ki (P:=Tryz.prog) s (k:=7) U hc dm lI;refine WP.loop (WP.has hE (zg U (zB U aK (by grind) ?_)));refine zk 5 U (WP.block (zg U (zo U (bM (r:=.ptr id off) U U e1) (zl U (e2 _ bT) ?_))));obtain⟨nv,s⟩:=fX.1 (s.ae [2]);dsimp only[bringA,getA,aL] at s;refine zk 6 U (zY s 0 rS BY U (zm U (zc U (Ez (n:=n) hT (s.ae [4,4,4,4]) b_.ok b_.pins (c_ tQ hw)) ?_)));rintro v h ⟨e,w,ah,jl,(⟨he,rfl,s⟩|⟨rfl,u,rfl,s⟩)⟩
  .dsimp only[bringA,getA,aL] at s;refine zk 10 U (zB U aE (by grind) ?_);refine zk 8 U (WP.ret (hr e [] ah _ _ (.err n _ ε e w ah jl he) he U U ?_));have s:=fX.2 ⟨nv,s.ae [4,4]⟩;dsimp only[bringA,getA,aL] at s;exact((s.del 7).del 6).del 5
  .dsimp only[bringA,getA,aL] at s;have uX:=jl.qN b_;have uq:=c_ jl.dH hw;have hlen:=jl.len b_;refine zk 10 U (zC U aE (U) ?_);have s:=s.fh;have s:=s.ae [5,5,1,1,1,1,1,1,1,0];dsimp only[bringA,getA,aL] at s;rcases om (n:=n) (λ_ _=>bf.cG _ _) (s.ae [1]) uy b9 lQ with⟨g1,g2,_⟩|⟨nw,b',g1,_,g2,s2⟩
   .grind
   rw[hb] at g1;have:=bB g1;subst this;refine zk 7 U (zY s 0 tH qS U (zm U (zo U (kL U U g2) ?_)));obtain⟨dv,s⟩:=eM.1 (s2.ae [3]);dsimp only[bringA,getA,aL] at s;have s:=s.ae [4];dsimp only[bringA,getA,aL] at s;refine zk 6 U (zY s 0 rS BY U (zn U (zY s 1 vN Dr U (zm U (zc U (abm (n:=n) hT (s.ae [5])) ?_)))));rintro v h ⟨rfl,s⟩;dsimp only[bringA,getA,aL] at s;refine zk 10 U ?_;cases hd:(lookL n ah.1.eu).isSome with
   |true =>
    refine zK 6 U (zc U (SH hT (u:=u) (v:=nw) (pg:=n) (s.ae [11,4]) (bC _ _) (bC _ _) hlen JO) ?_);rintro rv h ⟨rcs,c,hc,gn,s⟩;dsimp only[bringA,getA,aL] at s;obtain⟨i1,c9,fc,pP⟩:=EB;have ad0:cs.length=acc.length*4:=by
     obtain⟨a,b,q1,q2,q3⟩:=s.at (k:=12) U;exact tN q3
    have afr:rcs.length=c.length*4:=by
     obtain⟨a,b,q1,q2,q3⟩:=s.at (k:=1) U;exact tN q3
    obtain⟨A_,h2,sO,s2⟩:=iw (s.ae [11,0]) mg c9 xb fc (by omega) U (by decide) (by omega);dsimp only[bringA,getA,aL] at s2;refine au.any U U U (OpR.of (R:=λv h'=>v=A_/\h'=h2) (jc U U sO) ⟨U,U⟩) ?_;rintro v' h' ⟨rfl,rfl⟩;refine za U (zv (zr U (zb U (by exact aM ak) ?_)));refine zm U (zv ?_);have s3:Sat _ (fP cs acc::fP rcs c::_):=s2.ae [12,2];have s4:=s3.two (C:=fP (cs++rcs) (acc++c)) (bf.tf _ _) (bf.tf _ _) λa b q1 q2=>Ev q1 q2;dsimp only[bringA,getA,aL] at s4;have s5:=eM.2 ⟨dv,s4.ae [7,7]⟩;dsimp only[bringA,getA,aL] at s5;have s6:=fX.2 ⟨nv,s5.ae [7,7]⟩;dsimp only[bringA,getA,aL] at s6;have s7:=(((s6.ae [3,2,0,0,3,3,3,3]).del 10).del 9).del 8;dsimp only[bringA,getA,aL] at s7;refine ih (i+1) (acc++c) _ _ ah _ _ Q (by omega) uX uq (by grind) s7 ⟨U,U,U,U,U,aa⟩ (λe c' I E' h' ht he l2 l3 s' => ?_) (λc' I E' h' VB VC ht hl dY s' => ?_)
    .exact hr e _ I E' h' (.part n _ ε w b ah c e c' I jl hb hd hc gn ht) he l2 l3 s'
    .refine hx (c++c') I E' h' VB VC (.part n _ ε w b ah c 0 c' I jl hb hd hc gn ht) (by grind) dY ?_<;>grind
   |false =>
    refine zK 5 U (zc U (vp hT (s.ae [4]) (bC _ _) (by omega)) ?_);intro cw h s;dsimp only[bringA,getA,aL] at s;obtain⟨wid,_,Cl,_,rfl,_⟩:=s.eX (by omega);have s:=s.fh;refine zo U (cI U (by rw[PE];rfl)) ?_;obtain⟨rv,h1,wG,s1⟩:=kY (P:=Tryz.prog) (k:=4) (x:=.agg [.int .i64 n,.int .i64 0,.bool true,.sl wid 0 b.length Cl]) s mg xb Dv U (by decide) (by decide) U U;dsimp only[V.cells] at s1;refine au.any U U U (OpR.of (R:=λv h'=>v=rv/\h'=h1) (iZ U wG) ⟨U,U⟩) ?_;rintro v' h' ⟨rfl,rfl⟩;obtain⟨i1,c9,fc,pP⟩:=EB;have ad0:cs.length=acc.length*4:=by
     obtain⟨a,b,q1,q2,q3⟩:=s1.at (k:=11) U;exact tN q3
    obtain⟨A_,h2,sO,s2⟩:=iw (s1.ae [10,0]) mg c9 xb fc (by omega) U (by decide) (by grind);dsimp only[bringA,getA,aL] at s2;refine au.any U U U (OpR.of (R:=λv h'=>v=A_/\h'=h2) (jc U U sO) ⟨U,U⟩) ?_;rintro v' h' ⟨rfl,rfl⟩;refine za U (zv (zr U (zb U (by exact aM ak) ?_)));refine zm U (zv ?_);have s3:Sat _ (fP cs acc::.cG (.sl wid 0 b.length Cl) b::_):=s2.ae [11,2];have s4:=s3.two (C:=fP (cs++[.int .i64 n,.int .i64 0,.bool true,.sl wid 0 b.length Cl]) (acc++[⟨n,0,true,b⟩])) (bf.tf _ _) (bf.cG _ _) λa b q1 q2=>Ev q1 ⟨⟨⟨U,U,U⟩,q2⟩,aa⟩;have s5:=eM.2 ⟨dv,s4.ae [6,6]⟩;have s6:=fX.2 ⟨nv,s5.ae [6,6]⟩;have s7:=(((s6.ae [3,2,0,0,2,2,2,2]).del 10).del 9).del 8;dsimp only[bringA,getA,aL] at s7;refine ih (i+1) (acc++[⟨n,0,true,b⟩]) _ _ ah _ _ Q (by omega) uX uq (by grind) s7 ⟨U,U,U,U,U,aa⟩ (λe c' I E' h' ht he l2 l3 s' => ?_) (λc' I E' h' VB VC ht hl dY s' => ?_)
    .exact hr e _ I E' h' (.whole n _ ε w b ah e c' I jl hb hd ht) he l2 l3 s'
    .refine hx (⟨n,0,true,b⟩::c') I E' h' VB VC (.whole n _ ε w b ah 0 c' I jl hb hd ht) (by grind) dY ?_<;>grind
theorem P7 (hT:W told)(s:Sat h (iS g a now cK::gM a p q r op data aQ::gE r p q ε.1::dF q p ε.2.1::bX p ε.2.2::S))(b_:lq ε)(hw:dH ε<=268435456)(I:∀e∈now,e.2.length=512)(hm:now.length<=65536)(hk:∀n∈now.map (·.1),(Lit.int .i64 n).wf=true):
  Call ⟨Tryz.prog,told⟩ 58 [.ptr g 0] h λv h'=>∃e c ah,mQ now (gK now) ε e c ah /\
   ((e≠0/\v=.aV [.aZ,.int .i64 e]/\Sat h' (iS g a now cK::gM a p q r op data aQ::gE r p q ah.1::dF q p ah.2.1::bX p ah.2.2::S)) \/
    (e=0/\c.length<=33554432/\∃av cs,v=.aV [av,.int .i64 0]/\Sat h' (.arr 4 av cs::fP cs c::iS g a now cK::gM a p q r op data aQ::gE r p q ah.1::dF q p ah.2.1::bX p ah.2.2::S))):=by
 have hl:(gK now).length=now.length:=by rw[gK,(jb _).length_eq,cj]
 refine Call.of_wp (hT.free _ U) Tryz.func58 U U (zK 13 U (zc U (SI hT s (by omega) hk) ?_));intro kv h s;refine zo U (aC U U U (s.fq (n:=(gK now).length) (j:=0) U (by simp[jA]) (by decide) dm)) ?_;refine zk 2 U (WP.block ?_);have s1:=(((s.ir aa).lJ (k:=4)).eD λa b q=>q).ae [0,0,1,1,1,1,1,0];refine K2 hT (ks:=gK now) (now:=now) (by omega) (λn hn => ?_) I (gK now).length 0 [] .aZ [] ε _ _ _ (by omega) b_ hw (by simp) s1 ⟨U,U,U,U,U,aa⟩ (λe c ah E' h' hr he l2 l3 s' => ?_) (λc ah E' h' av cs hr gn dY s' => ?_)
 .have:n∈now.map (·.1):=(jb _).mem_iff.1 hn;cases hq:lookL n now<;>grind[vn]
 .exact⟨aa,_,AH l2 l3,e,c,ah,hr,.inl ⟨he,U,s'⟩⟩
 .have s:=s';exact WP.has dY (zK 6 U (WP.ret ⟨aa,_,U,0,c,ah,hr,.inr ⟨U,by omega,_,_,U,s⟩⟩))
end
theorem Cn {n:Nat}(I:cJ b=true): (e_ b n).length=512:=by
 have h1:=Aw (n:=n) (jU I);rw[e_,bF (by rw[cO];omega),h1]
def kH (π:Pl)(n:Int)(b:List Nat)(bj:Nat): Int×Pl :=
 (if (mY π n b bj).1=0 then(unpinF (mY π n b bj).2 n).1 else(mY π n b bj).1,(unpinF (mY π n b bj).2 n).2)
def H6 (π:Pl)(n:Int)(i:Nat)(f:Fm)(b:List Nat)(bj:Nat): Pl :=
 { π with aj:=π.aj.set i { f with b:=e_ b bj,changed:=true,pins:=0 },eu:=cD n (oH π n bj,true) π.eu }
theorem Gi {f:Fm}(hl:lookL n π.bW=some (i:Int))(I:π.aj[i]?=some f)(hp:f.pins=1)(hg:cJ b=true): kH π n b bj=(0,H6 π n i f b bj):=by
 have h1:=(wH hl I hp).1;have hi:=(List.getElem?_eq_some_iff.1 I).1;have e1:mY π n b bj=(0,{ π with aj:=π.aj.set i { f with b:=e_ b bj,changed:=true },eu:=cD n (oH π n bj,true) π.eu }):=by
  simp only[mY,h1,I,hg,Bool.true_eq_false,gP]
 have e2:=(wH (π:={ π with aj:=π.aj.set i { f with b:=e_ b bj,changed:=true },eu:=cD n (oH π n bj,true) π.eu }) (n:=n) (f:={ f with b:=e_ b bj,changed:=true }) hl (jN hi) hp).2;simp only[kH,e1,e2,dG,List.set_set];rfl
theorem SJ {f:Fm}(hl:lookL n π.bW=some (i:Int))(I:π.aj[i]?=some f)(hp:f.pins=1)(hg:cJ b=false): kH π n b bj=(4,{ π with aj:=π.aj.set i { f with pins:=0 } }):=by
 have h1:=(wH hl I hp).1;have e1:mY π n b bj=(4,π):=by simp only[mY,h1,I,hg,dG]
 have e2:=(wH hl I hp).2;simp only[kH,e1,e2];rfl
theorem Zs (h:π.Ok): (mY π n b bj).2.Ok:=by
 unfold mY;split
 .exact h
 .split
  .exact h
  .rename_i f hf;have hm:=aI hf;split
   .exact h
   .rename_i I;have I:cJ b=true:=by simpa using I
    exact h.set h.bW (by simp only[Cn I];omega) (h.pins f hm)
theorem ig.put (hr:ig ε n 0 b0 ah)(h:lq ε): lq ((kH ah.1 n b bj).2,ah.2)/\Am.dH ((kH ah.1 n b bj).2,ah.2)<=Am.dH ε+1/\(cJ b=true->(kH ah.1 n b bj).1=0):=by
 have I:=hr.ok h.ok h.pins;have vt:=(hr.full h.ok.dk h.full).1;obtain⟨i,f,h1,h2,h3,h4,h5⟩:=hr.at h.pins;have hm:=aI h2;have AI:=hr.dH;cases hg:cJ b with
 |true =>
  rw[Gi h1 h2 h3 hg];refine⟨⟨⟨I.pl.set I.pl.bW (by simp only[Cn hg];omega) (by simp),I.lg,I.dk⟩,h5 _ U,vt.set h2 U λ_=>Cn hg⟩,?_,λ_=>U⟩;have h6:=oQ (g:={ f with b:=e_ b bj,changed:=true,pins:=0 }) h2;simp only[Bool.toNat_true] at h6;simp only[Am.dH,H6] at AI ⊢;omega
 |false =>
  rw[SJ h1 h2 h3 hg];refine⟨⟨⟨I.pl.set I.pl.bW (I.pl.len f hm) (by simp),I.lg,I.dk⟩,h5 _ U,vt.set h2 U λhl=>hl⟩,?_,λh=>by cases h⟩;have h6:=oQ (g:={ f with pins:=0 }) h2;simp only[Am.dH] at AI h6 ⊢;omega
inductive PtR (now:List (Int×List Nat))(bj:Nat): List Int->bk->Int->bk->Prop where
 |nil (ε:bk):PtR now bj [] ε 0 ε
 |mu (n:Int) (l:List Int) (ε:bk) (e:Int) (b:List Nat) (ah:bk) (hr:ig ε n e b ah) (he:e≠0):PtR now bj (n::l) ε e ah
 |bad (n:Int) (l:List Int) (ε:bk) (b0 b:List Nat) (ah:bk) (hr:ig ε n 0 b0 ah) (hb:lookL n now=some b) (he:(kH ah.1 n b bj).1≠0):PtR now bj (n::l) ε (kH ah.1 n b bj).1 ((kH ah.1 n b bj).2,ah.2)
 |put (n:Int) (l:List Int) (ε:bk) (b0 b:List Nat) (ah:bk) (e:Int) (mh:bk) (hr:ig ε n 0 b0 ah) (hb:lookL n now=some b) (he:(kH ah.1 n b bj).1=0) (ht:PtR now bj l ((kH ah.1 n b bj).2,ah.2) e mh):PtR now bj (n::l) ε e mh
theorem PtR.qN {l:List Int}(hr:PtR now bj l ε e ah)(h:lq ε): lq ah:=by
 induction hr with
 |nil ε=>exact h
 |mu n l ε e b ah hr he=>exact⟨hr.ok h.ok h.pins,hr.N_ he h.pins,(hr.full h.ok.dk h.full).1⟩
 |bad n l ε b0 b ah hr hb he=>exact(hr.put h).1
 |put n l ε b0 b ah e I hr hb he ht ih=>exact ih (hr.put h).1
theorem PtR.dH {l:List Int}(hr:PtR now bj l ε e ah)(h:lq ε): Am.dH ah<=Am.dH ε+l.length:=by
 induction hr with
 |nil ε=>exact aH _
 |mu n l ε e b ah hr he=>have:=hr.dH;omega
 |bad n l ε b0 b ah hr hb he=>have:=(hr.put (b:=b) (bj:=bj) h).2.1;simp only[aX];omega
 |put n l ε b0 b ah e I hr hb he ht ih=>have h1:=ih (hr.put h).1;have:=(hr.put (b:=b) (bj:=bj) h).2.1;simp only[aX];omega
theorem ac6 {h:H}{c:Nat}{es:jq}{kt et:TypeId}{k:IntKind}{z:V}(hg:T.get h.tr id=some (.map (es.map R5) c))(he:lookE n es=some u)(hu:Tryz.prog.underlying t=some (.map kt et))(hk:Tryz.prog.underlying kt=some (.int k))(hz:zeroT Tryz.prog et=some z):
  gA Tryz.prog h t (.map id) (.int .i64 n) false=some u:=by
 have hi:=uw (n:=n) es 0;simp only[gA,lookupV,hu,hk,hz,hg,keyBeq,fe,ag,y7];cases I:idxE n es 0 with
 |none=>rw[I] at hi;rw[he] at hi;cases hi
 |some q=>rw[I] at hi;rw[he] at hi;obtain⟨j,w⟩:=q;have:=bB hi;simp only at this;subst this;rfl
section
variable {told:cu} {h:H} {p:Nat} {op v:V} {cK:Bool}
noncomputable def dnL : Code:=cX [1,1,1,1,1,1,1,1,0,1,0,0] ((Tryz.f18.body).getD .skip)
theorem SK (hT:W told){ks:List Int}{dv:V}{wJ c:Nat}{es:jq}(XP:ks.length<=65536)(sR:∀n∈ks,(lookL n now).isSome=true)(qZ:∀e∈now,e.2.length=512): ∀(j i:Nat) (ε:bk) (h:H) (E:List (Nat×V)) (Q:Ex->List (Nat×V)->H->Prop),i+j=ks.length ->
  lq ε->dH ε+j<=268435456 ->
  Sat h (pt g (.cells 3 [.ptr a 0,.map wJ,.bool cK] false)::KC wJ es c::jD (λv b=>.cG v b) es now::pt a (.cells 6 (N9 a p q r op dv aQ) false)::gE r p q ε.1::dF q p ε.2.1::bX p ε.2.2::.arr 1 kv (jA ks)::S) ->
  Has E [(0,.ptr g 0),(6,.ptr a 0),(8,.int .u64 (bj:Int)),(73,kv),(74,.int .i64 ks.length),(75,.int .i64 i)] ->
  (∀e ah E' h',PtR now bj (ks.drop i) ε e ah->e≠0->look E' 4=some (.int .u64 0)->look E' 5=some (.int .i64 e)->Sat h' (pt g (.cells 3 [.ptr a 0,.map wJ,.bool cK] false)::KC wJ es c::jD (λv b=>.cG v b) es now::pt a (.cells 6 (N9 a p q r op dv aQ) false)::gE r p q ah.1::dF q p ah.2.1::bX p ah.2.2::S)->Q .ret E' h') ->
  (∀ah E' h',PtR now bj (ks.drop i) ε 0 ah->Has E' [(8,.int .u64 (bj:Int))]->Sat h' (pt g (.cells 3 [.ptr a 0,.map wJ,.bool cK] false)::KC wJ es c::jD (λv b=>.cG v b) es now::pt a (.cells 6 (N9 a p q r op dv aQ) false)::gE r p q ah.1::dF q p ah.2.1::bX p ah.2.2::S)->Q (.exit 1) E' h') ->
  WP ⟨Tryz.prog,told⟩ 118 (.loop dnL) E h Q:=by
 intro j
 induction j with
 |zero =>
  intro i ε h E Q hj I hw s hE hr hx
  refine WP.loop (WP.has hE (zg U (zC U aK (by simp<;>omega) ?_)))
  refine zk 3 U (WP.exit ?_)
  rw[p_ (by omega)] at hx
  exact hx ε _ _ (.nil ε) ⟨U,aa⟩ (s.del 7)
 |succ j ih =>
  intro i ε h E Q hj I hw s hE hr hx
  have hn:ks[i]?=some (ks[i]'(by omega)):=aF _
  have xT:ks[i]'(by omega)∈ks:=Hg _
  have vq:ks.drop i=ks[i]'(by omega)::ks.drop (i+1):=mC (by omega)
  generalize (ks[i]'(by omega))=n at hn xT vq
  have hc:(jA ks)[i]?=some (.int .i64 n):=by simp[jA,hn]
  obtain⟨b,hb⟩:=Option.isSome_iff_exists.1 (sR n xT)
  have JO:=qZ _ (oo hb)
  simp only at JO
  rw[vq] at hr hx
  obtain⟨id,off,e1,e2⟩:=ki (P:=Tryz.prog) s (k:=7) U hc dm lI
  refine WP.loop (WP.has hE (zg U (zB U aK (by simp<;>omega) ?_)))
  refine zk 5 U (WP.block (zg U (zo U (bM (r:=.ptr id off) U U e1) (zl U (e2 _ bT) (zk 7 U (zY s 3 vN Dr U (zm U (zc U (Sz (n:=n) hT (s.ae [4,4,4]) I.ok.pl I.pins I.ok.lg I.ok.dk (by have:=tQ (ε:=ε);omega)) ?_))))))))
  rintro v h ⟨e,b0,ah,Gj,(⟨he,rfl,s⟩|⟨rfl,u0,rfl,s⟩)⟩
  .dsimp only[bringA,getA,aL] at s
   refine zk 9 U (zB U aE (by simp;exact he) ?_)
   exact zk 8 U (WP.ret (hr e ah _ _ (.mu n _ ε e b0 ah Gj he) he U U ((s.ae [3,3,3,3,0,0,0]).del 7)))
  .dsimp only[bringA,getA,aL] at s
   have s:=s.drop
   have uR:=Gj.put (b:=b) (bj:=bj) I
   have jK:=Gj.ok I.ok I.pins
   refine zk 9 U (zC U aE (U) (zk 4 U ?_))
   have s1:Sat h (jD (λv b=>.cG v b) es now::_):=s.ae [5]
   obtain⟨_,_,_,_,q3⟩:=s1.at (k:=0) U
   rcases vo (n:=n) q3 with⟨_,q4⟩|⟨u,b',g1,g2,_⟩
   .rw[hb] at q4;cases q4
   rw[hb] at g2
   have:=bB g2
   subst this
   have s2:=(s1.dup (bf.U9 (λ_ _=>bf.cG _ _) _ _)).eD (B:=.cG u b) λa' b' h'=>by
    rcases vo (n:=n) h' with⟨_,q4⟩|⟨u',b'',g1',g2',g3'⟩
    .rw[hb] at q4;cases q4
    .rw[g1] at g1';rw[hb] at g2'
     have h5:=bB g1'
     have h6:=bB g2'
     subst h5;subst h6
     exact g3'
   dsimp only[bringA,getA,aL] at s2
   obtain⟨uid,afs,aft,rfl⟩:=iC (s2.aD (k:=0) U (bC _ _))
   have s:=s2.ae [2,0]
   dsimp only[bringA,getA,aL] at s
   have s0:=s
   refine WP.drawn [af,af,af,af,af,af,af,af,af,af,af,af,af,af] U (by kernel_rfl) (by kernel_rfl) ?_
   refine zM U (zN U (zF U (vN _ _) (zL U (s.ld (k:=7) U Dr U) (zM U (zM U (zN U (zF U (tH _ _) (zL U (s.ld (k:=5) U qS U) (zM U (zO U (kL U U (ac6 (s.row (k:=6) U) g1 uy b9 lQ)) (zM U (aB.any U U U U (OpR.call U U U U (Zm (n:=n) (bj:=bj) (b:=b) hT s (bC _ _) jK.pl (by omega))) ?_))))))))))))
   rintro v h ⟨rfl,s⟩
   refine zA U ?_
   refine aB.nil ⟨⟨aa,aa,aa,aa,aa,aa,aa,aa,aa,aa,aa,aa,aa,aa,aa⟩,?_⟩
   refine zK 5 U (zY s 7 vN Dr U (zm U (zc U (KX (n:=n) hT s (Zs jK.pl)) ?_)))
   rintro v h ⟨rfl,s⟩
   refine zk 5 U ?_
   by_cases hg:(mY ah.1 n b bj).1=0
   .have Gk:(kH ah.1 n b bj).1=(unpinF (mY ah.1 n b bj).2 n).1:=by simp only[kH,hg,dG]
    have Ba:(kH ah.1 n b bj).2=(unpinF (mY ah.1 n b bj).2 n).2:=rfl
    rw[<-Gk,<-Ba] at *
    refine zB U cS (by simp;exact hg) ?_
    refine zk 9 U ?_
    by_cases he:(kH ah.1 n b bj).1=0
    .skip
     refine zC U aE (by simp;exact he) ?_
     refine zv (zj U (WP.skip (zr U (zb U (by exact aM ak) ?_))))
     refine zm U (zv ?_)
     have s9:=(s.ae [5,5,2,4,0,1,1,1]).del 8
     refine ih (i+1) ((kH ah.1 n b bj).2,ah.2) _ _ Q (by omega) uR.1 (by have h9:dH ((kH ah.1 n b bj).2,ah.2)<=dH ε+1:=uR.2.1;omega) s9 ⟨U,U,U,U,U,U,aa⟩ (λe mh E' h' ht su l4 l5 s' => ?_) (λmh E' h' ht dY s' => ?_)
     .exact hr e mh E' h' (.put n _ ε b0 b ah e mh Gj hb he ht) su l4 l5 s'
     .exact hx mh E' h' (.put n _ ε b0 b ah 0 mh Gj hb he ht) dY s'
    .skip
     refine zB U aE (by simp;exact he) ?_
     exact zk 8 U (WP.ret (hr _ _ _ _ (.bad n _ ε b0 b ah Gj hb he) he U U (((s.ae [5,5,2,4,0,1,1,1]).del 8).del 7)))
   .have Gk:(kH ah.1 n b bj).1=(mY ah.1 n b bj).1:=by simp only[kH,hg,gP]
    have Ba:(kH ah.1 n b bj).2=(unpinF (mY ah.1 n b bj).2 n).2:=rfl
    rw[<-Gk] at hg
    refine zC U cS (by simp;rw[<-Gk];exact hg) ?_
    refine zk 6 U (zB U aE (by simp;rw[<-Gk];exact hg) ?_)
    refine zk 8 U (WP.ret (hr _ _ _ _ (.bad n _ ε b0 b ah Gj hb hg) hg U (by rw[Gk];rfl) ?_))
    exact((s.ae [5,5,2,4,0,1,1,1]).del 8).del 7
end
theorem A9.fit {now:List Nat}{l:List fU}(hr:A9 pg was now i l)(hn:now.length=512)(h0:0<=pg)(h1:pg<65536): ∀c∈l,c.Ok/\c.b.length<=512:=by
 induction hr with
 |done i h=>intro c I;cases I
 |skip i l h he hr ih=>exact ih
 |take i e l h2 h3 _ _ hr ih =>
  intro c I;rcases List.mem_cons.1 I with rfl|I
  .have hl:((now.take e).drop i).length=e-i:=by simp;omega
   refine⟨⟨h0,h1,by simp,by simp only;omega,by simp only[hl];omega,by simp⟩,by simp only[hl];omega⟩
  .exact ih c I
theorem SG.fit {now:List Nat}{l:List fU}(hr:SG pg was now l)(hn:now.length=512)(h0:0<=pg)(I:pg<65536): ∀c∈l,c.Ok/\c.b.length<=512:=by
 obtain⟨m,h2,rfl⟩:=hr;split
 .intro c hc;rw[List.mem_singleton.1 hc];exact⟨⟨h0,I,by simp,by simp,by simp,by simp⟩,by simp⟩
 .exact h2.fit hn h0 I
theorem mQ.fit {l:List Int}{cs:List fU}(hr:mQ now l ε e cs ah)(qZ:∀x∈now,x.2.length=512)(hl:∀n∈l,0<=n/\n<65536): ∀c∈cs,c.Ok/\c.b.length<=512:=by
 induction hr with
 |nil ε=>intro c hc;cases hc
 |err n l ε e b ah hr he=>intro c hc;cases hc
 |part n l ε was b ah c e cs mh hr hb hd hc gn ht ih =>
  intro x I;have hn:=hl n a_;rcases List.mem_append.1 I with I|I
  .exact hc.fit (qZ _ (oo hb)) hn.1 hn.2 x I
  .exact ih (λm hm=>hl m (bw _ hm)) x I
 |whole n l ε was b ah e cs mh hr hb hd ht ih =>
  intro x I;have hn:=hl n a_;have hb:=qZ _ (oo hb);rcases List.mem_cons.1 I with rfl|I
  .exact⟨⟨hn.1,hn.2,by simp,by simp,by simp only at hb ⊢;omega,λ_=>⟨U,hb⟩⟩,by simp only at hb ⊢;omega⟩
  .exact ih (λm hm=>hl m (bw _ hm)) x I
theorem xq : ∀(f n:Nat),(digits f n).length<=f+1:=by
 intro f;induction f with
 |zero=>intro n;simp[digits]
 |succ f I =>
  intro n;unfold digits;split
  .simp
  .have:=I (n/128);simp only[aX];omega
theorem abo {c:fU}(I:c.b.length<=512): (pR c).length<=543:=by
 have h1:=xq 9 c.bQ.toNat;have h2:=xq 9 c.pos.toNat;have h3:=xq 9 c.b.length;simp only[pR,aN,aX,bY];omega
theorem Zt : ∀ {l:List fU},(∀c∈l,c.b.length<=512)->(l.flatMap pR).length<=543*l.length:=by
 intro l;induction l with
 |nil=>intro _;simp
 |cons c l I =>
  intro h;have h1:=abo (h c a_);have h2:=I λx hx=>h x (bw _ hx);simp only[eG,aN,aX];omega
theorem Zu {l:List fU}(hl:l.length<=33554432)(h:∀c∈l,c.Ok/\c.b.length<=512)(F9:tx<18446744073709551616)(XJ:pv<18446744073709551616)(Cc:nx<18446744073709551616)(hd:data.length<=35184372088832): F_ tx pv nx data l:=by
 have h2:=Zt λc I=>(h c I).2;refine⟨⟨by omega,λc I=>by have:=(h c I).2;omega,λc I => ?_⟩,F9,XJ,Cc,by omega⟩;have:=(h c I).1;simp only[fU.Ok] at this;omega
theorem VD {l:List fU}{kd:Int}(I:1<=kd/\kd<=9)(h:∀c∈l,c.Ok/\c.b.length<=512): iQ kd l=true:=by
 simp only[iQ,bV,kS,nB];exact⟨I,λc hc=>(h c hc).1⟩
inductive uC (ε:bk)(now:List (Int×List Nat))(kd:Int)(tx pv nx:Nat)(data:List Nat)(tg:Nat): Nat->Int->Bool->bk->Prop where
 |arg (h:¬(1<=kd/\kd<=7)\/0<tg):uC ε now kd tx pv nx data tg 0 1 false ε
 |dead (h1:1<=kd) (h2:kd<=7) (h3:tg=0) (h:ε.2.2.dead=true):uC ε now kd tx pv nx data tg 0 9 false ε
 |tf (e:Int) (c:List fU) (ah:bk) (h1:1<=kd) (h2:kd<=7) (h3:tg=0) (h:ε.2.2.dead=false) (hc:mQ now (gK now) ε e c ah) (he:e≠0):uC ε now kd tx pv nx data tg 0 e false ah
 |app (c:List fU) (ah:bk) (h1:1<=kd) (h2:kd<=7) (h3:tg=0) (h:ε.2.2.dead=false) (hc:mQ now (gK now) ε 0 c ah) (he:(b6 ah.2 kd tx pv nx data c).1.2≠0):uC ε now kd tx pv nx data tg 0 (b6 ah.2 kd tx pv nx data c).1.2 false (ah.1,(b6 ah.2 kd tx pv nx data c).2)
 |put (c:List fU) (ah:bk) (e:Int) (mh:bk) (h1:1<=kd) (h2:kd<=7) (h3:tg=0) (h:ε.2.2.dead=false) (hc:mQ now (gK now) ε 0 c ah) (ha:(b6 ah.2 kd tx pv nx data c).1.2=0) (hp:PtR now (b6 ah.2 kd tx pv nx data c).1.1 (gK now) (ah.1,(b6 ah.2 kd tx pv nx data c).2) e mh) :
   uC ε now kd tx pv nx data tg (if e=0 then(b6 ah.2 kd tx pv nx data c).1.1 else 0) e true mh
structure xw (ε ah:bk): Prop where
 base:ah.2.1.base=ε.2.1.base
 b:ah.2.1.b=ε.2.1.b
 dS:ah.2.1.dS=ε.2.1.dS
 check:ah.2.1.check=ε.2.1.check
 log:ah.2.2.log=ε.2.2.log
 room:ah.2.2.room=ε.2.2.room
 bG:ah.2.2.bG=ε.2.2.bG
theorem xw.refl (ε:bk): xw ε ε:=⟨U,U,U,U,U,U,U⟩
theorem xw.trans {a b c:bk}(x:xw a b)(y:xw b c): xw a c :=
 ⟨y.base.trans x.base,y.b.trans x.b,y.dS.trans x.dS,y.check.trans x.check,y.log.trans x.log,y.room.trans x.room,y.bG.trans x.bG⟩
theorem qi : δ.jz.2.log=δ.log/\δ.jz.2.room=δ.room/\δ.jz.2.bG=δ.bG:=by
 unfold Dk.jz;split
 .simp
 .split<;>exact⟨U,U,U⟩
theorem AJ : (δ.eP n b).2.log=δ.log/\(δ.eP n b).2.room=δ.room/\(δ.eP n b).2.bG=δ.bG:=by
 unfold Dk.eP;split
 .simp
 .split
  .simp
  .split<;>exact⟨U,U,U⟩
theorem K3 {x:LD}{n:Nat}: xw (π,x) (π,(cV x n).2):=by
 unfold cV;split
 .exact xw.refl _
 .split
  .exact⟨U,U,U,U,qi.1,qi.2.1,qi.2.2⟩
  .exact⟨U,U,U,U,qi.1,qi.2.1,qi.2.2⟩
theorem xw.to (h:xw ε ah): xw ε (π,ah.2):=⟨h.base,h.b,h.dS,h.check,h.log,h.room,h.bG⟩
structure oC (R:LD->Prop): Prop where
 force:∀(x:LD) (n:Nat),R x->R (cV x n).2
 write:∀(x:LD) (n:Int) (b:List Nat),R x->R (x.1,(x.2.eP n b).2)
section
variable {cK:Bool} {l:List Int} {cs:List fU}
theorem oC.out (h:oC R)(I:R ε.2): R (outF ε i).2.2:=by
 unfold outF;split
 .exact I
 .split
  .exact I
  .split
   .exact I
   .split
    .exact h.force _ _ I
    .split
     .exact h.write _ _ _ (h.force _ _ I)
     .exact h.write _ _ _ (h.force _ _ I)
theorem oC.mu (h:oC R)(hr:ig ε n e b ah)(I:R ε.2): R ah.2:=by
 cases hr<;>grind[out]
theorem oC.rd (h:oC R)(hr:o8 ε n e b ah)(I:R ε.2): R ah.2:=by
 cases hr<;>grind[mu]
theorem oC.Co (h:oC R)(hr:GRd ε now cK n e b ah)(I:R ε.2): R ah.2:=by
 cases hr with
 |arg hn=>exact I
 |cK _ _ _=>exact I
 |own b h1 h2 _ hl=>exact I
 |read e b ah h1 h2 _ hl hr=>exact h.rd hr I
theorem oC.K4 (h:oC R)(hr:wI ε now cK n b e aJ ah)(I:R ε.2): R ah.2:=by
 cases hr with
 |may e c ah hr he=>exact h.Co hr I
 |bad c ah hr hg=>exact h.Co hr I
 |done c ah hr hg=>exact h.Co hr I
theorem oC.ch (h:oC R)(hr:mQ now l ε e cs ah): R ε.2->R ah.2:=by
 induction hr with
 |nil ε=>simp
 |err n l ε e b ah hr he=>exact h.rd hr
 |part n l ε was b ah c e cs I hr hb hd hc gn ht ih=>exact λhx=>ih (h.rd hr hx)
 |whole n l ε was b ah e cs I hr hb hd ht ih=>exact λhx=>ih (h.rd hr hx)
theorem oC.pt (h:oC R)(hr:PtR now bj l ε e ah): R ε.2->R ah.2:=by
 induction hr<;>grind[mu]
theorem SL (ε:bk): oC λy=>xw ε (ε.1,y) :=
 ⟨λ_ _ h=>h.trans K3,λ_ _ _ h=>h.trans ⟨U,U,U,U,AJ.1,AJ.2.1,AJ.2.2⟩⟩
theorem mQ.same (hr:mQ now l ε e cs ah): xw ε ah:=((SL ε).ch hr (xw.refl ε)).to
end
theorem VE {m:Nat}: ∀ {l:List Nat},l.Pairwise (· < ·)->(∀s∈l,s<m)->l.length<=m:=by
 intro l I hl;have key:∀(l:List Nat) (k:Nat),l.Pairwise (· < ·)->(∀s∈l,k<=s/\s<m)->k+l.length<=m\/l=[]:=by
  intro l;induction l with
  |nil=>simp
  |cons x l ih =>
   intro k I hl;simp only[yx] at I;have hx:=hl x a_;rcases ih (x+1) I.2 (λs hs=>⟨I.1 s hs,(hl s (bw _ hs)).2⟩) with h|rfl<;>grind
 rcases key l 0 I (λs hs=>⟨gG _,hl s hs⟩) with h|rfl
 .omega
 .simp
theorem nW (x:LD)(kd:Int)(tx pv nx:Nat)(data:List Nat)(c:List fU):
  (∃e:Int,e≠0/\((e=1/\iQ kd c=false)\/(e=2/\1048576<(gY kd tx pv nx data c).length)\/(e=9/\x.2.dead=true)\/(e=7/\x.2.room<x.2.log.length+(iR x.1 kd tx pv nx data c).length))/\b6 x kd tx pv nx data c=((0,e),x)) \/
  (x.2.dead=false/\x.2.cT=0/\b6 x kd tx pv nx data c=((0,9),(x.1,{ x.2.die with tail:=iR x.1 kd tx pv nx data c }))) \/
  (iQ kd c=true/\(gY kd tx pv nx data c).length<=1048576/\x.2.dead=false/\x.2.log.length+(iR x.1 kd tx pv nx data c).length<=x.2.room/\x.2.cT≠0 /\
   b6 x kd tx pv nx data c=((x.1.base+x.1.b.length,0),(x.1.app (iR x.1 kd tx pv nx data c),{ x.2.gq with log:=x.2.log++iR x.1 kd tx pv nx data c }))):=by
 by_cases I:iQ kd c=false
 .grind[b6]
 .by_cases hb:1048576<(gY kd tx pv nx data c).length
  .grind[b6]
  .by_cases hd:x.2.dead=true
   .grind[Dk.tO,b6]
   grind[Dk.tO,b6]
theorem D9 {x:LD}{kd:Int}{c:List fU}(vr:x.1.Ok)(I:x.2.Ok)(hs:x.1.b=x.2.log)(hz:x.1.base+x.1.b.length+1048584<=1099511627776):
  (b6 x kd tx pv nx data c).2.1.Ok/\(b6 x kd tx pv nx data c).2.2.Ok/\(b6 x kd tx pv nx data c).2.1.b=(b6 x kd tx pv nx data c).2.2.log/\(b6 x kd tx pv nx data c).2.1.base=x.1.base/\(b6 x kd tx pv nx data c).2.1.b.length<=x.1.b.length+1048584 /\
  (b6 x kd tx pv nx data c).2.2.waiting=x.2.waiting/\(b6 x kd tx pv nx data c).1.1<1099511627776:=by
 have hlen:(iR x.1 kd tx pv nx data c).length=8+(gY kd tx pv nx data c).length:=Ax _ _;rcases nW x kd tx pv nx data c with⟨e,_,_,h⟩|⟨hd,hf,h⟩|⟨hg,hb,hd,dL,hf,h⟩
 .grind
 .rw[h];exact⟨vr,⟨I.cT,I.len,I.room,I.now,I.bG,I.gQ,I.many⟩,hs,U,C0 _ _,U,by simp⟩
 .rw[h];generalize iR x.1 kd tx pv nx data c=rc at hlen dL;have ae5:=I.room;have jE:x.1.b.length=x.2.log.length:=by rw[hs]
  have hl:(x.1.b++rc).length=x.1.b.length+rc.length:=aN;have iJ:(x.2.log++rc).length=x.2.log.length+rc.length:=aN;refine⟨⟨?_,?_,?_,?_,?_,?_,vr.check⟩,⟨I.gq.cT,?_,I.room,I.now,I.bG,?_,I.many⟩,?_,U,?_,U,?_⟩
  .show x.1.base+(x.1.b++rc).length<=_;omega
  .have h1:=VE vr.HU vr.low;show(x.1.dS++[x.1.b.length]).length<=_;grind
  .intro s hm;show s<(x.1.b++rc).length;rcases List.mem_append.1 (show s∈x.1.dS++[x.1.b.length] from hm) with hm|hm
   .have:=vr.low s hm;omega
   .grind
  .show(x.1.dS++[x.1.b.length]).Pairwise (·< ·);rw[yt];refine⟨vr.HU,List.pairwise_singleton _ _,λa ha b hb => ?_⟩;rw[List.mem_singleton.1 hb];exact vr.low a ha
  .have:=vr.forced;show x.1.forced<=(x.1.b++rc).length;omega
  .show(x.1.b++rc).length<=_;omega
  .grind
  .have:=I.gQ;show x.2.gQ<=(x.2.log++rc).length;omega
  .show x.1.b++rc=x.2.log++rc;rw[hs]
  .show(x.1.b++rc).length<=_;omega
  .grind
theorem wf_i64 (I:0<=n)(h2:n<4294967296): (Lit.int .i64 n).wf=true:=by
 simp only[Lit.wf,bV,kS];have e1:IntKind.min .i64 = -9223372036854775808:=rfl;have e2:IntKind.max .i64=9223372036854775807:=rfl;omega
theorem Zv {kd:Int}{ch:V}(I:dt.beq dt=true)(hc:ch.beq ch=true): (V.agg (qq kd tx pv nx dt ch)).beq (V.agg (qq kd tx pv nx dt ch))=true:=by
 simp only[qq,V.beq,V.beqL,I,hc,fe,sK,C_,kf,ag]
section
variable {told:cu} {h:H} {p:Nat} {op v:V} {cK:Bool}
set_option maxHeartbeats 1000000 in
theorem Zw (hT:W told){kd:Int}{tg:Nat}{ch:V}{ccs:List V}(s:Sat h (iS g a now false::gM a p q r (.ptr g 0) P6 aQ::gE r p q ε.1::dF q p ε.2.1::bX p ε.2.2::X::.arr 4 ch ccs::S))(hX:cy X (cE dt data))(R4:ccs.length=tg*4)(b_:lq ε)(hw:dH ε+65536<=268435456)
 (qZ:∀e∈now,e.2.length=512)(hm:now.length<=65536)(hk:∀n∈now.map (·.1),0<=n/\n<65536)(F9:tx<18446744073709551616)(XJ:pv<18446744073709551616)(Cc:nx<18446744073709551616)(hd:data.length<=35184372088832)(VF:ε.2.1.b=ε.2.2.log)(hz:ε.2.1.base+ε.2.1.b.length+1048584<=1099511627776):
  Call ⟨Tryz.prog,told⟩ 18 [.ptr g 0,.agg (qq kd tx pv nx dt ch)] h λv h'=>∃bj e cl ah,uC ε now kd tx pv nx data tg bj e cl ah/\v=.aV [.int .u64 (bj:Int),.int .i64 e] /\
   Sat h' (iS g a now cl::gM a p q r (cond cl .cf (.ptr g 0)) P6 aQ::gE r p q ah.1::dF q p ah.2.1::bX p ah.2.2::X::S):=by
 have sn:∀n∈now.map (·.1),(Lit.int .i64 n).wf=true:=λn hn=>by
  have:=hk n hn
  exact wf_i64 (by omega) (by omega)
 have wE:=s.uO (j:=6) U
 have A8:=s.aD (k:=5) U hX
 have eO:=B_ (kd:=kd) (tx:=tx) (pv:=pv) (nx:=nx) A8.cells.2 wE.2.1
 have hlen:=s.fq (n:=tg) (j:=6) U R4 (by decide) mg
 have s0:=s
 obtain⟨nv,s⟩:=fX.1 s
 refine Call.of_wp (hT.free _ U) Tryz.func18 U U (zg U (au.cg s U U U (fG U eO) ?_))
 intro p1 h s
 dsimp only[V.cells] at s
 have s:Sat h (pt p1 (.cells 6 (qq kd tx pv nx dt ch) false)::_):=s
 have hlen:=s.fq (n:=tg) (j:=8) U R4 (by decide) mg
 refine zk 7 U (zY s 1 rS BY U (zk 3 U (WP.block (zK 4 U (zf U (Dq _ _) (zh U (o_load U (s.ld (k:=1) U sF U)) (U) (zk 5 U (zY s 0 BZ bT U ?_))))))))
 have fin:∀e:Int,Sat h (iS g a now false::gM a p q r (.ptr g 0) P6 aQ::gE r p q ε.1::dF q p ε.2.1::bX p ε.2.2::X::S):=λe=>((fX.2 ⟨nv,s.ae [1,1]⟩).del 7).del 1
 refine zd U (aq U U aK) ?_ ?_
 .intro hq
  have hq:kd<1:=by simpa using hq
  exact zk 19 U (WP.ret ⟨aa,_,U,0,1,false,ε,.arg (.inl (by omega)),U,fin 0⟩)
 .intro hq
  have hq:1<=kd:=by simp at hq;omega
  refine zm U (zY s 0 BZ bT U ?_)
  refine zd U (aq U U cP) ?_ ?_
  .intro jG
   have jG:7<kd:=by simpa using jG
   exact zk 15 U (WP.ret ⟨aa,_,U,0,1,false,ε,.arg (.inl (by omega)),U,fin 0⟩)
  .intro jG
   have jG:kd<=7:=by simp at jG;omega
   refine zk 2 U (zY s 0 wq HE U (zo U (aC U U U hlen) ?_))
   refine zd U (aq U U cP) ?_ ?_
   .intro I
    have I:0<tg:=by simp at I;omega
    exact zk 9 U (WP.ret ⟨aa,_,U,0,1,false,ε,.arg (.inr I),U,fin 0⟩)
   .intro I
    have I:tg=0:=by simp at I;omega
    obtain⟨dv,s⟩:=eM.1 (s.ae [3])
    dsimp only[bringA,getA,aL] at s
    refine zk 8 U (zY s 0 Ds xX U (zc U (KN hT (s.ae [7])) ?_))
    rintro v h ⟨rfl,rfl⟩
    refine zk 2 U ?_
    cases J7:ε.2.2.dead with
    |true =>
     refine zK 6 U (WP.ret ⟨aa,_,U,?_⟩)
     have s9:=fX.2 ⟨nv,(eM.2 ⟨dv,s⟩).ae [2,2]⟩
     dsimp only[bringA,getA,aL] at s9
     exact⟨0,9,false,ε,.dead hq jG I J7,U,(s9.del 7).del 2⟩
    |false =>
     refine zj U (WP.skip (zg U (za U (zv (zw (zg U (zm U ?_)))))))
     have s9:=fX.2 ⟨nv,(eM.2 ⟨dv,s⟩).ae [2,2]⟩
     dsimp only[bringA,getA,aL] at s9
     have s:=s9.ae [0,0,1,1,1]
     dsimp only[bringA,getA,aL] at s
     refine zc U (P7 hT s b_ (by omega) qZ hm sn) ?_
     rintro v h ⟨e,c,ah,hc,(⟨he,rfl,s⟩|⟨rfl,gn,av,cs,rfl,s⟩)⟩
     .refine au.op U U U (bZ U) ?_
      refine zk 2 U (zf U (wq _ _) ?_)
      refine zS U (by exact s.kz (k:=5) U aa1 U (by decide) U U) (λh s => ?_)
      dsimp only[qq,Nat.reduceAdd,List.set,setA] at s
      refine zk 5 U (zB U aE (by simp;exact he) ?_)
      exact zk 8 U (WP.ret ⟨aa,_,U,0,e,false,ah,.tf e c ah hq jG I J7 hc he,U,(s.del 7).del 5⟩)
     .have XO:=s.uO (j:=0) U
      have K5:=hc.qN b_
      have hcp:=hc.dH
      have y9:=hc.same
      have hap:=D9 (x:=ah.2) (kd:=kd) (tx:=tx) (pv:=pv) (nx:=nx) (data:=data) (c:=c) K5.ok.lg K5.ok.dk (by rw[y9.b,y9.log];exact VF) (by rw[y9.base,y9.b];exact hz)
      have dL:=hc.fit qZ λn hn=>hk n ((jb _).mem_iff.1 hn)
      refine zk 3 U (zf U (wq _ _) (zS U (s.kz (k:=7) U aa1 U (show 0+5<6 by decide) XO.1 XO.2.1) ?_))
      intro h s
      dsimp only[qq,Nat.reduceAdd,List.set,setA] at s
      refine zk 5 U (zC U aE (U) ?_)
      obtain⟨dv,s⟩:=eM.1 (s.ae [3])
      dsimp only[bringA,getA,aL] at s
      have s:=s.ae [6,6,7,2,2,0,3]
      dsimp only[bringA,getA,aL] at s
      refine zv (zj U (WP.skip (zw ?_)))
      have s0:=s
      have ad1:=nO A8
      have hrb:=Zv (kd:=kd) (tx:=tx) (pv:=pv) (nx:=nx) ad1 XO.2.2
      refine WP.drawn [af,af,af,af,af,af,af,af,af,af,af] U (by kernel_rfl) (by kernel_rfl) ?_
      refine zM U (zN U (zF U (NJ _ _) (zL U (s.ld (k:=5) U U0 U) (zL U (s.b7 (k:=6) U HF Ap) (aB.any U U U U (OpR.call U U U U (Vn (kd:=kd) (tx:=tx) (pv:=pv) (nx:=nx) hT s hX (Zu gn dL F9 XJ Cc hd) K5.ok.lg K5.ok.dk)) ?_)))))
      rintro v h ⟨rfl,s⟩
      refine zM U (zO U (og U U) (zO U (og U U) (zA U (zA U ?_))))
      refine aB.nil ⟨⟨aa,aa,aa,aa,aa,aa,aa,aa,aa,aa,aa,aa⟩,?_⟩
      refine zK 4 U ?_
      have s9:=eM.2 ⟨dv,s.ae [5,6]⟩
      have s:=((((s9.ae [7,0,6,0,0,0]).del 9).del 8).del 7).del 6
      by_cases he:(b6 ah.2 kd tx pv nx data c).1.2=0
      .skip
       refine zC U aE (by simp;exact he) ?_
       refine zk 6 U (zc U (SF hT s) ?_)
       rintro v h ⟨rfl,s⟩
       obtain⟨nv,s⟩:=fX.1 s
       obtain⟨wJ,rfl⟩:=KD s (j:=1) U
       refine zk 6 U (zY s 0 tH qS U (zc U (ED hT s) ?_))
       rintro v h ⟨kb,rfl,s⟩
       refine zc U (Ci hT (s.ae [0,1]) (by decide) (by omega) sn) ?_
       intro kv h s
       have hl:(gK now).length=now.length:=by rw[gK,(jb _).length_eq,cj]
       refine zo U (aC U U U (s.fq (n:=(gK now).length) (j:=0) U (by simp[jA]) (by decide) dm)) ?_
       refine zk 2 U (WP.block ?_)
       obtain⟨afu,es,clock,VG,hb,fE,s⟩:=xj.1 (s.ae [2])
       injection VG with VG
       subst VG
       obtain⟨dv,s⟩:=eM.1 (s.ae [5])
       have s:=s.ae [6,2,2,0,3,3,3,1]
       refine SK (op:=.cf) (dv:=dv) hT (ks:=gK now) (now:=now) (bj:=(b6 ah.2 kd tx pv nx data c).1.1) (by omega) (λn hn => ?_) qZ (gK now).length 0 (ah.1,(b6 ah.2 kd tx pv nx data c).2) _ _ _ (by omega) ?_ ?_ s ⟨U,U,U,U,U,U,aa⟩ (λe mh E' h' hp su l4 l5 s' => ?_) (λmh E' h' hp dY s' => ?_)
       .have:n∈now.map (·.1):=(jb _).mem_iff.1 hn
        cases hq:lookL n now with
        |some _=>rfl
        |none=>exact absurd this (vn.1 hq)
       .exact⟨⟨K5.ok.pl,hap.1,hap.2.1⟩,K5.pins,K5.full⟩
       .have e1:dH (ah.1,(b6 ah.2 kd tx pv nx data c).2)=dH ah:=by simp only[dH,hap.2.2.2.2.2.1]
        rw[e1,hl];omega
       .rw[gi] at hp
        have e4:look E' 4=some (.int .u64 ((0:Nat):Int)):=l4
        refine⟨aa,_,AH e4 l5,0,e,true,mh,?_,U,?_⟩
        .have:=uC.put (data:=data) c ah e mh hq jG I J7 hc he hp
         rwa [ai su] at this
        .have s3:=eM.2 ⟨dv,s'.ae [3,6]⟩
         have s4:=xj.2 ⟨wJ,es,clock,U,hb,fE,s3.ae [2,2]⟩
         exact fX.2 ⟨.map wJ,(s4.ae [2,0,0,0,0,0,1]).del 7⟩
       .rw[gi] at hp
        have s:=s'
        refine WP.has dY (zK 6 U (WP.ret ⟨aa,_,U,?_⟩))
        refine⟨_,0,true,mh,?_,U,?_⟩
        .have:=uC.put (data:=data) c ah 0 mh hq jG I J7 hc he hp
         exact this
        .have s3:=eM.2 ⟨dv,s.ae [3,6]⟩
         have s4:=xj.2 ⟨wJ,es,clock,U,hb,fE,s3.ae [2,2]⟩
         dsimp only[bringA,getA,aL] at s4
         exact fX.2 ⟨.map wJ,(s4.ae [2,0,0,0,0,0,1]).del 7⟩
      .skip
       refine zB U aE (by simp;exact he) ?_
       exact zk 8 U (WP.ret ⟨aa,_,U,0,_,false,_,.app c ah hq jG I J7 hc he,U,s⟩)
end
def Lg.fresh : Lg:={ base:=1,b:=[],dS:=[],forced:=0,check:=0 }
theorem DE {h:H}{b c t:Nat}{p v:V}(hl:look E a=some p)(I:loadV P h t p=some v)(h2:look E b=some w)(h3:look E c=some x): resLE P E h [.cell a t,.tmp b,.tmp c]=some (.aV [v,w,x]):=by
 simp only[resLE,mapO,resE,hl,I,h2,h3]
section
variable {told:cu} {h:H} {p:Nat} {op v:V} {cK:Bool}
theorem MY (hT:W told)(s:Sat h (bX p δ::S))(hd:δ.dead=false)(hm:δ.mark=[])(hl:δ.log=[])(hc:δ.gQ=0):
  Call ⟨Tryz.prog,told⟩ 104 [.ptr p 0] h λv h'=>∃q,v=.aV [.ptr q 0,.int .i64 0]/\Sat h' (dF q p Lg.fresh::bX p δ::S):=by
 refine Call.of_wp (hT.free _ U) Tryz.func104 U U (zK 8 U (zc U (PR hT s (by rw[hm];decide)) ?_));rintro v h (⟨I,_,_⟩|⟨_,b0,rfl,s⟩)
 .rw[hd] at I;cases I
 rw[hm] at s;refine zk 10 U (zC U aE (U) (zk 6 U (zo U (cI U (by rw[acE];rfl)) ?_)));refine au.cg s U U U (fG U U) (λp23 h s => ?_);dsimp only[V.cells,List.take,List.length_cons,List.length_nil,Nat.reduceAdd,List.drop,List.cons_append,List.nil_append] at s;refine zk 7 U ?_;have s:=s.ae [2,0,0];dsimp only[bringA,getA,aL] at s;refine zc U (Y9 hT s (by rw[hl];decide)) ?_;rintro v h (⟨I,_,_⟩|⟨_,b1,rfl,s⟩)
 .rw[hd] at I;cases I
 rw[hl] at s;have hv:=(s.buf (k:=0) U).view.cells;refine zk 4 U (zf U (nQ _ _) (zS U (s.kz (k:=2) U dQ U (by decide) hv.1 hv.2) ?_));intro h s;dsimp only[Nat.reduceAdd,List.set,setA] at s;refine za U (zv (zg U (zm U (zh U (aq U U aE) (U) (zv (zj U (WP.skip (zw (zg U (zm U (zo U (aC U U U (by exact bA aP (s.aD (k:=3) U (bg _ _)))) ?_)))))))))));refine zv (WP.block (zg U (zt U (aq U U cS) (U) (za U (zv (zi U (WP.skip (zg U (za U (zv (zw (WP.block (WP.loop (zw (zg U (zk 3 U (zf U (nQ _ _) (zl U (by exact s.ld (k:=2) U b8 U) ?_))))))))))))))))));refine zo U (aC U U U (bA aP (s.aD (k:=0) U (bg _ _)))) (zC U aK (U) (zk 2 U (WP.exit (zK 6 U (zY s 2 nQ b8 U (zo U (aC U U U (bA aP (s.aD (k:=0) U (bg _ _)))) (zC U aK (U) (zk 5 U ?_))))))));have s0:=s;have lD:=nO (s.buf (k:=0) U).view;refine WP.drawn [none,none,some (0,2),some (0,2),some (0,2),some (0,2),some (0,2),none] U (by kernel_rfl) (by kernel_rfl) ?_;refine zM U (aB.any U U U U (OpR.call U U U U (MK hT (s.ae [1]))) ?_);rintro v h' ⟨rfl,rfl⟩;refine zM U (zN U (zF U (nQ _ _) (zL U (s.ld (k:=2) U b8 U) (zO U (aC U U U (bA aP (s.aD (k:=0) U (bg _ _)))) (aB.rR U U U U (aq U U aK) (by rw[show δ.KM=0 from hc];rfl) ?_)))));refine aB.nil ⟨⟨aa,aa,λ_ _=>.inr ⟨U,⟨_,bZ U⟩,bp _ U⟩,λ_ _=>.inr ⟨U,⟨_,vk U⟩,bp _ U⟩,λ_ _=>.inr ⟨U,⟨_,mX U (nQ _ _)⟩,bp _ U⟩,gC (.inr ⟨U,⟨_,o_load U (s0.ld (k:=2) U b8 U)⟩,lD⟩) (.inr ⟨U,⟨_,o_load U (s.ld (k:=2) U b8 U)⟩,lD⟩),gC (.inr ⟨U,⟨_,aC U U U (bA aP (s0.aD (k:=0) U (bg _ _)))⟩,bp _ U⟩) (.inr ⟨U,⟨_,aC U U U (bA aP (s.aD (k:=0) U (bg _ _)))⟩,bp _ U⟩),aa,aa⟩,?_⟩;refine zK 7 U (zY s 2 nQ b8 U (zo U (aC U U U (bA aP (s.aD (k:=0) U (bg _ _)))) (zn U (zf U (HJ _ _) ?_))));refine zS U (by exact s.kz (k:=2) U lI U (by decide) U U) (λh s => ?_);refine zk 7 U (WP.ret ⟨aa,_,U,?_⟩);have s1:=(s.del 3).lJ (k:=1);refine⟨_,U,jr.2 ⟨b1,.aZ,?_⟩⟩;exact s1.ae [3,1,0]
theorem SM (hT:W told)(s:Sat h (dF q p μ::S))(I:μ.Ok): Call ⟨Tryz.prog,told⟩ 108 [.ptr q 0,.int .u64 ((μ.base:Int)+(μ.b.length:Int))] h λv h'=>v=.aV [.agg (qq 0 0 0 0 .aZ .aZ),.int .u64 0,.int .i64 17]/\Sat h' (dF q p μ::S):=by
 refine Call.of_wp (hT.free _ U) Tryz.func108 U U (zg U ?_);refine au.cg s U U U (cm UX) (λp4 h s => ?_);refine zk 4 U (WP.block (zK 4 U ?_));have s:=s.ae [1];refine zc U (HV hT s I.size) ?_;rintro v h' ⟨rfl,rfl⟩;refine zB U cS (by simp) ?_;refine zk 5 U (zo U (cI U (by rw[UY];rfl)) ?_);refine zS U (s.gX (j:=1) U Ap U U) (λh s => ?_);refine zk 3 U ?_;refine WP.ret ⟨aa,_,DE U (s.b7 (k:=1) U HF Ap) U U,?_⟩;exact⟨U,s.del 1⟩
theorem VH (hT:W told){n:Nat}(s:Sat h (dF q p μ::S))(I:μ.Ok)(hn:n<18446744073709551616)(fb:n≠μ.base+μ.b.length)(wW:μ.hasB n=false): Call ⟨Tryz.prog,told⟩ 108 [.ptr q 0,.int .u64 (n:Int)] h λv h'=>v=.aV [.agg (qq 0 0 0 0 .aZ .aZ),.int .u64 0,.int .i64 1]/\Sat h' (dF q p μ::S):=by
 refine Call.of_wp (hT.free _ U) Tryz.func108 U U (zg U ?_);refine au.cg s U U U (cm UX) (λp4 h s => ?_);refine zk 4 U (WP.block (zK 4 U ?_));have s:=s.ae [1];refine zc U (HV hT s I.size) ?_;rintro v h' ⟨rfl,rfl⟩;refine zC U cS (by simp;omega) ?_;refine zk 7 U (zc U (Zf (n:=n) hT s I hn) ?_);rintro v h' ⟨rfl,rfl⟩;refine zo U (eo U U) (zk 2 U (WP.Pu U (by rw[wW];rfl) ?_));refine zg U (zo U (cI U (by rw[UY];rfl)) ?_);refine zS U (s.gX (j:=1) U Ap U U) (λh s => ?_);refine zk 3 U ?_;refine WP.ret ⟨aa,_,DE U (s.b7 (k:=1) U HF Ap) U U,?_⟩;exact⟨U,s.del 1⟩
theorem P8 (hT:W told){n:Nat}(s:Sat h (dF q p μ::S))(vr:μ.Ok)(hn:n<18446744073709551616)(I:n=μ.base+μ.b.length\/μ.hasB n=false): Call ⟨Tryz.prog,told⟩ 108 [.ptr q 0,.int .u64 (n:Int)] h λv h'=>∃e:Int,e≠0/\v=.aV [.agg (qq 0 0 0 0 .aZ .aZ),.int .u64 0,.int .i64 e]/\Sat h' (dF q p μ::S):=by
 by_cases he:n=μ.base+μ.b.length
 .have:=SM hT s vr;rw[show((μ.base:Int)+(μ.b.length:Int))=((n:Nat):Int) by omega] at this;exact this.mono λv h' ⟨h1,h2⟩=>⟨17,by decide,h1,h2⟩
 .rcases I with I|I
  .exact absurd I he
  .exact(VH hT s vr hn he I).mono λv h' ⟨h1,h2⟩=>⟨1,by decide,h1,h2⟩
end
section
variable {told:cu} {h:H} {p:Nat} {op v:V} {cK:Bool}
theorem P9 (I:W told){n:Nat}(s:Sat h (gM a p q r op data aQ::dF q p μ::S))(vr:μ.Ok)(hn:n<18446744073709551616)(wW:n=μ.base+μ.b.length\/μ.hasB n=false):
  Call ⟨Tryz.prog,told⟩ 111 [.ptr a 0,.int .u64 (n:Int)] h λv h'=>v=.int .i64 0/\Sat h' (gM a p q r op data aQ::dF q p μ::S):=by
 obtain⟨dv,s⟩:=eM.1 s;refine Call.of_wp (I.free _ U) Tryz.func111 U U (zK 6 U ?_);refine au.BV s U U U U (λp18 h s => ?_);refine au.BV s U U U U (λp19 h s => ?_);refine zo U (cI U (by rw[acO];rfl)) ?_;refine au.cg s U U U (fG U U) (λp21 h s => ?_);refine zk 5 U (zo U (JG U U) (zk 8 U (WP.block (WP.loop (WP.block (zK 4 U (zY s 3 NJ U0 U (zm U ?_))))))));have s1:=s.ae [5];refine zc U (P8 (n:=n) I s1 vr hn wW) ?_;rintro v h ⟨e,he,rfl,s⟩;refine zk 4 U ?_;refine au.cg s U U U (cm UX) (λp8 h s => ?_);refine zS U (s.gX (j:=0) U Ap U U) (λh s => ?_);refine zk 7 U (zB U aE (by simp;exact he) ?_);have s:=qX (f:=λv (b:List Nat)=>.cG v b) (s.ae [4]);refine zk 2 U (WP.exit (zK 5 U (zY s 3 NP qS U (zc U (ED I s) ?_))));rintro v h ⟨kb,rfl,s⟩;refine zc U (Ci I s (by decide) (by decide) (by simp)) ?_;intro kv h s;refine zo U (aC U U U (s.fq (n:=0) (j:=0) U U (by decide) dm)) ?_;exact zk 2 U (WP.block (WP.loop (zg U (zC U aK (U) (zk 3 U (WP.exit (zK 5 U (zY s 5 NP qS U (zo U (aC U U U (Va (s.ae [2]) uy)) (zB U cS (U) (zk 6 U (WP.ret ⟨aa,_,U,U,((((((eM.2 ⟨dv,s.ae [7,7,4]⟩).del 7).del 6).del 5).del 4).del 3).del 2⟩))))))))))))
theorem Lg.K6 : Lg.fresh.Ok:=⟨by decide,by decide,by simp[Lg.fresh],List.Pairwise.nil,by decide,by decide,by decide⟩
theorem MZ (I:W told){n:Nat}(s:Sat h (bX p δ::S))(h1:1<=n)(h2:n<=1024)(hd:δ.dead=false)(hm:δ.mark=[])(hl:δ.log=[])(hc:δ.gQ=0):
  Call ⟨Tryz.prog,told⟩ 40 [.ptr p 0,.int .i64 (n:Int)] h λv h'=>∃a q r,v=.aV [.ptr a 0,.int .i64 0]/\Sat h' (gM a p q r .cf [] 0::gE r p q (Pl.fresh n)::dF q p Lg.fresh::bX p δ::S):=by
 refine Call.of_wp (I.free _ U) Tryz.func40 U U (zK 9 U (zC U aK (by simp<;>omega) ?_));refine zk 2 U (zC U cP (by simp<;>omega) ?_);refine zk 7 U (zc U (MY I s hd hm hl hc) ?_);rintro v h ⟨q,rfl,s⟩;refine zk 10 U (zC U aE (U) (zk 8 U (zc U (Zo (p:=p) (q:=q) (n:=n) I s) ?_)));rintro v h (⟨hn,_,_⟩|⟨_,_,r,rfl,s⟩)
 .omega
 rw[fS] at s;refine zk 10 U (zC U aE (U) (zk 8 U (zo U (cI U (by rw[acA];rfl)) ?_)));refine au.cg s U U U (fG U U) (λp44 h s => ?_);refine zk 5 U (zc U (Sl I (s.ae [2])) ?_);rintro v h' ⟨rfl,rfl⟩;refine zk 6 U (zc U (MM I (s.ae [2])) ?_);rintro v h' ⟨rfl,rfl⟩;refine zk 5 U (zC U aE (U) (zk 8 U ?_));have s1:=eM.2 ⟨.aZ,(s.vm).ae [1,0]⟩;refine zc U (P9 (n:=1) I (s1.ae [0,1]) Lg.K6 (by decide) (.inl U)) ?_;rintro v h ⟨rfl,s⟩;exact zk 5 U (zC U aE (U) (zk 9 U (WP.ret ⟨aa,_,U,_,q,r,U,s.ae [0,1,0]⟩)))
end
section
variable {told:cu} {h:H} {p:Nat} {op v:V} {cK:Bool}
theorem VI (I:W told)(s:Sat h (gM a p q r op data aQ::S)): Call ⟨Tryz.prog,told⟩ 96 [.ptr a 0] h λv h'=>v=.ptr p 0/\h'=h:=by
 obtain⟨dv,s⟩:=eM.1 s;exact Call.of_wp (I.free _ U) Tryz.func96 U U (zK 8 U (zY s 0 Ds xX U (zk 2 U (WP.ret ⟨aa,_,U,U,U⟩))))
end
section
variable {told:cu} {h:H} {p:Nat} {op v:V} {cK:Bool}
theorem P_ (I:W told){n m f:Nat}(s:Sat h S)(h1:1<=n)(h2:n<=65536)(h3:m<=16777216)(h4:1<=f)(h5:f<=1024):
  Call ⟨Tryz.prog,told⟩ 31 [.int .i64 (n:Int),.int .i64 (m:Int),.int .i64 (f:Int)] h λv h'=>∃p a q r,v=.aV [.ptr p 0,.ptr a 0] /\
   Sat h' (gM a p q r .cf [] 0::gE r p q (Pl.fresh f)::dF q p Lg.fresh::bX p (Dk.fresh n m)::S):=by
 refine Call.of_wp (I.free _ U) Tryz.func31 U U (zK 9 U (zc U (Za (n:=(n:Int)) (m:=(m:Int)) I s) ?_));rintro v h (⟨hn,_,_⟩|⟨_,_,_,_,p,rfl,s⟩)
 .omega
 rw[fS,fS] at s;refine zk 10 U (zC U aE (U) (zk 2 U (zC U (xp Tryz.underlying69) (U) (zk 8 U (zc U (MZ (n:=f) I s h4 h5 U U U U) ?_)))));rintro v h ⟨a,q,r,rfl,s⟩;exact zk 10 U (zC U aE (U) (zk 2 U (zC U (xp zu) (U) (zk 11 U (WP.ret ⟨aa,_,U,p,a,q,r,U,s⟩)))))
end
section
variable {h:H}
theorem Ob (s:Sat h S){e:TypeId}{z:V}(hu:P.underlying t=some (.slice e))(I:zeroT P e=some z)(hk:bq P e=some k)(hl:z.cells.length=k)(h1:1<=k):
  ∃h',buildSliceV P h t 0 []=some (.sl h.next 0 0 (.exact 0),h')/\Sat h' (pt h.next (.cells 0 [] false)::S):=by
 refine⟨newRow h [],?_,s.new _⟩;simp only[buildSliceV,hu,hk,I];rw[show(Nat.beq z.cells.length k&&Nat.ble (0*k) 65536&&Nat.ble 1 k)=true by rw[hl,kg,aR.2 (by omega),aR.2 h1];rfl,ag];simp only[repeatL,fillV,nE,ag]
theorem Zx (s:Sat h (pt id (.cells 0 [] false)::S)): Sat h (.arr q (.sl id 0 0 (.exact 0)) []::S) :=
 s.eD λm r hm=>⟨U,.inr ⟨id,0,.exact 0,0,[],U,hm,by simp,U,U,by simp,aH _⟩⟩
end
theorem Gm : ∀ {l:List Nat},(∀b∈l,b<256)->bytesOf (ofBytes l)=some l:=by
 intro l;induction l with
 |nil=>intro _;rfl
 |cons b l ih =>
  intro h;have I:=ih λx hx=>h x (bw _ hx);have h2:=h b a_;rw[ofBytes] at I;simp only[ofBytes,hU,bytesOf,I,aA,List.cons.injEq,and_true];omega
theorem D_ {h:H}{v:V}(hv:View h v l): convV Tryz.prog h 29 9 v=some (.str l,h):=by
 obtain⟨I,(⟨rfl|⟨ea,rfl⟩,rfl⟩|⟨id,off,cap,n,cs,st,rfl,hg,hl,ho,hc,_⟩)⟩:=hv
 .simp only[convV,aP,oG,Tryz.underlying5]
 .simp only[convV,aP,oG,Tryz.underlying5]
 .have e:rdN h id off l.length=some (ofBytes l):=by rw[pL hg hl ho,hc]
  simp only[convV,aP,oG,Tryz.underlying5,e,Gm I]
def XQ (l:List Nat): List Nat:=if l.length≠512\/l=List.replicate 512 0 then[] else l.drop 12
structure DK (δ P5:Dk): Prop where
 dead:P5.dead=δ.dead
 cT:P5.cT=δ.cT
 bG:P5.bG=δ.bG
 now:P5.now=δ.now
theorem DK.refl (δ:Dk): DK δ δ:=⟨U,U,U,U⟩
theorem DK.at (h:DK δ P5)(n:Int): P5.at n=δ.at n:=by rw[Dk.at,Dk.at,h.now,h.bG]
structure DA (N:Nat)(δ:Dk): Prop where
 alive:δ.dead=false
 cT:δ.cT<0
 bG:δ.bG.length=N
 keys:∀k:Int,k∈δ.now.map (·.1)->0<=k/\k<N
 nodup:(δ.now.map (·.1)).Nodup
 good:∀n:Int,0<=n->n<N->jJ (δ.at n)=0
theorem DA.of (h:DA N δ)(k:DK δ P5): DA N P5 :=
 ⟨k.dead.trans h.alive,by rw[k.cT];exact h.cT,by rw[k.bG];exact h.bG,by rw[k.now];exact h.keys,by rw[k.now];exact h.nodup,λn a b=>by rw[k.at];exact h.good n a b⟩
theorem K7 (h:δ.cT<0): δ.gq=δ:=by
 have:(if 0<δ.cT then δ.cT-1 else δ.cT)=δ.cT:=ai (by omega);rw[Dk.gq,this]
theorem VJ (h:DA N δ): δ.jz=(0,{ δ with gQ:=δ.log.length }):=by
 rw[Dk.jz,ai (by rw[h.alive];decide),ai (by have:=h.cT;omega),K7 h.cT]
theorem SN {x:LD}{n:Nat}(h:DA N x.2): (cV x n).1=0/\DK x.2 (cV x n).2.2:=by
 unfold cV;split
 .exact⟨U,DK.refl _⟩
 .rw[VJ h,ai (by simp)];exact⟨U,U,U,U,U⟩
theorem VK (h:DA N δ)(h0:0<=n)(h1:n<N)(hb:b.length=512)(hc:jJ b=0):
  (δ.eP n b).1=0/\DA N (δ.eP n b).2/\∀m,(δ.eP n b).2.at m=if n=m then b else δ.at m:=by
 have e:δ.eP n b=(0,δ.wr n b):=by
  rw[Dk.eP,ai (by rw[h.alive];decide),ai (not_not_intro ⟨h0,by rw[h.bG];exact h1,hb⟩),ai (by have:=h.cT;omega)]
 have qZ:(δ.wr n b).now=cD n b δ.now:=rfl;have eA:(δ.wr n b).bG=δ.bG:=rfl;have I:∀m,(δ.wr n b).at m=if n=m then b else δ.at m:=λm=>by
  grind[Dk.at,mP]
 have xx:(δ.wr n b).cT=δ.cT:=by
  show δ.gq.cT=δ.cT;rw[K7 h.cT]
 rw[e];refine⟨U,⟨h.alive,by rw[xx];exact h.cT,h.bG,λx hx => ?_,?_,λm a c => ?_⟩,I⟩
 .rcases wA.1 hx with rfl|hx
  .omega
  .exact h.keys x hx
 .exact oA h.nodup
 .rw[I];by_cases hm:n=m
  .grind
  .rw[ai hm];exact h.good m a c
theorem M3 {m:List Nat}{b:Nat}(h1:a+m.length<=l.length)(h2:a+m.length<=b): (az l a m).drop b=l.drop b:=by
 have I:(l.take a).length=a:=by grind
 rw[az,<-dO,vE,p_ (by grind),dJ,yC,aN,I];congr 1;omega
theorem Gn {m:List Nat}(h:a+m.length<=l.length): (az l a m)[i]?=if a<=i/\i<a+m.length then m[i-a]? else l[i]?:=by
 grind[az]
theorem wL {m:List Nat}(I:l.drop 12=m.drop 12)(ha:12<=a): dR l a z=dR m a z:=by
 have e:∀l:List Nat,(l.take (a+z)).drop a=((l.drop 12).drop (a-12)).take z:=λl=>by
  simp_all[l7]
 rw[dR,dR,e,e,I]
theorem M4 {m:List Nat}(I:l.drop 12=m.drop 12){low:Nat}: ∀(n i:Nat) (t:List Bool),cellsL l low n i t=cellsL m low n i t:=by
 intro n;induction n<;>grind[bx,wL,er,cellsL]
theorem Qa {m:List Nat}(hl:l.length=m.length)(I:l.drop 12=m.drop 12): cJ l=cJ m:=by
 have e1:jI l=jI m:=wL I (by omega);have e2:dy l=dy m:=wL I (by omega);have e3:l.getD 13 0=m.getD 13 0:=by
  have:∀l:List Nat,l[13]?=(l.drop 12)[1]?:=λl=>by simp
  grind
 grind[cJ,M4]
theorem Cp : ∀(k n:Nat),leN (le k n)=n%256^k:=by
 intro k;induction k<;>grind[le,leN,Nat.mod_mul]
theorem Cq {n:Nat}(hb:b.length=512): (e_ b n).drop 12=b.drop 12/\(e_ b n).length=512/\(e_ b n).drop 4=(qY b n).drop 4/\dR (e_ b n) 0 4=F4 0 ((qY b n).drop 4)%4294967296:=by
 have h1:=Aw (n:=n) hb;have h2:(e_ b n).length=512:=by grind[e_,bF,cO]
 have I:(e_ b n).drop 4=(qY b n).drop 4:=by rfl
 have h4:(qY b n).drop 12=b.drop 12:=by grind[qY,M3,cO]
 refine⟨?_,h2,I,?_⟩
 .have:=dg (List.drop 8) I;grind[List.drop_drop]
 .have e:(e_ b n).take 4=le 4 (F4 0 ((qY b n).drop 4)):=by
   rfl
  grind[dR,Cp]
theorem Zy {n:Nat}(I:∀x∈b,x<256): ∀x∈qY b n,x<256:=xg I (PK _ _)
theorem SO {n:Nat}(I:cJ b=true)(hb:∀x∈b,x<256): jJ (e_ b n)=0/\cJ (e_ b n)=true/\XQ (e_ b n)=b.drop 12:=by
 have hl:=jU I;obtain⟨h1,h2,h3,h4⟩:=Cq (n:=n) hl;have FO:cJ (e_ b n)=true:=by grind[Qa]
 have hz:cJ (List.replicate 512 0)=false:=by decide +kernel
 grind[Et,Zy,jJ,XQ]
def pgA (ε:bk)(n:Int): List Nat:=match lookL n ε.1.bW with
 |some i=>match ε.1.aj[i.toNat]? with
  |some f=>f.b
  |none=>ε.2.2.at n
 |none=>ε.2.2.at n
structure VL (N:Nat)(δ:Dk)(bW:List (Int×Int))(i:Nat)(f:Fm): Prop where
 lt:f.bQ<N
 here:lookL f.bQ bW=some (i:Int)
 aQ:jJ f.b=0
 same:f.changed=false->f.b=δ.at f.bQ
 tf:f.changed=true->cJ f.b=true
structure EC (N:Nat)(ε:bk): Prop where
 dk:DA N ε.2.2
 nodup:(ε.1.bW.map (·.1)).Nodup
 pT:∀(n i:Int),lookL n ε.1.bW=some i->0<=n/\∃(j:Nat) (f:Fm),i=j/\ε.1.aj[j]?=some f/\f.bQ=n
 back:∀(i:Nat) (f:Fm),ε.1.aj[i]?=some f->f.bQ<0\/VL N ε.2.2 ε.1.bW i f
 EE:∀k:Int,k∈ε.1.eu.map (·.1)->0<=k/\k<N
 K8:(ε.1.eu.map (·.1)).Nodup
theorem q_ {f:Fm}(h:lookL n ε.1.bW=some (j:Int))(I:ε.1.aj[j]?=some f): pgA ε n=f.b:=by
 grind[pgA]
theorem pV (h:lookL n ε.1.bW=none): pgA ε n=ε.2.2.at n:=by simp only[pgA,h]
theorem EC.cases (h:EC N ε)(n:Int): (∃(j:Nat) (f:Fm),lookL n ε.1.bW=some (j:Int)/\ε.1.aj[j]?=some f/\f.bQ=n/\0<=n/\VL N ε.2.2 ε.1.bW j f/\pgA ε n=f.b)\/(lookL n ε.1.bW=none/\pgA ε n=ε.2.2.at n):=by
 cases hl:lookL n ε.1.bW with
 |none=>grind[pV]
 |some i =>
  obtain⟨h0,j,f,rfl,I,hp⟩:=h.pT n i hl;refine .inl ⟨j,f,U,I,hp,h0,?_,q_ hl I⟩;rcases h.back j f I with h1|h1
  .omega
  .exact h1
theorem xy {m:List Fm}{f g x:Fm}(I:m[i]?=some f)(hx:(m.set i g)[j]?=some x): (i=j/\x=g)\/(i≠j/\m[j]?=some x):=by
 grind
theorem EC.set {f g:Fm}{y:Lg}(h:EC N ε)(hf:ε.1.aj[i]?=some f)(hp:g.bQ=f.bQ)(Vo:DA N δ)
 (hg:g.bQ<0\/VL N δ ε.1.bW i g)(ho:∀(j:Nat) (x:Fm),i≠j->ε.1.aj[j]?=some x->0<=x.bQ->δ.at x.bQ=ε.2.2.at x.bQ)(hd:∀k:Int,k∈d.map (·.1)->0<=k/\k<N)(hdn:(d.map (·.1)).Nodup):
  EC N ({ ε.1 with aj:=ε.1.aj.set i g,eu:=d },(y,δ)):=by
 refine⟨Vo,h.nodup,λn k hk => ?_,λj x hx => ?_,hd,hdn⟩
 .obtain⟨h0,j,x,rfl,hx,IW⟩:=h.pT n k hk<;>grind
 .rcases xy hf hx with⟨rfl,rfl⟩|⟨pz,hx⟩
  .exact hg
  .rcases h.back j x hx with I|I
   .omega
   .by_cases h2:x.bQ<0
    .omega
    .refine .inr ⟨I.lt,I.here,I.aQ,λhc => ?_,I.tf⟩;rw[ho j x pz hx (by omega)];exact I.same hc
theorem Oc {f g:Fm}{x:LD}(I:ε.1.aj[i]?=some f)(hb:g.b=f.b)(hx:lookL n ε.1.bW=none->x.2.at n=ε.2.2.at n)(hy:∀j:Int,lookL n ε.1.bW=some j->∃f',ε.1.aj[j.toNat]?=some f'):
  pgA ({ ε.1 with aj:=ε.1.aj.set i g,eu:=d },x) n=pgA ε n:=by
 unfold pgA;grind
theorem EC.there (h:EC N ε): ∀j:Int,lookL n ε.1.bW=some j->∃f',ε.1.aj[j.toNat]?=some f':=λj I=>by
 obtain⟨_,k,f,rfl,hf,_⟩:=h.pT n j I<;>grind
theorem EC.out {f:Fm}(h:EC N ε)(I:ε.1.aj[i]?=some f):
  (outF ε i).1=0/\EC N (outF ε i).2/\(∀n,pgA (outF ε i).2 n=pgA ε n)/\(outF ε i).2.1.bW=ε.1.bW/\∃g,(outF ε i).2.1.aj[i]?=some g/\g.bQ=f.bQ/\(0<=g.bQ->g.changed=false):=by
 have hi:=(List.getElem?_eq_some_iff.1 I).1;unfold outF;rw[I];simp only;by_cases hc:f.bQ<0\/f.changed=false
 .grind
 .rw[ai hc];have DY:0<=f.bQ:=by omega
  have A2:f.changed=true:=by grind
  have ho:=(h.back i f I).resolve_left (by omega);have hg:=ho.tf A2;rw[ai (by grind)];obtain⟨e1,k1⟩:=SN (x:=ε.2) (n:=dR f.b 4 8) h.dk;rw[ai (by omega)];obtain⟨e2,k2,k3⟩:=VK (h.dk.of k1) DY ho.lt (jU hg) ho.aQ;rw[ai (by omega)];have jX:∀m,f.bQ≠m->((cV ε.2 (dR f.b 4 8)).2.2.eP f.bQ f.b).2.at m=ε.2.2.at m:=λm hm=>by rw[k3,ai hm,k1.at]
  refine⟨U,h.set I U k2 (.inr ⟨ho.lt,ho.here,ho.aQ,λ_ => ?_,λhq=>(by cases hq)⟩) (λj x pz hx h0=>jX _ λSP => ?_) (λk hk => ?_) (oA h.K8),λn => ?_,U,_,jN hi,U,λ_=>U⟩
  .grind
  .rcases h.back j x hx with h1|h1
   .omega
   .have:=h1.here;rw[<-SP,ho.here] at this;grind
  .rcases wA.1 hk with rfl|hk
   .exact⟨DY,ho.lt⟩
   .exact h.EE k hk
  .exact Oc I (by rfl) (λhn=>jX n λe=>by rw[<-e,ho.here] at hn;cases hn) h.there
theorem ie.back (I:ie π cA){x:Fm}(hx:cA.aj[i]?=some x): ∃f t,π.aj[i]?=some f/\x={ f with gS:=t }:=by
 have hi:=(List.getElem?_eq_some_iff.1 hx).1;rw[I.len] at hi;have hf:π.aj[i]?=some (π.aj[i]'hi):=aF _;obtain⟨t,ht⟩:=I.get i _ hf<;>grind
theorem EC.uQ (h:EC N ε)(I:ie ε.1 cA): EC N (cA,ε.2)/\∀n,pgA (cA,ε.2) n=pgA ε n:=by
 refine⟨⟨h.dk,by rw[I.bW];exact h.nodup,λn i hi => ?_,λi x hx => ?_,by rw[I.eu];exact h.EE,by rw[I.eu];exact h.K8⟩,λn => ?_⟩
 .rw[I.bW] at hi;obtain⟨h0,j,f,rfl,hf,hp⟩:=h.pT n i hi;obtain⟨t,ht⟩:=I.get j f hf;exact⟨h0,j,_,U,ht,hp⟩
 .obtain⟨f,t,hf,rfl⟩:=I.back hx;rcases h.back i f hf with h1|h1
  .grind
  .exact .inr ⟨h1.lt,by rw[I.bW];exact h1.here,h1.aQ,h1.same,h1.tf⟩
 .unfold pgA;simp only[I.bW];cases hl:lookL n ε.1.bW with
  |none=>rfl
  |some i =>
   obtain⟨h0,j,f,rfl,hf,hp⟩:=h.pT n i hl;obtain⟨t,ht⟩:=I.get j f hf<;>grind
theorem EC.eF {f g:Fm}(h:EC N ε)(hg:ε.1.aj[i]?=some g)(hp:g.bQ=f.bQ)(hc:0<=g.bQ->g.changed=false): EC N (eF ε.1 i f,ε.2)/\(∀n,pgA (eF ε.1 i f,ε.2) n=pgA ε n) /\
  (eF ε.1 i f).aj[i]?=some gp/\∀n,lookL n ε.1.bW=none->lookL n (eF ε.1 i f).bW=none:=by
 have hi:=(List.getElem?_eq_some_iff.1 hg).1;have I:(ε.1.aj.set i gp)[i]?=some gp:=jN hi;have SQ:∀n,lookL n (Am.eF ε.1 i f).bW=if 0<=f.bQ/\f.bQ=n then none else lookL n ε.1.bW:=λn=>by
  rw[Am.eF];by_cases h0:f.bQ<0
  .grind
  .rw[ai h0,IL h.nodup];simp_all
 refine⟨⟨h.dk,?_,λn k hk => ?_,λj x hx => ?_,h.EE,h.K8⟩,λn => ?_,I,λn hn => ?_⟩
 .rw[Am.eF];by_cases h0:f.bQ<0
  .rw[ay h0];exact h.nodup
  .rw[ai h0];exact As h.nodup
 .rw[SQ] at hk;split at hk
  .cases hk
  .obtain⟨h0,j,x,rfl,hx,IW⟩:=h.pT n k hk;refine⟨h0,j,x,U,?_,IW⟩;show(ε.1.aj.set i gp)[j]?=some x;grind
 .rcases xy hg hx with⟨rfl,rfl⟩|⟨pz,hx⟩
  .exact .inl (by decide)
  .rcases h.back j x hx with h1|h1
   .omega
   .by_cases hx0:x.bQ<0
    .omega
    refine .inr ⟨h1.lt,?_,h1.aQ,h1.same,h1.tf⟩;rw[SQ,ai]
    .exact h1.here
    .rintro⟨h0,SP⟩;rcases h.back i g hg with h2|h2
     .omega
     .have e:=h2.here;rw[hp,SP,h1.here] at e;grind
 .rcases h.cases n with⟨j,x,hl,hx,IW,h0,ho,e⟩|⟨hl,e⟩
  .rw[e];by_cases SP:f.bQ=n
   .have pz:i=j:=by
     rcases h.back i g hg with h2|h2
     .omega
     .have e:=h2.here;grind
    subst pz;rw[hg] at hx;have:=bB hx;subst this;rw[pV (by grind)];rw[ho.same (hc (by omega)),hp,SP]
   .refine q_ (j:=j) (by grind) ?_;show(ε.1.aj.set i gp)[j]?=some x;grind
  grind[pV]
 .grind
theorem EC.kM {e:Fm}(h:EC N ε)(he:ε.1.aj[i]?=some e)(hp:e.bQ<0)(hl:lookL n ε.1.bW=none)(h0:0<=n)(h1:n<N): EC N (kM ε.1 i n (ε.2.2.at n),ε.2)/\∀m,pgA (kM ε.1 i n (ε.2.2.at n),ε.2) m=pgA ε m:=by
 have hi:=(List.getElem?_eq_some_iff.1 he).1;have I:(ε.1.aj.set i ⟨n,ε.2.2.at n,1,true,false⟩)[i]?=some ⟨n,ε.2.2.at n,1,true,false⟩:=jN hi;have SQ:∀m,lookL m (Am.kM ε.1 i n (ε.2.2.at n)).bW=if n=m then some (i:Int) else lookL m ε.1.bW:=λm=>mP _;refine⟨⟨h.dk,oA h.nodup,λm k hk => ?_,λj x hx => ?_,h.EE,h.K8⟩,λm => ?_⟩
 .rw[SQ] at hk;split at hk
  .rename_i hnm;have:=bB hk;subst this;subst hnm;exact⟨h0,i,_,U,I,U⟩
  .obtain⟨h0,j,x,rfl,hx,IW⟩:=h.pT m k hk;refine⟨h0,j,x,U,?_,IW⟩;show(ε.1.aj.set i _)[j]?=some x;grind
 .rcases xy he hx with⟨rfl,rfl⟩|⟨pz,hx⟩
  .exact .inr ⟨h1,by grind,h.dk.good n h0 h1,λ_=>U,λhq=>(by cases hq)⟩
  .rcases h.back j x hx with h2|h2
   .omega
   .refine .inr ⟨h2.lt,?_,h2.aQ,h2.same,h2.tf⟩;rw[SQ,ai]
    .exact h2.here
    .rintro rfl;rw[h2.here] at hl;cases hl
 .by_cases hnm:n=m
  .subst hnm;rw[q_ (j:=i) (by grind) I,pV hl]
  .rcases h.cases m with⟨j,x,iJ,hx,IW,_,ho,e2⟩|⟨iJ,e2⟩
   .rw[e2];refine q_ (j:=j) (by grind) ?_;show(ε.1.aj.set i _)[j]?=some x;grind
   grind[pV]
theorem EC.frame {f g:Fm}(h:EC N ε)(hf:ε.1.aj[i]?=some f)(hp:g.bQ=f.bQ)(hb:g.b=f.b)(hc:g.changed=f.changed): EC N ({ ε.1 with aj:=ε.1.aj.set i g },ε.2)/\∀n,pgA ({ ε.1 with aj:=ε.1.aj.set i g },ε.2) n=pgA ε n:=by
 refine⟨h.set (y:=ε.2.1) (δ:=ε.2.2) hf hp h.dk ?_ (λ_ _ _ _ _=>U) h.EE h.K8,λn=>Oc hf hb (λ_=>U) h.there⟩;rcases h.back i f hf with I|I
 .omega
 .exact .inr ⟨by rw[hp];exact I.lt,by rw[hp];exact I.here,by rw[hb];exact I.aQ,by rw[hp,hb,hc];exact I.same,by rw[hb,hc];exact I.tf⟩
theorem ig.ec (hr:ig ε n e b ah)(h:EC N ε): EC N ah/\(∀m,pgA ah m=pgA ε m)/\(0<=n->n<N->e=0/\b=pgA ε n)/\(¬(0<=n/\n<N)->e=1/\ah=ε):=by
 have eA:=h.dk.bG;cases hr with
 |arg I=>grind
 |IS i f h1 h2 hl hf =>
  obtain⟨k1,k2⟩:=h.frame (g:={ f with gS:=true,pins:=f.pins+1 }) hf U U U<;>grind[q_]
 |out cA i f h1 h2 hl I hf hh he=>exact absurd ((h.uQ I).1.out hf).1 he
 |read cA i f h1 h2 hl I hf hh he hr =>
  obtain⟨k1,k2,k3,k4,g,k5,k6,k7⟩:=(h.uQ I).1.out hf;refine absurd ?_ hr;rw[eA] at h2;rw[Dk.ud,ai (by rw[k2.dk.alive];decide),ai (by rw[k2.dk.bG];exact not_not_intro ⟨h1,h2⟩)]
 |bad cA i f h1 h2 hl I hf hh he hr hc =>
  obtain⟨k1,k2,k3,k4,g,k5,k6,k7⟩:=(h.uQ I).1.out hf;rw[eA] at h2;exact absurd (k2.dk.good n h1 h2) hc
 |load cA i f h1 h2 hl I hf hh he hr hc =>
  obtain⟨n1,n2⟩:=h.uQ I;obtain⟨k1,k2,k3,k4,g,k5,k6,k7⟩:=n1.out hf;rw[eA] at h2;obtain⟨f1,f2,f3,f4⟩:=k2.eF k5 k6 k7;have iJ:lookL n (outF (cA,ε.2) i).2.1.bW=none:=by rw[k4];rw[I.bW];exact hl
  obtain⟨l1,l2⟩:=f1.kM f3 (by decide) (f4 n iJ) h1 h2;exact⟨l1,λm=>by grind,λ_ _=>⟨U,by grind[pV]⟩,λI=>absurd ⟨h1,h2⟩ I⟩
theorem SR {x:LD}(h:EC N (π,x)): EC N ((unpinF π n).2,x)/\∀m,pgA ((unpinF π n).2,x) m=pgA (π,x) m:=by
 unfold unpinF;split
 .grind
 .split
  .grind
  .rename_i i hi f I;exact h.frame (g:={ f with pins:=f.pins-1 }) I U U U
theorem o8.ec (hr:o8 ε n e b ah)(h:EC N ε)(hp:∀f∈ε.1.aj,f.pins=0): EC N ah/\(∀m,pgA ah m=pgA ε m)/\(0<=n->n<N->e=0/\b=pgA ε n)/\(¬(0<=n/\n<N)->e=1/\ah=ε):=by
 cases hr with
 |dead I=>rw[h.dk.alive] at I;cases I
 |mu e b ah I hr he =>
  obtain⟨k1,k2,k3,k4⟩:=hr.ec h<;>grind
 |AE b ah I hr he=>exact absurd (hr.EA hp).1 he
 |read b ah I hr he =>
  obtain⟨k1,k2,k3,k4⟩:=hr.ec h<;>grind[SR]
theorem GRd.ec (hr:GRd ε now false n e b ah)(h:EC N ε)(I:∀f∈ε.1.aj,f.pins=0): EC N ah/\(∀m,pgA ah m=pgA ε m) /\
  (0<=n->n<N->e=0/\b=(match lookL n now with|some b=>b|none=>pgA ε n))/\(¬(0<=n/\n<N)->e=1):=by
 have eA:=h.dk.bG;cases hr with
 |arg hn=>grind
 |cK _ _ ho=>cases ho
 |own b h1 h2 _ hl=>grind
 |read e b ah h1 h2 _ hl hr =>
  obtain⟨k1,k2,k3,k4⟩:=hr.ec h I<;>grind
theorem SS : ∀(N:Nat) (l:List Int),l.Nodup->(∀n∈l,0<=n/\n<N)->l.length<=N:=by
 intro N;induction N with
 |zero =>
  intro l _ h;cases l<;>grind[List.mem_cons_self]
 |succ N I =>
  intro l hd h;have h1:=I (l.erase (N:Int)) (hd.erase _) λn hn=>by
   grind
  grind
structure NW (N:Nat)(now:List (Int×List Nat)): Prop where
 good:∀e∈now,cJ e.2=true/\∀x∈e.2,x<256
 keys:∀k:Int,k∈now.map (·.1)->0<=k/\k<N
 nodup:(now.map (·.1)).Nodup
theorem NW.nil (N:Nat): NW N []:=⟨λe h=>(by cases h),λk h=>(by cases h),vI⟩
theorem Qb {a:α}: ∀ {l:List (Int×α)} {e:Int×α},e∈cD n a l->e=(n,a)\/e∈l:=by
 intro l;induction l<;>grind[cD]
theorem NW.put (h:NW N now)(h0:0<=n)(h1:n<N)(hg:cJ b=true)(hb:∀x∈b,x<256): NW N (cD n b now):=by
 refine⟨λe he => ?_,λk I => ?_,oA h.nodup⟩
 .rcases Qb he with rfl|he
  .grind
  .exact h.good e he
 .rcases wA.1 I with rfl|I
  .omega
  .exact h.keys k I
theorem NW.len (h:NW N now): now.length<=N:=by
 have:=SS N _ h.nodup h.keys
 rwa [cj] at this
theorem NW.look (h:NW N now)(hl:lookL n now=some b): cJ b=true/\∀x∈b,x<256:=h.good _ (oo hl)
theorem wI.ec (hr:wI ε now false n b e aJ ah)(h:EC N ε)(I:∀f∈ε.1.aj,f.pins=0): EC N ah/\(∀m,pgA ah m=pgA ε m) /\
  (¬(0<=n/\n<N)->e=1/\aJ=now)/\(0<=n->n<N->cJ b=false->e=4/\aJ=now)/\(0<=n->n<N->cJ b=true->e=0/\aJ=cD n b now):=by
 cases hr with
 |may e c ah hr he =>
  obtain⟨k1,k2,k3,k4⟩:=hr.ec h I<;>grind
 |bad c ah hr hg =>
  obtain⟨k1,k2,k3,k4⟩:=hr.ec h I<;>grind
 |done c ah hr hg =>
  obtain⟨k1,k2,k3,k4⟩:=hr.ec h I<;>grind
theorem mQ.ec {l:List Int}{cs:List fU}(hr:mQ now l ε e cs ah): EC N ε->lq ε->(∀n∈l,0<=n/\n<N)->EC N ah/\(∀m,pgA ah m=pgA ε m)/\e=0:=by
 induction hr with
 |nil ε=>grind
 |err n l ε e b ah hr he =>
  intro h I hl;obtain⟨k1,k2,k3,k4⟩:=hr.ec h I.pins<;>grind
 |part n l ε was b ah c e cs mh hr hb hd hc gn ht ih =>
  intro h I hl;obtain⟨k1,k2,k3,k4⟩:=hr.ec h I.pins;obtain⟨i1,i2,i3⟩:=ih k1 (hr.qN I) λm hm=>hl m (bw _ hm)<;>grind
 |whole n l ε was b ah e cs mh hr hb hd ht ih =>
  intro h I hl;obtain⟨k1,k2,k3,k4⟩:=hr.ec h I.pins;obtain⟨i1,i2,i3⟩:=ih k1 (hr.qN I) λm hm=>hl m (bw _ hm)<;>grind
theorem EC.log {x:LD}(h:EC N ε)(k:DK ε.2.2 x.2): EC N (ε.1,x)/\∀m,pgA (ε.1,x) m=pgA ε m:=by
 refine⟨⟨h.dk.of k,h.nodup,h.pT,λi f hf => ?_,h.EE,h.K8⟩,λm => ?_⟩
 .rcases h.back i f hf with I|I
  .omega
  .exact .inr ⟨I.lt,I.here,I.aQ,λhc=>by rw[k.at];exact I.same hc,I.tf⟩
 .unfold pgA;simp only[k.at]
theorem EC.put {f:Fm}(h:EC N ε)(hl:lookL n ε.1.bW=some (i:Int))(I:ε.1.aj[i]?=some f)(hg:cJ b=true)(hb:∀x∈b,x<256)(h0:0<=n)(h1:n<N):
  EC N (H6 ε.1 n i f b bj,ε.2)/\∀m,pgA (H6 ε.1 n i f b bj,ε.2) m=if m=n then e_ b bj else pgA ε m:=by
 obtain⟨s1,s2,s3⟩:=SO (n:=bj) hg hb;have hi:=(List.getElem?_eq_some_iff.1 I).1;have hp:f.bQ=n:=by
  obtain⟨_,j,x,pz,hx,IW⟩:=h.pT n i hl<;>grind
 have ho:=(h.back i f I).resolve_left (by omega);refine⟨h.set (y:=ε.2.1) (δ:=ε.2.2) I U h.dk (.inr ⟨ho.lt,ho.here,s1,λhq=>(by cases hq),λ_=>s2⟩) (λ_ _ _ _ _=>U) (λk hk => ?_) (oA h.K8),λm => ?_⟩
 .rcases wA.1 hk with rfl|hk
  .omega
  .exact h.EE k hk
 .by_cases hm:m=n
  .subst hm;rw[ay U];exact q_ (ε:=(H6 ε.1 m i f b bj,ε.2)) hl (jN hi)
  .rcases h.cases m with⟨j,x,iJ,hx,IW,_,_,e2⟩|⟨iJ,e2⟩<;>grind[q_,H6,pV]
theorem PtR.ec {l:List Int}(hr:PtR now bj l ε e ah): EC N ε->lq ε->NW N now->(∀n∈l,0<=n/\n<N)->EC N ah/\e=0 /\
  ∀m,pgA ah m=if m∈l then(match lookL m now with|some b=>e_ b bj|none=>pgA ε m) else pgA ε m:=by
 induction hr with
 |nil ε=>grind
 |mu n l ε e b ah hr he =>
  intro h I hn hl;have:=hl n a_;exact absurd ((hr.ec h).2.2.1 this.1 this.2).1 he
 |bad n l ε b0 b ah hr hb he =>
  intro h I hn hl;exact absurd ((hr.put (b:=b) (bj:=bj) I).2.2 (hn.look hb).1) he
 |put n l ε b0 b ah e mh hr hb he ht ih =>
  intro h I hn hl;have XR:=hl n a_;obtain⟨k1,k2,k3,k4⟩:=hr.ec h;obtain⟨i,f,p1,p2,p3,p4,p5⟩:=hr.at I.pins;have hg:=hn.look hb;have e1:=Gi (bj:=bj) p1 p2 p3 hg.1;obtain⟨q1,q2⟩:=k1.put (bj:=bj) p1 p2 hg.1 hg.2 XR.1 XR.2;have Xc:=(hr.put (b:=b) (bj:=bj) I).1;rw[e1] at ih Xc;obtain⟨i1,i2,i3⟩:=ih q1 Xc hn λm hm=>hl m (bw _ hm);refine⟨i1,i2,λm => ?_⟩;rw[i3,q2];by_cases hm:m=n
  .grind
  .grind
structure EL (K:Nat)(x:LD): Prop where
 log:x.1.b=x.2.log
 cert:x.1.forced<=x.2.gQ
 size:x.1.base+x.1.b.length<=K
theorem EL.force {x:LD}{n:Nat}(h:EL K x): EL K (cV x n).2:=by
 unfold cV Dk.jz;split
 .exact h
 .by_cases I:x.2.dead=true
  .grind
  .rw[ai I];by_cases h0:x.2.cT=0
   .rw[ay h0,ay (show(9:Int)≠0 by decide)];exact⟨h.log,h.cert,h.size⟩
   .rw[ai h0,ai (show ¬(0:Int)≠0 by decide)];exact⟨h.log,by rw[h.log];exact aH _,h.size⟩
theorem EL.write {x:LD}(h:EL K x): EL K (x.1,(x.2.eP n b).2):=by
 unfold Dk.eP;split
 .exact h
 .split
  .exact h
  .split<;>exact⟨h.log,h.cert,h.size⟩
theorem zD (K:Nat): oC (EL K):=⟨λ_ _ h=>h.force,λ_ _ _ h=>h.write⟩
theorem o8.el (hr:o8 ε n e b ah)(h:EL K ε.2): EL K ah.2:=(zD K).rd hr h
theorem GRd.el {cK:Bool}(hr:GRd ε now cK n e b ah)(h:EL K ε.2): EL K ah.2:=(zD K).Co hr h
theorem wI.el {cK:Bool}(hr:wI ε now cK n b e aJ ah)(h:EL K ε.2): EL K ah.2:=(zD K).K4 hr h
theorem mQ.el {l:List Int}{cs:List fU}(hr:mQ now l ε e cs ah)(h:EL K ε.2): EL K ah.2:=(zD K).ch hr h
theorem PtR.el {l:List Int}(hr:PtR now bj l ε e ah)(h:EL K ε.2): EL K ah.2:=(zD K).pt hr h
structure EI (N B:Nat)(ε:bk): Prop where
 ok:lq ε
 ec:EC N ε
 el:EL (B*1048600) ε.2
 dH:dH ε<=B*65536
theorem EI.more (h:EI N B ε){I:Nat}(hb:B<=I): EI N I ε :=
 ⟨h.ok,h.ec,⟨h.el.log,h.el.cert,c_ h.el.size (qb _ hb)⟩,c_ h.dH (qb _ hb)⟩
theorem EI.rd (h:EI N B ε)(hr:o8 ε n e b ah): EI N B ah :=
 ⟨hr.qN h.ok,(hr.ec h.ec h.ok.pins).1,hr.el h.el,c_ hr.dH h.dH⟩
theorem EI.Co (h:EI N B ε)(hr:GRd ε now false n e b ah): EI N B ah :=
 ⟨hr.qN h.ok,(hr.ec h.ec h.ok.pins).1,hr.el h.el,c_ hr.dH h.dH⟩
theorem EI.K4 (h:EI N B ε)(hr:wI ε now false n b e aJ ah): EI N B ah :=
 ⟨hr.qN h.ok,(hr.ec h.ec h.ok.pins).1,hr.el h.el,c_ hr.dH h.dH⟩
theorem EI.many (h:EI N B ε): N<=65536:=by
 have:=h.ok.ok.dk.many
 rwa [h.ec.dk.bG] at this
theorem EI.app {kd:Int}{c:List fU}(h:EI N B ε)(hB:B<=4000)(hg:iQ kd c=true):
  EI N (B+1) (ε.1,(b6 ε.2 kd tx pv nx data c).2)/\(∀m,pgA (ε.1,(b6 ε.2 kd tx pv nx data c).2) m=pgA ε m) /\
  (((b6 ε.2 kd tx pv nx data c).1.2=0/\b6 ε.2 kd tx pv nx data c=((ε.2.1.base+ε.2.1.b.length,0),(ε.2.1.app (iR ε.2.1 kd tx pv nx data c),{ ε.2.2 with log:=ε.2.2.log++iR ε.2.1 kd tx pv nx data c }))) \/
   (b6 ε.2 kd tx pv nx data c).1.2=7\/((b6 ε.2 kd tx pv nx data c).1.2=2/\1048576<(gY kd tx pv nx data c).length)):=by
 have hs:=h.el.size;have jK:=D9 (kd:=kd) (tx:=tx) (pv:=pv) (nx:=nx) (data:=data) (c:=c) h.ok.ok.lg h.ok.ok.dk h.el.log (by omega);have AI:Am.dH (ε.1,(b6 ε.2 kd tx pv nx data c).2)<=(B+1)*65536:=by
  have e:Am.dH (ε.1,(b6 ε.2 kd tx pv nx data c).2)=Am.dH ε:=by grind[Am.dH]
  rw[e];exact c_ h.dH (qb _ (rK B))
 have fY:(b6 ε.2 kd tx pv nx data c).2.1.base+(b6 ε.2 kd tx pv nx data c).2.1.b.length<=(B+1)*1048600:=by
  omega
 have main:∀(hk:DK ε.2.2 (b6 ε.2 kd tx pv nx data c).2.2) (hc:(b6 ε.2 kd tx pv nx data c).2.1.forced<=(b6 ε.2 kd tx pv nx data c).2.2.gQ),EI N (B+1) (ε.1,(b6 ε.2 kd tx pv nx data c).2)/\∀m,pgA (ε.1,(b6 ε.2 kd tx pv nx data c).2) m=pgA ε m:=λhk hc=>by
  obtain⟨l1,l2⟩:=h.ec.log hk;exact⟨⟨⟨⟨h.ok.ok.pl,jK.1,jK.2.1⟩,h.ok.pins,h.ok.full⟩,l1,⟨jK.2.2.1,hc,fY⟩,AI⟩,l2⟩
 rcases nW ε.2 kd tx pv nx data c with⟨e,he,hc,I⟩|⟨hd,hf,I⟩|⟨_,_,hd,dL,hf,I⟩
 .obtain⟨m1,m2⟩:=main (by rw[I];exact DK.refl _) (by rw[I];exact h.el.cert);refine⟨m1,m2,.inr ?_⟩;rw[I];rcases hc with⟨_,hb⟩|⟨rfl,hb⟩|⟨_,hb⟩|⟨rfl,hb⟩
  .grind
  .grind
  .rw[h.ec.dk.alive] at hb;cases hb
  .simp
 .have:=h.ec.dk.cT;omega
 .rw[K7 h.ec.dk.cT] at I;obtain⟨m1,m2⟩:=main (by rw[I];exact⟨U,U,U,U⟩) (by rw[I];exact h.el.cert);exact⟨m1,m2,.inl ⟨by rw[I],I⟩⟩
theorem EI.done {kd:Int}{cl:Bool}(h:EI N B ε)(hB:B<=4000)(hn:NW N now)(h1:1<=kd)(h2:kd<=7)(hr:uC ε now kd tx pv nx data 0 bj e cl ah):
  (cl=false/\(e=7\/e=2)/\EI N (B+2) ah/\∀m,pgA ah m=pgA ε m) \/
  (cl=true/\e=0/\EI N (B+2) ah/\∀m,pgA ah m=match lookL m now with|some b=>e_ b bj|none=>pgA ε m):=by
 have I:∀n∈gK now,0<=n/\n<N:=λn hq=>hn.keys n (uB.1 hq);have hN:=h.many;have dL:∀ {c:List fU} {ah:bk} {e:Int},mQ now (gK now) ε e c ah->iQ kd c=true:=λhc=>by
  refine VD ⟨h1,by omega⟩ (hc.fit (λx hx=>jU (hn.good x hx).1) λn hq => ?_)<;>grind
 cases hr with
 |arg hq=>omega
 |dead _ _ _ hd=>rw[h.ec.dk.alive] at hd;cases hd
 |tf e c ah _ _ _ hd hc he=>exact absurd (hc.ec h.ec h.ok I).2.2 he
 |app c ah _ _ _ hd hc he =>
  obtain⟨c1,c2,c3⟩:=hc.ec h.ec h.ok I;have hi:EI N B ah:=⟨hc.qN h.ok,c1,hc.el h.el,c_ hc.dH h.dH⟩;obtain⟨a1,a2,a3⟩:=hi.app (kd:=kd) (tx:=tx) (pv:=pv) (nx:=nx) (data:=data) (c:=c) hB (dL hc);refine .inl ⟨U,?_,a1.more (by omega),λm=>by grind⟩<;>grind
 |put c ah e mh _ _ _ hd hc ha hp =>
  obtain⟨c1,c2,c3⟩:=hc.ec h.ec h.ok I;have hi:EI N B ah:=⟨hc.qN h.ok,c1,hc.el h.el,c_ hc.dH h.dH⟩;obtain⟨a1,a2,a3⟩:=hi.app (kd:=kd) (tx:=tx) (pv:=pv) (nx:=nx) (data:=data) (c:=c) hB (dL hc);obtain⟨p1,p2,p3⟩:=hp.ec a1.ec a1.ok hn I;have hl:(gK now).length<=N:=by
   have:=hn.len;rw[gK,(jb _).length_eq,cj];exact this
  have nM:=hp.dH a1.ok;have tc:=a1.dH;refine .inr ⟨U,p2,⟨hp.qN a1.ok,p1,?_,by omega⟩,λm => ?_⟩
  .have:=hp.el a1.el;exact⟨this.log,this.cert,c_ this.size (qb _ (by omega))⟩
  .grind[uB,vn]
theorem M5 (n:Nat): (digits 9 n).length<=10:=xq 9 n
def Bb (π:Pl)(n:Int)(b:List Nat): Prop:=∃(i:Nat) (f:Fm),π.aj[i]?=some f/\f.bQ=n/\0<=n/\f.changed=true/\f.b=b
abbrev VP := (Int->List Nat->Prop)->List (Int×(Nat×Bool))->LD->Prop
abbrev vw (P:VP)(ε:bk): Prop:=P (Bb ε.1) ε.1.eu ε.2
theorem VM (hn:ie π cA): Bb cA=Bb π:=by
 funext n b;refine propext ⟨λ⟨i,x,hx,I,h0,h2,h3⟩ => ?_,λ⟨i,f,hf,I,h0,h2,h3⟩ => ?_⟩
 .obtain⟨f,t,hf,rfl⟩:=hn.back hx;exact⟨i,f,hf,I,h0,h2,h3⟩
 .obtain⟨t,ht⟩:=hn.get i f hf;exact⟨i,_,ht,I,h0,h2,h3⟩
theorem DF {f g:Fm}(hf:π.aj[i]?=some f)(hs:∀n b,(f.bQ=n/\0<=n/\f.changed=true/\f.b=b)↔(g.bQ=n/\0<=n/\g.changed=true/\g.b=b)){w:List (Int×Int)}{hd:Nat}: Bb ⟨π.aj.set i g,w,d,hd⟩=Bb π:=by
 have hi:=(List.getElem?_eq_some_iff.1 hf).1;funext n b;refine propext ⟨λ⟨j,x,I,h⟩ => ?_,λ⟨j,x,I,h⟩ => ?_⟩
 .rcases xy hf I with⟨rfl,rfl⟩|⟨_,I⟩
  .exact⟨i,f,hf,(hs n b).2 h⟩
  .exact⟨j,x,I,h⟩
 .by_cases hj:i=j
  .subst hj;rw[hf] at I;have:=bB I;subst this;exact⟨i,g,jN hi,(hs n b).1 h⟩
  .exact⟨j,x,by grind,h⟩
theorem SU {f g:Fm}(hg:π.aj[i]?=some g)(hc:0<=g.bQ->g.changed=false): Bb (eF π i f)=Bb π :=
 DF hg λn b=>⟨(λ⟨h1,h0,I,_⟩=>by grind),λ⟨_,_,I,_⟩=>(by cases I)⟩
theorem Qc {e:Fm}(he:π.aj[i]?=some e)(hp:e.bQ<0): Bb (kM π i n b)=Bb π :=
 DF he λm c=>⟨λ⟨h1,h0,_⟩=>by omega,λ⟨_,_,I,_⟩=>(by cases I)⟩
structure uS (N:Nat)(P:VP): Prop where
 one:∀(ε:bk) (i:Nat) (f:Fm),EC N ε->ε.1.aj[i]?=some f->0<=f.bQ->f.changed=true->vw P ε->vw P (outF ε i).2
theorem oC.ad2 (h:oC R)(N:Nat): uS N (λ_ _ x=>R x):=⟨λ_ _ _ _ _ _ _ hv=>h.out hv⟩
section
variable {P:VP} {l:List Int} {cs:List fU}
theorem uS.out (h:uS N P){f:Fm}(he:EC N ε)(I:ε.1.aj[i]?=some f)(hv:vw P ε): vw P (outF ε i).2:=by
 by_cases hc:f.bQ<0\/f.changed=false
 .grind[outF]
 .exact h.one ε i f he I (by omega) (by grind) hv
theorem uS.mu (h:uS N P)(hr:ig ε n e b ah)(he:EC N ε)(hv:vw P ε): vw P ah:=by
 cases hr with
 |arg I=>exact hv
 |IS i f h1 h2 hl hf =>
  grind[DF]
 |out cA i f h1 h2 hl I hf hh hq=>exact absurd ((he.uQ I).1.out hf).1 hq
 |read cA i f h1 h2 hl I hf hh hq hr =>
  obtain⟨k1,k2,k3,k4,g,k5,k6,k7⟩:=(he.uQ I).1.out hf;refine absurd ?_ hr;rw[he.dk.bG] at h2;rw[Dk.ud,ai (by rw[k2.dk.alive];decide),ai (by rw[k2.dk.bG];exact not_not_intro ⟨h1,h2⟩)]
 |bad cA i f h1 h2 hl I hf hh hq hr hc =>
  obtain⟨k1,k2,k3,k4,g,k5,k6,k7⟩:=(he.uQ I).1.out hf;rw[he.dk.bG] at h2;exact absurd (k2.dk.good n h1 h2) hc
 |load cA i f h1 h2 hl I hf hh hq hr hc =>
  obtain⟨n1,n2⟩:=he.uQ I;have Sk:vw P (cA,ε.2):=by show P (Bb cA) cA.eu ε.2;rw[VM I,I.eu];exact hv
  have IJ:=h.out (ε:=(cA,ε.2)) n1 hf Sk;grind[SU,eF,outF,gp,kM,Qc]
theorem SV : Bb (unpinF π n).2=Bb π/\(unpinF π n).2.eu=π.eu:=by
 grind[unpinF,DF]
theorem uS.rd (h:uS N P)(hr:o8 ε n e b ah)(he:EC N ε)(hv:vw P ε): vw P ah:=by
 cases hr<;>grind[mu,SV]
theorem uS.Co (h:uS N P)(hr:GRd ε now false n e b ah)(he:EC N ε)(hv:vw P ε): vw P ah:=by
 cases hr with
 |arg hn=>exact hv
 |cK _ _ ho=>cases ho
 |own b I h2 _ hl=>exact hv
 |read e b ah I h2 _ hl hr=>exact h.rd hr he hv
theorem uS.K4 (h:uS N P)(hr:wI ε now false n b e aJ ah)(he:EC N ε)(hv:vw P ε): vw P ah:=by
 cases hr with
 |may e c ah hr _=>exact h.Co hr he hv
 |bad c ah hr I=>exact h.Co hr he hv
 |done c ah hr I=>exact h.Co hr he hv
end
def tot : List (List Nat)->Nat
 |[]=>0
 |c::l=>c.length+tot l
theorem tT {a b:List (List Nat)}: tot (a++b)=tot a+tot b:=by
 induction a<;>grind[tot]
theorem i_ : ∀ {cs:List (List Nat)} {i:Nat} {c:List Nat},cs[i]?=some c->tot (cs.take (i+1))=tot (cs.take i)+c.length:=by
 intro cs;induction cs<;>grind[tot]
theorem AK (h:i<=j): tot (cs.take i)<=tot (cs.take j):=by
 grind[List.take_append_drop,tT]
theorem lK {cs:List (List Nat)}{i:Nat}: tot (cs.take i)<=tot cs:=by
 grind[tT,List.take_append_drop]
theorem Zz : ∀ {cs:List (List Nat)} {i:Nat} {c c':List Nat},cs[i]?=some c->c'.length=c.length->∀k,tot ((cs.set i c').take k)=tot (cs.take k):=by
 intro cs;induction cs with
 |nil=>simp
 |cons x cs I =>
  intro i c c' h hl k;cases i with
  |zero =>
   simp at h;subst h;cases k<;>grind[tot]
  |succ i=>cases k<;>grind[tot]
theorem dU {l m:List Nat}{a i:Nat}(h:a+m.length<=l.length)(hi:i<a\/a+m.length<=i): (az l a m)[i]?=l[i]?:=by
 grind[Gn]
theorem mR {l m:List Nat}{a i:Nat}(h:a+m.length<=l.length)(hi:i<m.length): (az l a m)[a+i]?=m[i]?:=by
 grind[Gn]
theorem dV {l m:List Nat}{a z:Nat}(h:∀i,a<=i->i<a+z->l[i]?=m[i]?): dR l a z=dR m a z:=by
 unfold dR;congr 1;apply ny;simp_all[hO]
theorem H7 {m:List Nat}{b:Nat}(h:a+m.length<=l.length)(I:b+z<=a\/a+m.length<=b): dR (az l a m) b z=dR l b z :=
 by grind[dV,dU]
theorem pW {l:List Nat}{a z n:Nat}(h:a+z<=l.length:=by omega)(I:n<256^z:=by omega): dR (az l a (le z n)) a z=n:=by
 have e:((az l a (le z n)).take (a+z)).drop a=le z n:=by
  apply ny;simp only[fB,hO];grind[mR,cO]
 grind[dR,Cp,Nat.mod_eq_of_lt]
theorem mI {l m:List Nat}{i:Nat}(h:l[i]?=m[i]?): l.getD i 0=m.getD i 0:=by grind
structure fy (b:List Nat)(k link extra:Nat)(cs:List (List Nat)): Prop where
 len:b.length=512
 Ea:b.getD 13 0=0
 kind:b.getD 12 0=k
 link:dR b 18 4=link
 extra:dR b 22 4=extra
 gq:jI b=cs.length
 low:dy b+tot cs=512
 fits:26+4*cs.length+tot cs<=512
 slot:∀i c,cs[i]?=some c->bx b i+tot (cs.take (i+1))=512/\er b i=c.length/\∀j,j<c.length->b[bx b i+j]?=c[j]?
theorem K9 : ∀(z k:Nat) (t:List Bool),k+z<=t.length->(∀j,k<=j->j<k+z->t.getD j false=false)->∃t',markL z k t=some t'/\t'.length=t.length/\∀j,(j<k\/k+z<=j)->t'.getD j false=t.getD j false:=by
 intro z;induction z with
 |zero=>intro k t _ _;exact⟨t,U,U,λ_ _=>U⟩
 |succ z I =>
  intro k t h1 h2;have hs:∀j,j≠k->(t.set k true).getD j false=t.getD j false:=λj hj=>by
   grind
  obtain⟨t',e1,e2,e3⟩:=I (k+1) (t.set k true) (by grind) (λj a b=>by grind)<;>grind[markL]
section
theorem fy.cells (h:fy b k link extra cs): ∀(n i:Nat) (t:List Bool),i+n=cs.length->t.length=512->(∀j,j+tot (cs.take i)<512->t.getD j false=false)->cellsL b (dy b) n i t=true:=by
 intro n;induction n with
 |zero=>intro i t _ _ _;rfl
 |succ n ih =>
  intro i t hi ht hf;have I:cs[i]?=some (cs[i]'(by omega)):=aF _;generalize (cs[i]'(by omega))=c at I;obtain⟨s1,s2,s3⟩:=h.slot i c I;have h1:=i_ I;have h2:=lK (cs:=cs) (i:=i+1);have h3:=h.low;obtain⟨t',e1,e2,e3⟩:=K9 c.length (bx b i) t (by omega) (λj _ _=>hf j (by omega));rw[cellsL,s2,ai (by omega),e1];exact ih (i+1) t' (by omega) (by omega) (λj hj=>by grind)
theorem fy.good (h:fy b k link extra cs): cJ b=true:=by
 have I:=h.low;have h2:=h.fits;rw[cJ,dZ h.len,dZ h.Ea,dZ (by rw[h.gq];omega),h.cells _ _ _ (by rw[h.gq];omega) f_ λj hj => ?_]
 .rfl
 grind
theorem fy.tail (h:fy b k link extra cs)(hl:b'.length=512)(ht:b'.drop 12=b.drop 12): fy b' k link extra cs:=by
 have hg:∀i,12<=i->b'[i]?=b[i]?:=λi hi=>by
  have:=dg (λl:List Nat=>l[i-12]?) ht;grind
 have I:∀a z,12<=a->dR b' a z=dR b a z:=λa z q=>wL ht q;refine⟨hl,?_,?_,?_,?_,?_,?_,h.fits,λi c hc => ?_⟩
 .rw[mI (hg 13 (by decide))];exact h.Ea
 .rw[mI (hg 12 (by decide))];exact h.kind
 .rw[I _ _ (by decide)];exact h.link
 .rw[I _ _ (by decide)];exact h.extra
 .rw[jI,I _ _ (by decide)];exact h.gq
 .rw[dy,I _ _ (by decide)];exact h.low
 .obtain⟨s1,s2,s3⟩:=h.slot i c hc;have e1:bx b' i=bx b i:=I _ _ (by omega);have e2:er b' i=er b i:=I _ _ (by omega);have dL:=h.fits;grind[lK]
def x_ (k:Nat): List Nat:=az ((List.replicate 512 0).set 12 k) 16 (le 2 512)
theorem fy.new : fy (x_ k) k 0 0 []:=by
 have hle:∀n,(le 2 n).length=2:=λn=>cO 2 n;have I:∀i,i<16\/18<=i->(x_ k)[i]?=((List.replicate 512 0).set 12 k)[i]?:=λi hi=>dU (by grind) (by grind);have hz:∀i,i≠12->((List.replicate 512 0).set 12 k)[i]?=(List.replicate 512 0)[i]?:=λi hi=>lW (by omega);have jX:∀a z,a+z<=512->(18<=a\/(13<=a/\a+z<=16))->dR (x_ k) a z=dR (List.replicate 512 0) a z:=λa z h1 h2=>dV λi h3 h4=>by grind
 refine⟨by grind[x_,bF],?_,?_,?_,?_,?_,?_,by decide,λi c hc=>(by grind)⟩
 .rfl
 .rfl
 .rfl
 .rfl
 .rfl
 .rfl
def ya (b:List Nat)(x y:Nat): List Nat:=az (az b 18 (le 4 x)) 22 (le 4 y)
theorem fy.set (h:fy b k link extra cs){x y:Nat}(hx:x<4294967296)(hy:y<4294967296): fy (ya b x y) k x y cs:=by
 have hlen:=h.len;have hle:∀n,(le 4 n).length=4:=λn=>cO 4 n;have l1:(az b 18 (le 4 x)).length=512:=by grind[bF]
 have l2:(ya b x y).length=512:=by grind[ya,bF]
 have I:∀i,i<18\/26<=i->(ya b x y)[i]?=b[i]?:=λi hi=>by
  grind[ya,dU]
 have jX:∀a z,a+z<=18\/26<=a->dR (ya b x y) a z=dR b a z:=λa z h2=>dV λi h3 h4=>I i (by omega);refine⟨l2,?_,?_,?_,?_,?_,?_,h.fits,λi c hc => ?_⟩
 .rw[mI (I 13 (by decide))];exact h.Ea
 .rw[mI (I 12 (by decide))];exact h.kind
 .grind[ya,H7,pW]
 .grind[ya,pW]
 .rw[jI,jX _ _ (by decide)];exact h.gq
 .rw[dy,jX _ _ (by decide)];exact h.low
 .obtain⟨s1,s2,s3⟩:=h.slot i c hc;have e1:bx (ya b x y) i=bx b i:=jX _ _ (by omega);have e2:er (ya b x y) i=er b i:=jX _ _ (by omega);have dL:=h.fits;grind[lK]
def mw (b:List Nat)(i f z:Nat): List Nat:=az (az b (26+4*i) (le 2 f)) (26+4*i+2) (le 2 z)
section
variable {f:Nat}
theorem zE (hl:b.length=512)(hi:30+4*i<=512): (mw b i f z).length=512:=by
 grind[cO,mw,bF]
theorem zG (hl:b.length=512)(hi:30+4*i<=512){j:Nat}(I:j<26+4*i\/30+4*i<=j): (mw b i f z)[j]?=b[j]?:=by
 grind[cO,mw,dU,bF]
theorem Cr (hl:b.length=512)(hi:30+4*i<=512:=by omega)(I:f<65536:=by omega)(hz:z<65536:=by omega): bx (mw b i f z) i=f/\er (mw b i f z) i=z:=by
 grind[cO,bF,bx,mw,H7,pW,er]
end
def AL (b:List Nat)(n lo:Nat)(c:List Nat): List Nat:=mw (az (az (az b 14 (le 2 (n+1))) lo c) 16 (le 2 lo)) n lo c.length
theorem fy.ins (h:fy b k link extra cs){c:List Nat}{lo:Nat}(hf:26+4*(cs.length+1)+(tot cs+c.length)<=512)(jF:lo+(tot cs+c.length)=512): fy (AL b cs.length lo c) k link extra (cs++[c]):=by
 have hlen:=h.len;have hle:∀n,(le 2 n).length=2:=λn=>cO 2 n;have l1:(az b 14 (le 2 (cs.length+1))).length=512:=by grind[bF]
 have l2:(az (az b 14 (le 2 (cs.length+1))) lo c).length=512:=by rw[bF,l1]
 have l3:(az (az (az b 14 (le 2 (cs.length+1))) lo c) 16 (le 2 lo)).length=512:=by grind[bF]
 have l4:(AL b cs.length lo c).length=512:=zE l3 (by omega);have o3:∀i,i<16\/18<=i->(az (az (az b 14 (le 2 (cs.length+1))) lo c) 16 (le 2 lo))[i]?=(az (az b 14 (le 2 (cs.length+1))) lo c)[i]?:=λi hi=>dU (by grind) (by grind);have o4:∀i,i<26+4*cs.length\/30+4*cs.length<=i->(AL b cs.length lo c)[i]?=(az (az (az b 14 (le 2 (cs.length+1))) lo c) 16 (le 2 lo))[i]?:=λi hi=>zG l3 (by omega) hi
 -- what is neither count, low, the slot nor the cell
 have I:∀i,(i<14\/18<=i)->(i<26+4*cs.length\/30+4*cs.length<=i)->(i<lo\/lo+c.length<=i)->(AL b cs.length lo c)[i]?=b[i]?:=λi h1 h2 h3=>by
  grind[dU]
 have jX:∀a z,(a+z<=14\/18<=a)->a+z<=26+4*cs.length->dR (AL b cs.length lo c) a z=dR b a z:=λa z h1 h2=>dV λi h3 h4=>I i (by omega) (by omega) (by omega);have jE:bx (AL b cs.length lo c) cs.length=lo/\er (AL b cs.length lo c) cs.length=c.length:=Cr l3;have abp:tot (cs++[c])=tot cs+c.length:=by rw[tT];simp[tot]
 refine⟨l4,?_,?_,?_,?_,?_,?_,by grind,λi x hx => ?_⟩
 .rw[mI (I 13 (by omega) (by omega) (by omega))];exact h.Ea
 .rw[mI (I 12 (by omega) (by omega) (by omega))];exact h.kind
 .rw[jX _ _ (by omega) (by omega)];exact h.link
 .rw[jX _ _ (by omega) (by omega)];exact h.extra
 .have e:dR (AL b cs.length lo c) 14 2=dR (az b 14 (le 2 (cs.length+1))) 14 2:=dV λi h1 h2=>by
   grind[dU]
  grind[jI,pW]
 .have e:dR (AL b cs.length lo c) 16 2=dR (az (az (az b 14 (le 2 (cs.length+1))) lo c) 16 (le 2 lo)) 16 2:=dV λi h1 h2=>o4 i (by omega);grind[dy,pW]
 .by_cases hi:i<cs.length
  .rw[rA hi] at hx;obtain⟨s1,s2,s3⟩:=h.slot i x hx<;>grind[bx,er,lK]
  .have fc:i=cs.length:=by
    grind
   subst fc;rw[iz (aH _),gF] at hx;have hx:c=x:=bB hx;subst hx;rw[jE.1,jE.2,g_ (by simp),abp];exact⟨jF,U,λj hj=>by grind[mR]⟩
def yb (b:List Nat)(i f:Nat)(c:List Nat): List Nat:=mw (az b f c) i f c.length
theorem fy.rep (h:fy b k link extra cs)(hc:cs[i]?=some c)(hl:c'.length=c.length): fy (yb b i (bx b i) c') k link extra (cs.set i c'):=by
 obtain⟨s1,s2,s3⟩:=h.slot i c hc;have hlen:=h.len;have hi:=(List.getElem?_eq_some_iff.1 hc).1;have oU:=h.low;have dL:=h.fits;have IQ:=lK (cs:=cs) (i:=i+1);have K_:=i_ hc;have l1:(az b (bx b i) c').length=512:=by grind[bF]
 have l2:(yb b i (bx b i) c').length=512:=zE l1 (by omega);have o2:∀j,j<26+4*i\/30+4*i<=j->(yb b i (bx b i) c')[j]?=(az b (bx b i) c')[j]?:=λj hj=>zG l1 (by omega) hj;have I:∀j,(j<26+4*i\/30+4*i<=j)->(j<bx b i\/bx b i+c.length<=j)->(yb b i (bx b i) c')[j]?=b[j]?:=λj h1 h2=>by grind[dU]
 have jX:∀a z,(a+z<=26+4*i\/30+4*i<=a)->a+z<=26+4*cs.length->dR (yb b i (bx b i) c') a z=dR b a z:=λa z h1 h2=>dV λj h3 h4=>I j (by omega) (by omega);have jE:bx (yb b i (bx b i) c') i=bx b i/\er (yb b i (bx b i) c') i=c'.length:=Cr l1;have uk:∀k,tot ((cs.set i c').take k)=tot (cs.take k):=Zz hc hl;have abp:tot (cs.set i c')=tot cs:=by
  have:=uk cs.length;grind[List.length_set]
 refine⟨l2,?_,?_,?_,?_,?_,?_,by grind,λj x hx => ?_⟩
 .rw[mI (I 13 (by omega) (by omega))];exact h.Ea
 .rw[mI (I 12 (by omega) (by omega))];exact h.kind
 .rw[jX _ _ (by omega) (by omega)];exact h.link
 .rw[jX _ _ (by omega) (by omega)];exact h.extra
 .rw[jI,jX _ _ (by omega) (by omega),cL];exact h.gq
 .grind[dy]
 .rw[uk];by_cases kI:i=j
  .subst kI;rw[jN hi] at hx;have hx:c'=x:=bB hx;subst hx;rw[jE.1,jE.2];exact⟨s1,U,λq hq=>by rw[o2 _ (by omega),mR (by omega) hq]⟩
  .rw[lW kI] at hx;obtain⟨r1,r2,r3⟩:=h.slot j x hx;have hj:=(List.getElem?_eq_some_iff.1 hx).1;have e1:bx (yb b i (bx b i) c') j=bx b j:=jX _ _ (by omega) (by omega);have e2:er (yb b i (bx b i) c') j=er b j:=jX _ _ (by omega) (by omega);have XS:=i_ hx;have htj:=lK (cs:=cs) (i:=j+1);rw[e1,e2];refine⟨r1,r2,λq hq => ?_⟩;rw[I _ (by omega) ?_]
   .grind
   .rcases yy kI with q1|q1
    .have:=AK (cs:=cs) (i:=i+1) (j:=j) (by omega);omega
    .have:=AK (cs:=cs) (i:=j+1) (j:=i) (by omega);omega
theorem fy.cell (h:fy b k link extra cs)(I:cs[i]?=some c): (b.drop (bx b i)).take c.length=c:=by
 obtain⟨s1,s2,s3⟩:=h.slot i c I;apply ny;grind
end
section
variable {h:H} {v:V} {m:List Nat}
theorem La {n b:Nat}(mq:a<=b)(hb:b<=n): ∃off I,slR (.sl id 0 n cap) a b=.sl id off (b-a) I/\off<=n:=by
 cases cap with
 |exact c =>
  simp only[slR];by_cases XC:c=a
  .rw[qT XC,ag];exact⟨0,_,U,gG _⟩
  .rw[fO XC,aS];exact⟨0+a*1,_,U,by omega⟩
 |rest e alt=>exact⟨0+a*1,_,U,by omega⟩
theorem Od {n:Nat}{cs:List V}(I:T.get h.tr id=some (.cells n cs false))(ho:off<=n)(hl:cs.length=n): wrN h id off []=some (h.put id (some (.cells n cs false))):=by
 simp only[wrN,I,bY];rw[aR.2 (by omega),ag];congr 3;cases hc:(Nat.beq off 0&&Nat.beq 0 n) with
 |true =>
  simp only[bV,beq_iff] at hc;rw[ag];rw[iK (by omega:cs.length=0)]
 |false=>rw[aS,dJ,eH,jO]
theorem SW (s:Sat h (aY v l::X::S))(hX:cy X (cE w m)){b:Nat}(mq:a<=b)(hb:b<=l.length)(hl:1<=l.length):
  ∃h',copyV Tryz.prog h 29 (slR v a b) w=some (.int .i64 (min m.length (b-a):Nat),h')/\Sat h' (aY v (az l a (m.take (b-a)))::X::S):=by
 by_cases h1:a<b/\1<=m.length
 .exact KA s hX h1.1 hb h1.2
 .have hm:min m.length (b-a)=0:=by omega
  have ht:m.take (b-a)=[]:=iK (by rw[cz];omega);have gD:az l a (m.take (b-a))=l:=by rw[ht,az];simp
  have hw:=(s.aD (k:=1) U hX).2;have hv:=(s.buf (k:=0) U).view;obtain⟨id,c,cap,rest,rfl,s1,hc,hf⟩:=s.eX hl;obtain⟨off,Ej,e1,e2⟩:=La (id:=id) (cap:=cap) mq hb;rw[e1,gD,hm];have hg:=s1.row (k:=0) U;have FP:=Od (off:=off) hg (by omega) (by rw[aN,dN];exact hc);have uR:Sat (h.put id (some (.cells c (ofBytes l++rest) false))) (aY (.sl id 0 l.length cap) l::X::S):=hf _ _ U hv.1 (s1.put (k:=0) U);rcases hw with⟨rfl|⟨x,rfl⟩,_⟩|⟨wz,I,HP,n2,qJ,st2,rfl,FO,q1,q2,q3,q4⟩
  .exact⟨h,by simp only[copyV,aP,fF];rfl,s⟩
  .exact⟨h,by simp only[copyV,aP,fF];rfl,s⟩
  .refine⟨_,?_,uR⟩;have hr:rdN h wz I 0=some []:=by
    simp only[rdN,FO,eH];rw[aR.2 (by omega),ag];cases hq:(Nat.beq I 0&&Nat.beq 0 n2) with
    |true =>
     simp only[bV,beq_iff] at hq;rw[ag,iK (by omega:qJ.length=0)]
    |false=>rw[aS,tw]
   simp only[copyV,aP,fF];rw[show Nat.min m.length (b-a)=0 from hm,mH,hr];simp only;rw[FP]
theorem IX (s:Sat h (aY v l::S)){b:Nat}(ha:a<=l.length)(hb:b<=l.length)(hl:1<=l.length):
  ∃h',copyV Tryz.prog h 29 (slR v a a) (slR v b b)=some (.int .i64 0,h')/\Sat h' (aY v l::S):=by
 have hv:=(s.buf (k:=0) U).view;obtain⟨id,c,cap,rest,rfl,s1,hc,hf⟩:=s.eX hl;obtain⟨off,Ej,e1,e2⟩:=La (id:=id) (cap:=cap) (aH _) ha;obtain⟨I,HP,e3,e4⟩:=La (id:=id) (cap:=cap) (aH _) hb;rw[e1,e3];have hg:=s1.row (k:=0) U;have hle:(ofBytes l++rest).length=c:=by rw[aN,dN];exact hc
 have FP:=Od (off:=off) hg (by omega) hle;refine⟨_,?_,hf _ _ U hv.1 (s1.put (k:=0) U)⟩;have hr:rdN h id I 0=some []:=by
  simp only[rdN,hg,eH];rw[aR.2 (by omega),ag];cases hq:(Nat.beq I 0&&Nat.beq 0 c) with
  |true =>
   simp only[bV,beq_iff] at hq;rw[ag,iK (by omega:(ofBytes l++rest).length=0)]
  |false=>rw[aS,tw]
 simp only[copyV,aP,fF,gF];rw[show Nat.min 0 0=0 from U,mH,hr];simp only;rw[FP];rfl
end
section
variable {h:H} {o:Oper} {v:V} {m:List Nat}
theorem OpR.JP {b:Nat}(hP:C.P=Tryz.prog)(s:Sat h (aY v l::X::S))(hX:cy X (cE u m))(I:o.op=.call cl)(hc:cl.callee=.builtin .copy)(yT:cl.argTypes = #[29,29])(ha:lookArgs E cl.args.toList=some [slR v a b,u])
 (mq:a<=b)(hb:b<=l.length)(hl:1<=l.length): OpR C E h o λ_ h₁=>Sat h₁ (aY v (az l a (m.take (b-a)))::X::S):=by
 obtain⟨h₁,e1,e2⟩:=SW s hX mq hb hl;refine OpR.builtin I hc ha ⟨.int .i64 (min m.length (b-a):Nat),h₁,?_,e2⟩;simp only[builtinV,hP,yT,e1]
theorem OpR.ac7 {b:Nat}(hP:C.P=Tryz.prog)(s:Sat h (aY v l::S))(I:o.op=.call cl)(hc:cl.callee=.builtin .copy)(yT:cl.argTypes = #[29,29])(hx:lookArgs E cl.args.toList=some [slR v a a,slR v b b])
 (ha:a<=l.length)(hb:b<=l.length)(hl:1<=l.length): OpR C E h o λ_ h₁=>Sat h₁ (aY v l::S):=by
 obtain⟨h₁,e1,e2⟩:=IX s ha hb hl;refine OpR.builtin I hc hx ⟨.int .i64 0,h₁,?_,e2⟩;simp only[builtinV,hP,yT,e1]
end
section
variable {told:cu} {h:H} {v:V}
theorem sS (I:W told){f:Nat}(s:Sat h (aY v b::S))(hl:b.length=512)(hi:30+4*i<=512)(hf:f<65536)(hz:z<65536):
  Call ⟨Tryz.prog,told⟩ 122 [.agg [v],.int .i64 (i:Int),.int .i64 (f:Int),.int .i64 (z:Int)] h λr h'=>r=.aV []/\Sat h' (aY v (mw b i f z)::S):=by
 have hle:∀n,(le 2 n).length=2:=λn=>cO 2 n;have l1:(az b (26+4*i) (le 2 f)).length=512:=by rw[bF (by rw[hle];omega),hl]
 obtain⟨lU,_,cap,_,rfl,_⟩:=s.eX (by omega);have e1:(26:Int)+4*(i:Int)=((26+4*i:Nat):Int):=by omega
 have e2:(26:Int)+4*(i:Int)+2=((26+4*i+2:Nat):Int):=by omega
 refine Call.of_wp (I.free _ U) Tryz.func122 U U (zg U ?_);refine au.cg s U U U (fG U U) (λp4 h s => ?_);refine zk 4 U (zb U (by exact iO ak) ?_);refine zb U (by exact aM ak) ?_;refine zk 4 U (zl U (s.b7 (k:=0) U bD aU) (zk 2 U (zo U (cN U (by exact kC b9 eZ iN)) ?_)));rw[e1];refine zc U (nT (a:=26+4*i) (z:=2) (n:=f) I (s.ae [1]) (by decide) (by decide) (by omega) (by omega)) ?_;rintro r h ⟨rfl,s⟩;have s:=s.ae [1,0];refine zk 2 U (zl U (s.b7 (k:=0) U bD aU) (zm U (zo U (aq (r:=.int .i64 ((26+4*i+2:Nat):Int)) U U (by rw[<-e2,<-e1];exact aM ak)) ?_)));refine zm U (zo U (cN U (by exact kC b9 eZ iN)) ?_);refine zc U (nT (a:=26+4*i+2) (z:=2) (n:=z) I (s.ae [1]) (by decide) (by decide) (by omega) (by omega)) ?_;rintro r h ⟨rfl,s⟩;exact zv ⟨aa,_,U,U,s.del 1⟩
theorem H8 (hT:W told)(s:Sat h S)(hk:getA S k=some X)(hX:cy X (cE v b))(hp:fy b kd link extra cs)(hc:cs[i]?=some c):
  Call ⟨Tryz.prog,told⟩ 187 [.agg [v],.int .i64 (i:Int)] h λr h'=>∃f,r=slR3 v f (f+c.length) (f+c.length)/\cy X (cE r c)/\Sat h' S:=by
 have hv:=s.aD hk hX;have hl:=hp.len;have hi:=(List.getElem?_eq_some_iff.1 hc).1;have dL:=hp.fits;have oU:=hp.low;obtain⟨s1,s2,s3⟩:=hp.slot i c hc;have IQ:=lK (cs:=cs) (i:=i+1);have K_:=i_ hc;have I:=hp.cell hc;generalize hf:bx b i=f at s1 s3 I;obtain⟨pi,po,pc,rfl⟩:=iC hv;refine Call.of_wp (hT.free _ U) Tryz.func187 U U (zg U ?_);refine au.cg s U U U (fG U U) (λp2 h s => ?_);refine zk 4 U (zl U (s.b7 (k:=0) U bD aU) (zm U (zc U (tM hT s (kX hk) hX hl (by omega)) ?_)));rintro r h' ⟨rfl,s⟩;rw[hf,s2];refine zk 8 U (zY s 0 ey b8 U (zk 3 U (zb U (by exact aM ak) ?_)));refine zk 2 U (zb U (by exact aM ak) ?_);have e1:(f:Int)+(c.length:Int)=((f+c.length:Nat):Int):=by omega
 have jE:=uc (s.aD (kX hk) hX) (a:=f) (b:=f+c.length) (c:=f+c.length) (by omega) (aH _) (by omega) (by omega);rw[e1];refine zo U (bK (p:=some (.int .i64 (f:Int))) (q:=some (.int .i64 ((f+c.length:Nat):Int))) (m:=some (.int .i64 ((f+c.length:Nat):Int))) (p':=some f) (q':=some (f+c.length)) (m':=some (f+c.length)) U U U U (by rw[bN];rfl) (by rw[bN];rfl) (by rw[bN];rfl) jE) ?_;refine zk 2 U (WP.ret ⟨aa,_,U,?_⟩);refine⟨f,U,?_,s.drop⟩;have:=B3 hX (a:=f) (b:=f+c.length) (c:=f+c.length) (by omega) (aH _) (by omega) (by omega);rw[l7,show f+c.length-f=c.length by omega,I] at this;exact this
theorem ZA (hT:W told)(s:Sat h S)(hk:getA S k=some X)(hX:cy X (cE v b))(I:fy b kd link extra cs):
  Call ⟨Tryz.prog,told⟩ 125 [.agg [v]] h λr h'=>r=.int .i64 (486-(4*(cs.length:Int)+(tot cs:Int)))/\Sat h' S:=by
 have hv:=s.aD hk hX;have hl:=I.len;have dL:=I.fits;have oU:=I.low;obtain⟨pi,po,pc,rfl⟩:=iC hv;refine Call.of_wp (hT.free _ U) Tryz.func125 U U (zg U ?_);refine au.cg s U U U (fG U U) (λp1 h s => ?_);refine zk 3 U ?_;have s0:=s;refine WP.drawn [none,none,some (1,2),some (0,2),af,af,af,af] U (by kernel_rfl) (by kernel_rfl) ?_;refine zL U (s.b7 (k:=0) U bD aU) (aB.any U U U U (OpR.call U U U U (B9 hT s (kX hk) hX hl)) ?_);rintro r h' ⟨rfl,s⟩;have s1:=s;refine zO U (aq U U (by exact dM ak)) ?_;refine zL U (s.b7 (k:=0) U bD aU) (aB.any U U U U (OpR.call U U U U (gx hT s (kX hk) hX hl)) ?_);rintro r h' ⟨rfl,s⟩;rw[I.gq];refine zO U (aq U U (by exact iO ak)) ?_;refine zO U (aq U U (by exact dM ak)) ?_;refine zA U ?_;refine aB.nil ⟨⟨aa,aa,λ_ _=>.inr ⟨U,⟨_,aq U U (by exact dM ak)⟩,bp _ U⟩,gC (.inr ⟨U,⟨_,o_load U (s0.b7 (k:=0) U bD aU)⟩,bp _ U⟩) (.inr ⟨U,⟨_,o_load U (s1.b7 (k:=0) U bD aU)⟩,bp _ U⟩),yr 5⟩,?_⟩;refine WP.ret ⟨aa,_,U,?_⟩;exact⟨dg (V.int .i64) (by omega),s.drop⟩
noncomputable def pfL : Code:=cX [1,1,0,1,0,0] ((Tryz.f123.body).getD .skip)
theorem Qd (hT:W told)(hX:cy X (cE x b))(Iy:x.cells=[x])(hp:fy b kd link extra cs): ∀(m i:Nat) (h:H) (E:List (Nat×V)) (Q:Ex->List (Nat×V)->H->Prop),i+m=cs.length ->
  Sat h (pt p1 (.cells 1 [x] false)::X::S)->Has E [(1,.ptr p1 0),(3,.int .i64 (486-(4*(cs.length:Int)+(tot (cs.take i):Int)))),(12,.int .i64 (cs.length:Int)),(13,.int .i64 (i:Int))] ->
  (∀E' h',Has E' [(3,.int .i64 (486-(4*(cs.length:Int)+(tot cs:Int))))]->Sat h' (pt p1 (.cells 1 [x] false)::X::S)->Q (.exit 0) E' h')->WP ⟨Tryz.prog,told⟩ 27 (.loop pfL) E h Q:=by
 have hl:=hp.len;have dL:=hp.fits;intro m;induction m with
 |zero =>
  intro i h E Q hi s hE hq;refine WP.loop (WP.has hE (zg U (zC U aK (by simp<;>omega) ?_)));refine zk 3 U (WP.exit ?_);refine hq _ _ ⟨?_,aa⟩ s;rw[show cs.take i=cs from g_ (by omega)];rfl
 |succ m ih =>
  intro i h E Q hi s hE hq;have I:cs[i]?=some (cs[i]'(by omega)):=aF _;generalize (cs[i]'(by omega))=c at I;obtain⟨s1,s2,s3⟩:=hp.slot i c I;have IQ:=lK (cs:=cs) (i:=i+1);have K_:=i_ I;refine WP.loop (WP.has hE (zg U (zB U aK (by simp<;>omega) ?_)));refine zk 5 U (WP.block (zK 7 U (zl U (s.b7 (k:=0) U bD aU) (zm U (zc U (tM hT (i:=i) s (k:=1) U hX hl (by omega)) ?_)))));rintro r h' ⟨rfl,s⟩;rw[s2];refine zk 9 U (zb U (by exact dM ak) ?_);refine za U (zv (zr U (zb U (by exact aM ak) ?_)));refine zm U (zv ?_);refine ih (i+1) _ _ Q (by omega) s ⟨U,?_,U,U,aa⟩ hq;exact dg (λz=>some (V.int .i64 z)) (by omega)
theorem VN (hT:W told)(s:Sat h (X::S))(hX:cy X (cE v b))(I:fy b kd link extra cs):
  Call ⟨Tryz.prog,told⟩ 123 [.agg [v]] h λr h'=>r=.int .i64 (486-(4*(cs.length:Int)+(tot cs:Int)))/\Sat h' (X::S):=by
 have hv:=s.aD (k:=0) U hX;have hl:=I.len;have dL:=I.fits;obtain⟨pi,po,pc,rfl⟩:=iC hv;refine Call.of_wp (hT.free _ U) Tryz.func123 U U (zg U ?_);refine au.cg s U U U (fG U U) (λp1 h s => ?_);refine zk 4 U (zl U (s.b7 (k:=0) U bD aU) (zc U (gx hT s (k:=1) U hX hl) ?_));rintro r h' ⟨rfl,s⟩;rw[I.gq];refine zb U (by exact iO ak) ?_;refine zb U (by exact dM ak) ?_;refine zk 5 U (zl U (s.b7 (k:=0) U bD aU) (zc U (gx hT s (k:=1) U hX hl) ?_));rintro r h' ⟨rfl,s⟩;rw[I.gq];refine zk 2 U (WP.block ?_);refine Qd hT hX U I cs.length 0 _ _ _ (by omega) s ⟨U,?_,U,U,aa⟩ (λE' h' hE s' => ?_)
 .exact dg (λz=>some (V.int .i64 z)) (by have:tot (cs.take 0)=0:=rfl;omega)
 have s:=s';exact WP.has hE (zK 5 U (WP.ret ⟨aa,_,U,U,s.del 0⟩))
theorem EF (I:W told)(s:Sat h (aY v b::X::S))(hX:cy X (cE x c))(hl:b.length=512)(hi:30+4*i<=512)(jF:dy b=lo+c.length)(Qe:lo+c.length<=512):
  Call ⟨Tryz.prog,told⟩ 127 [.agg [v],.int .i64 (i:Int),x] h λr h'=>r=.aV []/\Sat h' (aY v (mw (az (az b lo c) 16 (le 2 lo)) i lo c.length)::X::S):=by
 have hle:∀n,(le 2 n).length=2:=λn=>cO 2 n;have l1:(az b lo c).length=512:=by rw[bF,hl]
 have l2:(az (az b lo c) 16 (le 2 lo)).length=512:=by rw[bF (by rw[hle];omega),l1]
 obtain⟨lU,_,cap,_,rfl,_⟩:=s.eX (by omega);have hxv:=s.aD (k:=1) U hX;have hx:=hxv.cells;refine Call.of_wp (I.free _ U) Tryz.func127 U U (zg U ?_);refine au.cg s U U U (fG U U) (λp3 h s => ?_);refine zk 3 U (zl U (s.b7 (k:=0) U bD aU) (zc U (B9 I s (k:=1) U (bg _ _) hl) ?_));rintro r h' ⟨rfl,s⟩;rw[jF];refine zm U (zo U (aC U U U (bA aP (s.aD (k:=2) U hX))) (zo U (aq (r:=.int .i64 (lo:Int)) U U (by rw[show((lo:Nat):Int)=((lo+c.length:Nat):Int)-(c.length:Int) by omega];exact dM ak)) ?_));refine zk 4 U (zY s 0 ey b8 U (zm U ?_));have jE:=iu (s.aD (k:=1) U (bg _ _)) (a:=lo) (by omega);refine zo U (bK (p:=some (.int .i64 (lo:Int))) (q:=none) (m:=none) (p':=some lo) (q':=none) (m':=none) U U U U (by rw[bN];rfl) U U jE.1) ?_;refine zm U (au.any U U U (OpR.JP U (s.ae [1,1]) hX U U U U (by omega) (aH _) (by omega)) ?_);intro r h s;rw[g_ (by omega)] at s;have s:=s.ae [2,0,0];refine zk 3 U (zl U (s.b7 (k:=0) U bD aU) (zm U (zo U (cN U (by exact kC b9 eZ iN)) ?_)));refine zc U (nT (a:=16) (z:=2) (n:=lo) I (s.ae [1]) (by decide) (by decide) (by omega) (by omega)) ?_;rintro r h ⟨rfl,s⟩;have s:=s.ae [1,0,0];refine zk 2 U (zl U (s.b7 (k:=0) U bD aU) (zk 3 U (zo U (aC U U U (bA aP (s.aD (k:=2) U hX))) (zc U (sS (i:=i) (f:=lo) (z:=c.length) I (s.ae [1]) l2 hi (by omega) (by omega)) ?_))));rintro r h ⟨rfl,s⟩;exact zv ⟨aa,_,U,U,s.del 1⟩
end
section
variable {told:cu} {h:H} {v:V}
theorem IY (hT:W told)(s:Sat h S)(Gp:kd<=255):
  Call ⟨Tryz.prog,told⟩ 166 [.int .i64 (kd:Int)] h λr h'=>∃u,r=.aV [u,.int .i64 0]/\Sat h' (aY u (x_ kd)::S):=by
 refine Call.of_wp (hT.free _ U) Tryz.func166 U U (zK 9 U (zC U aK (by simp) ?_));refine zk 2 U (zC U cP (by simp;omega) ?_);refine zk 6 U (au.any U U U (OpR.FU U s U U U U (by decide)) ?_);intro u h s;have hl:(List.replicate 512 0).length=512:=f_;have hn:x_ kd=az ((List.replicate 512 0).set 12 kd) 16 (le 2 512):=rfl;generalize List.replicate 512 0=l at hl hn s;obtain⟨lU,_,cap,_,rfl,_⟩:=s.eX (by omega);refine zo U (cI U (by rw[Ar];rfl)) ?_;refine au.cg s U U U (cm jC) (λp4 h s => ?_);refine zS U (s.gX (j:=0) U aU U U) (λh s => ?_);refine zk 3 U (zY s 0 ey b8 U (zm U (zo U (cN U (by exact kC b9 Tryz.underlying5 qH)) ?_)));have s:=s.ae [1,0];obtain⟨wz,I,e3,h2,e4,s2⟩:=oP s (i:=12) (b:=kd) (by omega) (by omega);have iJ:(l.set 12 kd).length=512:=by rw[cL,hl]
 refine zo U (bM (r:=.ptr wz I) U U e3) (zS U (⟨h2,e4,s2⟩) ?_);rintro h s;have s:=s.ae [1,0];refine zk 3 U (zl U (s.b7 (k:=0) U bD aU) (zc U (nT (a:=16) (z:=2) (n:=512) hT (s.ae [1]) (by decide) (by decide) (by omega) (by omega)) ?_));rintro r h ⟨rfl,s⟩;have s:=s.ae [1,0];refine zk 3 U (zY s 0 ey b8 U (zk 3 U (WP.ret ⟨aa,_,U,?_⟩)));refine⟨_,U,?_⟩;rw[hn];exact s.drop
theorem Lb (hT:W told)(s:Sat h S)(I:kd<=255):
  Call ⟨Tryz.prog,told⟩ 166 [.int .i64 (kd:Int)] h λr h'=>∃u b,r=.aV [u,.int .i64 0]/\fy b kd 0 0 []/\Sat h' (aY u b::S) :=
 (IY hT s I).mono λr h' ⟨u,e,s⟩=>⟨u,_,e,fy.new (k:=kd),s⟩
theorem Oe (I:W told){lk ex:Nat}(s:Sat h (X::S))(hX:cy X (cE v b))(hp:fy b kd link extra cs)(Lc:lk<4294967296)(hex:ex<4294967296):
  Call ⟨Tryz.prog,told⟩ 167 [v,.int .i64 (lk:Int),.int .i64 (ex:Int)] h λr h'=>∃u b',r=.aV [u,.int .i64 0]/\fy b' kd lk ex cs/\Sat h' (aY u b'::X::S):=by
 have hl:=hp.len;have hle:∀n,(le 4 n).length=4:=λn=>cO 4 n;have l1:(az b 18 (le 4 lk)).length=512:=by rw[bF (by rw[hle];omega),hl]
 refine Call.of_wp (I.free _ U) Tryz.func167 U U (zK 8 U (zc U (pQ I s hX (by omega)) ?_));rintro r h' (⟨hg,u,rfl,s⟩|⟨hg,rfl,s⟩)
 .obtain⟨lU,_,cap,_,rfl,_⟩:=s.eX (by omega);refine zk 3 U ?_;refine au.cg s U U U (cm jC) (λp8 h s => ?_);dsimp only[V.cells,List.length_cons,List.length_nil,Nat.reduceAdd] at s;refine zS U (s.gX (j:=0) U aU U U) (λh s => ?_);dsimp only[setA] at s;refine zk 3 U (WP.block (zK 3 U (zC U aE (U) (zk 6 U (zC U aK (by simp) ?_)))));refine zk 2 U (zC U cP (by simp;omega) ?_);refine zk 3 U (zC U aK (by simp) ?_);refine zk 3 U (zC U cP (by simp;omega) ?_);refine zk 2 U (zv (zj U (WP.skip (zg U (zl U (by exact s.b7 (k:=0) U bD aU) ?_)))));refine zm U (zo U (cN U (by exact kC b9 eZ iN)) ?_);refine zc U (nT (a:=18) (z:=4) (n:=lk) I (s.ae [1]) (by decide) (by decide) (by omega) (by omega)) ?_;rintro r h' ⟨rfl,s⟩;have s:=s.ae [1,0];refine zk 3 U (zl U (s.b7 (k:=0) U bD aU) (zm U (zo U (cN U (by exact kC b9 eZ iN)) ?_)));refine zc U (nT (a:=22) (z:=4) (n:=ex) I (s.ae [1]) (by decide) (by decide) (by omega) (by omega)) ?_;rintro r h' ⟨rfl,s⟩;have s:=s.ae [1,0];exact zk 3 U (zY s 0 ey b8 U (zk 3 U (WP.ret ⟨aa,_,U,_,_,U,hp.set Lc hex,s.drop⟩)))
 .rw[hp.good] at hg;cases hg
theorem xz (hT:W told)(s:Sat h (X::S))(I:cy X (cE v l))(hl:l.length<1073741824):
  Call ⟨Tryz.prog,told⟩ 202 [v] h λr h'=>Sat h' (aY r l::X::S):=by
 have hv:=s.aD (k:=0) U I;refine Call.of_wp (hT.free _ U) Tryz.func202 U U (zK 7 U (zo U (aC U U U (bA aP (s.aD (k:=0) U I))) (au.any U U U (OpR.ux U s U U U U (by omega)) ?_)));intro u h s;refine zm U (au.any U U U (OpR.qy U s I U U U U (by simp;omega)) ?_);intro u2 h s;rw[dJ] at s;exact zk 2 U (WP.ret ⟨aa,_,U,s⟩)
theorem VO (I:W told)(s:Sat h (X::S))(hX:cy X (cE v b))(hp:fy b kd link extra cs)(hc:cs[i]?=some c):
  Call ⟨Tryz.prog,told⟩ 164 [v,.int .i64 (i:Int)] h λr h'=>∃u,r=.aV [u,.int .i64 0]/\Sat h' (aY u c::X::S):=by
 have hl:=hp.len;have hv:=s.aD (k:=0) U hX;have hi:=(List.getElem?_eq_some_iff.1 hc).1;have dL:=hp.fits;have IQ:=lK (cs:=cs) (i:=i+1);have K_:=i_ hc;obtain⟨pi,po,pc,rfl⟩:=iC hv;refine Call.of_wp (I.free _ U) Tryz.func164 U U (zK 8 U (zc U (uz I s hX (by omega)) ?_));rintro r h' ⟨s,(⟨hg,rfl⟩|⟨hg,rfl⟩)⟩
 .refine au.op U U U (bZ U) ?_;refine zk 2 U ?_;refine au.cg s U U U (cm jC) (λp6 h s => ?_);dsimp only[V.cells,List.length_cons,List.length_nil,Nat.reduceAdd] at s;refine zS U (s.gX (j:=0) U aU U U) (λh s => ?_);dsimp only[setA] at s;refine zk 3 U (WP.block (zK 3 U (zC U aE (U) (zk 6 U (zC U aK (by simp) ?_)))));refine zk 2 U (zl U (s.b7 (k:=0) U bD aU) (zc U (gx I s (k:=1) U hX hl) ?_));rintro r h' ⟨rfl,s⟩;rw[hp.gq];refine zC U j5 (by simp;omega) ?_;refine zk 2 U (zv (zj U (WP.skip (zg U (zl U (by exact s.b7 (k:=0) U bD aU) ?_)))));refine zm U (zc U (H8 (i:=i) I s (k:=1) U hX hp hc) ?_);rintro r h' ⟨f,rfl,hr,s⟩;refine zc U (xz I (s.ae [1]) hr (by omega)) ?_;intro u h s;exact zk 3 U (WP.ret ⟨aa,_,U,_,U,s.del 2⟩)
 .rw[hp.good] at hg;cases hg
end
theorem ri : ∃i,Tryz.prog.info? 29=some i/\i.size=1/\i.bytes=24 :=
 ⟨_,(show Tryz.prog.info? 29=some ((Tryz.prog.info? 29).getD default) by kernel_rfl),by kernel_rfl,by kernel_rfl⟩
section
variable {told:cu} {h:H} {v:V}
theorem Of (I:W told)(s:Sat h (X::Y::S))(hX:cy X (cE v b))(hY:cy Y (cE x c))(hp:fy b kd link extra cs)(hf:26+4*(cs.length+1)+(tot cs+c.length)<=512):
  Call ⟨Tryz.prog,told⟩ 53 [v,.int .i64 (cs.length:Int),x] h λr h'=>∃u b',r=.aV [u,.int .i64 0]/\fy b' kd link extra (cs++[c])/\Sat h' (aY u b'::X::Y::S):=by
 have hl:=hp.len
 have oU:=hp.low
 have hle:∀n,(le 2 n).length=2:=λn=>cO 2 n
 generalize hn:cs.length=n at hf
 have qU:=hp.gq
 have jF:∃lo,lo+(tot cs+c.length)=512:=⟨512-(tot cs+c.length),by omega⟩
 obtain⟨lo,jF⟩:=jF
 have l1:(az b 14 (le 2 (n+1))).length=512:=by grind[bF]
 have iJ:dy (az b 14 (le 2 (n+1)))=lo+c.length:=by
  grind[dy,H7]
 refine Call.of_wp (I.free _ U) Tryz.func53 U U (zK 8 U (zc U (pQ I s hX (by omega)) ?_))
 rintro r h' (⟨hg,u,rfl,s⟩|⟨hg,rfl,s⟩)
 .obtain⟨lU,_,cap,_,rfl,_⟩:=s.eX (by omega)
  refine zk 3 U ?_
  refine au.cg s U U U (cm jC) (λp8 h s => ?_)
  dsimp only[V.cells,List.length_cons,List.length_nil,Nat.reduceAdd] at s
  refine zS U (s.gX (j:=0) U aU U U) (λh s => ?_)
  dsimp only[setA] at s
  refine zk 3 U (WP.block (zK 3 U (zC U aE (U) (zk 6 U (zC U aK (by simp) ?_)))))
  refine zk 2 U (zl U (s.b7 (k:=0) U bD aU) (zc U (gx I s (k:=1) U (bg _ _) hl) ?_))
  rintro r h' ⟨rfl,s⟩
  rw[qU,hn]
  refine zC U cP (by simp) ?_
  refine zk 6 U (zl U (s.b7 (k:=0) U bD aU) (zc U (VN I (s.ae [1]) (bg _ _) hp) ?_))
  rintro r h' ⟨rfl,s⟩
  have s:=s.ae [1,0]
  dsimp only[aL,bringA,getA] at s
  rw[hn]
  refine zm U (zo U (aC U U U (bA aP (s.aD (k:=3) U hY))) (zb U (by exact aM ak) ?_))
  refine zC U aK (by grind) ?_
  refine za U (zv (zj U (WP.skip (zw (zg U (zl U (by exact s.b7 (k:=0) U bD aU) ?_))))))
  refine zc U (ZA I s (k:=1) U (bg _ _) hp) ?_
  rintro r h' ⟨rfl,s⟩
  rw[hn]
  refine zm U (zo U (aC U U U (bA aP (s.aD (k:=3) U hY))) (zb U (by exact aM ak) ?_))
  refine zC U aK (by grind) ?_
  refine zv (zj U (WP.skip (zg U (zl U (by exact s.b7 (k:=0) U bD aU) ?_))))
  refine zc U (gx I s (k:=1) U (bg _ _) hl) ?_
  rintro r h' ⟨rfl,s⟩
  rw[qU,hn]
  refine zk 3 U ?_
  have q1:((26:Int)+4*((n:Int)+1)).toNat=30+4*n:=by omega
  have q2:((26:Int)+4*(n:Int)).toNat=26+4*n:=by omega
  have s0:=s
  refine WP.drawn [af,af,af,af,af,af,af,af,af,af,af,af,af,af,af,af,af,af,af,af,af] U (by kernel_rfl) (by kernel_rfl) ?_
  refine zF U (ey _ _) (zL U (s.ld (k:=0) U b8 U) (zM U (zO U (aq U U (by exact aM ak)) ?_)))
  refine zO U (aq U U (by exact iO ak)) ?_
  refine zO U (aq U U (by exact aM ak)) ?_
  refine zM U (zO U (aq U U (by exact aM ak)) ?_)
  refine zO U (aq U U (by exact iO ak)) ?_
  refine zO U (aq U U (by exact aM ak)) ?_
  refine zO U (bK (p:=some (.int .i64 (26+4*((n:Int)+1)))) (q:=some (.int .i64 (26+4*((n:Int)+1)))) (m:=none) (p':=some (30+4*n)) (q':=some (30+4*n)) (m':=none) U U U U (by rw[bN,q1]) (by rw[bN,q1]) U (fR (s.buf (k:=1) U).view (aH _) (by omega)).1) ?_
  refine zF U (ey _ _) (zL U (s.ld (k:=0) U b8 U) (zM U (zO U (aq U U (by exact iO ak)) ?_)))
  refine zO U (aq U U (by exact aM ak)) ?_
  refine zM U (zO U (aq U U (by exact iO ak)) ?_)
  refine zO U (aq U U (by exact aM ak)) ?_
  refine zO U (bK (p:=some (.int .i64 (26+4*(n:Int)))) (q:=some (.int .i64 (26+4*(n:Int)))) (m:=none) (p':=some (26+4*n)) (q':=some (26+4*n)) (m':=none) U U U U (by rfl) (by rfl) U (fR (s.buf (k:=1) U).view (aH _) (by omega)).1) ?_
  refine aB.any U U U U (OpR.ac7 U (s.ae [1]) U U U U (by omega) (by omega) (by omega)) ?_
  intro r h s
  have s:=s.ae [1,0]
  refine aB.nil ⟨⟨aa,aa,aa,aa,aa,aa,aa,aa,aa,aa,aa,aa,aa,aa,aa,aa,aa,aa,aa,aa,aa,aa⟩,?_⟩
  refine zg U (zl U (s.b7 (k:=0) U bD aU) (zm U (zb U (by exact aM ak) ?_)))
  refine zo U (cN U (by exact kC b9 eZ iN)) ?_
  have en:(n:Int)+1=((n+1:Nat):Int):=by omega
  rw[en]
  refine zc U (nT (a:=14) (z:=2) (n:=n+1) I (s.ae [1]) (by decide) (by decide) (by omega) (by omega)) ?_
  rintro r h ⟨rfl,s⟩
  have s:=s.ae [1,0]
  refine zk 3 U (zl U (s.b7 (k:=0) U bD aU) (zk 2 U (zc U (EF (i:=n) (lo:=lo) I (s.ae [1,2]) hY l1 (by omega) iJ (by omega)) ?_)))
  rintro r h ⟨rfl,s⟩
  have s:=s.ae [2,0,1,0]
  refine zk 3 U (zY s 0 ey b8 U (zk 3 U (WP.ret ⟨aa,_,U,?_⟩)))
  subst hn
  exact⟨_,_,U,hp.ins hf jF,s.drop⟩
 .rw[hp.good] at hg;cases hg
theorem Og (hT:W told)(s:Sat h (X::Y::S))(hX:cy X (cE v b))(hY:cy Y (cE x c'))(hp:fy b kd link extra cs)(hc:cs[i]?=some c)(hlc:c'.length=c.length):
  Call ⟨Tryz.prog,told⟩ 51 [v,.int .i64 (i:Int),x] h λr h'=>∃u b',r=.aV [u,.int .i64 0]/\fy b' kd link extra (cs.set i c')/\Sat h' (aY u b'::X::Y::S):=by
 have hl:=hp.len;have dL:=hp.fits;have hi:=(List.getElem?_eq_some_iff.1 hc).1;have K_:=i_ hc;have I:=hp.rep hc hlc;obtain⟨s1,s2,s3⟩:=hp.slot i c hc;generalize hf:bx b i=f at s1 s3 I;have l1:(az b f c').length=512:=by rw[bF,hl]
 refine Call.of_wp (hT.free _ U) Tryz.func51 U U (zK 8 U (zc U (pQ hT s hX (by omega)) ?_));rintro r h' (⟨hg,u,rfl,s⟩|⟨hg,rfl,s⟩)
 .obtain⟨lU,_,cap,_,rfl,_⟩:=s.eX (by omega);refine zk 3 U ?_;refine au.cg s U U U (cm jC) (λp8 h s => ?_);dsimp only[V.cells,List.length_cons,List.length_nil,Nat.reduceAdd] at s;refine zS U (s.gX (j:=0) U aU U U) (λh s => ?_);dsimp only[setA] at s;refine zk 3 U (WP.block (zK 3 U (zC U aE (U) (zk 6 U (zC U aK (by simp) ?_)))));refine zk 2 U (zl U (s.b7 (k:=0) U bD aU) (zc U (gx hT s (k:=1) U (bg _ _) hl) ?_));rintro r h' ⟨rfl,s⟩;rw[hp.gq];refine zC U j5 (by grind) ?_;refine zk 2 U (zv (zj U (WP.skip (zg U (zl U (by exact s.b7 (k:=0) U bD aU) ?_)))));refine zm U (zc U (tM (i:=i) hT s (k:=1) U (bg _ _) hl (by omega)) ?_);rintro r h' ⟨rfl,s⟩;rw[hf,s2];refine zk 10 U (zo U (aC U U U (bA aP (s.aD (k:=3) U hY))) (zm U (zB U wo (by grind) ?_)));refine zk 4 U (zY s 0 ey b8 U (zm U ?_));have jE:=iu (s.aD (k:=1) U (bg _ _)) (a:=f) (by omega);refine zo U (bK (p:=some (.int .i64 (f:Int))) (q:=none) (m:=none) (p':=some f) (q':=none) (m':=none) U U U U (by rfl) U U jE.1) ?_;refine zm U (au.any U U U (OpR.JP U (s.ae [1,2]) hY U U U U (by omega) (aH _) (by omega)) ?_);intro r h s;rw[g_ (by omega)] at s;have s:=s.ae [2,0,1,0];refine zk 3 U (zl U (s.b7 (k:=0) U bD aU) (zk 3 U (zo U (aC U U U (bA aP (s.aD (k:=3) U hY))) (zc U (sS (i:=i) (f:=f) (z:=c'.length) hT (s.ae [1]) l1 (by omega) (by omega) (by omega)) ?_))));rintro r h ⟨rfl,s⟩;have s:=s.ae [1,0];exact zk 3 U (zY s 0 ey b8 U (zk 3 U (WP.ret ⟨aa,_,U,_,_,U,I,s.drop⟩)))
 .rw[hp.good] at hg;cases hg
theorem Qf (I:W told){c0 c1:List Nat}(s:Sat h (X::S))(hX:cy X (cE v b))(hp:fy b kd link extra [c0,c1]):
  Call ⟨Tryz.prog,told⟩ 160 [v] h λr h'=>∃w u0 u1,r=.aV [w,.int .i64 0]/\Sat h' (.arr 1 w [u0,u1]::aY u0 c0::aY u1 c1::X::S):=by
 have hl:=hp.len;have hv:=s.aD (k:=0) U hX;have dL:=hp.fits;simp only[tot,aX,bY] at dL;obtain⟨pi,po,pc,rfl⟩:=iC hv;obtain⟨i1,c9,fc,pP⟩:=ri;refine Call.of_wp (I.free _ U) K0 U U (zK 8 U (zc U (uz I s hX (by omega)) ?_));rintro r h' ⟨s,(⟨hg,rfl⟩|⟨hg,rfl⟩)⟩
 .refine au.op U U U (bZ U) ?_;refine zk 2 U ?_;refine au.cg s U U U (cm jC) (λp4 h s => ?_);dsimp only[V.cells,List.length_cons,List.length_nil,Nat.reduceAdd] at s;refine zS U (s.gX (j:=0) U aU U U) (λh s => ?_);dsimp only[setA] at s;refine zk 6 U (zC U aE (U) (zk 5 U (zl U (s.b7 (k:=0) U bD aU) (zc U (gx I s (k:=1) U hX hl) ?_))));rintro r h' ⟨rfl,s⟩;rw[show jI b=2 from hp.gq];obtain⟨wv,h1,e3,s1⟩:=B1 (P:=Tryz.prog) s aO c9 lQ fc (by omega) U (by decide) (by decide) (n:=0) (c:=2) (by decide) (by decide);refine au.any U U U (OpR.of (R:=λv h'=>v=wv/\h'=h1) (Ak U U e3) ⟨U,U⟩) ?_;rintro w0 h ⟨rfl,rfl⟩;have s:Sat h (.arr 1 w0 []::_):=s1;have s:=s.ae [1,1,0];dsimp only[bringA,getA,aL] at s;refine zk 5 U (zl U (s.b7 (k:=0) U bD aU) (zc U (gx I s (k:=1) U hX hl) ?_));rintro r h' ⟨rfl,s⟩;rw[show jI b=2 from hp.gq];refine zk 2 U (WP.block (WP.loop (zg U (zB U aK (by decide) ?_))));refine zk 5 U (WP.block (zK 7 U (zl U (s.b7 (k:=0) U bD aU) (zm U (zc U (H8 (i:=0) (c:=c0) I s (k:=1) U hX hp U) ?_)))));rintro r h' ⟨f,rfl,hr,s⟩;refine zc U (xz I (s.ae [1]) hr (by omega)) ?_;intro u0 h s;have XT:=(s.buf (k:=0) U).view.cells;have s:=s.ae [3];dsimp only[aL,bringA,getA] at s;obtain⟨iv,h1,wG,s1⟩:=kY (P:=Tryz.prog) (k:=1) (x:=u0) s aO lQ dQ U (by decide) (by decide) (by grind) (by grind);rw[XT.1] at s1;refine au.any U U U (OpR.of (R:=λv h'=>v=iv/\h'=h1) (iZ U wG) ⟨U,U⟩) ?_;rintro v' h' ⟨rfl,rfl⟩;obtain⟨av,h2,sO,s2⟩:=iw (s1.ae [1,0]) aO c9 lQ fc (by omega) U (by decide) (by simp);dsimp only[List.nil_append,aL,bringA] at s2;refine au.any U U U (OpR.of (R:=λv h'=>v=av/\h'=h2) (jc U U sO) ⟨U,U⟩) ?_;rintro v' h ⟨rfl,rfl⟩;have s:=(s2.del 1).ae [3,2,0,0];dsimp only[aL,bringA,getA] at s;refine za U (zv (zr U (zb U (by exact aM ak) ?_)));refine zm U (zv (WP.loop (zg U (zt U (aq U U aK) (by decide) ?_))));refine zk 5 U (WP.block (zK 7 U (zl U (s.b7 (k:=0) U bD aU) (zm U (zc U (H8 (i:=1) (c:=c1) I s (k:=1) U hX hp U) ?_)))));rintro r h' ⟨f1,rfl,XR,s⟩;refine zc U (xz I (s.ae [1]) XR (by omega)) ?_;intro u1 h s;have XU:=(s.buf (k:=0) U).view.cells;have s:=s.ae [3];dsimp only[aL,bringA,getA] at s;obtain⟨iv1,h1,wG,s1⟩:=kY (P:=Tryz.prog) (k:=1) (x:=u1) s aO lQ dQ U (by decide) (by decide) (by grind) (by grind);rw[XU.1] at s1;refine au.any U U U (OpR.of (R:=λv h'=>v=iv1/\h'=h1) (iZ U wG) ⟨U,U⟩) ?_;rintro v' h' ⟨rfl,rfl⟩;obtain⟨av1,h2,sO,s2⟩:=iw (s1.ae [1,0]) aO c9 lQ fc (by omega) U (by decide) (by simp);dsimp only[List.cons_append,List.nil_append,aL,bringA] at s2;refine au.any U U U (OpR.of (R:=λv h'=>v=av1/\h'=h2) (jc U U sO) ⟨U,U⟩) ?_;rintro v' h ⟨rfl,rfl⟩;have s:=(s2.del 1).ae [3,2,0,1,0];dsimp only[aL,bringA,getA] at s;refine za U (zv (zr U (zb U (by exact aM ak) ?_)));refine zm U (zv (WP.loop (zg U (zh U (aq U U aK) (by decide) ?_))));exact zk 3 U (WP.exit (zK 6 U (WP.ret ⟨aa,_,U,_,_,_,U,(s.ae [2,2,2,1]).del 4⟩)))
 .rw[hp.good] at hg;cases hg
end
structure bH (b:List Nat)(k link extra:Nat)(cs:List (List Nat)): Prop where
 len:b.length=512
 Ea:b.getD 13 0=0
 kind:b.getD 12 0=k
 link:dR b 18 4=link
 extra:dR b 22 4=extra
 gq:jI b=cs.length
 low:26+4*cs.length<=dy b/\dy b<=512
 fits:26+4*cs.length+tot cs<=512
 slot:∀i c,cs[i]?=some c->dy b<=bx b i/\bx b i+c.length<=512/\er b i=c.length/\∀j,j<c.length->b[bx b i+j]?=c[j]?
 Oh:∀i j c d,i≠j->cs[i]?=some c->cs[j]?=some d->bx b i+c.length<=bx b j\/bx b j+d.length<=bx b i\/c.length=0\/d.length=0
section
theorem fy.f (h:fy b k link extra cs): bH b k link extra cs:=by
 have oU:=h.low;have dL:=h.fits;have main:∀i j c d,i<j->cs[i]?=some c->cs[j]?=some d->bx b j+d.length<=bx b i:=λi j c d pz I hd=>by
  obtain⟨s1,_,_⟩:=h.slot i c I;obtain⟨r1,_,_⟩:=h.slot j d hd;have t1:=i_ hd;have t2:=AK (cs:=cs) (i:=i+1) (j:=j) (by omega);omega
 refine⟨h.len,h.Ea,h.kind,h.link,h.extra,h.gq,by omega,dL,λi c I => ?_,λi j c d pz I hd => ?_⟩
 .obtain⟨s1,s2,s3⟩:=h.slot i c I;have t1:=i_ I;have t2:=lK (cs:=cs) (i:=i+1);exact⟨by omega,by omega,s2,s3⟩
 .rcases yy pz with q|q
  .exact .inr (.inl (main i j c d q I hd))
  .exact .inl (main j i d c q hd I)
theorem bH.cells (h:bH b k link extra cs): ∀(n i:Nat) (t:List Bool),i+n=cs.length->t.length=512->(∀q d,i<=q->cs[q]?=some d->∀j,bx b q<=j->j<bx b q+d.length->t.getD j false=false)->cellsL b (dy b) n i t=true:=by
 intro n;induction n with
 |zero=>intro i t _ _ _;rfl
 |succ n ih =>
  intro i t hi ht hf;have I:cs[i]?=some (cs[i]'(by omega)):=aF _;generalize (cs[i]'(by omega))=c at I;obtain⟨s0,s1,s2,s3⟩:=h.slot i c I;obtain⟨t',e1,e2,e3⟩:=K9 c.length (bx b i) t (by omega) (λj a1 a2=>hf i c (aH _) I j a1 a2);rw[cellsL,s2,ai (by omega),e1];refine ih (i+1) t' (by omega) (by omega) λq d hq hd j a1 a2 => ?_;rw[e3 j (by
   have:=h.Oh i q c d (by omega) I hd;omega)]
  exact hf q d (by omega) hd j a1 a2
theorem bH.good (h:bH b k link extra cs): cJ b=true:=by
 have I:=h.low;rw[cJ,dZ h.len,dZ h.Ea,dZ (by rw[h.gq];omega),h.cells _ _ _ (by rw[h.gq];omega) f_ λq d _ _ j _ _ => ?_]
 .rfl
 grind
theorem bH.cell (h:bH b k link extra cs)(I:cs[i]?=some c): (b.drop (bx b i)).take c.length=c:=by
 obtain⟨s0,s1,s2,s3⟩:=h.slot i c I;apply ny;grind
theorem bH.H9 (h:bH b k link extra cs)(hl:b'.length=512)(hh:∀i,12<=i->i<14\/18<=i->i<26->b'[i]?=b[i]?)(hn:jI b'=cs'.length)(I:dy b'=lo)(h1:26+4*cs'.length<=lo)(h2:lo<=512)(hf:26+4*cs'.length+tot cs'<=512)
 (hs:∀i c,cs'[i]?=some c->lo<=bx b' i/\bx b' i+c.length<=512/\er b' i=c.length/\∀j,j<c.length->b'[bx b' i+j]?=c[j]?)
 (hd:∀i j c d,i<j->cs'[i]?=some c->cs'[j]?=some d->bx b' i+c.length<=bx b' j\/bx b' j+d.length<=bx b' i\/c.length=0\/d.length=0): bH b' k link extra cs':=by
 refine⟨hl,?_,?_,?_,?_,hn,by rw[I];exact⟨h1,h2⟩,hf,by rw[I];exact hs,λi j c d pz hc Bc => ?_⟩
 .rw[mI (hh 13 (by decide) (by decide) (by decide))];exact h.Ea
 .rw[mI (hh 12 (by decide) (by decide) (by decide))];exact h.kind
 .rw[dV (m:=b) λi a1 a2=>hh i (by omega) (by omega) (by omega)];exact h.link
 .rw[dV (m:=b) λi a1 a2=>hh i (by omega) (by omega) (by omega)];exact h.extra
 .rcases yy pz with q|q
  .exact hd i j c d q hc Bc
  .rcases hd j i d c q Bc hc with e|e|e|e
   .exact .inr (.inl e)
   .exact .inl e
   .exact .inr (.inr (.inr e))
   .exact .inr (.inr (.inl e))
theorem bH.tail (h:bH b k link extra cs)(hl:b'.length=512)(ht:b'.drop 12=b.drop 12): bH b' k link extra cs:=by
 have hg:∀i,12<=i->b'[i]?=b[i]?:=λi hi=>by
  have:=dg (λl:List Nat=>l[i-12]?) ht;grind
 have I:∀a z,12<=a->dR b' a z=dR b a z:=λa z q=>wL ht q;have hF:∀i,bx b' i=bx b i:=λi=>I _ _ (by omega);have hZ:∀i,er b' i=er b i:=λi=>I _ _ (by omega);refine h.H9 hl (λi h1 _ _=>hg i h1) (by rw[jI,I _ _ (by decide)];exact h.gq) (by rw[dy,I _ _ (by decide)];rfl) h.low.1 h.low.2 h.fits (λi c hc => ?_) λi j c d pz hc hd=>by rw[hF,hF];exact h.Oh i j c d (by omega) hc hd
 have oU:=h.low;obtain⟨s0,s1,s2,s3⟩:=h.slot i c hc;rw[hF,hZ];exact⟨s0,s1,s2,λj hj=>by rw[hg _ (by omega)];exact s3 j hj⟩
def dh {α:Type}(i:Nat)(c:α)(l:List α): List α:=l.take i++c::l.drop i
theorem lu {c:α}{l:List α}(hi:i<=l.length): (dh i c l).length=l.length+1:=by
 simp[dh];omega
theorem mZ {c:α}{l:List α}(hi:i<=l.length:=by omega): (dh i c l)[j]?=if j<i then l[j]? else if j=i then some c else l[j-1]?:=by
 grind[dh]
theorem wM {l:List (List Nat)}: tot (dh i c l)=tot l+c.length:=by
 have:=tT (a:=l.take i) (b:=l.drop i);rw[jO] at this;rw[dh,tT,tot];omega
def pX (b:List Nat)(i n:Nat): List Nat:=az b (30+4*i) ((b.drop (26+4*i)).take (4*(n-i)))
def oD (b:List Nat)(i n lo:Nat)(c:List Nat): List Nat:=mw (az (az (az (pX b i n) 14 (le 2 (n+1))) lo c) 16 (le 2 lo)) i lo c.length
theorem Oi {n:Nat}(hl:b.length=512)(hi:i<=n)(I:30+4*n<=512): (pX b i n).length=512:=by
 grind[pX,bF]
theorem Oj {n:Nat}(hl:b.length=512)(hi:i<=n)(I:30+4*n<=512)(hj:j<30+4*i\/30+4*n<=j): (pX b i n)[j]?=b[j]?:=by
 unfold pX;rw[dU (by grind) (by grind)]
theorem abq {n:Nat}(hl:b.length=512)(hi:i<=n)(I:30+4*n<=512)(h1:26+4*i<=j)(h2:j<26+4*n): (pX b i n)[j+4]?=b[j]?:=by
 have e:j+4=(30+4*i)+(j-(26+4*i)):=by omega
 rw[pX,e,mR (by grind) (by grind)];grind
theorem xA {m:List Nat}{d:Nat}(h:∀i,a<=i->i<a+z->l[i+d]?=m[i]?): dR l (a+d) z=dR m a z:=by
 unfold dR;congr 1;apply ny;intro i;simp only[fB,hO];by_cases hi:i<z
 .rw[ay (by omega),ay (by omega)];have:=h (a+i) (by omega) (by omega)
  rwa [show a+i+d=a+d+i by omega] at this
 .rw[ai (by omega),ai (by omega)]
theorem bH.ins (h:bH b k link extra cs)(hi:i<=cs.length)(jF:lo+c.length=dy b)(hr:30+4*cs.length<=lo)(hf:26+4*(cs.length+1)+(tot cs+c.length)<=512): bH (oD b i cs.length lo c) k link extra (dh i c cs):=by
 have hlen:=h.len;have oU:=h.low;have hle:∀n,(le 2 n).length=2:=λn=>cO 2 n;have l0:=Oi hlen hi (by omega);have l1:(az (pX b i cs.length) 14 (le 2 (cs.length+1))).length=512:=by grind[bF]
 have l2:(az (az (pX b i cs.length) 14 (le 2 (cs.length+1))) lo c).length=512:=by rw[bF,l1]
 have l3:(az (az (az (pX b i cs.length) 14 (le 2 (cs.length+1))) lo c) 16 (le 2 lo)).length=512:=by grind[bF]
 have l4:(oD b i cs.length lo c).length=512:=zE l3 (by omega);have o3:∀j,j<16\/18<=j->(az (az (az (pX b i cs.length) 14 (le 2 (cs.length+1))) lo c) 16 (le 2 lo))[j]?=(az (az (pX b i cs.length) 14 (le 2 (cs.length+1))) lo c)[j]?:=λj hj=>dU (by grind) (by grind);have o4:∀j,j<26+4*i\/30+4*i<=j->(oD b i cs.length lo c)[j]?=(az (az (az (pX b i cs.length) 14 (le 2 (cs.length+1))) lo c) 16 (le 2 lo))[j]?:=λj hj=>zG l3 (by omega) hj;have o1:∀j,(j<14\/16<=j)->(az (pX b i cs.length) 14 (le 2 (cs.length+1)))[j]?=(pX b i cs.length)[j]?:=λj hj=>dU (by grind) (by grind);have o2:∀j,(j<lo\/lo+c.length<=j)->(az (az (pX b i cs.length) 14 (le 2 (cs.length+1))) lo c)[j]?=(az (pX b i cs.length) 14 (le 2 (cs.length+1)))[j]?:=λj hj=>dU (by omega) hj;have oS:∀j,(j<14\/18<=j)->(j<26+4*i\/30+4*i<=j)->(j<lo\/lo+c.length<=j)->(oD b i cs.length lo c)[j]?=(pX b i cs.length)[j]?:=λj a1 a2 a3=>by
  rw[o4 j a2,o3 j (by omega),o2 j a3,o1 j (by omega)]
 have yc:∀j,(j<14\/18<=j)->(j<26+4*i\/30+4*cs.length<=j)->(j<lo\/lo+c.length<=j)->(oD b i cs.length lo c)[j]?=b[j]?:=λj a1 a2 a3=>by
  rw[oS j a1 (by omega) a3,Oj hlen hi (by omega) (by omega)]
 have sR:∀j,26+4*i<=j->j<26+4*cs.length->(oD b i cs.length lo c)[j+4]?=b[j]?:=λj a1 a2=>by
  rw[oS (j+4) (by omega) (by omega) (by omega),abq hlen hi (by omega) a1 a2]
 have jE:bx (oD b i cs.length lo c) i=lo/\er (oD b i cs.length lo c) i=c.length:=Cr l3;have cq:∀j,j<i->bx (oD b i cs.length lo c) j=bx b j/\er (oD b i cs.length lo c) j=er b j:=λj hj =>
  ⟨dV λq a1 a2=>yc q (by omega) (by omega) (by omega),dV λq a1 a2=>yc q (by omega) (by omega) (by omega)⟩
 have Ir:∀j,i<=j->j<cs.length->bx (oD b i cs.length lo c) (j+1)=bx b j/\er (oD b i cs.length lo c) (j+1)=er b j:=λj a1 a2 =>
  ⟨xA (a:=26+4*j) λq b1 b2=>sR q (by omega) (by omega),xA (a:=26+4*j+2) λq b1 b2=>sR q (by omega) (by omega)⟩
 have qU:jI (oD b i cs.length lo c)=cs.length+1:=by
  have e:dR (oD b i cs.length lo c) 14 2=dR (az (pX b i cs.length) 14 (le 2 (cs.length+1))) 14 2:=dV λj h1 h2=>by
   rw[o4 j (by omega),o3 j (by omega),o2 j (by omega)]
  rw[jI,e,pW]
 have Ol:dy (oD b i cs.length lo c)=lo:=by
  have e:dR (oD b i cs.length lo c) 16 2=dR (az (az (az (pX b i cs.length) 14 (le 2 (cs.length+1))) lo c) 16 (le 2 lo)) 16 2:=dV λj h1 h2=>o4 j (by omega);rw[dy,e,pW]
 have hold:∀j d,cs[j]?=some d->∃j',(dh i c cs)[j']?=some d/\bx (oD b i cs.length lo c) j'=bx b j:=λj d I=>by
  have hj:=(List.getElem?_eq_some_iff.1 I).1;by_cases q:j<i
  .exact⟨j,by rw[mZ hi,ay q];exact I,(cq j q).1⟩
  .exact⟨j+1,by rw[mZ hi,ai (by omega),ai (by omega)];exact I,(Ir j (by omega) hj).1⟩
 have zH:∀j d,(dh i c cs)[j]?=some d->(j=i/\d=c)\/∃j0,cs[j0]?=some d/\bx (oD b i cs.length lo c) j=bx b j0/\er (oD b i cs.length lo c) j=er b j0/\(j=j0/\j<i\/j=j0+1/\i<j):=λj d I=>by
  rw[mZ hi] at I;by_cases q:j<i
  .rw[ay q] at I;exact .inr ⟨j,I,(cq j q).1,(cq j q).2,.inl ⟨U,q⟩⟩
  .rw[ai q] at I;by_cases q2:j=i
   .rw[ay q2] at I;exact .inl ⟨q2,(bB I).symm⟩
   .rw[ai q2] at I;have hj:=(List.getElem?_eq_some_iff.1 I).1;have g:=Ir (j-1) (by omega) hj;rw[show j-1+1=j by omega] at g;exact .inr ⟨j-1,I,g.1,g.2,.inr ⟨by omega,by omega⟩⟩
 refine h.H9 l4 (λj a1 a2 a3=>yc j (by omega) (by omega) (by omega)) (by rw[qU,lu hi]) Ol (by rw[lu hi];omega) (by omega) (by rw[lu hi,wM];omega) (λj d I => ?_) λj j2 d d2 hjj I Bc => ?_
 .rcases zH j d I with⟨rfl,rfl⟩|⟨j0,xh,e1,e2,_⟩
  .rw[jE.1,jE.2];refine⟨aH _,by omega,U,λq hq => ?_⟩;rw[o4 _ (by omega),o3 _ (by omega),mR (by omega) hq]
  .obtain⟨s0,s1,s2,s3⟩:=h.slot j0 d xh;rw[e1,e2];exact⟨by omega,s1,s2,λq hq=>by rw[yc _ (by omega) (by omega) (by omega)];exact s3 q hq⟩
 .rcases zH j d I with⟨rfl,rfl⟩|⟨j0,xh,e1,e2,e3⟩
  .rcases zH j2 d2 Bc with⟨rfl,rfl⟩|⟨j0,xh,e1,e2,_⟩
   .omega
   .obtain⟨s0,s1,s2,s3⟩:=h.slot j0 d2 xh;rw[jE.1,e1];left;omega
  .obtain⟨s0,s1,s2,s3⟩:=h.slot j0 d xh;rcases zH j2 d2 Bc with⟨rfl,rfl⟩|⟨j4,SX,e4,e5,e6⟩
   .rw[jE.1,e1];right;left;omega
   .rw[e1,e4];exact h.Oh j0 j4 d d2 (by omega) xh SX
def Be (b:List Nat)(i n:Nat): List Nat:=az (az (az b (26+4*i) ((b.drop (30+4*i)).take (4*(n-1-i)))) (22+4*n) (List.replicate 4 0)) 14 (le 2 (n-1))
theorem IZ : ∀ {cs:List (List Nat)} {i:Nat},tot (cs.eraseIdx i)<=tot cs:=by
 intro cs;induction cs with
 |nil=>intro i;simp[tot]
 |cons c cs I =>
  intro i;cases i with
  |zero=>simp[tot]
  |succ i=>have:=I (i:=i);simp only[List.eraseIdx_cons_succ,tot];omega
theorem bH.rm (h:bH b k link extra cs)(hi:i<cs.length)(jF:lo=dy b\/cs.length=1/\lo=512): bH (if lo=dy b then Be b i cs.length else az (Be b i cs.length) 16 (le 2 lo)) k link extra (cs.eraseIdx i):=by
 have hlen:=h.len;have oU:=h.low;have dL:=h.fits;have hle:∀n,(le 2 n).length=2:=λn=>cO 2 n;generalize hn:cs.length=n at hi jF oU dL;have l1:(az b (26+4*i) ((b.drop (30+4*i)).take (4*(n-1-i)))).length=512:=by grind[bF]
 have l2:(az (az b (26+4*i) ((b.drop (30+4*i)).take (4*(n-1-i)))) (22+4*n) (List.replicate 4 0)).length=512:=by grind[bF]
 have l3:(Be b i n).length=512:=by grind[Be,bF]
 have o3:∀j,j<14\/16<=j->(Be b i n)[j]?=(az (az b (26+4*i) ((b.drop (30+4*i)).take (4*(n-1-i)))) (22+4*n) (List.replicate 4 0))[j]?:=λj hj=>dU (by grind) (by grind);have o2:∀j,j<22+4*n\/26+4*n<=j->(az (az b (26+4*i) ((b.drop (30+4*i)).take (4*(n-1-i)))) (22+4*n) (List.replicate 4 0))[j]?=(az b (26+4*i) ((b.drop (30+4*i)).take (4*(n-1-i))))[j]?:=λj hj=>dU (by grind) (by grind);have o1:∀j,j<26+4*i\/22+4*n<=j->(az b (26+4*i) ((b.drop (30+4*i)).take (4*(n-1-i))))[j]?=b[j]?:=λj hj=>dU (by grind) (by grind);have i1:∀j,30+4*i<=j->j<26+4*n->(az b (26+4*i) ((b.drop (30+4*i)).take (4*(n-1-i))))[j-4]?=b[j]?:=λj a1 a2=>by
  rw[show j-4=26+4*i+(j-(30+4*i)) by omega,mR (by grind) (by grind)];grind
 obtain⟨b',qo⟩:∃b',(if lo=dy b then Be b i n else az (Be b i n) 16 (le 2 lo))=b':=⟨_,U⟩;rw[qo];have l4:b'.length=512:=by rw[<-qo];split<;>grind[bF]
 have o4:∀j,j<16\/18<=j->b'[j]?=(Be b i n)[j]?:=λj hj=>by
  rw[<-qo];split
  .rfl
  .exact dU (by grind) (by grind)
 have Ol:dy b'=lo:=by
  rw[<-qo];split
  .rename_i e;rw[e,dy,dy];exact dV λj a1 a2=>by rw[o3 j (by omega),o2 j (by omega),o1 j (by omega)]
  .rw[dy,pW]
 have I:∀j,(j<14\/18<=j)->(j<26+4*i\/26+4*n<=j)->b'[j]?=b[j]?:=λj a1 a2=>by
  rw[o4 j (by omega),o3 j (by omega),o2 j (by omega),o1 j (by omega)]
 have qU:jI b'=n-1:=by
  have e:dR b' 14 2=dR (Be b i n) 14 2:=dV λj h1 h2=>o4 j (by omega);rw[jI,e,Be,pW]
 have cq:∀j,j<i->bx b' j=bx b j/\er b' j=er b j:=λj hj =>
  ⟨dV λq a1 a2=>I q (by omega) (by omega),dV λq a1 a2=>I q (by omega) (by omega)⟩
 have sR:∀j,26+4*i<=j->j<22+4*n->b[j+4]?=b'[j]?:=λj a1 a2=>by
  rw[o4 j (by omega),o3 j (by omega),o2 j (by omega),<-i1 (j+4) (by omega) (by omega)];rfl
 have Ir:∀j,i<=j->j<n-1->bx b' j=bx b (j+1)/\er b' j=er b (j+1):=λj a1 a2 =>
  ⟨(xA (a:=26+4*j) λq b1 b2=>sR q (by omega) (by omega)).symm,(xA (a:=26+4*j+2) λq b1 b2=>sR q (by omega) (by omega)).symm⟩
 have wj:(cs.eraseIdx i).length=n-1:=by rw[G4,ay (by omega),hn]
 have zH:∀j d,(cs.eraseIdx i)[j]?=some d->∃j0,cs[j0]?=some d/\bx b' j=bx b j0/\er b' j=er b j0/\(j=j0/\j<i\/j+1=j0/\i<=j):=λj d hd=>by
  have hj:=(List.getElem?_eq_some_iff.1 hd).1;rw[yo] at hd;by_cases q:j<i
  .rw[ay q] at hd;exact⟨j,hd,(cq j q).1,(cq j q).2,.inl ⟨U,q⟩⟩
  .rw[ai q] at hd;exact⟨j+1,hd,(Ir j (by omega) (by omega)).1,(Ir j (by omega) (by omega)).2,.inr ⟨U,by omega⟩⟩
 have hte:=IZ (cs:=cs) (i:=i);refine h.H9 l4 (λj a1 a2 a3=>I j (by omega) (by omega)) (by rw[qU,wj]) Ol (by rw[wj];omega) (by omega) (by rw[wj];omega) (λj d hd => ?_) λj j2 d d2 hjj hd Bc => ?_
 .have hj:=(List.getElem?_eq_some_iff.1 hd).1;obtain⟨j0,xh,e1,e2,_⟩:=zH j d hd;obtain⟨s0,s1,s2,s3⟩:=h.slot j0 d xh;rw[e1,e2];exact⟨by omega,s1,s2,λq hq=>by rw[I _ (by omega) (by omega)];exact s3 q hq⟩
 .obtain⟨j0,xh,e1,e2,e3⟩:=zH j d hd;obtain⟨j4,SX,e4,e5,e6⟩:=zH j2 d2 Bc;rw[e1,e4];exact h.Oh j0 j4 d d2 (by omega) xh SX
theorem qj (I:cs[i]?=some c): tot (cs.set i c')+c.length=tot cs+c'.length:=by
 induction cs generalizing i with
 |nil=>simp at I
 |cons x cs ih =>
  cases i with
  |zero=>simp at I;subst I;simp only[List.set_cons_zero,tot];omega
  |succ i=>have:=ih (i:=i) (by simpa using I);simp only[List.set_cons_succ,tot];omega
theorem bH.Ld (h:bH b k link extra cs){f:Nat}{b1:List Nat}(hc:cs[i]?=some c)(l1:b1.length=512)(jF:dy b1=lo)(Qe:lo<=dy b)(hr:26+4*cs.length<=lo)(uW:lo<=f)(I0:f+c'.length<=512)(dL:26+4*cs.length+tot (cs.set i c')<=512)
 (hb:∀j,12<=j->(j<16\/18<=j)->(j<f\/f+c'.length<=j)->b1[j]?=b[j]?)(sR:∀j,j<c'.length->b1[f+j]?=c'[j]?)
 (hd:f+c'.length<=dy b\/c'.length=0\/f=bx b i/\c'.length<=c.length): bH (mw b1 i f c'.length) k link extra (cs.set i c'):=by
 have hi:=(List.getElem?_eq_some_iff.1 hc).1;have oU:=h.low;have l2:(mw b1 i f c'.length).length=512:=zE l1 (by omega);have o2:∀j,j<26+4*i\/30+4*i<=j->(mw b1 i f c'.length)[j]?=b1[j]?:=λj hj=>zG l1 (by omega) hj;have yc:∀j,12<=j->(j<16\/18<=j)->(j<26+4*i\/30+4*i<=j)->(j<f\/f+c'.length<=j)->(mw b1 i f c'.length)[j]?=b[j]?:=λj a1 a2 a3 a4=>by rw[o2 j a3,hb j a1 a2 a4]
 have jE:bx (mw b1 i f c'.length) i=f/\er (mw b1 i f c'.length) i=c'.length:=Cr l1;have fb:∀j,j≠i->j<cs.length->bx (mw b1 i f c'.length) j=bx b j/\er (mw b1 i f c'.length) j=er b j:=λj a1 a2 =>
  ⟨dV λq b1 b2=>yc q (by omega) (by omega) (by omega) (by omega),dV λq b1 b2=>yc q (by omega) (by omega) (by omega) (by omega)⟩
 have gn:∀j d,j≠i->cs[j]?=some d->d.length=0\/c'.length=0\/bx b j+d.length<=f\/f+c'.length<=bx b j:=λj d hj I=>by
  obtain⟨s0,s1,s2,s3⟩:=h.slot j d I;have:=h.Oh i j c d (jR hj) hc I;omega
 have zH:∀j d,(cs.set i c')[j]?=some d->(j=i/\d=c')\/(j≠i/\cs[j]?=some d/\j<cs.length):=λj d I=>by
  by_cases q:i=j
  .subst q;rw[jN hi] at I;exact .inl ⟨U,(bB I).symm⟩
  .rw[lW q] at I;exact .inr ⟨jR q,I,(List.getElem?_eq_some_iff.1 I).1⟩
 have Eb:(cs.set i c').length=cs.length:=cL;refine h.H9 l2 (λj a1 a2 a3=>yc j a1 (by omega) (by omega) (by omega)) ?_ ?_ (by rw[Eb];exact hr) (by omega) (by rw[Eb];exact dL) (λj d I => ?_) λj j2 d d2 hjj I Bc => ?_
 .rw[Eb,<-h.gq];exact dV λq a1 a2=>yc q (by omega) (by omega) (by omega) (by omega)
 .rw[<-jF];exact dV λq a1 a2=>o2 q (by omega)
 .rcases zH j d I with⟨rfl,rfl⟩|⟨q1,q2,q3⟩
  .rw[jE.1,jE.2];exact⟨uW,I0,U,λq hq=>by rw[o2 _ (by omega)];exact sR q hq⟩
  .obtain⟨s0,s1,s2,s3⟩:=h.slot j d q2;rw[(fb j q1 q3).1,(fb j q1 q3).2];have:=gn j d q1 q2;exact⟨by omega,s1,s2,λq hq=>by rw[yc _ (by omega) (by omega) (by omega) (by omega)];exact s3 q hq⟩
 .rcases zH j d I with⟨rfl,rfl⟩|⟨q1,q2,q3⟩
  .rcases zH j2 d2 Bc with⟨rfl,rfl⟩|⟨r1,r2,r3⟩
   .omega
   .have:=gn j2 d2 r1 r2;rw[jE.1,(fb j2 r1 r3).1];omega
  .rcases zH j2 d2 Bc with⟨rfl,rfl⟩|⟨r1,r2,r3⟩
   .have:=gn j d q1 q2;rw[jE.1,(fb j q1 q3).1];omega
   .rw[(fb j q1 q3).1,(fb j2 r1 r3).1];exact h.Oh j j2 d d2 (by omega) q2 r2
theorem bH.rep (h:bH b k link extra cs)(hc:cs[i]?=some c)(hl:c'.length<=c.length): bH (yb b i (bx b i) c') k link extra (cs.set i c'):=by
 obtain⟨s0,s1,s2,s3⟩:=h.slot i c hc;have hlen:=h.len;have I:=h.low;have dL:=h.fits;have ht:=qj (c':=c') hc;have hi:=(List.getElem?_eq_some_iff.1 hc).1;have l1:(az b (bx b i) c').length=512:=by rw[bF,hlen]
 refine h.Ld hc l1 ?_ (aH _) I.1 s0 (by omega) (by omega) (λj _ _ a3=>dU (by omega) a3) (λj hj=>mR (by omega) hj) (.inr (.inr ⟨U,hl⟩));exact dV λq a1 a2=>dU (by omega) (by omega)
theorem bH.none (h:bH b k link extra cs)(hc:cs[i]?=some c): bH (mw b i (dy b) 0) k link extra (cs.set i []):=by
 have I:=h.low;have dL:=h.fits;have ht:=qj (c':=[]) hc;rw[bY] at ht;exact h.Ld (c':=[]) hc h.len U (aH _) I.1 (aH _) (by simpa using I.2) (by omega) (λj _ _ _=>U) (λj hj=>by cases hj) (.inr (.inl U))
theorem bH.below (h:bH b k link extra cs)(hc:cs[i]?=some c)(jF:lo+c'.length=dy b)(hr:26+4*cs.length<=lo)(I:26+4*cs.length+tot (cs.set i c')<=512): bH (mw (az (az b lo c') 16 (le 2 lo)) i lo c'.length) k link extra (cs.set i c'):=by
 have hlen:=h.len;have oU:=h.low;have hle:∀n,(le 2 n).length=2:=λn=>cO 2 n;have l0:(az b lo c').length=512:=by rw[bF,hlen]
 have l1:(az (az b lo c') 16 (le 2 lo)).length=512:=by grind[bF]
 have o1:∀j,j<16\/18<=j->(az (az b lo c') 16 (le 2 lo))[j]?=(az b lo c')[j]?:=λj hj=>dU (by grind) (by grind);refine h.Ld hc l1 (by rw[dy,pW]) (by omega) hr (aH _) (by omega) I (λj _ a2 a3=>by rw[o1 j a2,dU (by omega) a3]) (λj hj=>by rw[o1 _ (by omega),mR (by omega) hj]) (.inl (by omega))
structure An (b0:List Nat)(cs:List (List Nat))(i:Nat)(b:List Nat): Prop where
 len:b.length=512
 head:∀j,j<26->b[j]?=b0[j]?
 slot:∀j c,j<i->cs[j]?=some c->bx b j+tot (cs.take (j+1))=512/\er b j=c.length/\∀q,q<c.length->b[bx b j+q]?=c[q]?
theorem An.start (hl:b0.length=512): An b0 cs 0 b0:=⟨hl,λ_ _=>U,λj c h=>by omega⟩
theorem An.step (h:An b0 cs i b)(hf:26+4*cs.length+tot cs<=512)(hc:cs[i]?=some c)(jF:lo+tot (cs.take (i+1))=512): An b0 cs (i+1) (mw (az b lo c) i lo c.length):=by
 have hlen:=h.len;have hi:=(List.getElem?_eq_some_iff.1 hc).1;have t1:=i_ hc;have t2:=lK (cs:=cs) (i:=i+1);have l1:(az b lo c).length=512:=by rw[bF,hlen]
 have l2:(mw (az b lo c) i lo c.length).length=512:=zE l1 (by omega);have o2:∀j,j<26+4*i\/30+4*i<=j->(mw (az b lo c) i lo c.length)[j]?=(az b lo c)[j]?:=λj I=>zG l1 (by omega) I;have o1:∀j,j<lo\/lo+c.length<=j->(az b lo c)[j]?=b[j]?:=λj I=>dU (by omega) I;have jE:bx (mw (az b lo c) i lo c.length) i=lo/\er (mw (az b lo c) i lo c.length) i=c.length:=Cr l1;refine⟨l2,λj I=>by rw[o2 j (by omega),o1 j (by omega)];exact h.head j I,λj d I hd => ?_⟩;by_cases q:j=i
 .subst q;rw[hc] at hd;obtain rfl:=bB hd;rw[jE.1,jE.2];exact⟨jF,U,λq hq=>by rw[o2 _ (by omega),mR (by omega) hq]⟩
 .obtain⟨s1,s2,s3⟩:=h.slot j d (by omega) hd;have Le:=(List.getElem?_eq_some_iff.1 hd).1;have t3:=AK (cs:=cs) (i:=j+1) (j:=i) (by omega);have t4:=i_ hd;have t5:=lK (cs:=cs) (i:=j+1);have e1:bx (mw (az b lo c) i lo c.length) j=bx b j:=dV λq a1 a2=>by rw[o2 q (by omega),o1 q (by omega)]
  have e2:er (mw (az b lo c) i lo c.length) j=er b j:=dV λq a1 a2=>by rw[o2 q (by omega),o1 q (by omega)]
  rw[e1,e2];exact⟨s1,s2,λq hq=>by rw[o2 _ (by omega),o1 _ (by omega)];exact s3 q hq⟩
def Gq (b:List Nat)(n lo:Nat): List Nat:=az (az b (26+4*n) (List.replicate (lo-(26+4*n)) 0)) 16 (le 2 lo)
theorem An.done (h:An b0 cs cs.length b)(I:bH b0 k link extra cs)(jF:lo+tot cs=512): fy (Gq b cs.length lo) k link extra cs:=by
 have hlen:=h.len;have hf:=I.fits;have hle:∀n,(le 2 n).length=2:=λn=>cO 2 n;have l1:(az b (26+4*cs.length) (List.replicate (lo-(26+4*cs.length)) 0)).length=512:=by rw[bF (by rw[f_];omega),hlen]
 have l2:(Gq b cs.length lo).length=512:=by grind[Gq,bF]
 have o2:∀j,j<16\/18<=j->(Gq b cs.length lo)[j]?=(az b (26+4*cs.length) (List.replicate (lo-(26+4*cs.length)) 0))[j]?:=λj hj=>dU (by grind) (by grind);have o1:∀j,j<26+4*cs.length\/lo<=j->(az b (26+4*cs.length) (List.replicate (lo-(26+4*cs.length)) 0))[j]?=b[j]?:=λj hj=>dU (by rw[f_];omega) (by rw[f_];omega);have hh:∀j,j<16\/18<=j->j<26->(Gq b cs.length lo)[j]?=b0[j]?:=λj a1 a2=>by rw[o2 j a1,o1 j (by omega)];exact h.head j a2
 refine⟨l2,?_,?_,?_,?_,?_,?_,hf,λi c hc => ?_⟩
 .rw[mI (hh 13 (by decide) (by decide))];exact I.Ea
 .rw[mI (hh 12 (by decide) (by decide))];exact I.kind
 .rw[dV (m:=b0) λi a1 a2=>hh i (by omega) (by omega)];exact I.link
 .rw[dV (m:=b0) λi a1 a2=>hh i (by omega) (by omega)];exact I.extra
 .rw[jI,dV (m:=b0) λi a1 a2=>hh i (by omega) (by omega)];exact I.gq
 .have:dy (Gq b cs.length lo)=lo:=by rw[dy,Gq,pW]
  omega
 .have hi:=(List.getElem?_eq_some_iff.1 hc).1;obtain⟨s1,s2,s3⟩:=h.slot i c hi hc;have t1:=i_ hc;have t2:=lK (cs:=cs) (i:=i+1);have e1:bx (Gq b cs.length lo) i=bx b i:=dV λq a1 a2=>by rw[o2 q (by omega),o1 q (by omega)]
  have e2:er (Gq b cs.length lo) i=er b i:=dV λq a1 a2=>by rw[o2 q (by omega),o1 q (by omega)]
  rw[e1,e2];exact⟨s1,s2,λq hq=>by rw[o2 _ (by omega),o1 _ (by omega)];exact s3 q hq⟩
end
abbrev Ky := List Nat
variable {hi:Option Ky}
abbrev En := Ky×Ky
variable {es eL eR kN gL:List En}
def eE (e:En): List Nat:=e.1.length::(e.1++e.2)
def ff (n:Nat)(k:Ky): List Nat:=le 4 n++k
structure fV where
 key:Ky
 pg:Nat
 es:List En
 ps:List Nat
variable {k1:fV} {ks:List fV}
def cW (k:fV): List Nat:=k.pg::k.ps
def bI (ks:List fV): List (List Nat):=ks.map λk=>ff k.pg k.key
def Bd (lo:Ky)(hi:Option Ky)(k:Ky): Prop:=lo<=k/\∀h,hi=some h->k<h
structure js (lo:Ky)(hi:Option Ky)(es:List En): Prop where
 bd:∀e∈es,Bd lo hi e.1
 sz:∀e∈es,1<=e.1.length/\e.1.length<=96/\e.2.length<=128
 jY:es.Pairwise λa b=>a.1<b.1
def loK (lo:Ky)(ks:List fV)(i:Nat): Ky:=if i=0 then lo else match ks[i]? with|some k=>k.key|none=>[]
def cQ (hi:Option Ky)(ks:List fV)(i:Nat): Option Ky:=match ks[i+1]? with|some k=>some k.key|none=>hi
structure Sep (lo:Ky)(hi:Option Ky)(ks:List fV): Prop where
 ne:ks≠[]
 pg:∀k∈ks,k.pg<4294967296
 len:∀k∈ks,k.key.length<=96
 sz:∀(i:Nat) (k:fV),ks[i]?=some k->1<=i->1<=k.key.length
 bd:∀(i:Nat) (k:fV),ks[i]?=some k->1<=i->lo<k.key/\∀h,hi=some h->k.key<h
 jY:∀(i j:Nat) (k m:fV),ks[i]?=some k->ks[j]?=some m->1<=i->i<j->k.key<m.key
def Nv (F:Nat->List (List Nat)->Prop)(P:Int->List Nat): Nat->Ky->Option Ky->List (List Nat)->List En->List Nat->Prop
 |0,lo,hi,cs,es,ps=>cs=es.map eE/\js lo hi es/\ps=[]
 |l+1,lo,hi,cs,es,ps=>∃ks:List fV,cs=bI ks/\Sep lo hi ks/\es=ks.flatMap (·.es)/\ps=ks.flatMap cW /\
   ∀i k,ks[i]?=some k->∃cs',Nv F P l (loK lo ks i) (cQ hi ks i) cs' k.es k.ps/\F l cs'/\bH (P k.pg) 204 0 l cs'
section
variable {P:Int->List Nat} {l n:Nat} {lo:Ky}
theorem dI : (bI ks).length=ks.length:=cj _
theorem gU {k:fV}(h:ks[i]?=some k): (bI ks)[i]?=some (ff k.pg k.key):=by
 rw[bI,kR,h];rfl
theorem Nv.frame : ∀ {l:Nat} {lo:Ky} {hi:Option Ky} {cs:List (List Nat)} {es:List En} {ps:List Nat},Nv F P l lo hi cs es ps->(∀m∈ps,P' m=P m)->Nv F P' l lo hi cs es ps:=by
 intro l;induction l with
 |zero=>intro lo hi cs es ps h _;exact h
 |succ l ih =>
  intro lo hi cs es ps ⟨ks,h1,h2,h3,h4,h5⟩ hp;subst h4;refine⟨ks,h1,h2,h3,U,λi k hk => ?_⟩;obtain⟨cs',a1,a2,a3⟩:=h5 i k hk;have hm:=aI hk;have hq:∀m∈k.pg::k.ps,P' m=P m:=λm I=>hp m (List.mem_flatMap.2 ⟨k,hm,I⟩);exact⟨cs',ih a1 λm I=>hq m (bw _ I),a2,by rw[hq k.pg a_];exact a3⟩
theorem Bd.trans {fZ:Ky}{eN:Option Ky}{k:Ky}(h:Bd lo hi k)(I:fZ<=lo)(h2:∀b,eN=some b->∃a,hi=some a/\a<=b): Bd fZ eN k :=
 ⟨List.le_trans I h.1,λb hb=>by obtain⟨a,ha,mq⟩:=h2 b hb;have:=h.2 a ha;grind⟩
theorem Sep.lo_le (h:Sep lo hi ks)(I:i<ks.length): lo<=loK lo ks i:=by
 unfold loK;split
 .exact nF _
 .have hk:ks[i]?=some ks[i]:=aF I;rw[hk];exact oM (h.bd i _ hk (by omega)).1
theorem Sep.Qg (h:Sep lo hi ks): ∀b,hi=some b->∃a,cQ hi ks i=some a/\a<=b:=by
 intro b I;unfold cQ;cases hk:ks[i+1]? with
 |none=>exact⟨b,I,nF _⟩
 |some k=>exact⟨k.key,U,oM ((h.bd (i+1) k hk (by omega)).2 b I)⟩
theorem SY {R:β->β->Prop}{f:α->List β}: ∀ {l:List α},(∀x∈l,(f x).Pairwise R)->(∀(i j:Nat) (x y:α),l[i]?=some x->l[j]?=some y->i<j->∀a∈f x,∀b∈f y,R a b)->(l.flatMap f).Pairwise R:=by
 intro l;induction l with
 |nil=>intro _ _;exact List.Pairwise.nil
 |cons x l ih =>
  intro h1 h2;rw[eG,yt];refine⟨h1 x a_,ih (λy I=>h1 y (bw _ I)) (λi j y z I hz pz=>h2 (i+1) (j+1) y z (by simpa using I) (by simpa using hz) (by omega)),λa ha b hb => ?_⟩;obtain⟨y,I,hb⟩:=List.mem_flatMap.1 hb;obtain⟨j,hj⟩:=List.mem_iff_getElem?.1 I;exact h2 0 (j+1) x y U (by simpa using hj) (by omega) a ha b hb
theorem Nv.ok : ∀ {l:Nat} {lo:Ky} {hi:Option Ky} {cs:List (List Nat)} {es:List En} {ps:List Nat},Nv F P l lo hi cs es ps->js lo hi es:=by
 intro l;induction l with
 |zero=>intro lo hi cs es ps h;exact h.2.1
 |succ l ih =>
  intro lo hi cs es ps ⟨ks,h1,h2,h3,h4,h5⟩;have hE:∀i k,ks[i]?=some k->js (loK lo ks i) (cQ hi ks i) k.es:=λi k hk=>by
   obtain⟨cs',a1,_,_⟩:=h5 i k hk;exact ih a1
  subst h3;refine⟨λe he => ?_,λe he => ?_,?_⟩
  .obtain⟨k,hk,he⟩:=List.mem_flatMap.1 he;obtain⟨i,I⟩:=List.mem_iff_getElem?.1 hk;exact((hE i k I).bd e he).trans (h2.lo_le (List.getElem?_eq_some_iff.1 I).1) h2.Qg
  .obtain⟨k,hk,he⟩:=List.mem_flatMap.1 he;obtain⟨i,I⟩:=List.mem_iff_getElem?.1 hk;exact(hE i k I).sz e he
  .refine SY (λk hk => ?_) λi j x y hx hy pz a ha b hb => ?_
   .obtain⟨i,I⟩:=List.mem_iff_getElem?.1 hk;exact(hE i k I).jY
   .have h6:=(hE i x hx).bd a ha;have h7:=(hE j y hy).bd b hb;have hj:=(List.getElem?_eq_some_iff.1 hy).1;have c9:ks[i+1]?=some ks[i+1]:=aF (by omega);have e1:cQ hi ks i=some ks[i+1].key:=by rw[cQ,c9]
    have e2:loK lo ks j=y.key:=by rw[loK,ai (by omega),hy]
    have h8:=h6.2 _ e1;have h9:=h7.1;rw[e2] at h9;by_cases hq:i+1=j
    .subst hq;rw[c9] at hy;obtain rfl:=bB hy;grind
    .have:=h2.jY (i+1) j _ _ c9 hy (by omega) (by omega);grind
structure sU where
 pg:Nat
 ks:List fV
 i:Nat
def gW (F:Nat->List (List Nat)->Prop)(P:Int->List Nat)(L r:Nat): List sU->Nat->Ky->Option Ky->Nat->List En->List En->List Nat->Prop
 |[],l,lo,hi,n,eL,eR,pO=>l=L/\lo=[]/\hi=none/\n=r/\eL=[]/\eR=[]/\pO=[]
 |f::fs,l,lo,hi,n,eL,eR,pO=>∃fZ eN I jh iW k,gW F P L r fs (l+1) fZ eN f.pg I jh iW/\f.ks[f.i]?=some k/\k.pg=n/\lo=loK fZ f.ks f.i/\hi=cQ eN f.ks f.i/\bH (P f.pg) 204 0 (l+1) (bI f.ks)/\Sep fZ eN f.ks/\(fs≠[]->F (l+1) (bI f.ks)) /\
   (∀j k,f.ks[j]?=some k->j≠f.i->∃cs',Nv F P l (loK fZ f.ks j) (cQ eN f.ks j) cs' k.es k.ps/\F l cs'/\bH (P k.pg) 204 0 l cs') /\
   eL=I++(f.ks.take f.i).flatMap (·.es)/\eR=(f.ks.drop (f.i+1)).flatMap (·.es)++jh/\pO=f.pg::(iW++(f.ks.eraseIdx f.i).flatMap cW)
theorem Lf {l:List α}{x:α}(h:l[i]?=some x): l.set i x=l:=by
 apply ny;intro j;rw[vC];grind
theorem rj {g:α->List β}{l:List α}{x:α}(hi:i<l.length): (l.set i x).flatMap g=(l.take i).flatMap g++g x++(l.drop (i+1)).flatMap g:=by
 rw[CP,ay hi,nk,eG,dO]
theorem sV {g:α->List β}{l:List α}{x:α}(h:l[i]?=some x): l.flatMap g=(l.take i).flatMap g++g x++(l.drop (i+1)).flatMap g:=by
 obtain⟨I,h2⟩:=List.getElem?_eq_some_iff.1 h;have:=rj (g:=g) (x:=x) I
 rwa [Lf h] at this
theorem vy {g:α->List β}{l:List α}: (l.eraseIdx i).flatMap g=(l.take i).flatMap g++(l.drop (i+1)).flatMap g:=by
 rw[nh,nk]
theorem EG {k:fV}(h:ks[i]?=some k)(I:k1.pg=k.pg)(h2:k1.key=k.key): bI (ks.set i k1)=bI ks:=by
 rw[bI,C8,I,h2];exact Lf (gU h)
theorem zI {k:fV}(h:ks[i]?=some k)(I:k1.key=k.key): loK lo (ks.set i k1) j=loK lo ks j:=by
 unfold loK;rw[vC];grind
theorem vU {k:fV}(h:ks[i]?=some k)(I:k1.key=k.key): cQ hi (ks.set i k1) j=cQ hi ks j:=by
 unfold cQ;rw[vC];grind
theorem Sep.set {k:fV}(h:Sep lo hi ks)(hk:ks[i]?=some k)(h1:k1.pg=k.pg)(h2:k1.key=k.key): Sep lo hi (ks.set i k1):=by
 have key:∀(j:Nat) (m:fV),(ks.set i k1)[j]?=some m->∃m',ks[j]?=some m'/\m'.key=m.key/\m'.pg=m.pg:=λj m hm=>by
  rw[vC] at hm;grind
 refine⟨λe=>h.ne (iK (by have:=dg List.length e;simpa using this)),λm hm => ?_,λm hm => ?_,λj m hm hj => ?_,λj m hm hj => ?_,λj j2 m m2 hm qC a1 a2 => ?_⟩
 .obtain⟨j,hj⟩:=List.mem_iff_getElem?.1 hm;obtain⟨m',I,e2,e3⟩:=key j m hj;rw[<-e3];exact h.pg m' (aI I)
 .obtain⟨j,hj⟩:=List.mem_iff_getElem?.1 hm;obtain⟨m',I,e2,e3⟩:=key j m hj;rw[<-e2];exact h.len m' (aI I)
 .obtain⟨m',I,e2,e3⟩:=key j m hm;rw[<-e2];exact h.sz j m' I hj
 .obtain⟨m',I,e2,e3⟩:=key j m hm;rw[<-e2];exact h.bd j m' I hj
 .obtain⟨m',I,e2,e3⟩:=key j m hm;obtain⟨m3,e4,e5,e6⟩:=key j2 m2 qC;rw[<-e2,<-e5];exact h.jY j j2 m' m3 I e4 a1 a2
theorem Nv.hole {k:fV}(I:ks[i]?=some k)(h1:k1.pg=k.pg)(h2:k1.key=k.key)(hs:Sep lo hi ks)(hb:∀j k,ks[j]?=some k->j≠i->∃cs',Nv F P l (loK lo ks j) (cQ hi ks j) cs' k.es k.ps/\F l cs'/\bH (P k.pg) 204 0 l cs')(hN:Nv F P l (loK lo ks i) (cQ hi ks i) cs' k1.es k1.ps)(hF:F l cs')(hp:bH (P k.pg) 204 0 l cs'):
  Nv F P (l+1) lo hi (bI ks) ((ks.take i).flatMap (·.es)++k1.es++(ks.drop (i+1)).flatMap (·.es)) ((ks.take i).flatMap cW++cW k1++(ks.drop (i+1)).flatMap cW):=by
 have eN:=(List.getElem?_eq_some_iff.1 I).1;refine⟨ks.set i k1,(EG I h1 h2).symm,hs.set I h1 h2,(rj eN).symm,(rj eN).symm,λj m hm => ?_⟩;rw[zI I h2,vU I h2];by_cases hj:j=i
 .subst hj;rw[jN eN] at hm;obtain rfl:=bB hm;exact⟨cs',hN,hF,by rw[h1];exact hp⟩
 .rw[lW (jR hj)] at hm;exact hb j m hm hj
theorem gW.frame : ∀ {fs:List sU} {l:Nat} {lo:Ky} {hi:Option Ky} {n:Nat} {eL eR:List En} {pO:List Nat},gW F P L r fs l lo hi n eL eR pO->(∀m∈pO,P' m=P m)->gW F P' L r fs l lo hi n eL eR pO:=by
 intro fs;induction fs with
 |nil=>intro l lo hi n eL eR pO h _;exact h
 |cons f fs ih =>
  rintro l lo hi n eL eR pO ⟨fZ,eN,I,jh,iW,k,h1,h2,h3,h4,h5,h6,h7,Om,h8,h9,uV,rfl⟩ hp;refine⟨fZ,eN,I,jh,iW,k,ih h1 (λm hm=>hp m (bw _ (fA _ hm))),h2,h3,h4,h5,by rw[hp _ a_];exact h6,h7,Om,λj m hm hj => ?_,h9,uV,U⟩;obtain⟨cs',a1,a2,a3⟩:=h8 j m hm hj;have hq:∀x∈cW m,P' x=P x:=λx hx=>hp x (bw _ (jt _ (List.mem_flatMap.2 ⟨m,by
   rw[List.mem_eraseIdx_iff_getElem?];exact⟨j,hj,hm⟩,hx⟩)))
  exact⟨cs',a1.frame λx hx=>hq x (bw _ hx),a2,by rw[hq m.pg a_];exact a3⟩
theorem gW.down {fs:List sU}(h:gW F P L r fs (l+1) lo hi n eL eR pO)(hs:Sep lo hi ks)(I:fs≠[]->F (l+1) (bI ks))(hp:bH (P n) 204 0 (l+1) (bI ks))
 (hb:∀i k,ks[i]?=some k->∃cs',Nv F P l (loK lo ks i) (cQ hi ks i) cs' k.es k.ps/\F l cs'/\bH (P k.pg) 204 0 l cs'){k:fV}(hk:ks[i]?=some k):
  gW F P L r (⟨n,ks,i⟩::fs) l (loK lo ks i) (cQ hi ks i) k.pg (eL++(ks.take i).flatMap (·.es)) ((ks.drop (i+1)).flatMap (·.es)++eR) (n::(pO++(ks.eraseIdx i).flatMap cW)) :=
 ⟨lo,hi,eL,eR,pO,k,h,hk,U,U,U,hp,hs,I,λj m hm _=>hb j m hm,U,U,U⟩
theorem gW.rt : ∀ {fs:List sU} {l:Nat} {lo:Ky} {hi:Option Ky} {n:Nat} {eL eR:List En} {pO:List Nat},gW F P L r fs l lo hi n eL eR pO->(fs=[]/\l=L/\n=r)\/(fs≠[]/\r∈pO):=by
 intro fs;induction fs with
 |nil=>rintro l lo hi n eL eR pO ⟨rfl,rfl,rfl,rfl,rfl,rfl,rfl⟩;exact .inl ⟨U,U,U⟩
 |cons f fs I =>
  rintro l lo hi n eL eR pO ⟨fZ,eN,m9,jh,iW,k,h1,h2,rfl,rfl,rfl,h6,h7,Om,h8,rfl,rfl,rfl⟩;refine .inr ⟨by simp,?_⟩;rcases I h1 with⟨_,_,q⟩|⟨_,q⟩
  .rw[q];exact a_
  .exact bw _ (fA _ q)
theorem gW.Qh : ∀ {fs:List sU} {l:Nat} {lo:Ky} {hi:Option Ky} {n:Nat} {eL eR es:List En} {pO ps:List Nat} {cs:List (List Nat)},gW F P L r fs l lo hi n eL eR pO->Nv F P l lo hi cs es ps->bH (P n) 204 0 l cs->(fs≠[]->F l cs) ->
  ∃I cs',Nv F P L [] none cs' (eL++es++eR) I/\bH (P r) 204 0 L cs'/\(r::I).Perm (pO++n::ps)/\(fs=[]->cs'=cs):=by
 intro fs;induction fs with
 |nil =>
  rintro l lo hi n eL eR es pO ps cs ⟨rfl,rfl,rfl,rfl,rfl,rfl,rfl⟩ hN hp _;exact⟨ps,cs,by simpa using hN,hp,List.Perm.refl _,λ_=>U⟩
 |cons f fs ih =>
  rintro l lo hi n eL eR es pO ps cs ⟨fZ,eN,m9,jh,iW,k,h1,h2,rfl,rfl,rfl,h6,h7,Om,h8,rfl,rfl,rfl⟩ hN hp hF;have Gr:=Nv.hole (k1:=⟨k.key,k.pg,es,ps⟩) h2 U U h7 h8 hN (hF (by simp)) hp;obtain⟨I,cs',a1,a2,a3,_⟩:=ih h1 Gr h6 Om;refine⟨I,cs',by simpa[dO] using a1,a2,a3.trans ?_,λq=>by cases q⟩;rw[vy];rw[lX];intro x;simp only[cW,lY,lZ,fK];omega
end
variable {fs:List sU}
def fM (l:Nat)(c:List Nat): Ky:=if l=0 then(c.drop 1).take (c.getD 0 0) else c.drop 4
def rgtC (l:Nat)(cs:List (List Nat)): List (List Nat):=if l=0 then cs else match cs with|[]=>[]|c::t=>c.take 4::t
theorem r7 {e:En}: fM 0 (eE e)=e.1:=by
 simp[fM,eE]
theorem ql {l n:Nat}{k:Ky}: fM (l+1) (ff n k)=k:=by
 have:=cO 4 n;rw[fM,ai (by omega),ff,vH this]
section
variable {P:Int->List Nat} {l n:Nat} {lo:Ky}
theorem SZ : bI (ks.take k)=(bI ks).take k:=rI ..
def rgtK : List fV->List fV
 |[]=>[]
 |k::t=>⟨[],k.pg,k.es,k.ps⟩::t
theorem VQ : bI (rgtK ks)=rgtC (l+1) (bI ks):=by
 cases ks with
 |nil=>rfl
 |cons y u =>
  have:=cO 4 y.pg;show ff y.pg []::_=(ff y.pg y.key).take 4::_;rw[ff,ff,ga this,gd]
theorem I1 {g:fV->List α}(I:∀k:fV,g ⟨[],k.pg,k.es,k.ps⟩=g k): (rgtK ks).flatMap g=ks.flatMap g:=by
 cases ks with
 |nil=>rfl
 |cons y u=>simp only[rgtK,eG,I]
theorem VR {x:fV}(h:(rgtK ks)[i]?=some x): ∃y,ks[i]?=some y/\x.pg=y.pg/\x.es=y.es/\x.ps=y.ps/\(1<=i->x=y)/\(i=0->x.key=[]):=by
 cases ks with
 |nil=>simp[rgtK] at h
 |cons y u =>
  cases i with
  |zero=>simp[rgtK] at h;subst h;exact⟨y,U,U,U,U,λh=>by omega,λ_=>U⟩
  |succ i=>exact⟨x,by simpa[rgtK] using h,U,U,U,λ_=>U,λh=>by omega⟩
theorem VS : (rgtK ks).length=ks.length:=by cases ks<;>rfl
theorem Nv.cut (h:Nv F P l lo hi cs es ps)(h1:1<=k)(hc:cs[k]?=some c): ∃kN gL nU nV,es=kN++gL/\ps=nU++nV/\Nv F P l lo (some (fM l c)) (cs.take k) kN nU/\Nv F P l (fM l c) hi (rgtC l (cs.drop k)) gL nV /\
  lo<fM l c/\(∀b,hi=some b->fM l c<b)/\1<=(fM l c).length/\(fM l c).length<=96:=by
 have hk:=(List.getElem?_eq_some_iff.1 hc).1;cases l with
 |zero =>
  obtain⟨rfl,h2,rfl⟩:=h;rw[cj] at hk;obtain⟨e,he⟩:∃e,es[k]?=some e:=⟨_,aF hk⟩;rw[kR,he] at hc;obtain rfl:=bB hc;rw[r7];have On:=aI he;have gD:es=es.take k++es.drop k:=(jO k es).symm;have zJ:=h2.jY;rw[gD,yt] at zJ;have hed:e∈es.drop k:=by
   rw[CR];exact⟨0,by rw[fB];simpa using he⟩
  have hle:∀x∈es.drop k,e.1<=x.1:=λx I=>by
   obtain⟨j,hj⟩:=List.mem_iff_getElem?.1 I;rw[fB] at hj;by_cases q:j=0
   .subst q;rw[eH,he] at hj;obtain rfl:=bB hj;exact nF _
   .have:=List.pairwise_iff_getElem.1 h2.jY k (k+j) (by omega) (List.getElem?_eq_some_iff.1 hj).1 (by omega);rw[(List.getElem?_eq_some_iff.1 hj).2,(List.getElem?_eq_some_iff.1 he).2] at this;exact oM this
  have h0:∃x,x∈es.take k:=⟨es[0]'(by omega),by
   rw[CR];exact⟨0,by rw[hO,ay (by omega)];exact aF _⟩⟩
  refine⟨es.take k,es.drop k,[],[],gD,U,⟨(rI ..).symm,⟨λx I=>⟨(h2.bd x (iL I)).1,λb hb => ?_⟩,λx I=>h2.sz x (iL I),zJ.1⟩,U⟩,⟨(tD ..).symm,⟨λx I=>⟨hle x I,(h2.bd x (jd I)).2⟩,λx I=>h2.sz x (jd I),zJ.2.1⟩,U⟩,?_,(h2.bd e On).2,(h2.sz e On).1,(h2.sz e On).2.1⟩
  .obtain rfl:=bB hb;exact zJ.2.2 x I e hed
  .obtain⟨x,I⟩:=h0;have:=zJ.2.2 x I e hed;have:=(h2.bd x (iL I)).1;grind
 |succ l =>
  obtain⟨ks,rfl,h2,rfl,rfl,h5⟩:=h;rw[dI] at hk;obtain⟨m,hm⟩:∃m,ks[k]?=some m:=⟨_,aF hk⟩;have A2:=gU hm;rw[A2] at hc;obtain rfl:=bB hc;rw[ql];have gD:ks=ks.take k++ks.drop k:=(jO k ks).symm;have hT:∀j,j<k->(ks.take k)[j]?=ks[j]?:=λj hj=>by rw[hO,ay hj]
  have S1:∀ {j x},(ks.take k)[j]?=some x->j<k/\ks[j]?=some x:=λ{j x} I=>by
   have hj:=(List.getElem?_eq_some_iff.1 I).1;rw[cz] at hj;exact⟨by omega,by rwa [hT j (by omega)] at I⟩
  have hD:∀ {j x},(rgtK (ks.drop k))[j]?=some x->∃y,ks[k+j]?=some y/\x.pg=y.pg/\x.es=y.es/\x.ps=y.ps/\(1<=j->x=y)/\(j=0->x.key=[]):=λ{j x} I=>by
   obtain⟨y,e1,e2⟩:=VR I;rw[fB] at e1;exact⟨y,e1,e2⟩
  have xk:(rgtK (ks.drop k)).length=ks.length-k:=by rw[VS,fD]
  refine⟨(ks.take k).flatMap (·.es),(ks.drop k).flatMap (·.es),(ks.take k).flatMap cW,(ks.drop k).flatMap cW,by rw[<-nk,<-gD],by rw[<-nk,<-gD],
   ⟨ks.take k,SZ.symm,⟨?_,λx I=>h2.pg x (iL I),λx I=>h2.len x (iL I),λi x I c9=>h2.sz i x (S1 I).2 c9,λi x I c9 => ?_,λi j x y I hy a1 a2=>h2.jY i j x y (S1 I).2 (S1 hy).2 a1 a2⟩,U,U,λi x I => ?_⟩,
   ⟨rgtK (ks.drop k),by rw[VQ,bI,bI,tD],⟨?_,λx I => ?_,λx I => ?_,λi x I c9 => ?_,λi x I c9 => ?_,λi j x y I hy a1 a2 => ?_⟩,(I1 λ_=>U).symm,(I1 λ_=>U).symm,λi x I => ?_⟩,
   (h2.bd k m hm h1).1,(h2.bd k m hm h1).2,h2.sz k m hm h1,h2.len m (aI hm)⟩
  .intro e;have:=dg List.length e;rw[cz,bY] at this;omega
  .obtain⟨hj,I⟩:=S1 I;refine⟨(h2.bd i x I c9).1,λb hb => ?_⟩;obtain rfl:=bB hb;exact h2.jY i k x m I hm c9 (by omega)
  .obtain⟨hj,I⟩:=S1 I;have e1:loK lo (ks.take k) i=loK lo ks i:=by unfold loK;rw[hT i (by omega)]
   have e2:cQ (some m.key) (ks.take k) i=cQ hi ks i:=by
    unfold cQ;by_cases q:i+1<k
    .rw[hT (i+1) q];have:ks[i+1]?=some ks[i+1]:=aF (by omega);rw[this]
    .have:i+1=k:=by omega
     rw[this,hm,rB (by rw[cz];omega)]
   rw[e1,e2];exact h5 i x I
  .intro e;have:=dg List.length e;rw[xk,bY] at this;omega
  .obtain⟨j,hj⟩:=List.mem_iff_getElem?.1 I;obtain⟨y,e1,e2,_⟩:=hD hj;rw[e2];exact h2.pg y (aI e1)
  .obtain⟨j,hj⟩:=List.mem_iff_getElem?.1 I;obtain⟨y,e1,_,_,_,e2,e3⟩:=hD hj;rcases nq j with q|q
   .rw[e3 q];exact gG _
   .rw[e2 q];exact h2.len y (aI e1)
  .obtain⟨y,e1,_,_,_,e2,_⟩:=hD I;rw[e2 c9];exact h2.sz (k+i) y e1 (by omega)
  .obtain⟨y,e1,_,_,_,e2,_⟩:=hD I;rw[e2 c9];exact⟨h2.jY k (k+i) m y hm e1 h1 (by omega),(h2.bd (k+i) y e1 (by omega)).2⟩
  .obtain⟨z,e1,_,_,_,e2,_⟩:=hD I;obtain⟨z2,e3,_,_,_,e4,_⟩:=hD hy;rw[e2 a1,e4 (by omega)];exact h2.jY (k+i) (k+j) z z2 e1 e3 (by omega) (by omega)
  .obtain⟨y,e1,p1,p2,p3,p4,_⟩:=hD I;have e3:loK m.key (rgtK (ks.drop k)) i=loK lo ks (k+i):=by
    unfold loK;rw[ai (show ¬k+i=0 by omega)];by_cases q:i=0
    .subst q;rw[ay U,eH,hm]
    .rw[ai q,I,e1,p4 (by omega)]
   have e4:cQ hi (rgtK (ks.drop k)) i=cQ hi ks (k+i):=by
    unfold cQ;cases hq:(rgtK (ks.drop k))[i+1]? with
    |none =>
     rw[Nj,xk] at hq;rw[rB (by omega)]
    |some w =>
     obtain⟨y2,e5,_,_,_,e6,_⟩:=hD hq;rw[show k+i+1=k+(i+1) by omega,e5,e6 (by omega)]
   rw[e3,e4,p1,p2,p3];exact h5 (k+i) y e1
theorem Nv.abr {k:fV}(q7:Sep lo hi ks)(q2:ks[i]?=some k)(q8:∀j k,ks[j]?=some k->j≠i->∃cs',Nv F P l (loK lo ks j) (cQ hi ks j) cs' k.es k.ps/\F l cs'/\bH (P k.pg) 204 0 l cs'){cut:Ky}
 (h1:Nv F P l (loK lo ks i) (some cut) wK kN nU)(g1:F l wK)(p1:bH (P k.pg) 204 0 l wK)(h2:Nv F P l cut (cQ hi ks i) qJ gL nV)(g2:F l qJ)(p2:bH (P n2) 204 0 l qJ)(c1:loK lo ks i<cut)(c2:∀b,cQ hi ks i=some b->cut<b)(c3:1<=cut.length/\cut.length<=96)(qp:n2<4294967296):
  Nv F P (l+1) lo hi (dh (i+1) (ff n2 cut) (bI ks)) ((ks.take i).flatMap (·.es)++(kN++gL)++(ks.drop (i+1)).flatMap (·.es)) ((ks.take i).flatMap cW++(k.pg::nU++n2::nV)++(ks.drop (i+1)).flatMap cW):=by
 have c9:=(List.getElem?_eq_some_iff.1 q2).1;obtain⟨k1,l9⟩:∃k1:fV,k1=⟨k.key,k.pg,kN,nU⟩:=⟨_,U⟩;obtain⟨k2,kZ⟩:∃k2:fV,k2=⟨cut,n2,gL,nV⟩:=⟨_,U⟩;have e1:k1.pg=k.pg:=by rw[l9]
 have e2:k1.key=k.key:=by rw[l9]
 have hS:=q7.set q2 e1 e2;have hlen:(ks.set i k1).length=ks.length:=cL;have uY:bI (dh (i+1) k2 (ks.set i k1))=dh (i+1) (ff n2 cut) (bI ks):=by
  rw[<-EG q2 e1 e2,kZ];simp only[bI,dh,rG,hU,rI,tD]
 have nJ:∀j x,(dh (i+1) k2 (ks.set i k1))[j]?=some x->(j<=i/\(ks.set i k1)[j]?=some x)\/(j=i+1/\x=k2)\/(i+1<j/\(ks.set i k1)[j-1]?=some x):=λj x hx=>by
  rw[mZ] at hx;by_cases c1:j<i+1
  .rw[ay c1] at hx;exact .inl ⟨by omega,hx⟩
  .rw[ai c1] at hx;by_cases c2:j=i+1
   .rw[ay c2] at hx;exact .inr (.inl ⟨c2,(bB hx).symm⟩)
   .rw[ai c2] at hx;exact .inr (.inr ⟨by omega,hx⟩)
 have Ry:(ks.set i k1)[i]?=some k1:=jN c9;have Qe:lo<cut:=by have:=q7.lo_le c9;grind
 have ad3:∀b,hi=some b->cut<b:=λb hb=>by obtain⟨a,ha,mq⟩:=q7.Qg (i:=i) b hb;have:=c2 a ha;grind
 have nX:k2.key=cut:=by rw[kZ]
 have abt:∀j x,1<=j->j<=i->(ks.set i k1)[j]?=some x->x.key<cut:=λj x a1 a2 hx=>by
  have I:loK lo ks i=k.key:=by rw[loK,ai (by omega),q2]
  rw[I] at c1;by_cases q:j=i
  .subst q;rw[Ry] at hx;obtain rfl:=bB hx;rw[e2];exact c1
  .have:=hS.jY j i x k1 hx Ry a1 (by omega);rw[e2] at this;grind
 have abu:∀j x,i+1<=j->(ks.set i k1)[j]?=some x->cut<x.key:=λj x a1 hx=>by
  rw[lW (by omega)] at hx;have hj:=(List.getElem?_eq_some_iff.1 hx).1;have hn:ks[i+1]?=some (ks[i+1]'(by omega)):=aF _;have I:cQ hi ks i=some (ks[i+1]'(by omega)).key:=by rw[cQ,hn]
  have h4:=c2 _ I;by_cases q:j=i+1
  .subst q;rw[hn] at hx;obtain rfl:=bB hx;exact h4
  .have:=q7.jY (i+1) j _ x hn hx (by omega) (by omega);grind
 have hg1:cW k1=k.pg::nU:=by rw[l9];rfl
 have FO:cW k2=n2::nV:=by rw[kZ];rfl
 rw[<-hg1,<-FO];refine⟨dh (i+1) k2 (ks.set i k1),uY.symm,⟨?_,λx hx => ?_,λx hx => ?_,λj x hx hj => ?_,λj x hx hj => ?_,λj j2 x y hx hy a1 a2 => ?_⟩,?_,?_,λj x hx => ?_⟩
 .intro e;have:=dg List.length e;rw[lu (by omega)] at this;simp at this
 .obtain⟨j,hj⟩:=List.mem_iff_getElem?.1 hx;rcases nJ j x hj with⟨_,I⟩|⟨_,rfl⟩|⟨_,I⟩
  .exact hS.pg x (aI I)
  .rw[kZ];exact qp
  .exact hS.pg x (aI I)
 .obtain⟨j,hj⟩:=List.mem_iff_getElem?.1 hx;rcases nJ j x hj with⟨_,I⟩|⟨_,rfl⟩|⟨_,I⟩
  .exact hS.len x (aI I)
  .rw[nX];exact c3.2
  .exact hS.len x (aI I)
 .rcases nJ j x hx with⟨_,I⟩|⟨_,rfl⟩|⟨_,I⟩
  .exact hS.sz j x I hj
  .rw[nX];exact c3.1
  .exact hS.sz (j-1) x I (by omega)
 .rcases nJ j x hx with⟨_,I⟩|⟨_,rfl⟩|⟨_,I⟩
  .exact hS.bd j x I hj
  .rw[nX];exact⟨Qe,ad3⟩
  .exact hS.bd (j-1) x I (by omega)
 .rcases nJ j x hx with⟨b1,I⟩|⟨b1,rfl⟩|⟨b1,I⟩
  .rcases nJ j2 y hy with⟨b2,h4⟩|⟨b2,rfl⟩|⟨b2,h4⟩
   .exact hS.jY j j2 x y I h4 a1 a2
   .rw[nX];exact abt j x a1 b1 I
   .exact hS.jY j (j2-1) x y I h4 a1 (by omega)
  .rcases nJ j2 y hy with⟨b2,h4⟩|⟨b2,rfl⟩|⟨b2,h4⟩
   .omega
   .omega
   .rw[nX];exact abu (j2-1) y (by omega) h4
  .rcases nJ j2 y hy with⟨b2,h4⟩|⟨b2,rfl⟩|⟨b2,h4⟩
   .omega
   .omega
   .exact hS.jY (j-1) (j2-1) x y I h4 (by omega) (by omega)
 .show _=(dh (i+1) k2 (ks.set i k1)).flatMap (·.es);rw[dh,nk,eG,List.take_set,List.drop_set,ay (by omega),rj (by rw[cz];omega),rH,l7,l9,kZ];simp[show min i (i+1)=i by omega,dO]
 .show _=(dh (i+1) k2 (ks.set i k1)).flatMap cW;rw[dh,nk,eG,List.take_set,List.drop_set,ay (by omega),rj (by rw[cz];omega),rH,l7];simp[show min i (i+1)=i by omega,dO]
 .rcases nJ j x hx with⟨b1,I⟩|⟨b1,rfl⟩|⟨b1,I⟩
  .have e3:loK lo (dh (i+1) k2 (ks.set i k1)) j=loK lo ks j:=by
    rw[<-zI q2 e2];unfold loK;rw[hx,I]
   rw[e3];by_cases q:j=i
   .subst q;rw[Ry] at I;obtain rfl:=bB I;have e4:cQ hi (dh (j+1) k2 (ks.set j k1)) j=some cut:=by
     unfold cQ;rw[mZ,ai (by omega),ay U];exact dg some nX
    rw[e4,l9];exact⟨wK,h1,g1,p1⟩
   .have e4:cQ hi (dh (i+1) k2 (ks.set i k1)) j=cQ hi ks j:=by
     rw[<-vU q2 e2];unfold cQ;rw[mZ,ay (by omega)]
    rw[e4];rw[lW (jR q)] at I;exact q8 j x I q
  .subst b1;have e3:loK lo (dh (i+1) x (ks.set i k1)) (i+1)=cut:=by
    unfold loK;rw[ai (by omega),hx];exact nX
   have e4:cQ hi (dh (i+1) x (ks.set i k1)) (i+1)=cQ hi ks i:=by
    rw[<-vU q2 e2];unfold cQ;rw[mZ,ai (by omega),ai (by omega)];rfl
   rw[e3,e4,kZ];exact⟨qJ,h2,g2,p2⟩
  .have e3:loK lo (dh (i+1) k2 (ks.set i k1)) j=loK lo ks (j-1):=by
    rw[<-zI q2 e2];unfold loK;rw[hx,I,ai (by omega),ai (by omega)]
   have e4:cQ hi (dh (i+1) k2 (ks.set i k1)) j=cQ hi ks (j-1):=by
    rw[<-vU q2 e2];unfold cQ;rw[mZ,ai (by omega),ai (by omega),show j+1-1=j-1+1 by omega]
   rw[e3,e4];rw[lW (by omega)] at I;exact q8 (j-1) x I (by omega)
theorem gW.two {f:sU}(h:gW F P L r (f::fs) l lo hi n eL eR pO){cut:Ky}
 (h1:Nv F P l lo (some cut) wK kN nU)(g1:F l wK)(p1:bH (P n) 204 0 l wK)(h2:Nv F P l cut hi qJ gL nV)(g2:F l qJ)(p2:bH (P n2) 204 0 l qJ)(c1:lo<cut)(c2:∀b,hi=some b->cut<b)(c3:1<=cut.length/\cut.length<=96)(qp:n2<4294967296):
  ∃fZ eN I jh iW XV m_,gW F P L r fs (l+1) fZ eN f.pg I jh iW/\Nv F P (l+1) fZ eN (dh (f.i+1) (ff n2 cut) (bI f.ks)) XV m_/\I++XV++jh=eL++(kN++gL)++eR /\
   (iW++f.pg::m_).Perm (pO++n::n2::(nU++nV))/\bH (P f.pg) 204 0 (l+1) (bI f.ks)/\f.i<f.ks.length:=by
 obtain⟨fZ,eN,I,jh,iW,k,q1,q2,rfl,rfl,rfl,q6,q7,_,q8,rfl,rfl,rfl⟩:=h;refine⟨fZ,eN,I,jh,iW,_,_,q1,Nv.abr q7 q2 q8 h1 g1 p1 h2 g2 p2 c1 c2 c3 qp,by simp[dO],?_,q6,(List.getElem?_eq_some_iff.1 q2).1⟩;rw[vy,lX];intro x;simp only[lY,lZ,fK];omega
end
def cB (cs:List (List Nat)): Nat:=tot cs+4*cs.length
theorem AM (h:cs[i]?=some c): cB (cs.take (i+1))=cB (cs.take i)+c.length+4:=by
 have I:=i_ h;have h2:=(List.getElem?_eq_some_iff.1 h).1;simp only[cB,cz];omega
theorem uD : cB (cs.take k)+cB (cs.drop k)=cB cs:=by
 have I:=tT (a:=cs.take k) (b:=cs.drop k);have h2:=dg List.length (jO k cs);rw[aN] at h2;rw[jO] at I;simp only[cB];omega
structure mo (cs:List (List Nat))(least k:Nat): Prop where
 k1:1<=k
 k2:k<cs.length
 l1:least<=k
 l2:least+k<=cs.length
 s1:cB (cs.take k)<=486
 s2:cB (cs.drop k)<=486
theorem S2 (hM:∀c∈cs,c.length+4<=M)(h1:1<=a)(ha:a<=cB cs): ∃k,k<=cs.length/\a<=cB (cs.take k)/\cB (cs.take k)<a+M/\1<=k:=by
 have main:∀n,n<=cs.length->a<=cB (cs.take n)->∃k,k<=n/\a<=cB (cs.take k)/\cB (cs.take k)<a+M/\1<=k:=by
  intro n;induction n with
  |zero=>intro _ h;rw[tw] at h;simp[cB,tot] at h;omega
  |succ n ih =>
   intro hn h;by_cases q:a<=cB (cs.take n)
   .obtain⟨k,k1,k2⟩:=ih (by omega) q;exact⟨k,by omega,k2⟩
   .have I:cs[n]?=some (cs[n]'(by omega)):=aF _;have h2:=AM I;have h3:=hM _ (aI I);exact⟨n+1,aH _,h,by omega,by omega⟩
 obtain⟨k,k1,k2⟩:=main cs.length (aH _) (by rw[jP];exact ha);exact⟨k,k1,k2⟩
theorem Cs (I:∀c∈cs,c.length+4<=M): cB cs<=cs.length*M:=by
 induction cs with
 |nil=>simp[cB,tot]
 |cons c cs ih =>
  have h1:=ih λx hx=>I x (bw _ hx);have h2:=I c a_;simp only[cB,tot,aX] at h1 ⊢;rw[yG,Nat.one_mul];omega
theorem VT (hM:∀c∈cs,c.length+4<=229)(h1:486<cB cs)(h2:cB cs<=715): ∃k,mo cs 1 k:=by
 obtain⟨k,k1,k2,k3,I⟩:=S2 hM (a:=229) (by decide) (by omega);have hs:=uD (cs:=cs) (k:=k);have hk:k<cs.length:=by
  rcases tE k cs.length with q|q
  .exact q
  .rw[g_ q] at k3;omega
 exact⟨k,I,hk,I,by omega,by omega,by omega⟩
theorem Lh (I:∀c∈cs,c.length+4<=104)(h1:486<cB cs)(h2:cB cs<=695): ∃k,mo cs 2 k:=by
 obtain⟨k,k1,k2,k3,k4⟩:=S2 I (a:=209) (by decide) (by omega);have hs:=uD (cs:=cs) (k:=k);have ht:=Cs (cs:=cs.take k) (M:=104) λx hx=>I x (iL hx);have hd:=Cs (cs:=cs.drop k) (M:=104) λx hx=>I x (jd hx);rw[cz] at ht;rw[fD] at hd;exact⟨k,by omega,by omega,by omega,by omega,by omega,by omega⟩
structure Ec (es:List En)(k:Ky)(i:Nat): Prop where
 le:i<=es.length
 lo:∀j e,es[j]?=some e->j<i->e.1<k
 hi:∀j e,es[j]?=some e->i<=j->k<=e.1
def AN (es:List En)(i:Nat)(same:Bool)(e:En): List En:=cond same (es.set i e) (dh i e es)
def sameE (es:List En)(k:Ky)(i:Nat): Bool:=match es[i]? with|some e=>decide (e.1=k)|none=>false
section
variable {lo:Ky} {k v:Ky}
theorem Li {c x:α}{l:List α}: x∈dh i c l↔x=c\/x∈l:=by
 have:=jO i l;have I:x∈l↔x∈l.take i\/x∈l.drop i:=by rw[<-nD,this]
 rw[I,dh,nD,gz];constructor
 .rintro(q|q|q)
  .exact .inr (.inl q)
  .exact .inl q
  .exact .inr (.inr q)
 .rintro(q|q|q)
  .exact .inr (.inl q)
  .exact .inl q
  .exact .inr (.inr q)
theorem js.put (h:js lo hi es)(hl:Ec es k i)(hb:Bd lo hi k)(h1:1<=k.length)(h2:k.length<=96)(h3:v.length<=128): js lo hi (AN es i (sameE es k i) (k,v)):=by
 cases hs:sameE es k i with
 |true =>
  show js lo hi (es.set i (k,v));obtain⟨e,he,xB⟩:∃e,es[i]?=some e/\e.1=k:=by
   unfold sameE at hs;split at hs
   .rename_i e he;exact⟨e,he,rC hs⟩
   .cases hs
  have c9:=(List.getElem?_eq_some_iff.1 he).1;refine⟨λx I => ?_,λx I => ?_,?_⟩
  .rcases mD I with q|rfl
   .exact h.bd x q
   .exact hb
  .rcases mD I with q|rfl
   .exact h.sz x q
   .exact⟨h1,h2,h3⟩
  .rw[List.pairwise_iff_getElem];intro a b ha ob mq;have hs:=List.pairwise_iff_getElem.1 h.jY a b (by simpa using ha) (by simpa using ob) mq;have e0:=(List.getElem?_eq_some_iff.1 he).2;rw[List.getElem_set,List.getElem_set];split
   .rename_i q;subst q;rw[ai (by omega)];rw[e0,xB] at hs;exact hs
   .split
    .rename_i _ q;subst q;rw[e0,xB] at hs;exact hs
    .exact hs
 |false =>
  show js lo hi (dh i (k,v) es);have fb:∀e,es[i]?=some e->e.1≠k:=λe he q=>by
   unfold sameE at hs;rw[he] at hs;simp[q] at hs
  refine⟨λx I => ?_,λx I => ?_,?_⟩
  .rcases Li.1 I with rfl|q
   .exact hb
   .exact h.bd x q
  .rcases Li.1 I with rfl|q
   .exact⟨h1,h2,h3⟩
   .exact h.sz x q
  .have zJ:=h.jY;rw[<-jO i es,yt] at zJ;rw[dh,yt];have cq:∀x∈es.take i,x.1<k:=λx I=>by
    obtain⟨j,hj⟩:=List.mem_iff_getElem?.1 I;have kI:=(List.getElem?_eq_some_iff.1 hj).1;rw[cz] at kI;rw[hO,ay (by omega)] at hj;exact hl.lo j x hj (by omega)
   have hgt:∀x∈es.drop i,k<x.1:=λx I=>by
    obtain⟨j,hj⟩:=List.mem_iff_getElem?.1 I;rw[fB] at hj;have h4:=hl.hi (i+j) x hj (by omega);by_cases q:j=0
    .subst q;have:=fb x hj;grind
    .have c9:=(List.getElem?_eq_some_iff.1 hj).1;have h5:=List.pairwise_iff_getElem.1 h.jY i (i+j) (by omega) c9 (by omega);rw[(List.getElem?_eq_some_iff.1 hj).2] at h5;have h6:=hl.hi i _ (aF (by omega)) (aH _);grind
   refine⟨zJ.1,List.pairwise_cons.2 ⟨λx I=>hgt x I,zJ.2.1⟩,λx I y hy => ?_⟩;rcases List.mem_cons.1 hy with rfl|hy
   .exact cq x I
   .exact zJ.2.2 x I y hy
def rq (l:List En)(k v:Ky): List En:=l.filter (λe=>decide (e.1<k))++(k,v)::l.filter (λe=>decide (k<e.1))
theorem filter_none {p:α->Bool}{l:List α}(h:∀x∈l,p x=false): l.filter p=[]:=by
 rw[List.filter_eq_nil_iff];intro x I;rw[h x I];decide
theorem filter_all {p:α->Bool}{l:List α}(h:∀x∈l,p x=true): l.filter p=l:=List.filter_eq_self.2 h
theorem VU (hs:(eL++es++eR).Pairwise λa b=>a.1<b.1)(hl:Ec es k i)(hL:∀e∈eL,e.1<k)(hR:∀e∈eR,k<e.1): rq (eL++es++eR) k v=eL++AN es i (sameE es k i) (k,v)++eR:=by
 have gD:=jO i es;have hT:∀x∈es.take i,x.1<k:=λx I=>by
  obtain⟨j,hj⟩:=List.mem_iff_getElem?.1 I;have kI:=(List.getElem?_eq_some_iff.1 hj).1;rw[cz] at kI;rw[hO,ay (by omega)] at hj;exact hl.lo j x hj (by omega)
 have hD:∀x∈es.drop i,k<=x.1:=λx I=>by
  obtain⟨j,hj⟩:=List.mem_iff_getElem?.1 I;rw[fB] at hj;exact hl.hi (i+j) x hj (by omega)
 have a1:eL.filter (λe=>decide (e.1<k))=eL:=filter_all λx I=>decide_eq_true (hL x I);have a2:eL.filter (λe=>decide (k<e.1))=[]:=filter_none λx I=>decide_eq_false (by have:=hL x I;grind);have a3:eR.filter (λe=>decide (e.1<k))=[]:=filter_none λx I=>decide_eq_false (by have:=hR x I;grind);have a4:eR.filter (λe=>decide (k<e.1))=eR:=filter_all λx I=>decide_eq_true (hR x I);have a5:es.filter (λe=>decide (e.1<k))=es.take i:=by
  conv=>lhs;rw[<-gD]
  rw[oJ,filter_all λx I=>decide_eq_true (hT x I),filter_none λx I=>decide_eq_false (by have:=hD x I;grind),gd]
 have zJ:es.Pairwise λa b=>a.1<b.1:=(List.pairwise_append.1 (List.pairwise_append.1 hs).1).2.1;unfold rq;rw[oJ,oJ,oJ,oJ,a1,a2,a3,a4,a5,gd,dJ];cases hq:sameE es k i with
 |true =>
  obtain⟨e,he,xB⟩:∃e,es[i]?=some e/\e.1=k:=by
   unfold sameE at hq;split at hq
   .rename_i e he;exact⟨e,he,rC hq⟩
   .cases hq
  have c9:=(List.getElem?_eq_some_iff.1 he).1;have XW:es.drop i=e::es.drop (i+1):=by
   rw[mC c9,(List.getElem?_eq_some_iff.1 he).2]
  have a6:es.filter (λe=>decide (k<e.1))=es.drop (i+1):=by
   conv=>lhs;rw[<-gD,XW]
   rw[oJ,List.filter_cons,filter_none λx I=>decide_eq_false (by have:=hT x I;grind),ai (by simp[xB]),dJ];refine filter_all λx I=>decide_eq_true ?_;have h2:(e::es.drop (i+1)).Pairwise λa b=>a.1<b.1:=by rw[<-XW];exact zJ.sublist (List.drop_sublist _ _)
   have:=(List.pairwise_cons.1 h2).1 x I;rw[xB] at this;exact this
  rw[a6];show _=eL++es.set i (k,v)++eR;rw[CP,ay c9];simp[dO]
 |false =>
  have fb:∀e,es[i]?=some e->e.1≠k:=λe he q=>by
   unfold sameE at hq;rw[he] at hq;simp[q] at hq
  have a6:es.filter (λe=>decide (k<e.1))=es.drop i:=by
   conv=>lhs;rw[<-gD]
   rw[oJ,filter_none λx I=>decide_eq_false (by have:=hT x I;grind),dJ];refine filter_all λx I=>decide_eq_true ?_;have h4:=hD x I;obtain⟨j,hj⟩:=List.mem_iff_getElem?.1 I;rw[fB] at hj;by_cases q:j=0
   .subst q;have:=fb x hj;grind
   .have c9:=(List.getElem?_eq_some_iff.1 hj).1;have h5:=List.pairwise_iff_getElem.1 zJ i (i+j) (by omega) c9 (by omega);rw[(List.getElem?_eq_some_iff.1 hj).2] at h5;have h6:=hl.hi i _ (aF (by omega)) (aH _);grind
  rw[a6];show _=eL++dh i (k,v) es++eR;simp[dh,dO]
end
section
variable {P:Int->List Nat}
theorem gW.bd : ∀ {fs:List sU} {l:Nat} {lo:Ky} {hi:Option Ky} {n:Nat} {eL eR:List En} {pO:List Nat},gW F P L r fs l lo hi n eL eR pO->(∀e∈eL,e.1<lo)/\∀e∈eR,∃b,hi=some b/\b<=e.1:=by
 intro fs;induction fs with
 |nil=>rintro l lo hi n eL eR pO ⟨_,_,_,_,rfl,rfl,_⟩;exact⟨λe he=>(by cases he),λe he=>(by cases he)⟩
 |cons f fs ih =>
  rintro l lo hi n eL eR pO ⟨fZ,eN,m9,jh,iW,k,h1,h2,rfl,rfl,rfl,h6,h7,_,h8,rfl,rfl,rfl⟩;obtain⟨i1,i2⟩:=ih h1;have c9:=(List.getElem?_eq_some_iff.1 h2).1;refine⟨λe he => ?_,λe he => ?_⟩
  .rcases List.mem_append.1 he with he|he
   .have:=i1 e he;have:=h7.lo_le c9;grind
   .obtain⟨x,hx,he⟩:=List.mem_flatMap.1 he;obtain⟨j,I⟩:=List.mem_iff_getElem?.1 hx;have kI:=(List.getElem?_eq_some_iff.1 I).1;rw[cz] at kI;rw[hO,ay (by omega)] at I;obtain⟨cs',a1,_,_⟩:=h8 j x I (by omega);have hb:=(a1.ok.bd e he).2;have hn:f.ks[j+1]?=some (f.ks[j+1]'(by omega)):=aF _;have h9:=hb (f.ks[j+1]'(by omega)).key (by rw[cQ,hn]);have e1:loK fZ f.ks f.i=k.key:=by rw[loK,ai (by omega),h2]
    rw[e1];by_cases q:j+1=f.i
    .have uV:f.ks[j+1]?=some k:=by rw[q];exact h2
     rw[hn] at uV;rw[<-bB uV];exact h9
    .have:=h7.jY (j+1) f.i _ k hn h2 (by omega) (by omega);grind
  .rcases List.mem_append.1 he with he|he
   .obtain⟨x,hx,he⟩:=List.mem_flatMap.1 he;obtain⟨j,I⟩:=List.mem_iff_getElem?.1 hx;rw[fB] at I;obtain⟨cs',a1,_,_⟩:=h8 (f.i+1+j) x I (by omega);have hb:=(a1.ok.bd e he).1;rw[loK,ai (by omega),I] at hb;have IN:=(List.getElem?_eq_some_iff.1 I).1;have hn:f.ks[f.i+1]?=some (f.ks[f.i+1]'(by omega)):=aF _;refine⟨(f.ks[f.i+1]'(by omega)).key,by rw[cQ,hn],?_⟩;by_cases q:j=0
    .subst q;rw[eH,hn] at I;obtain rfl:=bB I;exact hb
    .have:=h7.jY (f.i+1) (f.i+1+j) _ x hn I (by omega) (by omega);grind
   .obtain⟨b,hb,RD⟩:=i2 e he;obtain⟨a,ha,mq⟩:=h7.Qg (i:=f.i) b hb;exact⟨a,ha,by grind⟩
end
theorem I2 : ∀ {l m:List Nat},l.Nodup->(∀x∈l,x∈m)->l.length<=m.length:=by
 intro l;induction l with
 |nil=>intro m _ _;exact gG _
 |cons x l ih =>
  intro m hn hs;obtain⟨h1,h2⟩:=List.nodup_cons.1 hn;have I:=hs x a_;have:=ih (m:=m.erase x) h2 λy hy=>(List.mem_erase_of_ne (λe=>h1 (by rw[<-e];exact hy))).2 (hs y (bw _ hy));rw[List.length_erase_of_mem I] at this;have:=List.length_pos_of_mem I;rw[aX];omega
def cU (Z:List Nat)(l:Nat)(cs:List (List Nat)): Prop:=if l=0 then cs≠[] else 2<=cs.length\/∃p∈Z,∃k,p<4294967296/\cs=[ff p k]
def oW (Z ps:List Nat): Nat:=ps.countP (Z.contains ·)
section
variable {Z:List Nat} {P:Int->List Nat}
theorem Lj {g:α->Nat}{f:α->List Nat}: ∀ {ks:List α},(∀k∈ks,(f k).length+z<=g k)->(ks.flatMap f).length+z*ks.length<=(ks.map g).sum:=by
 intro ks;induction ks with
 |nil=>intro _;simp
 |cons k ks I =>
  intro h;have h1:=h k a_;have h2:=I λx hx=>h x (bw _ hx);rw[eG,aN,hU,yD,aX,Nat.mul_add,cH];omega
theorem S3 : (ks.map λk=>2*k.es.length+oW Z (cW k)).sum=2*(ks.flatMap (·.es)).length+oW Z (ks.flatMap cW):=by
 induction ks with
 |nil=>rfl
 |cons k ks I=>rw[hU,yD,eG,eG,aN,I,oW,oW,oW,List.countP_append];omega
theorem Nv.count : ∀ {l:Nat} {lo:Ky} {hi:Option Ky} {cs:List (List Nat)} {es:List En} {ps:List Nat},Nv (cU Z) P l lo hi cs es ps->cU Z l cs->ps.length+2<=2*es.length+oW Z ps/\1<=es.length/\(Z=[]->2^l<=es.length):=by
 intro l;induction l with
 |zero =>
  rintro lo hi cs es ps ⟨rfl,h2,rfl⟩ h;have h:es.map eE≠[]:=h;have:1<=es.length:=by
   cases es with
   |nil=>exact absurd U h
   |cons x t=>simp
  exact⟨by rw[bY];omega,this,λ_=>this⟩
 |succ l ih =>
  rintro lo hi cs es ps ⟨ks,rfl,h2,rfl,rfl,h5⟩ h;rw[cU,ai (by omega),dI] at h;have I:∀k∈ks,k.ps.length+2<=2*k.es.length+oW Z k.ps/\1<=k.es.length/\(Z=[]->2^l<=k.es.length):=λk hm=>by
   obtain⟨i,hi⟩:=List.mem_iff_getElem?.1 hm;obtain⟨cs',a1,a2,_⟩:=h5 i k hi;exact ih a1 a2
  rcases h with h|⟨p,hp,key,ad4,h⟩
  .have h1:=Lj (g:=λk=>2*k.es.length+oW Z (cW k)) (f:=cW) (z:=1) (ks:=ks) λk hm=>by
    have:=(I k hm).1;rw[cW,aX,oW,Hh];rw[oW] at this;omega
   rw[S3] at h1;match ks,h,I,h1 with
   |k1::k2::t,_,I,h1 =>
    have a1:=I k1 (by simp);have a2:=I k2 (by simp);refine⟨?_,?_,λhz => ?_⟩
    .simp only[aX] at h1;omega
    .simp only[eG,aN];omega
    .have b1:=a1.2.2 hz;have b2:=a2.2.2 hz;simp only[eG,aN];rw[Nat.pow_succ];omega
  .have hl:=dg List.length h;rw[dI] at hl;match ks,hl with
   |[k],_ =>
    have eA:k.pg=p:=by
     have h:[ff k.pg k.key]=[ff p key]:=h;have h6:=dg (List.take 4) (List.cons.inj h).1;rw[ff,ff,ga (cO 4 _),ga (cO 4 _)] at h6;have h7:=dg leN h6
     rwa [Cp,Cp,vD (by have:=h2.pg k (by simp);simpa using this),vD (by simpa using ad4)] at h7
    have a1:=I k (by simp);have hc:Z.contains k.pg=true:=by rw[eA];simpa using hp
    refine⟨?_,?_,λhz=>by rw[hz] at hp;cases hp⟩
    .simp only[eG,tv,gd,cW,aX,oW,Hh];rw[ay hc];have:=a1.1;rw[oW] at this;omega
    .simp only[eG,tv,gd];omega
theorem ZB (h:ps.Nodup): oW Z ps<=Z.length:=by
 rw[oW,List.countP_eq_length_filter];refine I2 (h.sublist List.filter_sublist) λx I => ?_;simpa using(List.mem_filter.1 I).2
theorem Nv.deep : ∀ {l:Nat} {lo:Ky} {hi:Option Ky} {cs:List (List Nat)} {es:List En} {ps:List Nat},Nv F P l lo hi cs es ps->l<=ps.length:=by
 intro l;induction l with
 |zero=>intros;exact gG _
 |succ l ih =>
  rintro lo hi cs es ps ⟨ks,rfl,h2,rfl,rfl,I⟩;match ks,h2.ne,I with
  |k::t,_,I =>
   obtain⟨cs',a1,_⟩:=I 0 k U;have:=ih a1;simp only[eG,aN,cW,aX];omega
theorem Nv.bG {lo:Ky}(h:Nv (cU Z) P L lo hi cs es ps)(hn:ps.Nodup): ps.length<=2*es.length+Z.length/\(Z=[]->1<=L->2^(L-1)<=es.length)/\(1<=L->1<=es.length):=by
 have hz:=ZB (Z:=Z) hn;cases L with
 |zero =>
  obtain⟨rfl,h2,rfl⟩:=h;exact⟨gG _,λ_ h=>by omega,λh=>by omega⟩
 |succ l =>
  obtain⟨ks,rfl,h2,rfl,rfl,h5⟩:=h;have I:∀k∈ks,k.ps.length+2<=2*k.es.length+oW Z k.ps/\1<=k.es.length/\(Z=[]->2^l<=k.es.length):=λk hm=>by
   obtain⟨i,hi⟩:=List.mem_iff_getElem?.1 hm;obtain⟨cs',a1,a2,_⟩:=h5 i k hi;exact a1.count a2
  have h1:=Lj (g:=λk=>2*k.es.length+oW Z (cW k)) (f:=cW) (z:=1) (ks:=ks) λk hm=>by
   have:=(I k hm).1;rw[cW,aX,oW,Hh];rw[oW] at this;omega
  rw[S3] at h1;match ks,h2.ne,I,h1,hz with
  |k1::t,_,I,h1,hz =>
   have a1:=I k1 (by simp);refine⟨by omega,λe _ => ?_,λ_ => ?_⟩
   .have:=a1.2.2 e;simp only[eG,aN,Nat.add_sub_cancel];omega
   .simp only[eG,aN];omega
end
section
variable {h:H} {v:V} {m:List Nat}
theorem H_ {n b:Nat}(s:Sat h (aY (.sl id 0 n cap) l::S))(hn:n=l.length)(mq:a<b)(hb:b<=l.length): ∃I,slR (.sl id 0 n cap) a b=.sl id a (b-a) I:=by
 cases cap with
 |exact c =>
  refine⟨.exact (c-a),?_⟩;simp only[slR];by_cases XC:c=a
  .obtain⟨m',r,h1,h2,h3⟩:=s.at (k:=0) U;rcases h3.2 with⟨e,_⟩|⟨wS,cs',c',e,hg,R3⟩|⟨wS,e,_⟩
   .cases e
   .grind
   .grind
  grind[fO]
 |rest e alt=>simp[slR]
theorem Lk {c:Nat}{rest:List V}(s:Sat h (pt id (.cells c (ofBytes l++rest) false)::S))(hc:l.length+rest.length=c)(hm:a+m.length<=l.length)(h1:1<=m.length):
  wrN h id a (ofBytes m)=some (h.put id (some (.cells c (ofBytes (az l a m)++rest) false))):=by
 simp only[wrN,s.row (k:=0) U,dN];rw[aR.2 (by omega),ag];have e0:(ofBytes l++rest).take a++(ofBytes m++(ofBytes l++rest).drop (a+m.length))=ofBytes (az l a m)++rest:=by
  grind[dN,wu,B0,az,t_]
 cases I:(Nat.beq a 0&&Nat.beq m.length c)<;>grind[beq_iff,List.drop_eq_nil_of_le,dN]
theorem S4 (s:Sat h (aY v l::S)){b n:Nat}(ha:a+n<=l.length)(hb:b+n<=l.length)(h1:1<=n):
  ∃h',copyV Tryz.prog h 29 (slR v a (a+n)) (slR v b (b+n))=some (.int .i64 (n:Nat),h')/\Sat h' (aY v (az l a ((l.drop b).take n))::S):=by
 have hv:=(s.buf (k:=0) U).1;obtain⟨id,c,cap,rest,rfl,s1,hc,hf⟩:=s.eX (by omega);obtain⟨afv,e1⟩:=H_ (a:=a) (b:=a+n) s U (by omega) ha;obtain⟨HP,e2⟩:=H_ (a:=b) (b:=b+n) s U (by omega) hb;have hvw:=(s.buf (k:=0) U).view;rw[e1,e2,tj,tj];have hz:((l.drop b).take n).length=n:=by rw[cz,fD];omega
 have hg:=s1.row (k:=0) U;have jl:rdN h id b (Nat.min n n*1)=some (ofBytes ((l.drop b).take n)):=by
  rw[cH,show Nat.min n n=n from Nat.min_self n];have I:=(fR hvw (a:=b) (b:=b+n) (by omega) hb).2.1;rw[e2,tj,l7,tj] at I;exact I.rdN.2
 simp only[copyV,aP,fF,jl];rw[Lk s1 hc (by rw[hz];omega) (by rw[hz];omega)];refine⟨_,by rw[show Nat.min n n=n from Nat.min_self n],hf _ _ (bF (by rw[hz];omega)) (xg hv (λx hx=>hv x (jd (iL hx)))) ?_⟩;exact s1.put (k:=0) U
theorem S5 (s:Sat h (aY v l::S)){b:Nat}(mq:a<b)(hb:b<=l.length):
  ∃h',clearV Tryz.prog h 29 (slR v a b)=some h'/\Sat h' (aY v (az l a (List.replicate (b-a) 0))::S):=by
 have hv:=(s.buf (k:=0) U).1;obtain⟨id,c,cap,rest,rfl,s1,hc,hf⟩:=s.eX (by omega);obtain⟨I,e1⟩:=H_ (a:=a) (b:=b) s U (by omega) hb;rw[e1];have e2:repeatL [V.int .u8 0] (b-a)=ofBytes (List.replicate (b-a) 0):=NQ _;refine⟨_,?_,hf _ (az l a (List.replicate (b-a) 0)) (bF (by rw[f_];omega)) (xg hv (λx hx=>by rw[ym hx];decide)) (s1.put (k:=0) U)⟩;simp only[clearV,aP,pJ,V.cells,aX,bY];rw[aR.2 (by omega:1<=b-a),show(Nat.ble 1 (0+1)&&true)=true from U,ag,e2,Lk s1 hc (by rw[f_];omega) (by rw[f_];omega)]
end
section
variable {h:H} {o:Oper} {v:V} {m:List Nat}
theorem OpR.XX {b a2 b2 n:Nat}(hP:C.P=Tryz.prog)(s:Sat h (aY v l::S))(I:o.op=.call cl)(hc:cl.callee=.builtin .copy)(yT:cl.argTypes = #[29,29])(hx:lookArgs E cl.args.toList=some [slR v a a2,slR v b b2])
 (ea:a2=a+n)(eb:b2=b+n)(ha:a+n<=l.length)(hb:b+n<=l.length)(hl:1<=l.length): OpR C E h o λ_ h₁=>Sat h₁ (aY v (az l a ((l.drop b).take n))::S):=by
 subst ea eb;by_cases h1:1<=n
 .obtain⟨h₁,e1,e2⟩:=S4 s ha hb h1;refine OpR.builtin I hc hx ⟨.int .i64 (n:Nat),h₁,?_,e2⟩;simp only[builtinV,hP,yT,e1]
 .have hn:n=0:=by omega
  subst hn;obtain⟨h₁,e1,e2⟩:=IX (a:=a) (b:=b) s ha hb hl;refine OpR.builtin I hc hx ⟨.int .i64 0,h₁,?_,?_⟩
  .simp only[builtinV,hP,yT,eH,e1]
  .rw[tw,az,bY,eH,dJ,jO];exact e2
theorem OpR.S6 {b:Nat}(hP:C.P=Tryz.prog)(s:Sat h (aY v l::S))(I:o.op=.call cl)(hc:cl.callee=.builtin .clear)(yT:cl.argTypes = #[29])(hx:lookArgs E cl.args.toList=some [slR v a b])
 (mq:a<b)(hb:b<=l.length): OpR C E h o λ_ h₁=>Sat h₁ (aY v (az l a (List.replicate (b-a) 0))::S):=by
 obtain⟨h₁,e1,e2⟩:=S5 s mq hb;refine OpR.builtin I hc hx ⟨.aV [],h₁,?_,e2⟩;simp only[builtinV,hP,yT,e1,gO]
end
section
variable {told:cu} {h:H} {v:V}
theorem Ll (hT:W told)(s:Sat h S)(hk:getA S k=some X)(hX:cy X (cE v b))(hp:bH b kd link extra cs)(hc:cs[i]?=some c):
  Call ⟨Tryz.prog,told⟩ 187 [.agg [v],.int .i64 (i:Int)] h λr h'=>∃f,r=slR3 v f (f+c.length) (f+c.length)/\cy X (cE r c)/\Sat h' S:=by
 have hv:=s.aD hk hX;have hl:=hp.len;have hi:=(List.getElem?_eq_some_iff.1 hc).1;have oU:=hp.low;obtain⟨s0,s1,s2,s3⟩:=hp.slot i c hc;have I:=hp.cell hc;generalize hf:bx b i=f at s0 s1 s3 I;obtain⟨pi,po,pc,rfl⟩:=iC hv;refine Call.of_wp (hT.free _ U) Tryz.func187 U U (zg U ?_);refine au.cg s U U U (fG U U) (λp2 h s => ?_);refine zk 4 U (zl U (s.b7 (k:=0) U bD aU) (zm U (zc U (tM hT s (kX hk) hX hl (by omega)) ?_)));rintro r h' ⟨rfl,s⟩;rw[hf,s2];refine zk 8 U (zY s 0 ey b8 U (zk 3 U (zb U (by exact aM ak) ?_)));refine zk 2 U (zb U (by exact aM ak) ?_);have e1:(f:Int)+(c.length:Int)=((f+c.length:Nat):Int):=by omega
 have jE:=uc (s.aD (kX hk) hX) (a:=f) (b:=f+c.length) (c:=f+c.length) (by omega) (aH _) (by omega) (by omega);rw[e1];refine zo U (bK (p:=some (.int .i64 (f:Int))) (q:=some (.int .i64 ((f+c.length:Nat):Int))) (m:=some (.int .i64 ((f+c.length:Nat):Int))) (p':=some f) (q':=some (f+c.length)) (m':=some (f+c.length)) U U U U (by rw[bN];rfl) (by rw[bN];rfl) (by rw[bN];rfl) jE) ?_;refine zk 2 U (WP.ret ⟨aa,_,U,?_⟩);refine⟨f,U,?_,s.drop⟩;have:=B3 hX (a:=f) (b:=f+c.length) (c:=f+c.length) (by omega) (aH _) (by omega) (by omega);rw[l7,show f+c.length-f=c.length by omega,I] at this;exact this
theorem Lm (I:W told)(s:Sat h S)(hk:getA S k=some X)(hX:cy X (cE v b))(hp:bH b kd link extra cs):
  Call ⟨Tryz.prog,told⟩ 125 [.agg [v]] h λr h'=>r=.int .i64 ((dy b:Int)-(26+4*(cs.length:Int)))/\Sat h' S:=by
 have hv:=s.aD hk hX;have hl:=hp.len;have oU:=hp.low;obtain⟨pi,po,pc,rfl⟩:=iC hv;refine Call.of_wp (I.free _ U) Tryz.func125 U U (zg U ?_);refine au.cg s U U U (fG U U) (λp1 h s => ?_);refine zk 3 U ?_;have s0:=s;refine WP.drawn [none,none,some (1,2),some (0,2),af,af,af,af] U (by kernel_rfl) (by kernel_rfl) ?_;refine zL U (s.b7 (k:=0) U bD aU) (aB.any U U U U (OpR.call U U U U (B9 I s (kX hk) hX hl)) ?_);rintro r h' ⟨rfl,s⟩;have s1:=s;refine zO U (aq U U (by exact dM ak)) ?_;refine zL U (s.b7 (k:=0) U bD aU) (aB.any U U U U (OpR.call U U U U (gx I s (kX hk) hX hl)) ?_);rintro r h' ⟨rfl,s⟩;rw[hp.gq];refine zO U (aq U U (by exact iO ak)) ?_;refine zO U (aq U U (by exact dM ak)) ?_;refine zA U ?_;refine aB.nil ⟨⟨aa,aa,λ_ _=>.inr ⟨U,⟨_,aq U U (by exact dM ak)⟩,bp _ U⟩,gC (.inr ⟨U,⟨_,o_load U (s0.b7 (k:=0) U bD aU)⟩,bp _ U⟩) (.inr ⟨U,⟨_,o_load U (s1.b7 (k:=0) U bD aU)⟩,bp _ U⟩),yr 5⟩,?_⟩;refine WP.ret ⟨aa,_,U,?_⟩;exact⟨dg (V.int .i64) (by omega),s.drop⟩
theorem M6 (hT:W told)(hX:cy X (cE x b))(Iy:x.cells=[x])(hp:bH b kd link extra cs): ∀(m i:Nat) (h:H) (E:List (Nat×V)) (Q:Ex->List (Nat×V)->H->Prop),i+m=cs.length ->
  Sat h (pt p1 (.cells 1 [x] false)::X::S)->Has E [(1,.ptr p1 0),(3,.int .i64 (486-(4*(cs.length:Int)+(tot (cs.take i):Int)))),(12,.int .i64 (cs.length:Int)),(13,.int .i64 (i:Int))] ->
  (∀E' h',Has E' [(3,.int .i64 (486-(4*(cs.length:Int)+(tot cs:Int))))]->Sat h' (pt p1 (.cells 1 [x] false)::X::S)->Q (.exit 0) E' h')->WP ⟨Tryz.prog,told⟩ 27 (.loop pfL) E h Q:=by
 have hl:=hp.len;have dL:=hp.fits;intro m;induction m with
 |zero =>
  intro i h E Q hi s hE hq;refine WP.loop (WP.has hE (zg U (zC U aK (by simp<;>omega) ?_)));refine zk 3 U (WP.exit ?_);refine hq _ _ ⟨?_,aa⟩ s;rw[show cs.take i=cs from g_ (by omega)];rfl
 |succ m ih =>
  intro i h E Q hi s hE hq;have I:cs[i]?=some (cs[i]'(by omega)):=aF _;generalize (cs[i]'(by omega))=c at I;obtain⟨s0,s1,s2,s3⟩:=hp.slot i c I;have IQ:=lK (cs:=cs) (i:=i+1);have K_:=i_ I;refine WP.loop (WP.has hE (zg U (zB U aK (by simp<;>omega) ?_)));refine zk 5 U (WP.block (zK 7 U (zl U (s.b7 (k:=0) U bD aU) (zm U (zc U (tM hT (i:=i) s (k:=1) U hX hl (by omega)) ?_)))));rintro r h' ⟨rfl,s⟩;rw[s2];refine zk 9 U (zb U (by exact dM ak) ?_);refine za U (zv (zr U (zb U (by exact aM ak) ?_)));refine zm U (zv ?_);refine ih (i+1) _ _ Q (by omega) s ⟨U,?_,U,U,aa⟩ hq;exact dg (λz=>some (V.int .i64 z)) (by omega)
theorem I3 (hT:W told)(s:Sat h (X::S))(hX:cy X (cE v b))(I:bH b kd link extra cs):
  Call ⟨Tryz.prog,told⟩ 123 [.agg [v]] h λr h'=>r=.int .i64 (486-(4*(cs.length:Int)+(tot cs:Int)))/\Sat h' (X::S):=by
 have hv:=s.aD (k:=0) U hX;have hl:=I.len;have dL:=I.fits;obtain⟨pi,po,pc,rfl⟩:=iC hv;refine Call.of_wp (hT.free _ U) Tryz.func123 U U (zg U ?_);refine au.cg s U U U (fG U U) (λp1 h s => ?_);refine zk 4 U (zl U (s.b7 (k:=0) U bD aU) (zc U (gx hT s (k:=1) U hX hl) ?_));rintro r h' ⟨rfl,s⟩;rw[I.gq];refine zb U (by exact iO ak) ?_;refine zb U (by exact dM ak) ?_;refine zk 5 U (zl U (s.b7 (k:=0) U bD aU) (zc U (gx hT s (k:=1) U hX hl) ?_));rintro r h' ⟨rfl,s⟩;rw[I.gq];refine zk 2 U (WP.block ?_);refine M6 hT hX U I cs.length 0 _ _ _ (by omega) s ⟨U,?_,U,U,aa⟩ (λE' h' hE s' => ?_)
 .exact dg (λz=>some (V.int .i64 z)) (by have:tot (cs.take 0)=0:=rfl;omega)
 have s:=s';exact WP.has hE (zK 5 U (WP.ret ⟨aa,_,U,U,s.del 0⟩))
noncomputable def anL : Code:=cX [1,1,1,1,0,1,0,0] ((Tryz.f126.body).getD .skip)
theorem S7 (hT:W told){p2:Nat}(hp:bH b0 kd link extra cs): ∀(m i lo:Nat) (b:List Nat) (h:H) (E:List (Nat×V)) (Q:Ex->List (Nat×V)->H->Prop),i+m=cs.length->lo+tot (cs.take i)=512->An b0 cs i b ->
  Sat h (pt p1 (.cells 1 [v] false)::pt p2 (.cells 1 [w] false)::aY v b::aY w b0::S)->Has E [(1,.ptr p1 0),(2,.ptr p2 0),(3,.int .i64 (lo:Int)),(4,.int .i64 (cs.length:Int)),(13,.int .i64 (cs.length:Int)),(14,.int .i64 (i:Int))] ->
  (∀E' h' lo b',lo+tot cs=512->An b0 cs cs.length b'->Has E' [(1,.ptr p1 0),(2,.ptr p2 0),(3,.int .i64 (lo:Int)),(4,.int .i64 (cs.length:Int))]->Sat h' (pt p1 (.cells 1 [v] false)::pt p2 (.cells 1 [w] false)::aY v b'::aY w b0::S)->Q (.exit 0) E' h')->WP ⟨Tryz.prog,told⟩ 48 (.loop anL) E h Q:=by
 have Rc:=hp.len;have dL:=hp.fits;intro m;induction m with
 |zero =>
  intro i lo b h E Q hi jF ha s hE hq;have hi:i=cs.length:=hi;subst hi;rw[jP] at jF;refine WP.loop (WP.has hE (zg U (zC U aK (by simp) ?_)));exact zk 3 U (WP.exit (hq _ _ _ _ jF ha ⟨U,U,U,U,aa⟩ s))
 |succ m ih =>
  intro i lo b h E Q hi jF ha s hE hq;have XY:cs[i]?=some (cs[i]'(by omega)):=aF _;generalize (cs[i]'(by omega))=c at XY;have hl:=ha.len;have IQ:=lK (cs:=cs) (i:=i+1);have K_:=i_ XY;obtain⟨I,Qe⟩:∃I,I+c.length=lo:=⟨lo-c.length,by omega⟩;obtain⟨lU,_,cap,_,rfl,_⟩:=(s.ae [2]).eX (by omega);refine WP.loop (WP.has hE (zg U (zB U aK (by simp;omega) ?_)));refine zk 5 U (WP.block (zK 7 U (zl U (s.b7 (k:=1) U bD aU) (zm U (zc U (Ll (i:=i) (c:=c) hT s (k:=3) U (bg _ _) hp XY) ?_)))));rintro r h' ⟨f,rfl,hr,s⟩;refine zk 6 U (zo U (aC U U U (bA aP (s.aD (k:=3) U hr))) (zo U (aq (r:=.int .i64 (I:Int)) U U (by rw[show((I:Nat):Int)=(lo:Int)-(c.length:Int) by omega];exact dM ak)) ?_));refine zk 4 U (zY s 0 ey b8 U (zm U ?_));have jE:=iu (s.aD (k:=2) U (bg _ _)) (a:=I) (by omega);refine zo U (bK (p:=some (.int .i64 (I:Int))) (q:=none) (m:=none) (p':=some I) (q':=none) (m':=none) U U U U (by rw[bN];rfl) U U jE.1) ?_;refine zm U (au.any U U U (OpR.JP U (s.ae [2,2]) hr U U U U (by omega) (aH _) (by omega)) ?_);intro r h s;rw[g_ (by omega)] at s;have s:=s.ae [2,2,0,0];dsimp only[aL,bringA,getA] at s;have l1:(az b I c).length=512:=by rw[bF,hl]
  refine zk 2 U (zl U (s.b7 (k:=0) U bD aU) (zk 3 U (zo U (aC U U U (bA aP (s.aD (k:=3) U hr))) (zc U (sS (i:=i) (f:=I) (z:=c.length) hT (s.ae [2]) l1 (by omega) (by omega) (by omega)) ?_))));rintro r h ⟨rfl,s⟩;have s:=s.ae [1,1,0,0];dsimp only[aL,bringA,getA] at s;refine zv (zr U (zb U (by exact aM ak) ?_));refine zm U (zv ?_);exact ih (i+1) I _ _ _ Q (by omega) (by omega) (ha.step dL XY (by omega)) s ⟨U,U,U,U,U,U,aa⟩ hq
theorem Oo (I:W told)(s:Sat h (aY v b::S))(hp:bH b kd link extra cs)(hr:26+4*cs.length+tot cs<512):
  Call ⟨Tryz.prog,told⟩ 126 [.agg [v]] h λr h'=>r=.aV []/\∃b',fy b' kd link extra cs/\Sat h' (aY v b'::S):=by
 have hl:=hp.len;have hle:∀n,(le 2 n).length=2:=λn=>cO 2 n;obtain⟨lU,_,cap,_,rfl,_⟩:=s.eX (by omega);refine Call.of_wp (I.free _ U) Tryz.func126 U U (zg U ?_);refine au.cg s U U U (fG U U) (λp1 h s => ?_);refine zk 3 U (zY s 0 ey b8 U (au.any U U U (OpR.qy U ((s.ae [1]).FT) (bg _ _) U U U U (by simp;omega)) ?_));intro w h s;rw[dJ] at s;obtain⟨wid,_,Cl,_,rfl,_⟩:=s.eX (by omega);refine zo U (cI U (by rw[Ar];rfl)) ?_;refine au.cg s U U U (cm jC) (λp2 h s => ?_);refine zS U (s.gX (j:=0) U aU U U) ?_;intro h s;have s:=s.ae [3,0,1,0];refine zk 7 U (zl U (s.b7 (k:=0) U bD aU) (zc U (gx I s (k:=2) U (bg _ _) hl) ?_));rintro r h' ⟨rfl,s⟩;rw[hp.gq];refine zk 8 U (WP.block (S7 I hp cs.length 0 512 _ _ _ _ (by omega) U (An.start hl) s ⟨U,U,U,U,U,U,aa⟩ λE' h' lo b' jF ha dY s' => ?_));have s:=s';have DZ:=ha.len;refine WP.has dY ?_;have q1:((26:Int)+4*(cs.length:Int)).toNat=26+4*cs.length:=by omega
 refine zg U (zY s 0 ey b8 U (zm U (zb U (by exact iO ak) ?_)));refine zb U (by exact aM ak) ?_;refine zm U (zo U (bK (p:=some (.int .i64 (26+4*(cs.length:Int)))) (q:=some (.int .i64 (lo:Int))) (m:=none) (p':=some (26+4*cs.length)) (q':=some lo) (m':=none) U U U U (by rw[bN,q1]) (by rw[bN];rfl) U (fR (s.buf (k:=2) U).view (by omega) (by omega)).1) ?_);refine au.lP U U (OpR.S6 U (s.ae [2]) U U U U (by omega) (by omega)) ?_;intro r h s;refine zk 2 U (zl U (s.b7 (k:=1) U bD aU) (zm U (zo U (cN U (by exact kC b9 eZ iN)) ?_)));have l1:(az b' (26+4*cs.length) (List.replicate (lo-(26+4*cs.length)) 0)).length=512:=by rw[bF (by rw[f_];omega),DZ]
 refine zc U (nT (a:=16) (z:=2) (n:=lo) I s (by decide) (by decide) (by omega) (by omega)) ?_;rintro r h ⟨rfl,s⟩;exact zv ⟨aa,_,U,U,_,ha.done hp jF,(s.del 3 |>.del 2 |>.del 1)⟩
end
section
variable {told:cu} {h:H} {v:V}
noncomputable def piT : Code:=cX [1,1,1,1] ((Tryz.f53.body).getD .skip)
theorem Gs (hT:W told)(hY:cy Y (cE x c))(hp:bH b kd link extra cs)(hi:i<=cs.length)(hf:26+4*(cs.length+1)+(tot cs+c.length)<=512)(hr:30+4*cs.length+c.length<=dy b)(s:Sat h (pt p8 (.cells 1 [u] false)::aY u b::Y::S))(hE:Has E [(1,.int .i64 (i:Int)),(2,x),(8,.ptr p8 0)])
 (hq:∀E' h' b',look E' 6=some u->look E' 7=some (.int .i64 0)->bH b' kd link extra (dh i c cs)->Sat h' (aY u b'::Y::S)->Q .ret E' h'): WP ⟨Tryz.prog,told⟩ 78 piT E h Q:=by
 have hl:=hp.len
 have oU:=hp.low
 have I:=hp.gq
 have hle:∀n,(le 2 n).length=2:=λn=>cO 2 n
 obtain⟨lo,jF⟩:∃lo,lo+c.length=dy b:=⟨dy b-c.length,by omega⟩
 have Ct:=hp.ins (c:=c) hi jF (by omega) hf
 have l0:=Oi hl hi (n:=cs.length) (by omega)
 have l1:(az (pX b i cs.length) 14 (le 2 (cs.length+1))).length=512:=by rw[bF (by rw[hle];omega),l0]
 have iJ:dy (az (pX b i cs.length) 14 (le 2 (cs.length+1)))=lo+c.length:=by
  rw[jF,dy,dy]
  exact dV λj h1 h2=>by rw[dU (by rw[hle];omega) (by rw[hle];omega),Oj hl hi (by omega) (by omega)]
 generalize hn:cs.length=n at *
 obtain⟨lU,_,cap,_,rfl,_⟩:=(s.ae [1]).eX (by omega)
 refine WP.has hE (zg U (zl U (s.b7 (k:=0) U bD aU) (zc U (gx hT s (k:=1) U (bg _ _) hl) ?_)))
 rintro r h' ⟨rfl,s⟩
 rw[I]
 refine zk 3 U ?_
 have q1:((26:Int)+4*((i:Int)+1)).toNat=30+4*i:=by omega
 have q2:((26:Int)+4*((n:Int)+1)).toNat=30+4*n:=by omega
 have q3:((26:Int)+4*(i:Int)).toNat=26+4*i:=by omega
 have q4:((26:Int)+4*(n:Int)).toNat=26+4*n:=by omega
 have s0:=s
 refine WP.drawn [af,af,af,af,af,af,af,af,af,af,af,af,af,af,af,af,af,af,af,af,af] U (by kernel_rfl) (by kernel_rfl) ?_
 refine zF U (ey _ _) (zL U (s.ld (k:=0) U b8 U) (zM U (zO U (aq U U (by exact aM ak)) ?_)))
 refine zO U (aq U U (by exact iO ak)) ?_
 refine zO U (aq U U (by exact aM ak)) ?_
 refine zM U (zO U (aq U U (by exact aM ak)) ?_)
 refine zO U (aq U U (by exact iO ak)) ?_
 refine zO U (aq U U (by exact aM ak)) ?_
 refine zO U (bK (p:=some (.int .i64 (26+4*((i:Int)+1)))) (q:=some (.int .i64 (26+4*((n:Int)+1)))) (m:=none) (p':=some (30+4*i)) (q':=some (30+4*n)) (m':=none) U U U U (by rw[bN,q1]) (by rw[bN,q2]) U (fR (s.buf (k:=1) U).view (by omega) (by omega)).1) ?_
 refine zF U (ey _ _) (zL U (s.ld (k:=0) U b8 U) (zM U (zO U (aq U U (by exact iO ak)) ?_)))
 refine zO U (aq U U (by exact aM ak)) ?_
 refine zM U (zO U (aq U U (by exact iO ak)) ?_)
 refine zO U (aq U U (by exact aM ak)) ?_
 refine zO U (bK (p:=some (.int .i64 (26+4*(i:Int)))) (q:=some (.int .i64 (26+4*(n:Int)))) (m:=none) (p':=some (26+4*i)) (q':=some (26+4*n)) (m':=none) U U U U (by rw[bN,q3]) (by rw[bN,q4]) U (fR (s.buf (k:=1) U).view (by omega) (by omega)).1) ?_
 refine aB.any U U U U (OpR.XX (n:=4*(n-i)) U (s.ae [1]) U U U U (by omega) (by omega) (by omega) (by omega) (by omega)) ?_
 intro r h s
 have s:=s.ae [1,0]
 refine aB.nil ⟨⟨aa,aa,aa,aa,aa,aa,aa,aa,aa,aa,aa,aa,aa,aa,aa,aa,aa,aa,aa,aa,aa,aa⟩,?_⟩
 have s:Sat h (pt p8 _::aY _ (pX b i n)::_):=s
 refine zg U (zl U (s.b7 (k:=0) U bD aU) (zm U (zb U (by exact aM ak) ?_)))
 refine zo U (cN U (by exact kC b9 eZ iN)) ?_
 have en:(n:Int)+1=((n+1:Nat):Int):=by omega
 rw[en]
 refine zc U (nT (a:=14) (z:=2) (n:=n+1) hT (s.ae [1]) (by decide) (by decide) (by omega) (by omega)) ?_
 rintro r h ⟨rfl,s⟩
 have s:=s.ae [1,0]
 refine zk 3 U (zl U (s.b7 (k:=0) U bD aU) (zk 2 U (zc U (EF (i:=i) (lo:=lo) hT (s.ae [1,1]) hY l1 (by omega) iJ (by omega)) ?_)))
 rintro r h ⟨rfl,s⟩
 have s:=s.ae [2,0,0]
 exact zk 3 U (zY s 0 ey b8 U (zk 3 U (WP.ret (hq _ _ _ U U Ct s.drop))))
theorem Ln (hT:W told)(s:Sat h (X::Y::S))(hX:cy X (cE v b))(hY:cy Y (cE x c))(I:bH b kd link extra cs)(hi:i<=cs.length)(gn:c.length<=65536):
  Call ⟨Tryz.prog,told⟩ 53 [v,.int .i64 (i:Int),x] h λr h'=>(26+4*(cs.length+1)+(tot cs+c.length)<=512/\∃u b',r=.aV [u,.int .i64 0]/\bH b' kd link extra (dh i c cs)/\Sat h' (aY u b'::X::Y::S)) \/
   (512<26+4*(cs.length+1)+(tot cs+c.length)/\r=.aV [.aZ,.int .i64 7]/\Sat h' (X::Y::S)):=by
 have hl:=I.len;have dL:=I.fits;have oU:=I.low;refine Call.of_wp (hT.free _ U) Tryz.func53 U U (zK 8 U (zc U (pQ hT s hX (by omega)) ?_));rintro r h' (⟨hg,u,rfl,s⟩|⟨hg,rfl,s⟩)
 .obtain⟨lU,_,cap,_,rfl,_⟩:=s.eX (by omega);refine zk 3 U ?_;refine au.cg s U U U (cm jC) (λp8 h s => ?_);dsimp only[V.cells,List.length_cons,List.length_nil,Nat.reduceAdd] at s;refine zS U (s.gX (j:=0) U aU U U) (λh s => ?_);dsimp only[setA] at s;refine zk 3 U (WP.block (zK 3 U (zC U aE (U) (zk 6 U (zC U aK (by simp) ?_)))));refine zk 2 U (zl U (s.b7 (k:=0) U bD aU) (zc U (gx hT s (k:=1) U (bg _ _) hl) ?_));rintro r h' ⟨rfl,s⟩;rw[I.gq];refine zC U cP (by simp;omega) ?_;refine zk 6 U (zl U (s.b7 (k:=0) U bD aU) (zc U (I3 hT (s.ae [1]) (bg _ _) I) ?_));rintro r h' ⟨rfl,s⟩;have s:=s.ae [1,0];dsimp only[aL,bringA,getA] at s;refine zm U (zo U (aC U U U (bA aP (s.aD (k:=3) U hY))) (zb U (by exact aM ak) ?_));by_cases hf:26+4*(cs.length+1)+(tot cs+c.length)<=512
  .skip;refine zC U aK (by simp;omega) ?_;refine za U (zv (zj U (WP.skip (zw (zg U (zl U (by exact s.b7 (k:=0) U bD aU) ?_))))));refine zc U (Lm hT s (k:=1) U (bg _ _) I) ?_;rintro r h' ⟨rfl,s⟩;refine zm U (zo U (aC U U U (bA aP (s.aD (k:=3) U hY))) (zb U (by exact aM ak) ?_));by_cases hr:30+4*cs.length+c.length<=dy b
   .skip;refine zC U aK (by simp;omega) ?_;refine zv (zj U (WP.skip ?_));refine Gs (i:=i) hT hY I hi hf hr (s.ae [0,0,1]) ⟨U,U,U,aa⟩ λE' h' b' e6 e7 uE s'=>⟨aa,_,AH e6 e7,.inl ⟨hf,_,b',U,uE,s'.ae [0,1,0]⟩⟩
   .skip;refine zB U aK (by simp;omega) ?_;refine zk 3 U (zl U (s.b7 (k:=0) U bD aU) (zc U (Oo hT (s.ae [1]) I (by omega)) ?_));rintro r h ⟨rfl,b2,Ba,s⟩;have h2:=Ba.low;have s:=s.ae [1,0];refine zv ?_;refine Gs (i:=i) hT hY Ba.f hi hf (by omega) (s.ae [0,0,1]) ⟨U,U,U,aa⟩ λE' h' b' e6 e7 uE s'=>⟨aa,_,AH e6 e7,.inl ⟨hf,_,b',U,uE,s'.ae [0,1,0]⟩⟩
  .skip;refine zB U aK (by simp;omega) ?_;exact zk 8 U (WP.ret ⟨aa,_,U,.inr ⟨by omega,U,s.del 1 |>.del 0⟩⟩)
 .rw[I.good] at hg;cases hg
noncomputable def prT : Code:=cX [1,1,1,1,1,1,1,1] ((Tryz.f51.body).getD .skip)
theorem Gt (hT:W told)(hY:cy Y (cE x c))(hp:bH b kd link extra cs)(hc:cs[i]?=some c')(hr:26+4*cs.length+c.length<=dy b)(hf:26+4*cs.length+tot (cs.set i c)<=512)(s:Sat h (pt p8 (.cells 1 [u] false)::aY u b::Y::S))(hE:Has E [(1,.int .i64 (i:Int)),(2,x),(8,.ptr p8 0)])
 (hq:∀E' h' b',look E' 6=some u->look E' 7=some (.int .i64 0)->bH b' kd link extra (cs.set i c)->Sat h' (aY u b'::Y::S)->Q .ret E' h'): WP ⟨Tryz.prog,told⟩ 79 prT E h Q:=by
 have hl:=hp.len;have oU:=hp.low;have hi:=(List.getElem?_eq_some_iff.1 hc).1;obtain⟨lo,I⟩:∃lo,lo+c.length=dy b:=⟨dy b-c.length,by omega⟩;have Ct:=hp.below hc I (by omega) hf;refine WP.has hE (zg U (zl U (s.b7 (k:=0) U bD aU) (zk 2 U (zc U (EF (i:=i) (lo:=lo) hT (s.ae [1,1]) hY hl (by omega) I.symm (by omega)) ?_))));rintro r h ⟨rfl,s⟩;have s:=s.ae [2,0,0];exact zk 3 U (zY s 0 ey b8 U (zk 3 U (WP.ret (hq _ _ _ U U Ct s.drop))))
theorem VV (hT:W told)(s:Sat h (X::Y::S))(hX:cy X (cE v b))(hY:cy Y (cE x c'))(hp:bH b kd link extra cs)(hc:cs[i]?=some c)(gn:c'.length<=65536):
  Call ⟨Tryz.prog,told⟩ 51 [v,.int .i64 (i:Int),x] h λr h'=>(26+4*cs.length+tot (cs.set i c')<=512/\∃u b',r=.aV [u,.int .i64 0]/\bH b' kd link extra (cs.set i c')/\Sat h' (aY u b'::X::Y::S)) \/
   (512<26+4*cs.length+tot (cs.set i c')/\r=.aV [.aZ,.int .i64 7]/\Sat h' (X::Y::S)):=by
 have hl:=hp.len;have dL:=hp.fits;have oU:=hp.low;have hi:=(List.getElem?_eq_some_iff.1 hc).1;have ht:=qj (c':=c') hc;have ht0:=qj (c':=[]) hc;rw[bY] at ht0;obtain⟨t0,s1,s2,s3⟩:=hp.slot i c hc;refine Call.of_wp (hT.free _ U) Tryz.func51 U U (zK 8 U (zc U (pQ hT s hX (by omega)) ?_));rintro r h' (⟨hg,u,rfl,s⟩|⟨hg,rfl,s⟩)
 .obtain⟨lU,_,cap,_,rfl,_⟩:=s.eX (by omega);refine zk 3 U ?_;refine au.cg s U U U (cm jC) (λp8 h s => ?_);dsimp only[V.cells,List.length_cons,List.length_nil,Nat.reduceAdd] at s;refine zS U (s.gX (j:=0) U aU U U) (λh s => ?_);dsimp only[setA] at s;refine zk 3 U (WP.block (zK 3 U (zC U aE (U) (zk 6 U (zC U aK (by simp) ?_)))));refine zk 2 U (zl U (s.b7 (k:=0) U bD aU) (zc U (gx hT s (k:=1) U (bg _ _) hl) ?_));rintro r h' ⟨rfl,s⟩;rw[hp.gq];refine zC U j5 (by simp;omega) ?_;refine zk 2 U (zv (zj U (WP.skip (zg U (zl U (by exact s.b7 (k:=0) U bD aU) ?_)))));refine zm U (zc U (tM (i:=i) hT s (k:=1) U (bg _ _) hl (by omega)) ?_);rintro r h' ⟨rfl,s⟩;rw[s2];refine zk 10 U (zo U (aC U U U (bA aP (s.aD (k:=3) U hY))) (zm U ?_));by_cases hle:c'.length<=c.length
  .have Ct:=hp.rep (c':=c') hc hle;generalize hf:bx b i=f at t0 s1 s3 Ct;have l1:(az b f c').length=512:=by rw[bF,hl]
   refine zB U wo (by simp;omega) ?_;refine zk 4 U (zY s 0 ey b8 U (zm U ?_));have I:=iu (s.aD (k:=1) U (bg _ _)) (a:=f) (by omega);refine zo U (bK (p:=some (.int .i64 (f:Int))) (q:=none) (m:=none) (p':=some f) (q':=none) (m':=none) U U U U (by rfl) U U I.1) ?_;refine zm U (au.any U U U (OpR.JP U (s.ae [1,2]) hY U U U U (by omega) (aH _) (by omega)) ?_);intro r h s;rw[g_ (by omega)] at s;have s:=s.ae [2,0,1,0];refine zk 3 U (zl U (s.b7 (k:=0) U bD aU) (zk 3 U (zo U (aC U U U (bA aP (s.aD (k:=3) U hY))) (zc U (sS (i:=i) (f:=f) (z:=c'.length) hT (s.ae [1]) l1 (by omega) (by omega) (by omega)) ?_))));rintro r h ⟨rfl,s⟩;have s:=s.ae [1,0];exact zk 3 U (zY s 0 ey b8 U (zk 3 U (WP.ret ⟨aa,_,U,.inl ⟨by omega,_,_,U,Ct,s.drop⟩⟩)))
  .skip;refine zC U wo (by simp;omega) ?_;refine zk 6 U (zl U (s.b7 (k:=0) U bD aU) (zc U (I3 hT (s.ae [1]) (bg _ _) hp) ?_));rintro r h' ⟨rfl,s⟩;have s:=s.ae [1,0];refine zm U (zo U (aC U U U (bA aP (s.aD (k:=3) U hY))) (zm U (zb U (by exact dM ak) ?_)));by_cases hf:26+4*cs.length+tot (cs.set i c')<=512
   .have tc:=hp.none hc;have h0:(cs.set i [])[i]?=some []:=jN hi;have Cu:(cs.set i []).set i c'=cs.set i c':=by simp
    have I:(cs.set i ([]:List Nat)).length=cs.length:=cL;refine zC U aK (by simp;omega) ?_;refine zk 4 U ?_;have z0:=s;refine WP.drawn [some (0,2),some (0,2),af,af,af] U (by kernel_rfl) (by kernel_rfl) ?_;refine zL U (s.b7 (k:=0) U bD aU) (zM U (zL U (s.b7 (k:=0) U bD aU) (aB.any U U U U (OpR.call U U U U (B9 hT s (k:=1) U (bg _ _) hl)) ?_)));rintro r h' ⟨rfl,s⟩;have z1:=s;refine aB.any U U U U (OpR.call U U U U (sS (i:=i) (f:=dy b) (z:=0) hT (s.ae [1]) hl (by omega) (by omega) (by omega))) ?_;rintro r h ⟨rfl,s⟩;have s:=s.ae [1,0];refine aB.nil ⟨⟨gC (.inr ⟨U,⟨_,o_load U (z0.b7 (k:=0) U bD aU)⟩,bp _ U⟩) (.inr ⟨U,⟨_,o_load U (z1.b7 (k:=0) U bD aU)⟩,bp _ U⟩),λ_ _=>.inr ⟨U,⟨_,bZ U⟩,bp _ U⟩,yr 4⟩,?_⟩;refine zK 3 U (zl U (s.b7 (k:=0) U bD aU) (zc U (Lm hT s (k:=1) U (bg _ _) tc) ?_));rintro r h' ⟨rfl,s⟩;rw[I];refine zm U (zo U (aC U U U (bA aP (s.aD (k:=3) U hY))) ?_);by_cases hr:26+4*cs.length+c'.length<=dy (mw b i (dy b) 0)
    .skip;refine zC U aK (by simp;omega) ?_;refine zk 3 U ?_;refine Gt (i:=i) hT hY tc h0 (by rw[I];exact hr) (by rw[Cu,I];exact hf) (s.ae [0,0,1]) ⟨U,U,U,aa⟩ λE' h' b' e6 e7 uE s'=>⟨aa,_,AH e6 e7,.inl ⟨hf,_,b',U,by rw[<-Cu];exact uE,s'.ae [0,1,0]⟩⟩
    .skip;refine zB U aK (by simp;omega) ?_;refine zk 3 U (zl U (s.b7 (k:=0) U bD aU) (zc U (Oo hT (s.ae [1]) tc (by rw[I];omega)) ?_));rintro r h ⟨rfl,b2,Ba,s⟩;have h2:=Ba.low;have s:=s.ae [1,0];refine zv ?_;refine Gt (i:=i) hT hY Ba.f h0 (by rw[I];omega) (by rw[Cu,I];exact hf) (s.ae [0,0,1]) ⟨U,U,U,aa⟩ λE' h' b' e6 e7 uE s'=>⟨aa,_,AH e6 e7,.inl ⟨hf,_,b',U,by rw[<-Cu];exact uE,s'.ae [0,1,0]⟩⟩
   .skip;refine zB U aK (by simp;omega) ?_;exact zk 7 U (WP.ret ⟨aa,_,U,.inr ⟨by omega,U,s.del 1 |>.del 0⟩⟩)
 .rw[hp.good] at hg;cases hg
end
abbrev dn (us:List V)(cs:List (List Nat)): aG:=each (λv c=>.cG v c) us cs
section
variable {h:H} {us:List V}
theorem bf.qO (us:List V)(cs:List (List Nat)): bf (dn us cs):=bf.each (λ_ _=>bf.cG _ _) _ _
theorem Oq (s:Sat h S): Sat h (dn [] []::S):=s.ir (φ:=True) aa
theorem VW (s:Sat h (oh u c::dn us cs::S)): Sat h (dn (us++[u]) (cs++[c])::S) :=
 (s.ae [1]).two (bf.qO _ _) (bf.cG _ _) λ_ _ a b=>Au a ⟨b,aa⟩
theorem S8 (s:Sat h (dn us cs::S))(I:cs[i]?=some c): ∃u,us[i]?=some u/\Sat h (oh u c::dn us cs::S):=NY (λ_ _=>bf.cG _ _) s I
theorem kj (s:Sat h (dn us cs::S)): us.length=cs.length:=by
 obtain⟨_,_,_,_,I⟩:=s.at (k:=0) U;exact Es I
end
section
variable {told:cu} {h:H} {v:V}
noncomputable def pcL : Code:=cX [1,1,1,1,0,1,0,0] ((Tryz.f160.body).getD .skip)
theorem Lo (hT:W told){p4:Nat}(hX:cy X (cE x b))(Iy:x.cells=[x])(hp:bH b kd link extra cs): ∀(m i:Nat) (w:V) (us:List V) (h:H) (E:List (Nat×V)) (Q:Ex->List (Nat×V)->H->Prop),i+m=cs.length->us.length=i ->
  Sat h (pt p4 (.cells 1 [x] false)::X::.arr 1 w us::dn us (cs.take i)::S)->Has E [(4,.ptr p4 0),(6,w),(20,.int .i64 (cs.length:Int)),(21,.int .i64 (i:Int))] ->
  (∀E' h' w' S9,S9.length=cs.length->Has E' [(6,w')]->Sat h' (pt p4 (.cells 1 [x] false)::X::.arr 1 w' S9::dn S9 cs::S)->Q (.exit 0) E' h')->WP ⟨Tryz.prog,told⟩ 33 (.loop pcL) E h Q:=by
 have hl:=hp.len;have dL:=hp.fits;obtain⟨i1,c9,fc,pP⟩:=ri;intro m;induction m with
 |zero =>
  intro i w us h E Q hi ou s hE hq;have hi:i=cs.length:=hi;subst hi;rw[jP] at s;refine WP.loop (WP.has hE (zg U (zC U aK (by simp) ?_)));exact zk 3 U (WP.exit (hq _ _ _ us ou ⟨U,aa⟩ s))
 |succ m ih =>
  intro i w us h E Q hi ou s hE hq;have I:cs[i]?=some (cs[i]'(by omega)):=aF _;generalize (cs[i]'(by omega))=c at I;obtain⟨t0,s1,s2,s3⟩:=hp.slot i c I;have qt:cs.take (i+1)=cs.take i++[c]:=by rw[nA,I];rfl
  refine WP.loop (WP.has hE (zg U (zB U aK (by simp;omega) ?_)));refine zk 5 U (WP.block (zK 7 U (zl U (s.b7 (k:=0) U bD aU) (zm U (zc U (Ll (i:=i) (c:=c) hT s (k:=1) U hX hp I) ?_)))));rintro r h' ⟨f,rfl,hr,s⟩;refine zc U (xz hT (s.ae [1]) hr (by omega)) ?_;intro u0 h s;have XT:=(s.buf (k:=0) U).view.cells;have s:=s.fh;have s:=s.ae [0,3];dsimp only[aL,bringA,getA] at s;have s:=VW s;rw[<-qt] at s;have s:=s.ae [3];dsimp only[bringA,getA,aL] at s;obtain⟨iv,h1,wG,s1⟩:=kY (P:=Tryz.prog) (k:=1) (x:=u0) s aO lQ dQ U (by decide) (by decide) (by grind) (by grind);rw[XT.1] at s1;refine au.any U U U (OpR.of (R:=λv h'=>v=iv/\h'=h1) (iZ U wG) ⟨U,U⟩) ?_;rintro v' h' ⟨rfl,rfl⟩;obtain⟨av,h2,sO,s2⟩:=iw (s1.ae [1,0]) aO c9 lQ fc (by omega) U (by decide) (by simp;omega);dsimp only[aL,bringA] at s2;refine au.any U U U (OpR.of (R:=λv h'=>v=av/\h'=h2) (jc U U sO) ⟨U,U⟩) ?_;rintro v' h ⟨rfl,rfl⟩;have s:=(s2.del 1).ae [3,2,0,0];dsimp only[aL,bringA,getA] at s;refine za U (zv (zr U (zb U (by exact aM ak) ?_)));refine zm U (zv ?_);exact ih (i+1) _ _ _ _ Q (by omega) (by rw[aN,ou];rfl) s ⟨U,U,U,U,aa⟩ hq
theorem Qi (hT:W told)(s:Sat h (X::S))(hX:cy X (cE v b))(I:bH b kd link extra cs):
  Call ⟨Tryz.prog,told⟩ 160 [v] h λr h'=>∃w us,r=.aV [w,.int .i64 0]/\Sat h' (.arr 1 w us::dn us cs::X::S):=by
 have hl:=I.len;have hv:=s.aD (k:=0) U hX;have dL:=I.fits;obtain⟨pi,po,pc,rfl⟩:=iC hv;obtain⟨i1,c9,fc,pP⟩:=ri;refine Call.of_wp (hT.free _ U) K0 U U (zK 8 U (zc U (uz hT s hX (by omega)) ?_));rintro r h' ⟨s,(⟨hg,rfl⟩|⟨hg,rfl⟩)⟩
 .refine au.op U U U (bZ U) ?_;refine zk 2 U ?_;refine au.cg s U U U (cm jC) (λp4 h s => ?_);refine zS U (s.gX (j:=0) U aU U U) (λh s => ?_);refine zk 6 U (zC U aE (U) (zk 5 U (zl U (s.b7 (k:=0) U bD aU) (zc U (gx hT s (k:=1) U hX hl) ?_))));rintro r h' ⟨rfl,s⟩;rw[I.gq];obtain⟨wv,h1,e3,s1⟩:=B1 (P:=Tryz.prog) s aO c9 lQ fc (by omega) U (by decide) (by decide) (n:=0) (c:=cs.length) (by omega) (by omega);refine au.any U U U (OpR.of (R:=λv h'=>v=wv/\h'=h1) (Ak U U e3) ⟨U,U⟩) ?_;rintro w0 h ⟨rfl,rfl⟩;have s:Sat h (.arr 1 w0 []::_):=s1;have s:=Oq s;have s:=s.ae [2,2,1,0];refine zk 5 U (zl U (s.b7 (k:=0) U bD aU) (zc U (gx hT s (k:=1) U hX hl) ?_));rintro r h' ⟨rfl,s⟩;rw[I.gq];refine zk 2 U (WP.block (Lo hT hX U I cs.length 0 _ [] _ _ _ (by omega) U s ⟨U,U,U,U,aa⟩ λE' h' w' S9 ou dY s' => ?_));have s:=s';exact WP.has dY (zK 6 U (WP.ret ⟨aa,_,U,_,S9,U,(s.ae [2,2,1]).del 3⟩))
 .rw[I.good] at hg;cases hg
end
def cmpN : List Nat->List Nat->Int
 |[],[]=>0
 |[],_::_=>.negSucc 0
 |_::_,[]=>1
 |a::l,b::m=>cond (Nat.blt a b) (.negSucc 0) (cond (Nat.blt b a) 1 (cmpN l m))
noncomputable def byteList (h:H): V->Option (List Nat)
 |.aZ=>some []
 |.sl id off len _=>match rdN h id off len with
  |some cs=>bytesOf cs
  |none=>none
 |_=>none
theorem XZ {b:Nat}(I:a<256)(hb:b<256): (UInt8.ofNat a<UInt8.ofNat b)↔a<b:=by
 rw[UInt8.lt_iff_toNat_lt,UInt8.toNat_ofNat',UInt8.toNat_ofNat',vD I,vD hb]
theorem ZC : ∀(l m:List Nat),(∀x∈l,x<256)->(∀x∈m,x<256)->Lib.compareBytes (l.map UInt8.ofNat) (m.map UInt8.ofNat)=cmpN l m:=by
 intro l;induction l with
 |nil=>intro m _ _;cases m<;>rfl
 |cons a l ih =>
  intro m hl hm;cases m with
  |nil=>rfl
  |cons b m =>
   have ha:=hl a a_;have hb:=hm b a_;simp only[hU,Lib.compareBytes,cmpN,XZ ha hb,XZ hb ha];by_cases I:a<b
   .rw[ay I,gj.2 I];rfl
   .have:Nat.blt a b=false:=by
     cases hq:Nat.blt a b with
     |true=>exact absurd (gj.1 hq) I
     |false=>rfl
    rw[ai I,this,aS];by_cases h2:b<a
    .rw[ay h2,gj.2 h2,ag]
    .have:Nat.blt b a=false:=by
      cases hq:Nat.blt b a with
      |true=>exact absurd (gj.1 hq) h2
      |false=>rfl
     rw[ai h2,this,aS];exact ih m (λx hx=>hl x (bw _ hx)) (λx hx=>hm x (bw _ hx))
section
variable {c:Ctx} {σ:H} {w:World}
theorem M7 (h:Rel c σ w)(hw:wf c x)(hl:byteList σ x=some l):
  (∀y∈l,y<256)/\(Extern.Bytes.bytesOf (conc c x)).run P w=.ok ⟨(l.map UInt8.ofNat).toArray⟩ w:=by
 unfold byteList at hl;split at hl
 .simp only[aA] at hl;subst hl;refine⟨λy I=>(ke I).elim,?_⟩;simp only[conc];rfl
 .rename_i id off len cap;cases hr:rdN σ id off len with
  |none=>simp[hr] at hl
  |some cs =>
   simp only[hr] at hl;obtain⟨ns,h1,h2⟩:=Fb (c:=c) cs l hl;obtain⟨a,n,e1,e2,e3,e4⟩:=yM (P:=P) h hw hr (λh=>h);refine⟨λy I => ?_,?_⟩
   .rw[h2] at I;obtain⟨z,_,rfl⟩:=List.mem_map.1 I;exact tF _ (by decide)
   .rw[e1];have hlen:ns.length=len:=by
     have:=dg List.length h1;simp only[cj] at this;rw[<-this];exact(uj h hr).1
    have hq:=Lib.run_loadBytesX (P:=P) w ns a .empty (λj y hj=>e4 j _ (by rw[h1,kR,hj];rfl));rw[hlen] at hq;show(Extern.Bytes.loadBytes a len .empty).run P w=_;rw[hq];congr 1;apply C4;show(#[]:Array UInt8)++(Lib.bytesOf ns).toArray=_;rw[h2];simp only[Array.empty_append,Lib.bytesOf,List.map_map];congr 1;refine yw λy _ => ?_;simp only[Function.comp_apply,ofNat_mod]
 .cases hl
end
theorem ZD {x y:Value}{a:List Nat}{w:World}(I:∀z∈a,z<256)(hb:∀z∈b,z<256)
 (hx:(Extern.Bytes.bytesOf x).run P w=.ok ⟨(a.map UInt8.ofNat).toArray⟩ w)(hy:(Extern.Bytes.bytesOf y).run P w=.ok ⟨(b.map UInt8.ofNat).toArray⟩ w):
  (Extern.BytealgCompare.compare #[x,y]).run P w=.ok (.int .i64 (cmpN a b)) w:=by
 change Sem.run P (do pure (goInt (Extern.BytealgCompare.cmp (<- Extern.Bytes.bytesOf x) (<- Extern.Bytes.bytesOf y)))) w=_
 simp only[Sem.run_bind,Sem.run_pure,hx,hy,Result.andThen];rw[Lib.cmp_eq,ZC a b I hb];rfl
def Ia (cap:Cap)(k n:Nat): Prop:=match cap with
 |.exact c=>n<=c
 |.rest e _=>e=k
def wN (m:PM)(k:Nat)(v:V)(cs:List V): Prop:=cs.all storable=true/\((v=.aZ/\cs=[]) \/
 ∃id off n cap N row,v=.sl id off n cap/\m id=some (.cells N row false)/\row.length=N/\off+n*k<=N/\(row.drop off).take (n*k)=cs/\Ia cap k n)
theorem wN.up {m m':PM}{v:V}{cs:List V}(h:wN m k v cs)(hm:PM.le m m'): wN m' k v cs:=by
 obtain⟨h1,I⟩:=h;refine⟨h1,?_⟩;rcases I with I|⟨id,off,n,cap,N,row,e,hg,h3⟩
 .exact .inl I
 .exact .inr ⟨id,off,n,cap,N,row,e,hm _ _ hg,h3⟩
theorem qV.sl {m:PM}{v:V}{cs:List V}(h:qV m k v cs): wN m k v cs:=by
 obtain⟨h1,I⟩:=h;refine⟨h1,?_⟩;rcases I with I|⟨id,n,cap,N,rest,e,hg,h3,h4,h5,h6⟩
 .exact .inl I
 .refine .inr ⟨id,0,n,cap,N,cs++rest,e,hg,by rw[aN];exact h4,by omega,by rw[gi,<-h3,ga U],?_⟩;cases cap with
  |exact c=>exact h6.2
  |rest a b=>exact h6.1
def wO (X:aG)(k:Nat)(v:V)(cs:List V): Prop:=∀m r,X.p m r->wN m k v cs\/wN r k v cs
theorem NS.s {v:V}{cs:List V}(h:NS X k v cs): wO X k v cs:=λm r hm=>(h m r hm).imp qV.sl qV.sl
def roS (k:Nat)(v:V)(cs:List V): aG:=.xs λo:Option (Nat×Nat×Nat×Cap×Nat×List V)=>match o with
 |none=>.pu (cs.all storable=true/\v=.aZ/\cs=[])
 |some (id,off,n,cap,N,row)=>.an (.ro id (.cells N row false)) (.pu (cs.all storable=true/\v=.sl id off n cap/\row.length=N/\off+n*k<=N/\(row.drop off).take (n*k)=cs/\Ia cap k n))
theorem cR (k:Nat)(v:V)(cs:List V): wO (roS k v cs) k v cs:=λm r h=>by
 obtain⟨_|⟨id,off,n,cap,N,row⟩,h⟩:=h
 .exact .inr ⟨h.1,.inl h.2⟩
 .exact .inr ⟨h.2.1,.inr ⟨id,off,n,cap,N,row,h.2.2.1,h.1,h.2.2.2⟩⟩
theorem Gu {v:V}{cs:List V}: cy (roH k v cs) (roS k v cs):=λm r h=>by
 obtain⟨_|⟨id,n,cap,N,rest⟩,h⟩:=h
 .exact⟨none,h⟩
 .obtain⟨h1,h2,h3,h4,h5,h6,I⟩:=h;refine⟨some (id,0,n,cap,N,cs++rest),h1,h2,h3,by rw[aN];exact h5,by omega,by rw[gi,<-h4,ga U],?_⟩;cases cap with
  |exact c=>exact I.2
  |rest a b=>exact I.1
section
variable {h:H} {v:V} {cs:List V} {e:TypeId}
theorem Sat.jm (s:Sat h S)(I:getA S j=some X)(hX:wO X k v cs): wN (T.get h.tr) k v cs:=by
 obtain⟨m,r,h1,h2,h3⟩:=s.at I;rcases hX _ _ h3 with q|q
 .exact q.up h1
 .exact q.up h2
theorem ko (a:wN (T.get h.tr) k v cs): v.cells=[v]/\storable v=true/\v.beq v=true:=by
 rcases a.2 with⟨rfl,_⟩|⟨id,off,n,cap,N,row,rfl,_⟩
 .exact⟨U,U,U⟩
 .exact⟨U,U,Ao _ _ _ _⟩
theorem zP {n:Nat}(a:wN (T.get h.tr) k v cs)(hn:cs.length=n*k)(I:1<=k)(hu:P.underlying t=some (.slice e)): lenV P h t v=some (.int .i64 n):=by
 rcases a.2 with⟨rfl,rfl⟩|⟨id,off,n',cap,N,row,rfl,hg,h1,h2,h3,_⟩
 .have:n=0:=by
   rcases nq n with h0|h0
   .exact h0
   .have:=tC h0 I;simp at hn;omega
  simp_all[lenV]
 .have hl:cs.length=n'*k:=by rw[<-h3,cz,fD];omega
  have:n'=n:=Ng I (by omega);subst this;simp only[lenV,hu]
theorem VX (a:wN (T.get h.tr) k v cs)(hi:i*k+k<=cs.length)(hk:1<=k)(hu:P.underlying t=some (.slice e))(I:bq P e=some k):
  ∃id off,indexAddrV P t v (.int .i64 (i:Int))=some (.ptr id off)/\∀m c t',((cs.drop (i*k)).take k)[m]?=some c->isAggT P t'=some false->loadV P h t' (.ptr id (off+m))=some c:=by
 rcases a.2 with⟨_,rfl⟩|⟨id,off,n,cap,N,row,rfl,hg,h1,h2,h3,_⟩
 .simp at hi;omega
 .have hl:cs.length=n*k:=by rw[<-h3,cz,fD];omega
  have sR:i<n:=by
   refine Nat.lt_of_not_le λq => ?_;have:=qb k q;omega
  refine⟨id,off+i*k,?_,λm c t' hc ht=>BP ht hg ?_⟩
  .simp only[indexAddrV,hu,I,fS];grind
  .have hm:=(List.getElem?_eq_some_iff.1 hc).1;rw[cz] at hm;rw[hO,ay (by omega),fB,<-h3,hO,ay (by omega),fB] at hc;rw[gB,<-hc];congr 1;omega
theorem S_ (a:wN (T.get h.tr) k v cs): ∃n,cs.length=n*k/\srcV h k v=some (cs,n):=by
 rcases a.2 with⟨rfl,rfl⟩|⟨id,off,n,cap,N,row,rfl,hg,h1,h2,I,_⟩
 .exact⟨0,by simp,U⟩
 .have hl:cs.length=n*k:=by rw[<-I,cz,fD];omega
  refine⟨n,hl,?_⟩;have hr:rdN h id off (n*k)=some cs:=by
   simp only[rdN,hg];rw[aR.2 h2,ag];cases hq:(Nat.beq off 0&&Nat.beq (n*k) N) with
   |true =>
    simp only[bV,beq_iff] at hq;rw[ag,<-I,hq.1,gi,hq.2,<-h1,jP]
   |false=>rw[aS,I]
  simp only[srcV,hr,gO]
theorem Lp (s:Sat h (roS k v cs::S)): (v=.aZ/\cs=[])\/∃id off n cap N row,v=.sl id off n cap/\row.length=N/\off+n*k<=N/\(row.drop off).take (n*k)=cs/\Ia cap k n/\cs.all storable=true/\Sat h (ro id (.cells N row false)::S):=by
 obtain⟨_|⟨id,off,n,cap,N,row⟩,s⟩:=j8.1 s
 .exact .inl (ur.1 s).1.2
 .have s:Sat h (aG.an (.ro id (.cells N row false)) (.pu (cs.all storable=true/\v=.sl id off n cap/\row.length=N/\off+n*k<=N/\(row.drop off).take (n*k)=cs/\Ia cap k n))::S):=s;obtain⟨_,_,_,_,I⟩:=s.at (k:=0) U;obtain⟨_,q1,q2,q3,q4,q5,q6⟩:=I;exact .inr ⟨id,off,n,cap,N,row,q2,q3,q4,q5,q6,q1,s.eD λ_ _ h=>h.1⟩
theorem uF {n:Nat}{row:List V}(I:row.length=N)(q4:off+n*k<=N)(q5:(row.drop off).take (n*k)=cs)(q6:Ia cap k n)(q1:cs.all storable=true)(s:Sat h (ro id (.cells N row false)::S)): Sat h (roS k (.sl id off n cap) cs::S) :=
 s.eD λ_ _ h=>⟨some (id,off,n,cap,N,row),h,q1,U,I,q4,q5,q6⟩
theorem Qj {b:Nat}(s:Sat h (roS 1 v cs::S))(hb:b<=cs.length)(h1:1<=b)(hu:P.underlying t=some (.slice e))(pY:bq P e=some 1): ∃v',sliceV P h t v none (some b) (some b)=some v'/\Sat h (roS 1 v' (cs.take b)::roS 1 v cs::S):=by
 rcases Lp s with⟨rfl,rfl⟩|⟨id,off,n,cap,N,row,rfl,q3,q4,q5,I,q1,s⟩
 .simp at hb;omega
 .have hl:cs.length=n:=by rw[<-q5,cz,fD];omega
  have s:=(uF (cs:=cs) q3 q4 q5 I q1 (s.dup (bf.ro _ _))).ae [1];have s:Sat h (roS 1 (.sl id off b (.exact b)) (cs.take b)::_):=uF q3 (by omega) (by rw[<-q5,rH];congr 1;omega) (aH _) (by
   rw[nB] at q1 ⊢;exact λx hx=>q1 x (iL hx)) s
  refine⟨.sl id off b (.exact b),?_,s⟩;cases cap with
  |exact c =>
   have I:n<=c:=I;simp only[sliceV,hu,pY,fC];rw[show(Nat.ble 0 b&&Nat.ble b b&&Nat.ble b c)=true by simp;omega,ag,fO (by omega),aS,mH,eH,h_]
  |rest a alt =>
   have I:a=1:=I;simp only[sliceV,hu,pY,fC];rw[show(Nat.beq a 1&&Nat.ble 1 1)=true by simp[I],ag,show(Nat.ble 0 b&&Nat.ble b b&&(Nat.ble b n||Nat.ble b (fJ h id off 1))&&Nat.blt 0 n)=true by simp;omega,ag,fO (by omega),aS,mH,eH,h_]
theorem X0 (s:Sat h (roS 1 v cs::S))(ha:a<cs.length)(hu:P.underlying t=some (.slice e))(pY:bq P e=some 1): ∃v',sliceV P h t v (some a) none none=some v'/\Sat h (roS 1 v' (cs.drop a)::roS 1 v cs::S):=by
 rcases Lp s with⟨rfl,rfl⟩|⟨id,off,n,cap,N,row,rfl,q3,q4,q5,q6,q1,s⟩
 .simp at ha
 .have hl:cs.length=n:=by rw[<-q5,cz,fD];omega
  have s:=(uF (cs:=cs) q3 q4 q5 q6 q1 (s.dup (bf.ro _ _))).ae [1];have key:∀I,Ia I 1 (n-a)->Sat h (roS 1 (.sl id (off+a*1) (n-a) I) (cs.drop a)::roS 1 (.sl id off n cap) cs::S):=λI hc =>
   uF (cs:=cs.drop a) q3 (by omega) (by rw[<-q5,l7,yC,cH,cH,cH]) hc (by
    rw[nB] at q1 ⊢;exact λx hx=>q1 x (jd hx)) s
  cases cap with
  |exact c =>
   have q6:n<=c:=q6;refine⟨_,?_,key (.exact (c-a)) (by show n-a<=c-a;omega)⟩;simp only[sliceV,hu,pY,fC,dw];rw[show(Nat.ble a n&&Nat.ble n c)=true by simp;omega,ag,fO (by omega),aS]
  |rest z alt =>
   have q6:z=1:=q6;refine⟨_,?_,key (.rest 1 (cond (Nat.beq a 0) alt (cond (Nat.blt a n) (off+a*1) off))) U⟩;simp only[sliceV,hu,pY,fC,dw];rw[show(Nat.beq z 1&&Nat.ble 1 1)=true by simp[q6],ag,show(Nat.ble a n&&(Nat.ble n n||Nat.ble n (fJ h id off 1)))=true by simp;omega,ag]
end
end Go.Proofs.YtdonpgpfplgigaaGreat.Am
