/- TreeFull: a part of its proof; conditions: its statement's. -/
import Derived.Test.YtdonpgpfplgigaaGreatS04
import Derived.Test.YtdonpgpfplgigaaGreatS02
import Derived.Lib.BytesEntry
import Derived.Laws.Externs
import Derived.WalkKit
import Derived.ProofKit
set_option linter.defProp false
namespace Go.Proofs.YtdonpgpfplgigaaGreat.Am
open Go
def zG:=@Tryz.underlying24
def Le:=@Tryz.func160
variable {X Y:aE} {cap:Cap} {C:gO} {δ Qz:Dk} {ε ah:bA} {Q:Ex->List (Nat×V)->H->Prop} {cl:Go.Call} {h:H} {n e pg:Int} {P':Int->List Nat} {R:LD->Prop} {μ:Lg} {d:List (Int×(Nat×Bool))} {now aN:List (Int×List Nat)} {cs cs' wT qM:List (List Nat)} {E:List (Nat×V)} {S:List aE} {b l was data b0 c QA b' c' ps pO lU lV:List Nat} {g i a r k q dX aR id bj z tx pv nx kd N j K B link extra off p1 lo L n2 M p8:Nat} {F:Nat->List (List Nat)->Prop} {π cB:Pl} {P:Program} {α β:Type} {t:TypeId} {w x u wh di kv dt:V}
def jW (m:List Fm): Nat:=(m.map (·.changed)).count true
theorem oV {f g:Fm}: ∀ {m:List Fm} {i:Nat},m[i]?=some f->jW (m.set i g)+f.changed.toNat=jW m+g.changed.toNat:=by
 intro m;induction m with
 |nil=>simp
 |cons x m I =>
  intro i h;cases i<;>grind[jW]
theorem Gn {g:Fm}(I:g.changed=false): ∀ {m:List Fm} {i:Nat},jW (m.set i g)<=jW m:=by
 intro m i;cases h:m[i]? with
 |none =>
  grind[List.set_eq_of_length_le]
 |some f =>
  have:=oV (g:=g) h;grind
def cW (ε:bA): Nat:=ε.2.2.waiting.length+jW ε.1.aj
theorem tW : ε.2.2.waiting.length<=cW ε:=C8 _ _
theorem ij.count (I:ij π cB): jW cB.aj=jW π.aj:=by
 have:cB.aj.map (·.changed)=π.aj.map (·.changed):=by
  refine nE λi => ?_;rw[kP,kP];cases h:π.aj[i]? with
  |none =>
   have h1:π.aj.length<=i:=by grind
   have:cB.aj[i]?=none:=by simp[I.len,h1]
   rw[this]
  |some f =>
   obtain⟨t,ht⟩:=I.get i f h;rw[ht];rfl
 simp only[jW,this]
theorem Lf (h:(δ.eP n b).1≠0): (δ.eP n b).2.waiting=δ.waiting:=by
 unfold Dk.eP at h ⊢;split
 .rfl
 .rename_i I;split
  .rfl
  .rename_i h2;split
   .rfl
   grind
theorem Wd : cW (outF ε i).2<=cW ε:=by
 grind[outF,cW,Cb,Lf,Nn,oV]
theorem Cl {f:Fm}: jW (eH π i f).aj<=jW π.aj:=Gn U
theorem ik.cW (hr:ik ε n e b ah): Am.cW ah<=Am.cW ε:=by
 have uV:∀ {cB:Pl},ij ε.1 cB->∀i,Am.cW (outF (cB,ε.2) i).2<=Am.cW ε:=λ{cB} I i=>by
  have:=Wd (ε:=(cB,ε.2)) (i:=i);refine cN this ?_;simp only[Am.cW,I.count];exact aH _
 cases hr with
 |arg _=>simp
 |I8 i f h1 h2 hl hf =>
  grind[oV,Am.cW]
 |out cB i f h1 h2 hl I hf hh he=>grind
 |read cB i f h1 h2 hl I hf hh he hr=>exact cN (C0 Cl _) (uV I i)
 |bad cB i f h1 h2 hl I hf hh he hr hc=>exact cN (C0 Cl _) (uV I i)
 |load cB i f h1 h2 hl I hf hh he hr hc=>exact cN (C0 (cN (Gn U) Cl) _) (uV I i)
theorem Gp : jW (unpinF π n).2.aj=jW π.aj:=by
 grind[unpinF,oV]
theorem pq.cW (hr:pq ε n e b ah): Am.cW ah<=Am.cW ε:=by
 cases hr with
 |dead _=>simp
 |mC e b ah I hr he=>exact hr.cW
 |AB b ah I hr he=>have:=hr.cW;grind[Am.cW,Gp]
 |read b ah I hr he=>have:=hr.cW;grind[Am.cW,Gp]
theorem GRd.cW {cF:Bool}(hr:GRd ε now cF n e b ah): Am.cW ah<=Am.cW ε:=by
 cases hr with
 |arg _=>simp
 |cF _ _ _=>simp
 |own _ _ _ _ _=>simp
 |read e b ah I h2 h3 hl hr=>exact hr.cW
theorem wR.cW {cF:Bool}(hr:wR ε now cF n b e aN ah): Am.cW ah<=Am.cW ε:=by
 cases hr with
 |may e c ah hr he=>exact hr.cW
 |bad c ah hr I=>exact hr.cW
 |done c ah hr I=>exact hr.cW
inductive mV (now:List (Int×List Nat)): List Int->bA->Int->List fT->bA->Prop where
 |nil (ε:bA):mV now [] ε 0 [] ε
 |err (n:Int) (l:List Int) (ε:bA) (e:Int) (b:List Nat) (ah:bA) (hr:pq ε n e b ah) (he:e≠0):mV now (n::l) ε e [] ah
 |part (n:Int) (l:List Int) (ε:bA) (was b:List Nat) (ah:bA) (c:List fT) (e:Int) (cs:List fT) (mw:bA) (hr:pq ε n 0 was ah) (hb:lookL n now=some b) (hd:(lookL n ah.1.eu).isSome=true) (hc:Tb n was b c) (hl:c.length<=512) (ht:mV now l ah e cs mw):mV now (n::l) ε e (c++cs) mw
 |whole (n:Int) (l:List Int) (ε:bA) (was b:List Nat) (ah:bA) (e:Int) (cs:List fT) (mw:bA) (hr:pq ε n 0 was ah) (hb:lookL n now=some b) (hd:(lookL n ah.1.eu).isSome=false) (ht:mV now l ah e cs mw):mV now (n::l) ε e (⟨n,0,true,b⟩::cs) mw
theorem mV.qw {l:List Int}{cs:List fT}(hr:mV now l ε e cs ah)(h:lp ε): lp ah:=by
 induction hr with
 |nil ε=>exact h
 |err n l ε e b ah hr he=>exact hr.qw h
 |part n l ε was b ah c e cs I hr hb hd hc hl ht ih=>exact ih (hr.qw h)
 |whole n l ε was b ah e cs I hr hb hd ht ih=>exact ih (hr.qw h)
theorem mV.cW {l:List Int}{cs:List fT}(hr:mV now l ε e cs ah): Am.cW ah<=Am.cW ε:=by
 induction hr with
 |nil ε=>simp
 |err n l ε e b ah hr he=>exact hr.cW
 |part n l ε was b ah c e cs I hr hb hd hc hl ht ih=>exact cN ih hr.cW
 |whole n l ε was b ah e cs I hr hb hd ht ih=>exact cN ih hr.cW
theorem AG {b:Nat}{v:V}(I:look E a=some v)(h2:look E b=some w): resLE P E h [.tmp a,.tmp b]=some (.aX [v,w]):=by grind[resLE,mapO,resE]
section
variable {told:cu} {p:Nat} {op v:V} {cF:Bool}
theorem EN (I:W told)(s:Sat h S): Call ⟨Tryz.prog,told⟩ 62 [.map id] h λv h'=>∃b,v=.fn (.func 144) [] [.ptr b 0]/\Sat h' (pt b (.cells 1 [.map id] false)::S):=by
 refine Call.of_wp (I.free _ U) Tryz.func62 U U (zg U ?_);refine au.cj s U U U (fC U U) (λp1 h s => ?_);exact zk 4 U (zo U (JT U U) (zk 2 U (WP.ret ⟨aa,_,U,_,U,s⟩)))
theorem Td (I:W told)(s:Sat h (iy g a now cF::S))(hm:now.length<=1048576)(hk:∀n∈now.map (·.1),(Lit.int .i64 n).wf=true):
  Call ⟨Tryz.prog,told⟩ 136 [.ptr g 0] h λv h'=>Sat h' (.arr 1 v (jB (gp now))::iy g a now cF::S):=by
 obtain⟨nv,s⟩:=fW.1 s;obtain⟨wS,rfl⟩:=KQ s (j:=1) U;refine Call.of_wp (I.free _ U) Tryz.func136 U U (zK 8 U (zY s 0 tL qV U (zc U (EN I s) ?_)));rintro v h ⟨b,rfl,s⟩;refine zc U (Cf I (s.ae [0,1]) (by decide) hm hk) ?_;intro kv h s;exact zk 2 U (WP.ret ⟨aa,_,U,(fW.2 ⟨.map wS,(s.ae [3,2,0]).del 3⟩).ae [1]⟩)
noncomputable def cgL : Code:=dm [1,1,0,1,0,0] ((Tryz.f58.body).getD .skip)
theorem Lh (hT:W told){ks:List Int}(Yp:ks.length<=65536)(sV:∀n∈ks,(lookL n now).isSome=true)(rq:∀e∈now,e.2.length=512): ∀(j i:Nat) (acc:List fT) (av:V) (cs:List V) (ε:bA) (h:H) (E:List (Nat×V)) (Q:Ex->List (Nat×V)->H->Prop),i+j=ks.length ->
  lp ε->cW ε<=268435456->acc.length<=512*i ->
  Sat h (.arr 4 av cs::fP cs acc::iy g a now cF::gH a p q r op data aR::gG r p q ε.1::dH q p ε.2.1::bZ p ε.2.2::.arr 1 kv (jB ks)::S) ->
  Has E [(0,.ptr g 0),(4,av),(13,kv),(14,.int .i64 ks.length),(15,.int .i64 i)] ->
  (∀e c ah E' h',mV now (ks.drop i) ε e c ah->e≠0->look E' 2=some .aZ->look E' 3=some (.int .i64 e)->Sat h' (iy g a now cF::gH a p q r op data aR::gG r p q ah.1::dH q p ah.2.1::bZ p ah.2.2::S)->Q .ret E' h') ->
  (∀c ah E' h' xG cs',mV now (ks.drop i) ε 0 c ah->acc.length+c.length<=512*ks.length->Has E' [(4,xG)]->Sat h' (.arr 4 xG cs'::fP cs' (acc++c)::iy g a now cF::gH a p q r op data aR::gG r p q ah.1::dH q p ah.2.1::bZ p ah.2.2::S)->Q (.exit 0) E' h') ->
  WP ⟨Tryz.prog,told⟩ 65 (.loop cgL) E h Q:=by
 intro j;induction j with
 |zero =>
  intro i acc av cs ε h E Q hj cn hw Ss s hE hr hx;refine WP.loop (WP.has hE (zg U (zC U aK (by grind) ?_)));refine zk 3 U (WP.exit ?_);rw[qd (by omega)] at hx;have s1:=s.del 7;dsimp only[aM] at s1;refine hx [] ε _ _ av cs (.nil ε) (by grind) ⟨U,aa⟩ ?_;rw[fZ];exact s1
 |succ j ih =>
  intro i acc av cs ε h E Q hj cn hw Ss s hE hr hx;have hn:ks[i]?=some (ks[i]'(by omega)):=aF _;have yb:ks[i]'(by omega)∈ks:=C7 _;have vB:ks.drop i=ks[i]'(by omega)::ks.drop (i+1):=mH (by omega);generalize (ks[i]'(by omega))=n at hn yb vB;have hc:(jB ks)[i]?=some (.int .i64 n):=by simp[jB,hn]
  obtain⟨b,hb⟩:=Option.isSome_iff_exists.1 (sV n yb);have J2:=rq _ (om hb);simp only at J2;rw[vB] at hr hx;obtain⟨id,off,e1,e2⟩:=kX (P:=Tryz.prog) s (k:=7) U hc dF lQ;refine WP.loop (WP.has hE (zg U (zB U aK (by grind) ?_)));refine zk 5 U (WP.block (zg U (zo U (bM (r:=.ptr id off) U U e1) (zl U (e2 _ bP) ?_))));obtain⟨nv,s⟩:=fW.1 (s.ae [2]);dsimp only[bringA,getA,aM] at s;refine zk 6 U (zY s 0 rX BV U (zm U (zc U (EJ (n:=n) hT (s.ae [4,4,4,4]) cn.ok cn.pins (cN tW hw)) ?_)));rintro v h ⟨e,w,ah,jm,(⟨he,rfl,s⟩|⟨rfl,u,rfl,s⟩)⟩
  .dsimp only[bringA,getA,aM] at s;refine zk 10 U (zB U aG (by grind) ?_);refine zk 8 U (WP.ret (hr e [] ah _ _ (.err n _ ε e w ah jm he) he U U ?_));have s:=fW.2 ⟨nv,s.ae [4,4]⟩;dsimp only[bringA,getA,aM] at s;exact((s.del 7).del 6).del 5
  .dsimp only[bringA,getA,aM] at s;have va:=jm.qw cn;have uz:=cN jm.cW hw;have hlen:=jm.len cn;refine zk 10 U (zC U aG (U) ?_);have s:=s.ff;have s:=s.ae [5,5,1,1,1,1,1,1,1,0];dsimp only[bringA,getA,aM] at s;rcases oh (n:=n) (λ_ _=>aI.b8 _ _) (s.ae [1]) uE b_ lK with⟨g1,g2,_⟩|⟨nw,b',g1,_,g2,s2⟩
   .grind
   rw[hb] at g1;have:=bD g1;subst this;refine zk 7 U (zY s 0 tL qV U (zm U (zo U (kM U U g2) ?_)));obtain⟨dv,s⟩:=eM.1 (s2.ae [3]);dsimp only[bringA,getA,aM] at s;have s:=s.ae [4];dsimp only[bringA,getA,aM] at s;refine zk 6 U (zY s 0 rX BV U (zn U (zY s 1 vU Dz U (zm U (zc U (abV (n:=n) hT (s.ae [5])) ?_)))));rintro v h ⟨rfl,s⟩;dsimp only[bringA,getA,aM] at s;refine zk 10 U ?_;cases hd:(lookL n ah.1.eu).isSome with
   |true =>
    refine zK 6 U (zc U (Tc hT (u:=u) (v:=nw) (pg:=n) (s.ae [11,4]) (bp _ _) (bp _ _) hlen J2) ?_);rintro rv h ⟨rcs,c,hc,fN,s⟩;dsimp only[bringA,getA,aM] at s;obtain⟨i1,c9,fH,pR⟩:=EM;have aeH:cs.length=acc.length*4:=by
     obtain⟨a,b,q1,q2,q3⟩:=s.at (k:=12) U;exact tT q3
    have agf:rcs.length=c.length*4:=by
     obtain⟨a,b,q1,q2,q3⟩:=s.at (k:=1) U;exact tT q3
    obtain⟨xG,h2,sR,s2⟩:=iw (s.ae [11,0]) mu c9 xy fH (by omega) U (by decide) (by omega);dsimp only[bringA,getA,aM] at s2;refine au.any U U U (OpR.of (R:=λv h'=>v=xG/\h'=h2) (iY U U sR) ⟨U,U⟩) ?_;rintro v' h' ⟨rfl,rfl⟩;refine za U (zv (zr U (zb U (by exact aL ak) ?_)));refine zm U (zv ?_);have s3:Sat _ (fP cs acc::fP rcs c::_):=s2.ae [12,2];have s4:=s3.two (C:=fP (cs++rcs) (acc++c)) (aI.sQ _ _) (aI.sQ _ _) λa b q1 q2=>EE q1 q2;dsimp only[bringA,getA,aM] at s4;have s5:=eM.2 ⟨dv,s4.ae [7,7]⟩;dsimp only[bringA,getA,aM] at s5;have s6:=fW.2 ⟨nv,s5.ae [7,7]⟩;dsimp only[bringA,getA,aM] at s6;have s7:=(((s6.ae [3,2,0,0,3,3,3,3]).del 10).del 9).del 8;dsimp only[bringA,getA,aM] at s7;refine ih (i+1) (acc++c) _ _ ah _ _ Q (by omega) va uz (by grind) s7 ⟨U,U,U,U,U,aa⟩ (λe c' I E' h' ht he l2 l3 s' => ?_) (λc' I E' h' We Wf ht hl dY s' => ?_)
    .exact hr e _ I E' h' (.part n _ ε w b ah c e c' I jm hb hd hc fN ht) he l2 l3 s'
    .refine hx (c++c') I E' h' We Wf (.part n _ ε w b ah c 0 c' I jm hb hd hc fN ht) (by grind) dY ?_<;>grind
   |false =>
    refine zK 5 U (zc U (vA hT (s.ae [4]) (bp _ _) (by omega)) ?_);intro cw h s;dsimp only[bringA,getA,aM] at s;obtain⟨wid,_,Ck,_,rfl,_⟩:=s.eX (by omega);have s:=s.ff;refine zo U (cO U (by rw[Qf];rfl)) ?_;obtain⟨rv,h1,wP,s1⟩:=kV (P:=Tryz.prog) (k:=4) (x:=.agg [.int .i64 n,.int .i64 0,.bool true,.sl wid 0 b.length Ck]) s mu xy DE U (by decide) (by decide) U U;dsimp only[V.cells] at s1;refine au.any U U U (OpR.of (R:=λv h'=>v=rv/\h'=h1) (je U wP) ⟨U,U⟩) ?_;rintro v' h' ⟨rfl,rfl⟩;obtain⟨i1,c9,fH,pR⟩:=EM;have aeH:cs.length=acc.length*4:=by
     obtain⟨a,b,q1,q2,q3⟩:=s1.at (k:=11) U;exact tT q3
    obtain⟨xG,h2,sR,s2⟩:=iw (s1.ae [10,0]) mu c9 xy fH (by omega) U (by decide) (by grind);dsimp only[bringA,getA,aM] at s2;refine au.any U U U (OpR.of (R:=λv h'=>v=xG/\h'=h2) (iY U U sR) ⟨U,U⟩) ?_;rintro v' h' ⟨rfl,rfl⟩;refine za U (zv (zr U (zb U (by exact aL ak) ?_)));refine zm U (zv ?_);have s3:Sat _ (fP cs acc::.b8 (.sl wid 0 b.length Ck) b::_):=s2.ae [11,2];have s4:=s3.two (C:=fP (cs++[.int .i64 n,.int .i64 0,.bool true,.sl wid 0 b.length Ck]) (acc++[⟨n,0,true,b⟩])) (aI.sQ _ _) (aI.b8 _ _) λa b q1 q2=>EE q1 ⟨⟨⟨U,U,U⟩,q2⟩,aa⟩;have s5:=eM.2 ⟨dv,s4.ae [6,6]⟩;have s6:=fW.2 ⟨nv,s5.ae [6,6]⟩;have s7:=(((s6.ae [3,2,0,0,2,2,2,2]).del 10).del 9).del 8;dsimp only[bringA,getA,aM] at s7;refine ih (i+1) (acc++[⟨n,0,true,b⟩]) _ _ ah _ _ Q (by omega) va uz (by grind) s7 ⟨U,U,U,U,U,aa⟩ (λe c' I E' h' ht he l2 l3 s' => ?_) (λc' I E' h' We Wf ht hl dY s' => ?_)
    .exact hr e _ I E' h' (.whole n _ ε w b ah e c' I jm hb hd ht) he l2 l3 s'
    .refine hx (⟨n,0,true,b⟩::c') I E' h' We Wf (.whole n _ ε w b ah 0 c' I jm hb hd ht) (by grind) dY ?_<;>grind
theorem QB (hT:W told)(s:Sat h (iy g a now cF::gH a p q r op data aR::gG r p q ε.1::dH q p ε.2.1::bZ p ε.2.2::S))(cn:lp ε)(hw:cW ε<=268435456)(I:∀e∈now,e.2.length=512)(hm:now.length<=65536)(hk:∀n∈now.map (·.1),(Lit.int .i64 n).wf=true):
  Call ⟨Tryz.prog,told⟩ 58 [.ptr g 0] h λv h'=>∃e c ah,mV now (gp now) ε e c ah /\
   ((e≠0/\v=.aX [.aZ,.int .i64 e]/\Sat h' (iy g a now cF::gH a p q r op data aR::gG r p q ah.1::dH q p ah.2.1::bZ p ah.2.2::S)) \/
    (e=0/\c.length<=33554432/\∃av cs,v=.aX [av,.int .i64 0]/\Sat h' (.arr 4 av cs::fP cs c::iy g a now cF::gH a p q r op data aR::gG r p q ah.1::dH q p ah.2.1::bZ p ah.2.2::S))):=by
 have hl:(gp now).length=now.length:=by rw[gp,(iI _).length_eq,cf]
 refine Call.of_wp (hT.free _ U) Tryz.func58 U U (zK 13 U (zc U (Td hT s (by omega) hk) ?_));intro kv h s;refine zo U (aD U U U (s.fS (n:=(gp now).length) (j:=0) U (by simp[jB]) (by decide) dF)) ?_;refine zk 2 U (WP.block ?_);have s1:=(((s.gJ aa).mq (k:=4)).dM λa b q=>q).ae [0,0,1,1,1,1,1,0];refine Lh hT (ks:=gp now) (now:=now) (by omega) (λn hn => ?_) I (gp now).length 0 [] .aZ [] ε _ _ _ (by omega) cn hw (by simp) s1 ⟨U,U,U,U,U,aa⟩ (λe c ah E' h' hr he l2 l3 s' => ?_) (λc ah E' h' av cs hr fN dY s' => ?_)
 .have:n∈now.map (·.1):=(iI _).mem_iff.1 hn;cases hq:lookL n now<;>grind[vu]
 .exact⟨aa,_,AG l2 l3,e,c,ah,hr,.inl ⟨he,U,s'⟩⟩
 .have s:=s';exact WP.has dY (zK 6 U (WP.ret ⟨aa,_,U,0,c,ah,hr,.inr ⟨U,by omega,_,_,U,s⟩⟩))
end
theorem Cm {n:Nat}(I:cI b=true): (eV b n).length=512:=by
 have h1:=Ax (n:=n) (jy I);rw[eV,bG (by rw[cQ];omega),h1]
def kH (π:Pl)(n:Int)(b:List Nat)(bj:Nat): Int×Pl :=
 (if (m_ π n b bj).1=0 then(unpinF (m_ π n b bj).2 n).1 else(m_ π n b bj).1,(unpinF (m_ π n b bj).2 n).2)
def Ic (π:Pl)(n:Int)(i:Nat)(f:Fm)(b:List Nat)(bj:Nat): Pl :=
 { π with aj:=π.aj.set i { f with b:=eV b bj,changed:=true,pins:=0 },eu:=cD n (oG π n bj,true) π.eu }
theorem Gq {f:Fm}(hl:lookL n π.bY=some (i:Int))(I:π.aj[i]?=some f)(hp:f.pins=1)(hg:cI b=true): kH π n b bj=(0,Ic π n i f b bj):=by
 have h1:=(wQ hl I hp).1;have hi:=(List.getElem?_eq_some_iff.1 I).1;have e1:m_ π n b bj=(0,{ π with aj:=π.aj.set i { f with b:=eV b bj,changed:=true },eu:=cD n (oG π n bj,true) π.eu }):=by
  simp only[m_,h1,I,hg,Bool.true_eq_false,gR]
 have e2:=(wQ (π:={ π with aj:=π.aj.set i { f with b:=eV b bj,changed:=true },eu:=cD n (oG π n bj,true) π.eu }) (n:=n) (f:={ f with b:=eV b bj,changed:=true }) hl (jO hi) hp).2;simp only[kH,e1,e2,dI,List.set_set];rfl
theorem Te {f:Fm}(hl:lookL n π.bY=some (i:Int))(I:π.aj[i]?=some f)(hp:f.pins=1)(hg:cI b=false): kH π n b bj=(4,{ π with aj:=π.aj.set i { f with pins:=0 } }):=by
 have h1:=(wQ hl I hp).1;have e1:m_ π n b bj=(4,π):=by simp only[m_,h1,I,hg,dI]
 have e2:=(wQ hl I hp).2;simp only[kH,e1,e2];rfl
theorem Z3 (h:π.Ok): (m_ π n b bj).2.Ok:=by
 unfold m_;split
 .exact h
 .split
  .exact h
  .rename_i f hf;have hm:=aJ hf;split
   .exact h
   .rename_i I;have I:cI b=true:=by simpa using I
    exact h.set h.bY (by simp only[Cm I];omega) (h.pins f hm)
theorem ik.put (hr:ik ε n 0 b0 ah)(h:lp ε): lp ((kH ah.1 n b bj).2,ah.2)/\Am.cW ((kH ah.1 n b bj).2,ah.2)<=Am.cW ε+1/\(cI b=true->(kH ah.1 n b bj).1=0):=by
 have I:=hr.ok h.ok h.pins;have vD:=(hr.full h.ok.dk h.full).1;obtain⟨i,f,h1,h2,h3,h4,h5⟩:=hr.at h.pins;have hm:=aJ h2;have AH:=hr.cW;cases hg:cI b with
 |true =>
  rw[Gq h1 h2 h3 hg];refine⟨⟨⟨I.pl.set I.pl.bY (by simp only[Cm hg];omega) (by simp),I.lg,I.dk⟩,h5 _ U,vD.set h2 U λ_=>Cm hg⟩,?_,λ_=>U⟩;have h6:=oV (g:={ f with b:=eV b bj,changed:=true,pins:=0 }) h2;simp only[Bool.toNat_true] at h6;simp only[Am.cW,Ic] at AH ⊢;omega
 |false =>
  rw[Te h1 h2 h3 hg];refine⟨⟨⟨I.pl.set I.pl.bY (I.pl.len f hm) (by simp),I.lg,I.dk⟩,h5 _ U,vD.set h2 U λhl=>hl⟩,?_,λh=>by cases h⟩;have h6:=oV (g:={ f with pins:=0 }) h2;simp only[Am.cW] at AH h6 ⊢;omega
inductive PtR (now:List (Int×List Nat))(bj:Nat): List Int->bA->Int->bA->Prop where
 |nil (ε:bA):PtR now bj [] ε 0 ε
 |mC (n:Int) (l:List Int) (ε:bA) (e:Int) (b:List Nat) (ah:bA) (hr:ik ε n e b ah) (he:e≠0):PtR now bj (n::l) ε e ah
 |bad (n:Int) (l:List Int) (ε:bA) (b0 b:List Nat) (ah:bA) (hr:ik ε n 0 b0 ah) (hb:lookL n now=some b) (he:(kH ah.1 n b bj).1≠0):PtR now bj (n::l) ε (kH ah.1 n b bj).1 ((kH ah.1 n b bj).2,ah.2)
 |put (n:Int) (l:List Int) (ε:bA) (b0 b:List Nat) (ah:bA) (e:Int) (mw:bA) (hr:ik ε n 0 b0 ah) (hb:lookL n now=some b) (he:(kH ah.1 n b bj).1=0) (ht:PtR now bj l ((kH ah.1 n b bj).2,ah.2) e mw):PtR now bj (n::l) ε e mw
theorem PtR.qw {l:List Int}(hr:PtR now bj l ε e ah)(h:lp ε): lp ah:=by
 induction hr with
 |nil ε=>exact h
 |mC n l ε e b ah hr he=>exact⟨hr.ok h.ok h.pins,hr.OA he h.pins,(hr.full h.ok.dk h.full).1⟩
 |bad n l ε b0 b ah hr hb he=>exact(hr.put h).1
 |put n l ε b0 b ah e I hr hb he ht ih=>exact ih (hr.put h).1
theorem PtR.cW {l:List Int}(hr:PtR now bj l ε e ah)(h:lp ε): Am.cW ah<=Am.cW ε+l.length:=by
 induction hr with
 |nil ε=>exact aH _
 |mC n l ε e b ah hr he=>have:=hr.cW;omega
 |bad n l ε b0 b ah hr hb he=>have:=(hr.put (b:=b) (bj:=bj) h).2.1;simp only[aW];omega
 |put n l ε b0 b ah e I hr hb he ht ih=>have h1:=ih (hr.put h).1;have:=(hr.put (b:=b) (bj:=bj) h).2.1;simp only[aW];omega
theorem adG {c:Nat}{es:jq}{kt et:TypeId}{k:IntKind}{z:V}(hg:T.get h.tr id=some (.map (es.map SF) c))(he:lookE n es=some u)(hu:Tryz.prog.underlying t=some (.map kt et))(hk:Tryz.prog.underlying kt=some (.int k))(hz:zeroT Tryz.prog et=some z):
  gC Tryz.prog h t (.map id) (.int .i64 n) false=some u:=by
 have hi:=uC (n:=n) es 0;simp only[gC,lookupV,hu,hk,hz,hg,keyBeq,fe,ag,y_];cases I:idxE n es 0 with
 |none=>rw[I] at hi;rw[he] at hi;cases hi
 |some q=>rw[I] at hi;rw[he] at hi;obtain⟨j,w⟩:=q;have:=bD hi;simp only at this;subst this;rfl
section
variable {told:cu} {p:Nat} {op v:V} {cF:Bool}
noncomputable def dnL : Code:=dm [1,1,1,1,1,1,1,1,0,1,0,0] ((Tryz.f18.body).getD .skip)
theorem Tf (hT:W told){ks:List Int}{dv:V}{wS c:Nat}{es:jq}(Yp:ks.length<=65536)(sV:∀n∈ks,(lookL n now).isSome=true)(rq:∀e∈now,e.2.length=512): ∀(j i:Nat) (ε:bA) (h:H) (E:List (Nat×V)) (Q:Ex->List (Nat×V)->H->Prop),i+j=ks.length ->
  lp ε->cW ε+j<=268435456 ->
  Sat h (pt g (.cells 3 [.ptr a 0,.map wS,.bool cF] false)::KP wS es c::jE (λv b=>.b8 v b) es now::pt a (.cells 6 (Oz a p q r op dv aR) false)::gG r p q ε.1::dH q p ε.2.1::bZ p ε.2.2::.arr 1 kv (jB ks)::S) ->
  Has E [(0,.ptr g 0),(6,.ptr a 0),(8,.int .u64 (bj:Int)),(73,kv),(74,.int .i64 ks.length),(75,.int .i64 i)] ->
  (∀e ah E' h',PtR now bj (ks.drop i) ε e ah->e≠0->look E' 4=some (.int .u64 0)->look E' 5=some (.int .i64 e)->Sat h' (pt g (.cells 3 [.ptr a 0,.map wS,.bool cF] false)::KP wS es c::jE (λv b=>.b8 v b) es now::pt a (.cells 6 (Oz a p q r op dv aR) false)::gG r p q ah.1::dH q p ah.2.1::bZ p ah.2.2::S)->Q .ret E' h') ->
  (∀ah E' h',PtR now bj (ks.drop i) ε 0 ah->Has E' [(8,.int .u64 (bj:Int))]->Sat h' (pt g (.cells 3 [.ptr a 0,.map wS,.bool cF] false)::KP wS es c::jE (λv b=>.b8 v b) es now::pt a (.cells 6 (Oz a p q r op dv aR) false)::gG r p q ah.1::dH q p ah.2.1::bZ p ah.2.2::S)->Q (.exit 1) E' h') ->
  WP ⟨Tryz.prog,told⟩ 118 (.loop dnL) E h Q:=by
 intro j
 induction j with
 |zero =>
  intro i ε h E Q hj I hw s hE hr hx
  refine WP.loop (WP.has hE (zg U (zC U aK (by simp<;>omega) ?_)))
  refine zk 3 U (WP.exit ?_)
  rw[qd (by omega)] at hx
  exact hx ε _ _ (.nil ε) ⟨U,aa⟩ (s.del 7)
 |succ j ih =>
  intro i ε h E Q hj I hw s hE hr hx
  have hn:ks[i]?=some (ks[i]'(by omega)):=aF _
  have yb:ks[i]'(by omega)∈ks:=C7 _
  have vB:ks.drop i=ks[i]'(by omega)::ks.drop (i+1):=mH (by omega)
  generalize (ks[i]'(by omega))=n at hn yb vB
  have hc:(jB ks)[i]?=some (.int .i64 n):=by simp[jB,hn]
  obtain⟨b,hb⟩:=Option.isSome_iff_exists.1 (sV n yb)
  have J2:=rq _ (om hb)
  simp only at J2
  rw[vB] at hr hx
  obtain⟨id,off,e1,e2⟩:=kX (P:=Tryz.prog) s (k:=7) U hc dF lQ
  refine WP.loop (WP.has hE (zg U (zB U aK (by simp<;>omega) ?_)))
  refine zk 5 U (WP.block (zg U (zo U (bM (r:=.ptr id off) U U e1) (zl U (e2 _ bP) (zk 7 U (zY s 3 vU Dz U (zm U (zc U (S7 (n:=n) hT (s.ae [4,4,4]) I.ok.pl I.pins I.ok.lg I.ok.dk (by have:=tW (ε:=ε);omega)) ?_))))))))
  rintro v h ⟨e,b0,ah,Gr,(⟨he,rfl,s⟩|⟨rfl,u0,rfl,s⟩)⟩
  .dsimp only[bringA,getA,aM] at s
   refine zk 9 U (zB U aG (by simp;exact he) ?_)
   exact zk 8 U (WP.ret (hr e ah _ _ (.mC n _ ε e b0 ah Gr he) he U U ((s.ae [3,3,3,3,0,0,0]).del 7)))
  .dsimp only[bringA,getA,aM] at s
   have s:=s.drop
   have uW:=Gr.put (b:=b) (bj:=bj) I
   have jX:=Gr.ok I.ok I.pins
   refine zk 9 U (zC U aG (U) (zk 4 U ?_))
   have s1:Sat h (jE (λv b=>.b8 v b) es now::_):=s.ae [5]
   obtain⟨_,_,_,_,q3⟩:=s1.at (k:=0) U
   rcases vy (n:=n) q3 with⟨_,q4⟩|⟨u,b',g1,g2,_⟩
   .rw[hb] at q4;cases q4
   rw[hb] at g2
   have:=bD g2
   subst this
   have s2:=(s1.dup (aI.VK (λ_ _=>aI.b8 _ _) _ _)).dM (B:=.b8 u b) λa' b' h'=>by
    rcases vy (n:=n) h' with⟨_,q4⟩|⟨u',b'',g1',g2',g3'⟩
    .rw[hb] at q4;cases q4
    .rw[g1] at g1';rw[hb] at g2'
     have h5:=bD g1'
     have h6:=bD g2'
     subst h5;subst h6
     exact g3'
   dsimp only[bringA,getA,aM] at s2
   obtain⟨uid,agh,agi,rfl⟩:=iB (s2.aC (k:=0) U (bp _ _))
   have s:=s2.ae [2,0]
   dsimp only[bringA,getA,aM] at s
   have s0:=s
   refine WP.drawn [af,af,af,af,af,af,af,af,af,af,af,af,af,af] U (by kernel_rfl) (by kernel_rfl) ?_
   refine zM U (zN U (zF U (vU _ _) (zL U (s.ld (k:=7) U Dz U) (zM U (zM U (zN U (zF U (tL _ _) (zL U (s.ld (k:=5) U qV U) (zM U (zO U (kM U U (adG (s.row (k:=6) U) g1 uE b_ lK)) (zM U (aB.any U U U U (OpR.call U U U U (ZX (n:=n) (bj:=bj) (b:=b) hT s (bp _ _) jX.pl (by omega))) ?_))))))))))))
   rintro v h ⟨rfl,s⟩
   refine zA U ?_
   refine aB.nil ⟨⟨aa,aa,aa,aa,aa,aa,aa,aa,aa,aa,aa,aa,aa,aa,aa⟩,?_⟩
   refine zK 5 U (zY s 7 vU Dz U (zm U (zc U (Lb (n:=n) hT s (Z3 jX.pl)) ?_)))
   rintro v h ⟨rfl,s⟩
   refine zk 5 U ?_
   by_cases hg:(m_ ah.1 n b bj).1=0
   .have Gs:(kH ah.1 n b bj).1=(unpinF (m_ ah.1 n b bj).2 n).1:=by simp only[kH,hg,dI]
    have A7:(kH ah.1 n b bj).2=(unpinF (m_ ah.1 n b bj).2 n).2:=rfl
    rw[<-Gs,<-A7] at *
    refine zB U dK (by simp;exact hg) ?_
    refine zk 9 U ?_
    by_cases he:(kH ah.1 n b bj).1=0
    .skip
     refine zC U aG (by simp;exact he) ?_
     refine zv (zj U (WP.skip (zr U (zb U (by exact aL ak) ?_))))
     refine zm U (zv ?_)
     have s9:=(s.ae [5,5,2,4,0,1,1,1]).del 8
     refine ih (i+1) ((kH ah.1 n b bj).2,ah.2) _ _ Q (by omega) uW.1 (by have h9:cW ((kH ah.1 n b bj).2,ah.2)<=cW ε+1:=uW.2.1;omega) s9 ⟨U,U,U,U,U,U,aa⟩ (λe mw E' h' ht sA l4 l5 s' => ?_) (λmw E' h' ht dY s' => ?_)
     .exact hr e mw E' h' (.put n _ ε b0 b ah e mw Gr hb he ht) sA l4 l5 s'
     .exact hx mw E' h' (.put n _ ε b0 b ah 0 mw Gr hb he ht) dY s'
    .skip
     refine zB U aG (by simp;exact he) ?_
     exact zk 8 U (WP.ret (hr _ _ _ _ (.bad n _ ε b0 b ah Gr hb he) he U U (((s.ae [5,5,2,4,0,1,1,1]).del 8).del 7)))
   .have Gs:(kH ah.1 n b bj).1=(m_ ah.1 n b bj).1:=by simp only[kH,hg,gR]
    have A7:(kH ah.1 n b bj).2=(unpinF (m_ ah.1 n b bj).2 n).2:=rfl
    rw[<-Gs] at hg
    refine zC U dK (by simp;rw[<-Gs];exact hg) ?_
    refine zk 6 U (zB U aG (by simp;rw[<-Gs];exact hg) ?_)
    refine zk 8 U (WP.ret (hr _ _ _ _ (.bad n _ ε b0 b ah Gr hb hg) hg U (by rw[Gs];rfl) ?_))
    exact((s.ae [5,5,2,4,0,1,1,1]).del 8).del 7
end
theorem A6.fit {now:List Nat}{l:List fT}(hr:A6 pg was now i l)(hn:now.length=512)(h0:0<=pg)(h1:pg<65536): ∀c∈l,c.Ok/\c.b.length<=512:=by
 induction hr with
 |done i h=>intro c I;cases I
 |skip i l h he hr ih=>exact ih
 |take i e l h2 h3 _ _ hr ih =>
  intro c I;rcases List.mem_cons.1 I with rfl|I
  .have hl:((now.take e).drop i).length=e-i:=by simp;omega
   refine⟨⟨h0,h1,by simp,by simp only;omega,by simp only[hl];omega,by simp⟩,by simp only[hl];omega⟩
  .exact ih c I
theorem Tb.fit {now:List Nat}{l:List fT}(hr:Tb pg was now l)(hn:now.length=512)(I:0<=pg)(h1:pg<65536): ∀c∈l,c.Ok/\c.b.length<=512:=by
 obtain⟨m,h2,rfl⟩:=hr;split
 .intro c hc;rw[List.mem_singleton.1 hc];exact⟨⟨I,h1,by simp,by simp,by simp,by simp⟩,by simp⟩
 .exact h2.fit hn I h1
theorem mV.fit {l:List Int}{cs:List fT}(hr:mV now l ε e cs ah)(rq:∀x∈now,x.2.length=512)(hl:∀n∈l,0<=n/\n<65536): ∀c∈cs,c.Ok/\c.b.length<=512:=by
 induction hr with
 |nil ε=>intro c hc;cases hc
 |err n l ε e b ah hr he=>intro c hc;cases hc
 |part n l ε was b ah c e cs mw hr hb hd hc fN ht ih =>
  intro x I;have hn:=hl n a_;rcases List.mem_append.1 I with I|I
  .exact hc.fit (rq _ (om hb)) hn.1 hn.2 x I
  .exact ih (λm hm=>hl m (bk _ hm)) x I
 |whole n l ε was b ah e cs mw hr hb hd ht ih =>
  intro x I;have hn:=hl n a_;have hb:=rq _ (om hb);rcases List.mem_cons.1 I with rfl|I
  .exact⟨⟨hn.1,hn.2,by simp,by simp,by simp only at hb ⊢;omega,λ_=>⟨U,hb⟩⟩,by simp only at hb ⊢;omega⟩
  .exact ih (λm hm=>hl m (bk _ hm)) x I
theorem xH : ∀(f n:Nat),(digits f n).length<=f+1:=by
 intro f;induction f with
 |zero=>intro n;simp[digits]
 |succ f I =>
  intro n;unfold digits;split
  .simp
  .have:=I (n/128);simp only[aW];omega
theorem abX {c:fT}(I:c.b.length<=512): (pT c).length<=543:=by
 have h1:=xH 9 c.bT.toNat;have h2:=xH 9 c.pos.toNat;have h3:=xH 9 c.b.length;simp only[pT,aO,aW,b6];omega
theorem Z4 : ∀ {l:List fT},(∀c∈l,c.b.length<=512)->(l.flatMap pT).length<=543*l.length:=by
 intro l;induction l with
 |nil=>intro _;simp
 |cons c l I =>
  intro h;have h1:=abX (h c a_);have h2:=I λx hx=>h x (bk _ hx);simp only[eE,aO,aW];omega
theorem Z5 {l:List fT}(hl:l.length<=33554432)(h:∀c∈l,c.Ok/\c.b.length<=512)(Gg:tx<18446744073709551616)(Yl:pv<18446744073709551616)(B_:nx<18446744073709551616)(hd:data.length<=35184372088832): Gh tx pv nx data l:=by
 have h2:=Z4 λc I=>(h c I).2;refine⟨⟨by omega,λc I=>by have:=(h c I).2;omega,λc I => ?_⟩,Gg,Yl,B_,by omega⟩;have:=(h c I).1;simp only[fT.Ok] at this;omega
theorem Li {l:List fT}{kd:Int}(I:1<=kd/\kd<=9)(h:∀c∈l,c.Ok/\c.b.length<=512): iD kd l=true:=by
 simp only[iD,bV,ke,nG];exact⟨I,λc hc=>(h c hc).1⟩
inductive DnR (ε:bA)(now:List (Int×List Nat))(kd:Int)(tx pv nx:Nat)(data:List Nat)(th:Nat): Nat->Int->Bool->bA->Prop where
 |arg (h:¬(1<=kd/\kd<=7)\/0<th):DnR ε now kd tx pv nx data th 0 1 false ε
 |dead (h1:1<=kd) (h2:kd<=7) (h3:th=0) (h:ε.2.2.dead=true):DnR ε now kd tx pv nx data th 0 9 false ε
 |sQ (e:Int) (c:List fT) (ah:bA) (h1:1<=kd) (h2:kd<=7) (h3:th=0) (h:ε.2.2.dead=false) (hc:mV now (gp now) ε e c ah) (he:e≠0):DnR ε now kd tx pv nx data th 0 e false ah
 |app (c:List fT) (ah:bA) (h1:1<=kd) (h2:kd<=7) (h3:th=0) (h:ε.2.2.dead=false) (hc:mV now (gp now) ε 0 c ah) (he:(bX ah.2 kd tx pv nx data c).1.2≠0):DnR ε now kd tx pv nx data th 0 (bX ah.2 kd tx pv nx data c).1.2 false (ah.1,(bX ah.2 kd tx pv nx data c).2)
 |put (c:List fT) (ah:bA) (e:Int) (mw:bA) (h1:1<=kd) (h2:kd<=7) (h3:th=0) (h:ε.2.2.dead=false) (hc:mV now (gp now) ε 0 c ah) (ha:(bX ah.2 kd tx pv nx data c).1.2=0) (hp:PtR now (bX ah.2 kd tx pv nx data c).1.1 (gp now) (ah.1,(bX ah.2 kd tx pv nx data c).2) e mw) :
   DnR ε now kd tx pv nx data th (if e=0 then(bX ah.2 kd tx pv nx data c).1.1 else 0) e true mw
structure xI (ε ah:bA): Prop where
 base:ah.2.1.base=ε.2.1.base
 b:ah.2.1.b=ε.2.1.b
 dR:ah.2.1.dR=ε.2.1.dR
 check:ah.2.1.check=ε.2.1.check
 log:ah.2.2.log=ε.2.2.log
 room:ah.2.2.room=ε.2.2.room
 bI:ah.2.2.bI=ε.2.2.bI
theorem xI.refl (ε:bA): xI ε ε:=⟨U,U,U,U,U,U,U⟩
theorem xI.trans {a b c:bA}(x:xI a b)(y:xI b c): xI a c :=
 ⟨y.base.trans x.base,y.b.trans x.b,y.dR.trans x.dR,y.check.trans x.check,y.log.trans x.log,y.room.trans x.room,y.bI.trans x.bI⟩
theorem qn : δ.jh.2.log=δ.log/\δ.jh.2.room=δ.room/\δ.jh.2.bI=δ.bI:=by
 unfold Dk.jh;split
 .simp
 .split<;>exact⟨U,U,U⟩
theorem AI : (δ.eP n b).2.log=δ.log/\(δ.eP n b).2.room=δ.room/\(δ.eP n b).2.bI=δ.bI:=by
 unfold Dk.eP;split
 .simp
 .split
  .simp
  .split<;>exact⟨U,U,U⟩
theorem Lj {x:LD}{n:Nat}: xI (π,x) (π,(cR x n).2):=by
 unfold cR;split
 .exact xI.refl _
 .split
  .exact⟨U,U,U,U,qn.1,qn.2.1,qn.2.2⟩
  .exact⟨U,U,U,U,qn.1,qn.2.1,qn.2.2⟩
theorem xI.to (h:xI ε ah): xI ε (π,ah.2):=⟨h.base,h.b,h.dR,h.check,h.log,h.room,h.bI⟩
structure nX (R:LD->Prop): Prop where
 force:∀(x:LD) (n:Nat),R x->R (cR x n).2
 write:∀(x:LD) (n:Int) (b:List Nat),R x->R (x.1,(x.2.eP n b).2)
section
variable {cF:Bool} {l:List Int} {cs:List fT}
theorem nX.out (h:nX R)(I:R ε.2): R (outF ε i).2.2:=by
 unfold outF;split
 .exact I
 .split
  .exact I
  .split
   .exact I
   .split
    .exact h.force _ _ I
    .split
     .exact h.write _ _ _ (h.force _ _ I)
     .exact h.write _ _ _ (h.force _ _ I)
theorem nX.mC (h:nX R)(hr:ik ε n e b ah)(I:R ε.2): R ah.2:=by
 cases hr<;>grind[out]
theorem nX.rd (h:nX R)(hr:pq ε n e b ah)(I:R ε.2): R ah.2:=by
 cases hr<;>grind[mC]
theorem nX.Cn (h:nX R)(hr:GRd ε now cF n e b ah)(I:R ε.2): R ah.2:=by
 cases hr with
 |arg hn=>exact I
 |cF _ _ _=>exact I
 |own b h1 h2 _ hl=>exact I
 |read e b ah h1 h2 _ hl hr=>exact h.rd hr I
theorem nX.Lk (h:nX R)(hr:wR ε now cF n b e aN ah)(I:R ε.2): R ah.2:=by
 cases hr with
 |may e c ah hr he=>exact h.Cn hr I
 |bad c ah hr hg=>exact h.Cn hr I
 |done c ah hr hg=>exact h.Cn hr I
theorem nX.ch (h:nX R)(hr:mV now l ε e cs ah): R ε.2->R ah.2:=by
 induction hr with
 |nil ε=>simp
 |err n l ε e b ah hr he=>exact h.rd hr
 |part n l ε was b ah c e cs I hr hb hd hc fN ht ih=>exact λhx=>ih (h.rd hr hx)
 |whole n l ε was b ah e cs I hr hb hd ht ih=>exact λhx=>ih (h.rd hr hx)
theorem nX.pt (h:nX R)(hr:PtR now bj l ε e ah): R ε.2->R ah.2:=by
 induction hr<;>grind[mC]
theorem Tg (ε:bA): nX λy=>xI ε (ε.1,y) :=
 ⟨λ_ _ h=>h.trans Lj,λ_ _ _ h=>h.trans ⟨U,U,U,U,AI.1,AI.2.1,AI.2.2⟩⟩
theorem mV.same (hr:mV now l ε e cs ah): xI ε ah:=((Tg ε).ch hr (xI.refl ε)).to
end
theorem Wg {m:Nat}: ∀ {l:List Nat},l.Pairwise (· < ·)->(∀s∈l,s<m)->l.length<=m:=by
 intro l I hl;have key:∀(l:List Nat) (k:Nat),l.Pairwise (· < ·)->(∀s∈l,k<=s/\s<m)->k+l.length<=m\/l=[]:=by
  intro l;induction l with
  |nil=>simp
  |cons x l ih =>
   intro k I hl;simp only[yE] at I;have hx:=hl x a_;rcases ih (x+1) I.2 (λs hs=>⟨I.1 s hs,(hl s (bk _ hs)).2⟩) with h|rfl<;>grind
 rcases key l 0 I (λs hs=>⟨gh _,hl s hs⟩) with h|rfl
 .omega
 .simp
theorem mg (x:LD)(kd:Int)(tx pv nx:Nat)(data:List Nat)(c:List fT):
  (∃e:Int,e≠0/\((e=1/\iD kd c=false)\/(e=2/\1048576<(gU kd tx pv nx data c).length)\/(e=9/\x.2.dead=true)\/(e=7/\x.2.room<x.2.log.length+(gD x.1 kd tx pv nx data c).length))/\bX x kd tx pv nx data c=((0,e),x)) \/
  (x.2.dead=false/\x.2.cV=0/\bX x kd tx pv nx data c=((0,9),(x.1,{ x.2.die with tail:=gD x.1 kd tx pv nx data c }))) \/
  (iD kd c=true/\(gU kd tx pv nx data c).length<=1048576/\x.2.dead=false/\x.2.log.length+(gD x.1 kd tx pv nx data c).length<=x.2.room/\x.2.cV≠0 /\
   bX x kd tx pv nx data c=((x.1.base+x.1.b.length,0),(x.1.app (gD x.1 kd tx pv nx data c),{ x.2.gu with log:=x.2.log++gD x.1 kd tx pv nx data c }))):=by
 by_cases I:iD kd c=false
 .grind[bX]
 .by_cases hb:1048576<(gU kd tx pv nx data c).length
  .grind[bX]
  .by_cases hd:x.2.dead=true
   .grind[Dk.tU,bX]
   grind[Dk.tU,bX]
theorem Eg {x:LD}{kd:Int}{c:List fT}(vC:x.1.Ok)(I:x.2.Ok)(hs:x.1.b=x.2.log)(hz:x.1.base+x.1.b.length+1048584<=1099511627776):
  (bX x kd tx pv nx data c).2.1.Ok/\(bX x kd tx pv nx data c).2.2.Ok/\(bX x kd tx pv nx data c).2.1.b=(bX x kd tx pv nx data c).2.2.log/\(bX x kd tx pv nx data c).2.1.base=x.1.base/\(bX x kd tx pv nx data c).2.1.b.length<=x.1.b.length+1048584 /\
  (bX x kd tx pv nx data c).2.2.waiting=x.2.waiting/\(bX x kd tx pv nx data c).1.1<1099511627776:=by
 have hlen:(gD x.1 kd tx pv nx data c).length=8+(gU kd tx pv nx data c).length:=wN _ _;rcases mg x kd tx pv nx data c with⟨e,_,_,h⟩|⟨hd,hf,h⟩|⟨hg,hb,hd,dx,hf,h⟩
 .grind
 .rw[h];exact⟨vC,⟨I.cV,I.len,I.room,I.now,I.bI,I.gS,I.many⟩,hs,U,C8 _ _,U,by simp⟩
 .rw[h];generalize gD x.1 kd tx pv nx data c=rc at hlen dx;have afS:=I.room;have jF:x.1.b.length=x.2.log.length:=by rw[hs]
  have hl:(x.1.b++rc).length=x.1.b.length+rc.length:=aO;have iL:(x.2.log++rc).length=x.2.log.length+rc.length:=aO;refine⟨⟨?_,?_,?_,?_,?_,?_,vC.check⟩,⟨I.gu.cV,?_,I.room,I.now,I.bI,?_,I.many⟩,?_,U,?_,U,?_⟩
  .show x.1.base+(x.1.b++rc).length<=_;omega
  .have h1:=Wg vC.H7 vC.low;show(x.1.dR++[x.1.b.length]).length<=_;grind
  .intro s hm;show s<(x.1.b++rc).length;rcases List.mem_append.1 (show s∈x.1.dR++[x.1.b.length] from hm) with hm|hm
   .have:=vC.low s hm;omega
   .grind
  .show(x.1.dR++[x.1.b.length]).Pairwise (·< ·);rw[yA];refine⟨vC.H7,List.pairwise_singleton _ _,λa ha b hb => ?_⟩;rw[List.mem_singleton.1 hb];exact vC.low a ha
  .have:=vC.forced;show x.1.forced<=(x.1.b++rc).length;omega
  .show(x.1.b++rc).length<=_;omega
  .grind
  .have:=I.gS;show x.2.gS<=(x.2.log++rc).length;omega
  .show x.1.b++rc=x.2.log++rc;rw[hs]
  .show(x.1.b++rc).length<=_;omega
  .grind
theorem wf_i64 (I:0<=n)(h2:n<4294967296): (Lit.int .i64 n).wf=true:=by
 simp only[Lit.wf,bV,ke];have e1:IntKind.min .i64 = -9223372036854775808:=rfl;have e2:IntKind.max .i64=9223372036854775807:=rfl;omega
theorem Z6 {kd:Int}{ch:V}(I:dt.beq dt=true)(hc:ch.beq ch=true): (V.agg (qv kd tx pv nx dt ch)).beq (V.agg (qv kd tx pv nx dt ch))=true:=by
 simp only[qv,V.beq,V.beqL,I,hc,fe,sM,Dg,kf,ag]
section
variable {told:cu} {p:Nat} {op v:V} {cF:Bool}
set_option maxHeartbeats 1000000 in
theorem Z7 (hT:W told){kd:Int}{th:Nat}{ch:V}{ccs:List V}(s:Sat h (iy g a now false::gH a p q r (.ptr g 0) QA aR::gG r p q ε.1::dH q p ε.2.1::bZ p ε.2.2::X::.arr 4 ch ccs::S))(hX:cC X (cK dt data))(SE:ccs.length=th*4)(cn:lp ε)(hw:cW ε+65536<=268435456)
 (rq:∀e∈now,e.2.length=512)(hm:now.length<=65536)(hk:∀n∈now.map (·.1),0<=n/\n<65536)(Gg:tx<18446744073709551616)(Yl:pv<18446744073709551616)(B_:nx<18446744073709551616)(hd:data.length<=35184372088832)(QC:ε.2.1.b=ε.2.2.log)(hz:ε.2.1.base+ε.2.1.b.length+1048584<=1099511627776):
  Call ⟨Tryz.prog,told⟩ 18 [.ptr g 0,.agg (qv kd tx pv nx dt ch)] h λv h'=>∃bj e cl ah,DnR ε now kd tx pv nx data th bj e cl ah/\v=.aX [.int .u64 (bj:Int),.int .i64 e] /\
   Sat h' (iy g a now cl::gH a p q r (cond cl .cg (.ptr g 0)) QA aR::gG r p q ah.1::dH q p ah.2.1::bZ p ah.2.2::X::S):=by
 have o9:∀n∈now.map (·.1),(Lit.int .i64 n).wf=true:=λn hn=>by
  have:=hk n hn
  exact wf_i64 (by omega) (by omega)
 have wM:=s.uT (j:=6) U
 have A5:=s.aC (k:=5) U hX
 have eG:=B7 (kd:=kd) (tx:=tx) (pv:=pv) (nx:=nx) A5.cells.2 wM.2.1
 have hlen:=s.fS (n:=th) (j:=6) U SE (by decide) mu
 have s0:=s
 obtain⟨nv,s⟩:=fW.1 s
 refine Call.of_wp (hT.free _ U) Tryz.func18 U U (zg U (au.cj s U U U (fC U eG) ?_))
 intro p1 h s
 dsimp only[V.cells] at s
 have s:Sat h (pt p1 (.cells 6 (qv kd tx pv nx dt ch) false)::_):=s
 have hlen:=s.fS (n:=th) (j:=8) U SE (by decide) mu
 refine zk 7 U (zY s 1 rX BV U (zk 3 U (WP.block (zK 4 U (zf U (Dy _ _) (zh U (o_load U (s.ld (k:=1) U sH U)) (U) (zk 5 U (zY s 0 BW bP U ?_))))))))
 have fin:∀e:Int,Sat h (iy g a now false::gH a p q r (.ptr g 0) QA aR::gG r p q ε.1::dH q p ε.2.1::bZ p ε.2.2::X::S):=λe=>((fW.2 ⟨nv,s.ae [1,1]⟩).del 7).del 1
 refine zd U (aq U U aK) ?_ ?_
 .intro hq
  have hq:kd<1:=by simpa using hq
  exact zk 19 U (WP.ret ⟨aa,_,U,0,1,false,ε,.arg (.inl (by omega)),U,fin 0⟩)
 .intro hq
  have hq:1<=kd:=by simp at hq;omega
  refine zm U (zY s 0 BW bP U ?_)
  refine zd U (aq U U cA) ?_ ?_
  .intro ju
   have ju:7<kd:=by simpa using ju
   exact zk 15 U (WP.ret ⟨aa,_,U,0,1,false,ε,.arg (.inl (by omega)),U,fin 0⟩)
  .intro ju
   have ju:kd<=7:=by simp at ju;omega
   refine zk 2 U (zY s 0 wF HL U (zo U (aD U U U hlen) ?_))
   refine zd U (aq U U cA) ?_ ?_
   .intro I
    have I:0<th:=by simp at I;omega
    exact zk 9 U (WP.ret ⟨aa,_,U,0,1,false,ε,.arg (.inr I),U,fin 0⟩)
   .intro I
    have I:th=0:=by simp at I;omega
    obtain⟨dv,s⟩:=eM.1 (s.ae [3])
    dsimp only[bringA,getA,aM] at s
    refine zk 8 U (zY s 0 DB yg U (zc U (K1 hT (s.ae [7])) ?_))
    rintro v h ⟨rfl,rfl⟩
    refine zk 2 U ?_
    cases Iz:ε.2.2.dead with
    |true =>
     refine zK 6 U (WP.ret ⟨aa,_,U,?_⟩)
     have s9:=fW.2 ⟨nv,(eM.2 ⟨dv,s⟩).ae [2,2]⟩
     dsimp only[bringA,getA,aM] at s9
     exact⟨0,9,false,ε,.dead hq ju I Iz,U,(s9.del 7).del 2⟩
    |false =>
     refine zj U (WP.skip (zg U (za U (zv (zw (zg U (zm U ?_)))))))
     have s9:=fW.2 ⟨nv,(eM.2 ⟨dv,s⟩).ae [2,2]⟩
     dsimp only[bringA,getA,aM] at s9
     have s:=s9.ae [0,0,1,1,1]
     dsimp only[bringA,getA,aM] at s
     refine zc U (QB hT s cn (by omega) rq hm o9) ?_
     rintro v h ⟨e,c,ah,hc,(⟨he,rfl,s⟩|⟨rfl,fN,av,cs,rfl,s⟩)⟩
     .refine au.op U U U (b7 U) ?_
      refine zk 2 U (zf U (wF _ _) ?_)
      refine zS U (by exact s.kC (k:=5) U abz U (by decide) U U) (λh s => ?_)
      dsimp only[qv,Nat.reduceAdd,List.set,setA] at s
      refine zk 5 U (zB U aG (by simp;exact he) ?_)
      exact zk 8 U (WP.ret ⟨aa,_,U,0,e,false,ah,.sQ e c ah hq ju I Iz hc he,U,(s.del 7).del 5⟩)
     .have OC:=s.uT (j:=0) U
      have Ll:=hc.qw cn
      have hcp:=hc.cW
      have zD:=hc.same
      have hap:=Eg (x:=ah.2) (kd:=kd) (tx:=tx) (pv:=pv) (nx:=nx) (data:=data) (c:=c) Ll.ok.lg Ll.ok.dk (by rw[zD.b,zD.log];exact QC) (by rw[zD.base,zD.b];exact hz)
      have dx:=hc.fit rq λn hn=>hk n ((iI _).mem_iff.1 hn)
      refine zk 3 U (zf U (wF _ _) (zS U (s.kC (k:=7) U abz U (show 0+5<6 by decide) OC.1 OC.2.1) ?_))
      intro h s
      dsimp only[qv,Nat.reduceAdd,List.set,setA] at s
      refine zk 5 U (zC U aG (U) ?_)
      obtain⟨dv,s⟩:=eM.1 (s.ae [3])
      dsimp only[bringA,getA,aM] at s
      have s:=s.ae [6,6,7,2,2,0,3]
      dsimp only[bringA,getA,aM] at s
      refine zv (zj U (WP.skip (zw ?_)))
      have s0:=s
      have aeI:=nR A5
      have hrb:=Z6 (kd:=kd) (tx:=tx) (pv:=pv) (nx:=nx) aeI OC.2.2
      refine WP.drawn [af,af,af,af,af,af,af,af,af,af,af] U (by kernel_rfl) (by kernel_rfl) ?_
      refine zM U (zN U (zF U (N_ _ _) (zL U (s.ld (k:=5) U VB U) (zL U (s.b9 (k:=6) U HM Ar) (aB.any U U U U (OpR.call U U U U (V0 (kd:=kd) (tx:=tx) (pv:=pv) (nx:=nx) hT s hX (Z5 fN dx Gg Yl B_ hd) Ll.ok.lg Ll.ok.dk)) ?_)))))
      rintro v h ⟨rfl,s⟩
      refine zM U (zO U (gP U U) (zO U (gP U U) (zA U (zA U ?_))))
      refine aB.nil ⟨⟨aa,aa,aa,aa,aa,aa,aa,aa,aa,aa,aa,aa⟩,?_⟩
      refine zK 4 U ?_
      have s9:=eM.2 ⟨dv,s.ae [5,6]⟩
      have s:=((((s9.ae [7,0,6,0,0,0]).del 9).del 8).del 7).del 6
      by_cases he:(bX ah.2 kd tx pv nx data c).1.2=0
      .skip
       refine zC U aG (by simp;exact he) ?_
       refine zk 6 U (zc U (Jb hT s) ?_)
       rintro v h ⟨rfl,s⟩
       obtain⟨nv,s⟩:=fW.1 s
       obtain⟨wS,rfl⟩:=KQ s (j:=1) U
       refine zk 6 U (zY s 0 tL qV U (zc U (EN hT s) ?_))
       rintro v h ⟨kb,rfl,s⟩
       refine zc U (Cf hT (s.ae [0,1]) (by decide) (by omega) o9) ?_
       intro kv h s
       have hl:(gp now).length=now.length:=by rw[gp,(iI _).length_eq,cf]
       refine zo U (aD U U U (s.fS (n:=(gp now).length) (j:=0) U (by simp[jB]) (by decide) dF)) ?_
       refine zk 2 U (WP.block ?_)
       obtain⟨agj,es,clock,Wh,hb,fB,s⟩:=xB.1 (s.ae [2])
       injection Wh with Wh
       subst Wh
       obtain⟨dv,s⟩:=eM.1 (s.ae [5])
       have s:=s.ae [6,2,2,0,3,3,3,1]
       refine Tf (op:=.cg) (dv:=dv) hT (ks:=gp now) (now:=now) (bj:=(bX ah.2 kd tx pv nx data c).1.1) (by omega) (λn hn => ?_) rq (gp now).length 0 (ah.1,(bX ah.2 kd tx pv nx data c).2) _ _ _ (by omega) ?_ ?_ s ⟨U,U,U,U,U,U,aa⟩ (λe mw E' h' hp sA l4 l5 s' => ?_) (λmw E' h' hp dY s' => ?_)
       .have:n∈now.map (·.1):=(iI _).mem_iff.1 hn
        cases hq:lookL n now with
        |some _=>rfl
        |none=>exact absurd this (vu.1 hq)
       .exact⟨⟨Ll.ok.pl,hap.1,hap.2.1⟩,Ll.pins,Ll.full⟩
       .have e1:cW (ah.1,(bX ah.2 kd tx pv nx data c).2)=cW ah:=by simp only[cW,hap.2.2.2.2.2.1]
        rw[e1,hl];omega
       .rw[ga] at hp
        have e4:look E' 4=some (.int .u64 ((0:Nat):Int)):=l4
        refine⟨aa,_,AG e4 l5,0,e,true,mw,?_,U,?_⟩
        .have:=DnR.put (data:=data) c ah e mw hq ju I Iz hc he hp
         rwa [ai sA] at this
        .have s3:=eM.2 ⟨dv,s'.ae [3,6]⟩
         have s4:=xB.2 ⟨wS,es,clock,U,hb,fB,s3.ae [2,2]⟩
         exact fW.2 ⟨.map wS,(s4.ae [2,0,0,0,0,0,1]).del 7⟩
       .rw[ga] at hp
        have s:=s'
        refine WP.has dY (zK 6 U (WP.ret ⟨aa,_,U,?_⟩))
        refine⟨_,0,true,mw,?_,U,?_⟩
        .have:=DnR.put (data:=data) c ah 0 mw hq ju I Iz hc he hp
         exact this
        .have s3:=eM.2 ⟨dv,s.ae [3,6]⟩
         have s4:=xB.2 ⟨wS,es,clock,U,hb,fB,s3.ae [2,2]⟩
         dsimp only[bringA,getA,aM] at s4
         exact fW.2 ⟨.map wS,(s4.ae [2,0,0,0,0,0,1]).del 7⟩
      .skip
       refine zB U aG (by simp;exact he) ?_
       exact zk 8 U (WP.ret ⟨aa,_,U,0,_,false,_,.app c ah hq ju I Iz hc he,U,s⟩)
end
def Lg.fresh : Lg:={ base:=1,b:=[],dR:=[],forced:=0,check:=0 }
theorem DO {b c t:Nat}{p v:V}(hl:look E a=some p)(I:loadV P h t p=some v)(h2:look E b=some w)(h3:look E c=some x): resLE P E h [.cell a t,.tmp b,.tmp c]=some (.aX [v,w,x]):=by
 simp only[resLE,mapO,resE,hl,I,h2,h3]
section
variable {told:cu} {p:Nat} {op v:V} {cF:Bool}
theorem Nq (hT:W told)(s:Sat h (bZ p δ::S))(hd:δ.dead=false)(hm:δ.mark=[])(hl:δ.log=[])(hc:δ.gS=0):
  Call ⟨Tryz.prog,told⟩ 104 [.ptr p 0] h λv h'=>∃q,v=.aX [.ptr q 0,.int .i64 0]/\Sat h' (dH q p Lg.fresh::bZ p δ::S):=by
 refine Call.of_wp (hT.free _ U) Tryz.func104 U U (zK 8 U (zc U (Qo hT s (by rw[hm];decide)) ?_));rintro v h (⟨I,_,_⟩|⟨_,b0,rfl,s⟩)
 .rw[hd] at I;cases I
 rw[hm] at s;refine zk 10 U (zC U aG (U) (zk 6 U (zo U (cO U (by rw[adb];rfl)) ?_)));refine au.cj s U U U (fC U U) (λp23 h s => ?_);dsimp only[V.cells,List.take,List.length_cons,List.length_nil,Nat.reduceAdd,List.drop,List.cons_append,List.nil_append] at s;refine zk 7 U ?_;have s:=s.ae [2,0,0];dsimp only[bringA,getA,aM] at s;refine zc U (ZJ hT s (by rw[hl];decide)) ?_;rintro v h (⟨I,_,_⟩|⟨_,b1,rfl,s⟩)
 .rw[hd] at I;cases I
 rw[hl] at s;have hv:=(s.buf (k:=0) U).view.cells;refine zk 4 U (zf U (nU _ _) (zS U (s.kC (k:=2) U dP U (by decide) hv.1 hv.2) ?_));intro h s;dsimp only[Nat.reduceAdd,List.set,setA] at s;refine za U (zv (zg U (zm U (zh U (aq U U aG) (U) (zv (zj U (WP.skip (zw (zg U (zm U (zo U (aD U U U (by exact bw aP (s.aC (k:=3) U (bh _ _)))) ?_)))))))))));refine zv (WP.block (zg U (zt U (aq U U dK) (U) (za U (zv (zi U (WP.skip (zg U (za U (zv (zw (WP.block (WP.loop (zw (zg U (zk 3 U (zf U (nU _ _) (zl U (by exact s.ld (k:=2) U bS U) ?_))))))))))))))))));refine zo U (aD U U U (bw aP (s.aC (k:=0) U (bh _ _)))) (zC U aK (U) (zk 2 U (WP.exit (zK 6 U (zY s 2 nU bS U (zo U (aD U U U (bw aP (s.aC (k:=0) U (bh _ _)))) (zC U aK (U) (zk 5 U ?_))))))));have s0:=s;have lB:=nR (s.buf (k:=0) U).view;refine WP.drawn [none,none,some (0,2),some (0,2),some (0,2),some (0,2),some (0,2),none] U (by kernel_rfl) (by kernel_rfl) ?_;refine zM U (aB.any U U U U (OpR.call U U U U (Nb hT (s.ae [1]))) ?_);rintro v h' ⟨rfl,rfl⟩;refine zM U (zN U (zF U (nU _ _) (zL U (s.ld (k:=2) U bS U) (zO U (aD U U U (bw aP (s.aC (k:=0) U (bh _ _)))) (aB.rW U U U U (aq U U aK) (by rw[show δ.K0=0 from hc];rfl) ?_)))));refine aB.nil ⟨⟨aa,aa,λ_ _=>.inr ⟨U,⟨_,b7 U⟩,bx _ U⟩,λ_ _=>.inr ⟨U,⟨_,vr U⟩,bx _ U⟩,λ_ _=>.inr ⟨U,⟨_,m9 U (nU _ _)⟩,bx _ U⟩,gF (.inr ⟨U,⟨_,o_load U (s0.ld (k:=2) U bS U)⟩,lB⟩) (.inr ⟨U,⟨_,o_load U (s.ld (k:=2) U bS U)⟩,lB⟩),gF (.inr ⟨U,⟨_,aD U U U (bw aP (s0.aC (k:=0) U (bh _ _)))⟩,bx _ U⟩) (.inr ⟨U,⟨_,aD U U U (bw aP (s.aC (k:=0) U (bh _ _)))⟩,bx _ U⟩),aa,aa⟩,?_⟩;refine zK 7 U (zY s 2 nU bS U (zo U (aD U U U (bw aP (s.aC (k:=0) U (bh _ _)))) (zn U (zf U (HQ _ _) ?_))));refine zS U (by exact s.kC (k:=2) U lQ U (by decide) U U) (λh s => ?_);refine zk 7 U (WP.ret ⟨aa,_,U,?_⟩);have s1:=(s.del 3).mq (k:=1);refine⟨_,U,jr.2 ⟨b1,.aZ,?_⟩⟩;exact s1.ae [3,1,0]
theorem Th (hT:W told)(s:Sat h (dH q p μ::S))(I:μ.Ok): Call ⟨Tryz.prog,told⟩ 108 [.ptr q 0,.int .u64 ((μ.base:Int)+(μ.b.length:Int))] h λv h'=>v=.aX [.agg (qv 0 0 0 0 .aZ .aZ),.int .u64 0,.int .i64 17]/\Sat h' (dH q p μ::S):=by
 refine Call.of_wp (hT.free _ U) Tryz.func108 U U (zg U ?_);refine au.cj s U U U (cm Vy) (λp4 h s => ?_);refine zk 4 U (WP.block (zK 4 U ?_));have s:=s.ae [1];refine zc U (H8 hT s I.size) ?_;rintro v h' ⟨rfl,rfl⟩;refine zB U dK (by simp) ?_;refine zk 5 U (zo U (cO U (by rw[Vz];rfl)) ?_);refine zS U (s.gZ (j:=1) U Ar U U) (λh s => ?_);refine zk 3 U ?_;refine WP.ret ⟨aa,_,DO U (s.b9 (k:=1) U HM Ar) U U,?_⟩;exact⟨U,s.del 1⟩
theorem Wi (hT:W told){n:Nat}(s:Sat h (dH q p μ::S))(I:μ.Ok)(hn:n<18446744073709551616)(fG:n≠μ.base+μ.b.length)(xh:μ.hasB n=false): Call ⟨Tryz.prog,told⟩ 108 [.ptr q 0,.int .u64 (n:Int)] h λv h'=>v=.aX [.agg (qv 0 0 0 0 .aZ .aZ),.int .u64 0,.int .i64 1]/\Sat h' (dH q p μ::S):=by
 refine Call.of_wp (hT.free _ U) Tryz.func108 U U (zg U ?_);refine au.cj s U U U (cm Vy) (λp4 h s => ?_);refine zk 4 U (WP.block (zK 4 U ?_));have s:=s.ae [1];refine zc U (H8 hT s I.size) ?_;rintro v h' ⟨rfl,rfl⟩;refine zC U dK (by simp;omega) ?_;refine zk 7 U (zc U (ZQ (n:=n) hT s I hn) ?_);rintro v h' ⟨rfl,rfl⟩;refine zo U (eo U U) (zk 2 U (WP.P6 U (by rw[xh];rfl) ?_));refine zg U (zo U (cO U (by rw[Vz];rfl)) ?_);refine zS U (s.gZ (j:=1) U Ar U U) (λh s => ?_);refine zk 3 U ?_;refine WP.ret ⟨aa,_,DO U (s.b9 (k:=1) U HM Ar) U U,?_⟩;exact⟨U,s.del 1⟩
theorem QD (hT:W told){n:Nat}(s:Sat h (dH q p μ::S))(vC:μ.Ok)(hn:n<18446744073709551616)(I:n=μ.base+μ.b.length\/μ.hasB n=false): Call ⟨Tryz.prog,told⟩ 108 [.ptr q 0,.int .u64 (n:Int)] h λv h'=>∃e:Int,e≠0/\v=.aX [.agg (qv 0 0 0 0 .aZ .aZ),.int .u64 0,.int .i64 e]/\Sat h' (dH q p μ::S):=by
 by_cases he:n=μ.base+μ.b.length
 .have:=Th hT s vC;rw[show((μ.base:Int)+(μ.b.length:Int))=((n:Nat):Int) by omega] at this;exact this.mono λv h' ⟨h1,h2⟩=>⟨17,by decide,h1,h2⟩
 .rcases I with I|I
  .exact absurd I he
  .exact(Wi hT s vC hn he I).mono λv h' ⟨h1,h2⟩=>⟨1,by decide,h1,h2⟩
end
section
variable {told:cu} {p:Nat} {op v:V} {cF:Bool}
theorem QE (I:W told){n:Nat}(s:Sat h (gH a p q r op data aR::dH q p μ::S))(vC:μ.Ok)(hn:n<18446744073709551616)(xh:n=μ.base+μ.b.length\/μ.hasB n=false):
  Call ⟨Tryz.prog,told⟩ 111 [.ptr a 0,.int .u64 (n:Int)] h λv h'=>v=.int .i64 0/\Sat h' (gH a p q r op data aR::dH q p μ::S):=by
 obtain⟨dv,s⟩:=eM.1 s;refine Call.of_wp (I.free _ U) Tryz.func111 U U (zK 6 U ?_);refine au.BS s U U U U (λp18 h s => ?_);refine au.BS s U U U U (λp19 h s => ?_);refine zo U (cO U (by rw[adn];rfl)) ?_;refine au.cj s U U U (fC U U) (λp21 h s => ?_);refine zk 5 U (zo U (JT U U) (zk 8 U (WP.block (WP.loop (WP.block (zK 4 U (zY s 3 N_ VB U (zm U ?_))))))));have s1:=s.ae [5];refine zc U (QD (n:=n) I s1 vC hn xh) ?_;rintro v h ⟨e,he,rfl,s⟩;refine zk 4 U ?_;refine au.cj s U U U (cm Vy) (λp8 h s => ?_);refine zS U (s.gZ (j:=0) U Ar U U) (λh s => ?_);refine zk 7 U (zB U aG (by simp;exact he) ?_);have s:=ri (f:=λv (b:List Nat)=>.b8 v b) (s.ae [4]);refine zk 2 U (WP.exit (zK 5 U (zY s 3 Of qV U (zc U (EN I s) ?_))));rintro v h ⟨kb,rfl,s⟩;refine zc U (Cf I s (by decide) (by decide) (by simp)) ?_;intro kv h s;refine zo U (aD U U U (s.fS (n:=0) (j:=0) U U (by decide) dF)) ?_;exact zk 2 U (WP.block (WP.loop (zg U (zC U aK (U) (zk 3 U (WP.exit (zK 5 U (zY s 5 Of qV U (zo U (aD U U U (VM (s.ae [2]) uE)) (zB U dK (U) (zk 6 U (WP.ret ⟨aa,_,U,U,((((((eM.2 ⟨dv,s.ae [7,7,4]⟩).del 7).del 6).del 5).del 4).del 3).del 2⟩))))))))))))
theorem Lg.Lm : Lg.fresh.Ok:=⟨by decide,by decide,by simp[Lg.fresh],List.Pairwise.nil,by decide,by decide,by decide⟩
theorem Nr (I:W told){n:Nat}(s:Sat h (bZ p δ::S))(h1:1<=n)(h2:n<=1024)(hd:δ.dead=false)(hm:δ.mark=[])(hl:δ.log=[])(hc:δ.gS=0):
  Call ⟨Tryz.prog,told⟩ 40 [.ptr p 0,.int .i64 (n:Int)] h λv h'=>∃a q r,v=.aX [.ptr a 0,.int .i64 0]/\Sat h' (gH a p q r .cg [] 0::gG r p q (Pl.fresh n)::dH q p Lg.fresh::bZ p δ::S):=by
 refine Call.of_wp (I.free _ U) Tryz.func40 U U (zK 9 U (zC U aK (by simp<;>omega) ?_));refine zk 2 U (zC U cA (by simp<;>omega) ?_);refine zk 7 U (zc U (Nq I s hd hm hl hc) ?_);rintro v h ⟨q,rfl,s⟩;refine zk 10 U (zC U aG (U) (zk 8 U (zc U (ZZ (p:=p) (q:=q) (n:=n) I s) ?_)));rintro v h (⟨hn,_,_⟩|⟨_,_,r,rfl,s⟩)
 .omega
 rw[fI] at s;refine zk 10 U (zC U aG (U) (zk 8 U (zo U (cO U (by rw[ac8];rfl)) ?_)));refine au.cj s U U U (fC U U) (λp44 h s => ?_);refine zk 5 U (zc U (SX I (s.ae [2])) ?_);rintro v h' ⟨rfl,rfl⟩;refine zk 6 U (zc U (Nd I (s.ae [2])) ?_);rintro v h' ⟨rfl,rfl⟩;refine zk 5 U (zC U aG (U) (zk 8 U ?_));have s1:=eM.2 ⟨.aZ,(s.ug).ae [1,0]⟩;refine zc U (QE (n:=1) I (s1.ae [0,1]) Lg.Lm (by decide) (.inl U)) ?_;rintro v h ⟨rfl,s⟩;exact zk 5 U (zC U aG (U) (zk 9 U (WP.ret ⟨aa,_,U,_,q,r,U,s.ae [0,1,0]⟩)))
end
section
variable {told:cu} {p:Nat} {op v:V} {cF:Bool}
theorem Wj (I:W told)(s:Sat h (gH a p q r op data aR::S)): Call ⟨Tryz.prog,told⟩ 96 [.ptr a 0] h λv h'=>v=.ptr p 0/\h'=h:=by
 obtain⟨dv,s⟩:=eM.1 s;exact Call.of_wp (I.free _ U) Tryz.func96 U U (zK 8 U (zY s 0 DB yg U (zk 2 U (WP.ret ⟨aa,_,U,U,U⟩))))
end
section
variable {told:cu} {p:Nat} {op v:V} {cF:Bool}
theorem QF (I:W told){n m f:Nat}(s:Sat h S)(h1:1<=n)(h2:n<=65536)(h3:m<=16777216)(h4:1<=f)(h5:f<=1024):
  Call ⟨Tryz.prog,told⟩ 31 [.int .i64 (n:Int),.int .i64 (m:Int),.int .i64 (f:Int)] h λv h'=>∃p a q r,v=.aX [.ptr p 0,.ptr a 0] /\
   Sat h' (gH a p q r .cg [] 0::gG r p q (Pl.fresh f)::dH q p Lg.fresh::bZ p (Dk.fresh n m)::S):=by
 refine Call.of_wp (I.free _ U) Tryz.func31 U U (zK 9 U (zc U (ZL (n:=(n:Int)) (m:=(m:Int)) I s) ?_));rintro v h (⟨hn,_,_⟩|⟨_,_,_,_,p,rfl,s⟩)
 .omega
 rw[fI,fI] at s;refine zk 10 U (zC U aG (U) (zk 2 U (zC U (AF Tryz.underlying69) (U) (zk 8 U (zc U (Nr (n:=f) I s h4 h5 U U U U) ?_)))));rintro v h ⟨a,q,r,rfl,s⟩;exact zk 10 U (zC U aG (U) (zk 2 U (zC U (AF zG) (U) (zk 11 U (WP.ret ⟨aa,_,U,p,a,q,r,U,s⟩)))))
end
section
theorem OD (s:Sat h S){e:TypeId}{z:V}(hu:P.underlying t=some (.slice e))(I:zeroT P e=some z)(hk:bq P e=some k)(hl:z.cells.length=k)(h1:1<=k):
  ∃h',buildSliceV P h t 0 []=some (.sl h.next 0 0 (.exact 0),h')/\Sat h' (pt h.next (.cells 0 [] false)::S):=by
 refine⟨newRow h [],?_,s.new _⟩;simp only[buildSliceV,hu,hk,I];rw[show(Nat.beq z.cells.length k&&Nat.ble (0*k) 65536&&Nat.ble 1 k)=true by rw[hl,kg,aS.2 (by omega),aS.2 h1];rfl,ag];simp only[repeatL,fillV,mL,ag]
theorem Z8 (s:Sat h (pt id (.cells 0 [] false)::S)): Sat h (.arr q (.sl id 0 0 (.exact 0)) []::S) :=
 s.dM λm r hm=>⟨U,.inr ⟨id,0,.exact 0,0,[],U,hm,by simp,U,U,by simp,aH _⟩⟩
end
theorem Gt : ∀ {l:List Nat},(∀b∈l,b<256)->bytesOf (ofBytes l)=some l:=by
 intro l;induction l with
 |nil=>intro _;rfl
 |cons b l ih =>
  intro h;have I:=ih λx hx=>h x (bk _ hx);have h2:=h b a_;rw[ofBytes] at I;simp only[ofBytes,gB,bytesOf,I,aA,List.cons.injEq,and_true];omega
theorem Co {v:V}(hv:View h v l): convV Tryz.prog h 29 9 v=some (.str l,h):=by
 obtain⟨I,(⟨rfl|⟨ea,rfl⟩,rfl⟩|⟨id,off,cap,n,cs,st,rfl,hg,hl,ho,hc,_⟩)⟩:=hv
 .simp only[convV,aP,oF,Tryz.underlying5]
 .simp only[convV,aP,oF,Tryz.underlying5]
 .have e:rdN h id off l.length=some (ofBytes l):=by rw[pN hg hl ho,hc]
  simp only[convV,aP,oF,Tryz.underlying5,e,Gt I]
def Yq (l:List Nat): List Nat:=if l.length≠512\/l=List.replicate 512 0 then[] else l.drop 12
structure DK (δ Qz:Dk): Prop where
 dead:Qz.dead=δ.dead
 cV:Qz.cV=δ.cV
 bI:Qz.bI=δ.bI
 now:Qz.now=δ.now
theorem DK.refl (δ:Dk): DK δ δ:=⟨U,U,U,U⟩
theorem DK.at (h:DK δ Qz)(n:Int): Qz.at n=δ.at n:=by rw[Dk.at,Dk.at,h.now,h.bI]
structure DA (N:Nat)(δ:Dk): Prop where
 alive:δ.dead=false
 cV:δ.cV<0
 bI:δ.bI.length=N
 keys:∀k:Int,k∈δ.now.map (·.1)->0<=k/\k<N
 nodup:(δ.now.map (·.1)).Nodup
 good:∀n:Int,0<=n->n<N->jJ (δ.at n)=0
theorem DA.of (h:DA N δ)(k:DK δ Qz): DA N Qz :=
 ⟨k.dead.trans h.alive,by rw[k.cV];exact h.cV,by rw[k.bI];exact h.bI,by rw[k.now];exact h.keys,by rw[k.now];exact h.nodup,λn a b=>by rw[k.at];exact h.good n a b⟩
theorem Ln (h:δ.cV<0): δ.gu=δ:=by
 have:(if 0<δ.cV then δ.cV-1 else δ.cV)=δ.cV:=ai (by omega);rw[Dk.gu,this]
theorem Wk (h:DA N δ): δ.jh=(0,{ δ with gS:=δ.log.length }):=by
 rw[Dk.jh,ai (by rw[h.alive];decide),ai (by have:=h.cV;omega),Ln h.cV]
theorem Ti {x:LD}{n:Nat}(h:DA N x.2): (cR x n).1=0/\DK x.2 (cR x n).2.2:=by
 unfold cR;split
 .exact⟨U,DK.refl _⟩
 .rw[Wk h,ai (by simp)];exact⟨U,U,U,U,U⟩
theorem Wl (h:DA N δ)(h0:0<=n)(h1:n<N)(hb:b.length=512)(hc:jJ b=0):
  (δ.eP n b).1=0/\DA N (δ.eP n b).2/\∀m,(δ.eP n b).2.at m=if n=m then b else δ.at m:=by
 have e:δ.eP n b=(0,δ.wr n b):=by
  rw[Dk.eP,ai (by rw[h.alive];decide),ai (not_not_intro ⟨h0,by rw[h.bI];exact h1,hb⟩),ai (by have:=h.cV;omega)]
 have rq:(δ.wr n b).now=cD n b δ.now:=rfl;have eA:(δ.wr n b).bI=δ.bI:=rfl;have I:∀m,(δ.wr n b).at m=if n=m then b else δ.at m:=λm=>by
  grind[Dk.at,mU]
 have ve:(δ.wr n b).cV=δ.cV:=by
  show δ.gu.cV=δ.cV;rw[Ln h.cV]
 rw[e];refine⟨U,⟨h.alive,by rw[ve];exact h.cV,h.bI,λx hx => ?_,?_,λm a c => ?_⟩,I⟩
 .rcases wI.1 hx with rfl|hx
  .omega
  .exact h.keys x hx
 .exact oA h.nodup
 .rw[I];by_cases hm:n=m
  .grind
  .rw[ai hm];exact h.good m a c
theorem Ns {m:List Nat}{b:Nat}(h1:a+m.length<=l.length)(h2:a+m.length<=b): (az l a m).drop b=l.drop b:=by
 have I:(l.take a).length=a:=by grind
 rw[az,<-dN,vJ,qd (by grind),dL,vN,aO,I];congr 1;omega
theorem Gu {m:List Nat}(h:a+m.length<=l.length): (az l a m)[i]?=if a<=i/\i<a+m.length then m[i-a]? else l[i]?:=by
 grind[az]
theorem wU {m:List Nat}(I:l.drop 12=m.drop 12)(ha:12<=a): dQ l a z=dQ m a z:=by
 have e:∀l:List Nat,(l.take (a+z)).drop a=((l.drop 12).drop (a-12)).take z:=λl=>by
  simp_all[l8]
 rw[dQ,dQ,e,e,I]
theorem Nt {m:List Nat}(I:l.drop 12=m.drop 12){low:Nat}: ∀(n i:Nat) (t:List Bool),cellsL l low n i t=cellsL m low n i t:=by
 intro n;induction n<;>grind[bB,wU,er,cellsL]
theorem QG {m:List Nat}(hl:l.length=m.length)(I:l.drop 12=m.drop 12): cI l=cI m:=by
 have e1:jI l=jI m:=wU I (by omega);have e2:dA l=dA m:=wU I (by omega);have e3:l.getD 13 0=m.getD 13 0:=by
  have:∀l:List Nat,l[13]?=(l.drop 12)[1]?:=λl=>by simp
  grind
 grind[cI,Nt]
theorem Cp : ∀(k n:Nat),leN (le k n)=n%256^k:=by
 intro k;induction k<;>grind[le,leN,Nat.mod_mul]
theorem Cq {n:Nat}(hb:b.length=512): (eV b n).drop 12=b.drop 12/\(eV b n).length=512/\(eV b n).drop 4=(rj b n).drop 4/\dQ (eV b n) 0 4=Gb 0 ((rj b n).drop 4)%4294967296:=by
 have h1:=Ax (n:=n) hb;have h2:(eV b n).length=512:=by grind[eV,bG,cQ]
 have I:(eV b n).drop 4=(rj b n).drop 4:=by rfl
 have h4:(rj b n).drop 12=b.drop 12:=by grind[rj,Ns,cQ]
 refine⟨?_,h2,I,?_⟩
 .have:=dg (List.drop 8) I;grind[List.drop_drop]
 .have e:(eV b n).take 4=le 4 (Gb 0 ((rj b n).drop 4)):=by
   rfl
  grind[dQ,Cp]
theorem Z9 {n:Nat}(I:∀x∈b,x<256): ∀x∈rj b n,x<256:=xz I (Qk _ _)
theorem Tj {n:Nat}(I:cI b=true)(hb:∀x∈b,x<256): jJ (eV b n)=0/\cI (eV b n)=true/\Yq (eV b n)=b.drop 12:=by
 have hl:=jy I;obtain⟨h1,h2,h3,h4⟩:=Cq (n:=n) hl;have FZ:cI (eV b n)=true:=by grind[QG]
 have hz:cI (List.replicate 512 0)=false:=by decide +kernel
 grind[EB,Z9,jJ,Yq]
def pgA (ε:bA)(n:Int): List Nat:=match lookL n ε.1.bY with
 |some i=>match ε.1.aj[i.toNat]? with
  |some f=>f.b
  |none=>ε.2.2.at n
 |none=>ε.2.2.at n
structure Wm (N:Nat)(δ:Dk)(bY:List (Int×Int))(i:Nat)(f:Fm): Prop where
 lt:f.bT<N
 here:lookL f.bT bY=some (i:Int)
 aR:jJ f.b=0
 same:f.changed=false->f.b=δ.at f.bT
 sQ:f.changed=true->cI f.b=true
structure EC (N:Nat)(ε:bA): Prop where
 dk:DA N ε.2.2
 nodup:(ε.1.bY.map (·.1)).Nodup
 pV:∀(n i:Int),lookL n ε.1.bY=some i->0<=n/\∃(j:Nat) (f:Fm),i=j/\ε.1.aj[j]?=some f/\f.bT=n
 back:∀(i:Nat) (f:Fm),ε.1.aj[i]?=some f->f.bT<0\/Wm N ε.2.2 ε.1.bY i f
 EO:∀k:Int,k∈ε.1.eu.map (·.1)->0<=k/\k<N
 Lo:(ε.1.eu.map (·.1)).Nodup
theorem ru {f:Fm}(h:lookL n ε.1.bY=some (j:Int))(I:ε.1.aj[j]?=some f): pgA ε n=f.b:=by
 grind[pgA]
theorem pX (h:lookL n ε.1.bY=none): pgA ε n=ε.2.2.at n:=by simp only[pgA,h]
theorem EC.cases (h:EC N ε)(n:Int): (∃(j:Nat) (f:Fm),lookL n ε.1.bY=some (j:Int)/\ε.1.aj[j]?=some f/\f.bT=n/\0<=n/\Wm N ε.2.2 ε.1.bY j f/\pgA ε n=f.b)\/(lookL n ε.1.bY=none/\pgA ε n=ε.2.2.at n):=by
 cases hl:lookL n ε.1.bY with
 |none=>grind[pX]
 |some i =>
  obtain⟨h0,j,f,rfl,I,hp⟩:=h.pV n i hl;refine .inl ⟨j,f,U,I,hp,h0,?_,ru hl I⟩;rcases h.back j f I with h1|h1
  .omega
  .exact h1
theorem xJ {m:List Fm}{f g x:Fm}(I:m[i]?=some f)(hx:(m.set i g)[j]?=some x): (i=j/\x=g)\/(i≠j/\m[j]?=some x):=by
 grind
theorem EC.set {f g:Fm}{y:Lg}(h:EC N ε)(hf:ε.1.aj[i]?=some f)(hp:g.bT=f.bT)(V1:DA N δ)
 (hg:g.bT<0\/Wm N δ ε.1.bY i g)(ho:∀(j:Nat) (x:Fm),i≠j->ε.1.aj[j]?=some x->0<=x.bT->δ.at x.bT=ε.2.2.at x.bT)(hd:∀k:Int,k∈d.map (·.1)->0<=k/\k<N)(hdn:(d.map (·.1)).Nodup):
  EC N ({ ε.1 with aj:=ε.1.aj.set i g,eu:=d },(y,δ)):=by
 refine⟨V1,h.nodup,λn k hk => ?_,λj x hx => ?_,hd,hdn⟩
 .obtain⟨h0,j,x,rfl,hx,Jc⟩:=h.pV n k hk<;>grind
 .rcases xJ hf hx with⟨rfl,rfl⟩|⟨pH,hx⟩
  .exact hg
  .rcases h.back j x hx with I|I
   .omega
   .by_cases h2:x.bT<0
    .omega
    .refine .inr ⟨I.lt,I.here,I.aR,λhc => ?_,I.sQ⟩;rw[ho j x pH hx (by omega)];exact I.same hc
theorem OE {f g:Fm}{x:LD}(I:ε.1.aj[i]?=some f)(hb:g.b=f.b)(hx:lookL n ε.1.bY=none->x.2.at n=ε.2.2.at n)(hy:∀j:Int,lookL n ε.1.bY=some j->∃f',ε.1.aj[j.toNat]?=some f'):
  pgA ({ ε.1 with aj:=ε.1.aj.set i g,eu:=d },x) n=pgA ε n:=by
 unfold pgA;grind
theorem EC.there (h:EC N ε): ∀j:Int,lookL n ε.1.bY=some j->∃f',ε.1.aj[j.toNat]?=some f':=λj I=>by
 obtain⟨_,k,f,rfl,hf,_⟩:=h.pV n j I<;>grind
theorem EC.out {f:Fm}(h:EC N ε)(I:ε.1.aj[i]?=some f):
  (outF ε i).1=0/\EC N (outF ε i).2/\(∀n,pgA (outF ε i).2 n=pgA ε n)/\(outF ε i).2.1.bY=ε.1.bY/\∃g,(outF ε i).2.1.aj[i]?=some g/\g.bT=f.bT/\(0<=g.bT->g.changed=false):=by
 have hi:=(List.getElem?_eq_some_iff.1 I).1;unfold outF;rw[I];simp only;by_cases hc:f.bT<0\/f.changed=false
 .grind
 .rw[ai hc];have A1:0<=f.bT:=by omega
  have yQ:f.changed=true:=by grind
  have ho:=(h.back i f I).resolve_left (by omega);have hg:=ho.sQ yQ;rw[ai (by grind)];obtain⟨e1,k1⟩:=Ti (x:=ε.2) (n:=dQ f.b 4 8) h.dk;rw[ai (by omega)];obtain⟨e2,k2,k3⟩:=Wl (h.dk.of k1) A1 ho.lt (jy hg) ho.aR;rw[ai (by omega)];have jY:∀m,f.bT≠m->((cR ε.2 (dQ f.b 4 8)).2.2.eP f.bT f.b).2.at m=ε.2.2.at m:=λm hm=>by rw[k3,ai hm,k1.at]
  refine⟨U,h.set I U k2 (.inr ⟨ho.lt,ho.here,ho.aR,λ_ => ?_,λhq=>(by cases hq)⟩) (λj x pH hx h0=>jY _ λLp => ?_) (λk hk => ?_) (oA h.Lo),λn => ?_,U,_,jO hi,U,λ_=>U⟩
  .grind
  .rcases h.back j x hx with h1|h1
   .omega
   .have:=h1.here;rw[<-Lp,ho.here] at this;grind
  .rcases wI.1 hk with rfl|hk
   .exact⟨A1,ho.lt⟩
   .exact h.EO k hk
  .exact OE I (by rfl) (λhn=>jY n λe=>by rw[<-e,ho.here] at hn;cases hn) h.there
theorem ij.back (I:ij π cB){x:Fm}(hx:cB.aj[i]?=some x): ∃f t,π.aj[i]?=some f/\x={ f with gV:=t }:=by
 have hi:=(List.getElem?_eq_some_iff.1 hx).1;rw[I.len] at hi;have hf:π.aj[i]?=some (π.aj[i]'hi):=aF _;obtain⟨t,ht⟩:=I.get i _ hf<;>grind
theorem EC.uV (h:EC N ε)(I:ij ε.1 cB): EC N (cB,ε.2)/\∀n,pgA (cB,ε.2) n=pgA ε n:=by
 refine⟨⟨h.dk,by rw[I.bY];exact h.nodup,λn i hi => ?_,λi x hx => ?_,by rw[I.eu];exact h.EO,by rw[I.eu];exact h.Lo⟩,λn => ?_⟩
 .rw[I.bY] at hi;obtain⟨h0,j,f,rfl,hf,hp⟩:=h.pV n i hi;obtain⟨t,ht⟩:=I.get j f hf;exact⟨h0,j,_,U,ht,hp⟩
 .obtain⟨f,t,hf,rfl⟩:=I.back hx;rcases h.back i f hf with h1|h1
  .grind
  .exact .inr ⟨h1.lt,by rw[I.bY];exact h1.here,h1.aR,h1.same,h1.sQ⟩
 .unfold pgA;simp only[I.bY];cases hl:lookL n ε.1.bY with
  |none=>rfl
  |some i =>
   obtain⟨h0,j,f,rfl,hf,hp⟩:=h.pV n i hl;obtain⟨t,ht⟩:=I.get j f hf<;>grind
theorem EC.eH {f g:Fm}(h:EC N ε)(hg:ε.1.aj[i]?=some g)(hp:g.bT=f.bT)(hc:0<=g.bT->g.changed=false): EC N (eH ε.1 i f,ε.2)/\(∀n,pgA (eH ε.1 i f,ε.2) n=pgA ε n) /\
  (eH ε.1 i f).aj[i]?=some gn/\∀n,lookL n ε.1.bY=none->lookL n (eH ε.1 i f).bY=none:=by
 have hi:=(List.getElem?_eq_some_iff.1 hg).1;have adH:(ε.1.aj.set i gn)[i]?=some gn:=jO hi;have Tk:∀n,lookL n (Am.eH ε.1 i f).bY=if 0<=f.bT/\f.bT=n then none else lookL n ε.1.bY:=λn=>by
  rw[Am.eH];by_cases I:f.bT<0
  .grind
  .rw[ai I,I2 h.nodup];simp_all
 refine⟨⟨h.dk,?_,λn k hk => ?_,λj x hx => ?_,h.EO,h.Lo⟩,λn => ?_,adH,λn hn => ?_⟩
 .rw[Am.eH];by_cases I:f.bT<0
  .rw[ay I];exact h.nodup
  .rw[ai I];exact Au h.nodup
 .rw[Tk] at hk;split at hk
  .cases hk
  .obtain⟨I,j,x,rfl,hx,Jc⟩:=h.pV n k hk;refine⟨I,j,x,U,?_,Jc⟩;show(ε.1.aj.set i gn)[j]?=some x;grind
 .rcases xJ hg hx with⟨rfl,rfl⟩|⟨pH,hx⟩
  .exact .inl (by decide)
  .rcases h.back j x hx with h1|h1
   .omega
   .by_cases hx0:x.bT<0
    .omega
    refine .inr ⟨h1.lt,?_,h1.aR,h1.same,h1.sQ⟩;rw[Tk,ai]
    .exact h1.here
    .rintro⟨I,Lp⟩;rcases h.back i g hg with h2|h2
     .omega
     .have e:=h2.here;rw[hp,Lp,h1.here] at e;grind
 .rcases h.cases n with⟨j,x,hl,hx,Jc,I,ho,e⟩|⟨hl,e⟩
  .rw[e];by_cases Lp:f.bT=n
   .have pH:i=j:=by
     rcases h.back i g hg with h2|h2
     .omega
     .have e:=h2.here;grind
    subst pH;rw[hg] at hx;have:=bD hx;subst this;rw[pX (by grind)];rw[ho.same (hc (by omega)),hp,Lp]
   .refine ru (j:=j) (by grind) ?_;show(ε.1.aj.set i gn)[j]?=some x;grind
  grind[pX]
 .grind
theorem EC.kN {e:Fm}(h:EC N ε)(he:ε.1.aj[i]?=some e)(hp:e.bT<0)(hl:lookL n ε.1.bY=none)(h0:0<=n)(h1:n<N): EC N (kN ε.1 i n (ε.2.2.at n),ε.2)/\∀m,pgA (kN ε.1 i n (ε.2.2.at n),ε.2) m=pgA ε m:=by
 have hi:=(List.getElem?_eq_some_iff.1 he).1;have I:(ε.1.aj.set i ⟨n,ε.2.2.at n,1,true,false⟩)[i]?=some ⟨n,ε.2.2.at n,1,true,false⟩:=jO hi;have Tk:∀m,lookL m (Am.kN ε.1 i n (ε.2.2.at n)).bY=if n=m then some (i:Int) else lookL m ε.1.bY:=λm=>mU _;refine⟨⟨h.dk,oA h.nodup,λm k hk => ?_,λj x hx => ?_,h.EO,h.Lo⟩,λm => ?_⟩
 .rw[Tk] at hk;split at hk
  .rename_i hnm;have:=bD hk;subst this;subst hnm;exact⟨h0,i,_,U,I,U⟩
  .obtain⟨h0,j,x,rfl,hx,Jc⟩:=h.pV m k hk;refine⟨h0,j,x,U,?_,Jc⟩;show(ε.1.aj.set i _)[j]?=some x;grind
 .rcases xJ he hx with⟨rfl,rfl⟩|⟨pH,hx⟩
  .exact .inr ⟨h1,by grind,h.dk.good n h0 h1,λ_=>U,λhq=>(by cases hq)⟩
  .rcases h.back j x hx with h2|h2
   .omega
   .refine .inr ⟨h2.lt,?_,h2.aR,h2.same,h2.sQ⟩;rw[Tk,ai]
    .exact h2.here
    .rintro rfl;rw[h2.here] at hl;cases hl
 .by_cases hnm:n=m
  .subst hnm;rw[ru (j:=i) (by grind) I,pX hl]
  .rcases h.cases m with⟨j,x,iL,hx,Jc,_,ho,e2⟩|⟨iL,e2⟩
   .rw[e2];refine ru (j:=j) (by grind) ?_;show(ε.1.aj.set i _)[j]?=some x;grind
   grind[pX]
theorem EC.frame {f g:Fm}(h:EC N ε)(hf:ε.1.aj[i]?=some f)(hp:g.bT=f.bT)(hb:g.b=f.b)(hc:g.changed=f.changed): EC N ({ ε.1 with aj:=ε.1.aj.set i g },ε.2)/\∀n,pgA ({ ε.1 with aj:=ε.1.aj.set i g },ε.2) n=pgA ε n:=by
 refine⟨h.set (y:=ε.2.1) (δ:=ε.2.2) hf hp h.dk ?_ (λ_ _ _ _ _=>U) h.EO h.Lo,λn=>OE hf hb (λ_=>U) h.there⟩;rcases h.back i f hf with I|I
 .omega
 .exact .inr ⟨by rw[hp];exact I.lt,by rw[hp];exact I.here,by rw[hb];exact I.aR,by rw[hp,hb,hc];exact I.same,by rw[hb,hc];exact I.sQ⟩
theorem ik.ec (hr:ik ε n e b ah)(h:EC N ε): EC N ah/\(∀m,pgA ah m=pgA ε m)/\(0<=n->n<N->e=0/\b=pgA ε n)/\(¬(0<=n/\n<N)->e=1/\ah=ε):=by
 have eA:=h.dk.bI;cases hr with
 |arg I=>grind
 |I8 i f h1 h2 hl hf =>
  obtain⟨k1,k2⟩:=h.frame (g:={ f with gV:=true,pins:=f.pins+1 }) hf U U U<;>grind[ru]
 |out cB i f h1 h2 hl I hf hh he=>exact absurd ((h.uV I).1.out hf).1 he
 |read cB i f h1 h2 hl I hf hh he hr =>
  obtain⟨k1,k2,k3,k4,g,k5,k6,k7⟩:=(h.uV I).1.out hf;refine absurd ?_ hr;rw[eA] at h2;rw[Dk.uj,ai (by rw[k2.dk.alive];decide),ai (by rw[k2.dk.bI];exact not_not_intro ⟨h1,h2⟩)]
 |bad cB i f h1 h2 hl I hf hh he hr hc =>
  obtain⟨k1,k2,k3,k4,g,k5,k6,k7⟩:=(h.uV I).1.out hf;rw[eA] at h2;exact absurd (k2.dk.good n h1 h2) hc
 |load cB i f h1 h2 hl I hf hh he hr hc =>
  obtain⟨n1,n2⟩:=h.uV I;obtain⟨k1,k2,k3,k4,g,k5,k6,k7⟩:=n1.out hf;rw[eA] at h2;obtain⟨f1,f2,f3,f4⟩:=k2.eH k5 k6 k7;have iL:lookL n (outF (cB,ε.2) i).2.1.bY=none:=by rw[k4];rw[I.bY];exact hl
  obtain⟨l1,l2⟩:=f1.kN f3 (by decide) (f4 n iL) h1 h2;exact⟨l1,λm=>by grind,λ_ _=>⟨U,by grind[pX]⟩,λI=>absurd ⟨h1,h2⟩ I⟩
theorem Tl {x:LD}(h:EC N (π,x)): EC N ((unpinF π n).2,x)/\∀m,pgA ((unpinF π n).2,x) m=pgA (π,x) m:=by
 unfold unpinF;split
 .grind
 .split
  .grind
  .rename_i i hi f I;exact h.frame (g:={ f with pins:=f.pins-1 }) I U U U
theorem pq.ec (hr:pq ε n e b ah)(h:EC N ε)(hp:∀f∈ε.1.aj,f.pins=0): EC N ah/\(∀m,pgA ah m=pgA ε m)/\(0<=n->n<N->e=0/\b=pgA ε n)/\(¬(0<=n/\n<N)->e=1/\ah=ε):=by
 cases hr with
 |dead I=>rw[h.dk.alive] at I;cases I
 |mC e b ah I hr he =>
  obtain⟨k1,k2,k3,k4⟩:=hr.ec h<;>grind
 |AB b ah I hr he=>exact absurd (hr.EK hp).1 he
 |read b ah I hr he =>
  obtain⟨k1,k2,k3,k4⟩:=hr.ec h<;>grind[Tl]
theorem GRd.ec (hr:GRd ε now false n e b ah)(h:EC N ε)(I:∀f∈ε.1.aj,f.pins=0): EC N ah/\(∀m,pgA ah m=pgA ε m) /\
  (0<=n->n<N->e=0/\b=(match lookL n now with|some b=>b|none=>pgA ε n))/\(¬(0<=n/\n<N)->e=1):=by
 have eA:=h.dk.bI;cases hr with
 |arg hn=>grind
 |cF _ _ ho=>cases ho
 |own b h1 h2 _ hl=>grind
 |read e b ah h1 h2 _ hl hr =>
  obtain⟨k1,k2,k3,k4⟩:=hr.ec h I<;>grind
theorem Tm : ∀(N:Nat) (l:List Int),l.Nodup->(∀n∈l,0<=n/\n<N)->l.length<=N:=by
 intro N;induction N with
 |zero =>
  intro l _ h;cases l<;>grind[List.mem_cons_self]
 |succ N I =>
  intro l hd h;have h1:=I (l.erase (N:Int)) (hd.erase _) λn hn=>by
   grind
  grind
structure NW (N:Nat)(now:List (Int×List Nat)): Prop where
 good:∀e∈now,cI e.2=true/\∀x∈e.2,x<256
 keys:∀k:Int,k∈now.map (·.1)->0<=k/\k<N
 nodup:(now.map (·.1)).Nodup
theorem NW.nil (N:Nat): NW N []:=⟨λe h=>(by cases h),λk h=>(by cases h),vO⟩
theorem QH {a:α}: ∀ {l:List (Int×α)} {e:Int×α},e∈cD n a l->e=(n,a)\/e∈l:=by
 intro l;induction l<;>grind[cD]
theorem NW.put (h:NW N now)(h0:0<=n)(h1:n<N)(hg:cI b=true)(hb:∀x∈b,x<256): NW N (cD n b now):=by
 refine⟨λe he => ?_,λk I => ?_,oA h.nodup⟩
 .rcases QH he with rfl|he
  .grind
  .exact h.good e he
 .rcases wI.1 I with rfl|I
  .omega
  .exact h.keys k I
theorem NW.len (h:NW N now): now.length<=N:=by
 have:=Tm N _ h.nodup h.keys
 rwa [cf] at this
theorem NW.look (h:NW N now)(hl:lookL n now=some b): cI b=true/\∀x∈b,x<256:=h.good _ (om hl)
theorem wR.ec (hr:wR ε now false n b e aN ah)(h:EC N ε)(I:∀f∈ε.1.aj,f.pins=0): EC N ah/\(∀m,pgA ah m=pgA ε m) /\
  (¬(0<=n/\n<N)->e=1/\aN=now)/\(0<=n->n<N->cI b=false->e=4/\aN=now)/\(0<=n->n<N->cI b=true->e=0/\aN=cD n b now):=by
 cases hr with
 |may e c ah hr he =>
  obtain⟨k1,k2,k3,k4⟩:=hr.ec h I<;>grind
 |bad c ah hr hg =>
  obtain⟨k1,k2,k3,k4⟩:=hr.ec h I<;>grind
 |done c ah hr hg =>
  obtain⟨k1,k2,k3,k4⟩:=hr.ec h I<;>grind
theorem mV.ec {l:List Int}{cs:List fT}(hr:mV now l ε e cs ah): EC N ε->lp ε->(∀n∈l,0<=n/\n<N)->EC N ah/\(∀m,pgA ah m=pgA ε m)/\e=0:=by
 induction hr with
 |nil ε=>grind
 |err n l ε e b ah hr he =>
  intro h I hl;obtain⟨k1,k2,k3,k4⟩:=hr.ec h I.pins<;>grind
 |part n l ε was b ah c e cs mw hr hb hd hc fN ht ih =>
  intro h I hl;obtain⟨k1,k2,k3,k4⟩:=hr.ec h I.pins;obtain⟨i1,i2,i3⟩:=ih k1 (hr.qw I) λm hm=>hl m (bk _ hm)<;>grind
 |whole n l ε was b ah e cs mw hr hb hd ht ih =>
  intro h I hl;obtain⟨k1,k2,k3,k4⟩:=hr.ec h I.pins;obtain⟨i1,i2,i3⟩:=ih k1 (hr.qw I) λm hm=>hl m (bk _ hm)<;>grind
theorem EC.log {x:LD}(h:EC N ε)(k:DK ε.2.2 x.2): EC N (ε.1,x)/\∀m,pgA (ε.1,x) m=pgA ε m:=by
 refine⟨⟨h.dk.of k,h.nodup,h.pV,λi f hf => ?_,h.EO,h.Lo⟩,λm => ?_⟩
 .rcases h.back i f hf with I|I
  .omega
  .exact .inr ⟨I.lt,I.here,I.aR,λhc=>by rw[k.at];exact I.same hc,I.sQ⟩
 .unfold pgA;simp only[k.at]
theorem EC.put {f:Fm}(h:EC N ε)(hl:lookL n ε.1.bY=some (i:Int))(I:ε.1.aj[i]?=some f)(hg:cI b=true)(hb:∀x∈b,x<256)(h0:0<=n)(h1:n<N):
  EC N (Ic ε.1 n i f b bj,ε.2)/\∀m,pgA (Ic ε.1 n i f b bj,ε.2) m=if m=n then eV b bj else pgA ε m:=by
 obtain⟨s1,s2,s3⟩:=Tj (n:=bj) hg hb;have hi:=(List.getElem?_eq_some_iff.1 I).1;have hp:f.bT=n:=by
  obtain⟨_,j,x,pH,hx,Jc⟩:=h.pV n i hl<;>grind
 have ho:=(h.back i f I).resolve_left (by omega);refine⟨h.set (y:=ε.2.1) (δ:=ε.2.2) I U h.dk (.inr ⟨ho.lt,ho.here,s1,λhq=>(by cases hq),λ_=>s2⟩) (λ_ _ _ _ _=>U) (λk hk => ?_) (oA h.Lo),λm => ?_⟩
 .rcases wI.1 hk with rfl|hk
  .omega
  .exact h.EO k hk
 .by_cases hm:m=n
  .subst hm;rw[ay U];exact ru (ε:=(Ic ε.1 m i f b bj,ε.2)) hl (jO hi)
  .rcases h.cases m with⟨j,x,iL,hx,Jc,_,_,e2⟩|⟨iL,e2⟩<;>grind[ru,Ic,pX]
theorem PtR.ec {l:List Int}(hr:PtR now bj l ε e ah): EC N ε->lp ε->NW N now->(∀n∈l,0<=n/\n<N)->EC N ah/\e=0 /\
  ∀m,pgA ah m=if m∈l then(match lookL m now with|some b=>eV b bj|none=>pgA ε m) else pgA ε m:=by
 induction hr with
 |nil ε=>grind
 |mC n l ε e b ah hr he =>
  intro h I hn hl;have:=hl n a_;exact absurd ((hr.ec h).2.2.1 this.1 this.2).1 he
 |bad n l ε b0 b ah hr hb he =>
  intro h I hn hl;exact absurd ((hr.put (b:=b) (bj:=bj) I).2.2 (hn.look hb).1) he
 |put n l ε b0 b ah e mw hr hb he ht ih =>
  intro h I hn hl;have Yr:=hl n a_;obtain⟨k1,k2,k3,k4⟩:=hr.ec h;obtain⟨i,f,p1,p2,p3,p4,p5⟩:=hr.at I.pins;have hg:=hn.look hb;have e1:=Gq (bj:=bj) p1 p2 p3 hg.1;obtain⟨q1,q2⟩:=k1.put (bj:=bj) p1 p2 hg.1 hg.2 Yr.1 Yr.2;have XP:=(hr.put (b:=b) (bj:=bj) I).1;rw[e1] at ih XP;obtain⟨i1,i2,i3⟩:=ih q1 XP hn λm hm=>hl m (bk _ hm);refine⟨i1,i2,λm => ?_⟩;rw[i3,q2];by_cases hm:m=n
  .grind
  .grind
structure EL (K:Nat)(x:LD): Prop where
 log:x.1.b=x.2.log
 cert:x.1.forced<=x.2.gS
 size:x.1.base+x.1.b.length<=K
theorem EL.force {x:LD}{n:Nat}(h:EL K x): EL K (cR x n).2:=by
 unfold cR Dk.jh;split
 .exact h
 .by_cases hd:x.2.dead=true
  .grind
  .rw[ai hd];by_cases I:x.2.cV=0
   .rw[ay I,ay (show(9:Int)≠0 by decide)];exact⟨h.log,h.cert,h.size⟩
   .rw[ai I,ai (show ¬(0:Int)≠0 by decide)];exact⟨h.log,by rw[h.log];exact aH _,h.size⟩
theorem EL.write {x:LD}(h:EL K x): EL K (x.1,(x.2.eP n b).2):=by
 unfold Dk.eP;split
 .exact h
 .split
  .exact h
  .split<;>exact⟨h.log,h.cert,h.size⟩
theorem zH (K:Nat): nX (EL K):=⟨λ_ _ h=>h.force,λ_ _ _ h=>h.write⟩
theorem pq.el (hr:pq ε n e b ah)(h:EL K ε.2): EL K ah.2:=(zH K).rd hr h
theorem GRd.el {cF:Bool}(hr:GRd ε now cF n e b ah)(h:EL K ε.2): EL K ah.2:=(zH K).Cn hr h
theorem wR.el {cF:Bool}(hr:wR ε now cF n b e aN ah)(h:EL K ε.2): EL K ah.2:=(zH K).Lk hr h
theorem mV.el {l:List Int}{cs:List fT}(hr:mV now l ε e cs ah)(h:EL K ε.2): EL K ah.2:=(zH K).ch hr h
theorem PtR.el {l:List Int}(hr:PtR now bj l ε e ah)(h:EL K ε.2): EL K ah.2:=(zH K).pt hr h
structure EI (N B:Nat)(ε:bA): Prop where
 ok:lp ε
 ec:EC N ε
 el:EL (B*1048600) ε.2
 cW:cW ε<=B*65536
theorem EI.more (h:EI N B ε){I:Nat}(hb:B<=I): EI N I ε :=
 ⟨h.ok,h.ec,⟨h.el.log,h.el.cert,cN h.el.size (nB _ hb)⟩,cN h.cW (nB _ hb)⟩
theorem EI.rd (h:EI N B ε)(hr:pq ε n e b ah): EI N B ah :=
 ⟨hr.qw h.ok,(hr.ec h.ec h.ok.pins).1,hr.el h.el,cN hr.cW h.cW⟩
theorem EI.Cn (h:EI N B ε)(hr:GRd ε now false n e b ah): EI N B ah :=
 ⟨hr.qw h.ok,(hr.ec h.ec h.ok.pins).1,hr.el h.el,cN hr.cW h.cW⟩
theorem EI.Lk (h:EI N B ε)(hr:wR ε now false n b e aN ah): EI N B ah :=
 ⟨hr.qw h.ok,(hr.ec h.ec h.ok.pins).1,hr.el h.el,cN hr.cW h.cW⟩
theorem EI.many (h:EI N B ε): N<=65536:=by
 have:=h.ok.ok.dk.many
 rwa [h.ec.dk.bI] at this
theorem EI.app {kd:Int}{c:List fT}(h:EI N B ε)(hB:B<=4000)(hg:iD kd c=true):
  EI N (B+1) (ε.1,(bX ε.2 kd tx pv nx data c).2)/\(∀m,pgA (ε.1,(bX ε.2 kd tx pv nx data c).2) m=pgA ε m) /\
  (((bX ε.2 kd tx pv nx data c).1.2=0/\bX ε.2 kd tx pv nx data c=((ε.2.1.base+ε.2.1.b.length,0),(ε.2.1.app (gD ε.2.1 kd tx pv nx data c),{ ε.2.2 with log:=ε.2.2.log++gD ε.2.1 kd tx pv nx data c }))) \/
   (bX ε.2 kd tx pv nx data c).1.2=7\/((bX ε.2 kd tx pv nx data c).1.2=2/\1048576<(gU kd tx pv nx data c).length)):=by
 have hs:=h.el.size;have jX:=Eg (kd:=kd) (tx:=tx) (pv:=pv) (nx:=nx) (data:=data) (c:=c) h.ok.ok.lg h.ok.ok.dk h.el.log (by omega);have AH:Am.cW (ε.1,(bX ε.2 kd tx pv nx data c).2)<=(B+1)*65536:=by
  have e:Am.cW (ε.1,(bX ε.2 kd tx pv nx data c).2)=Am.cW ε:=by grind[Am.cW]
  rw[e];exact cN h.cW (nB _ (rN B))
 have gm:(bX ε.2 kd tx pv nx data c).2.1.base+(bX ε.2 kd tx pv nx data c).2.1.b.length<=(B+1)*1048600:=by
  omega
 have main:∀(hk:DK ε.2.2 (bX ε.2 kd tx pv nx data c).2.2) (hc:(bX ε.2 kd tx pv nx data c).2.1.forced<=(bX ε.2 kd tx pv nx data c).2.2.gS),EI N (B+1) (ε.1,(bX ε.2 kd tx pv nx data c).2)/\∀m,pgA (ε.1,(bX ε.2 kd tx pv nx data c).2) m=pgA ε m:=λhk hc=>by
  obtain⟨l1,l2⟩:=h.ec.log hk;exact⟨⟨⟨⟨h.ok.ok.pl,jX.1,jX.2.1⟩,h.ok.pins,h.ok.full⟩,l1,⟨jX.2.2.1,hc,gm⟩,AH⟩,l2⟩
 rcases mg ε.2 kd tx pv nx data c with⟨e,he,hc,I⟩|⟨hd,hf,I⟩|⟨_,_,hd,dx,hf,I⟩
 .obtain⟨m1,m2⟩:=main (by rw[I];exact DK.refl _) (by rw[I];exact h.el.cert);refine⟨m1,m2,.inr ?_⟩;rw[I];rcases hc with⟨_,hb⟩|⟨rfl,hb⟩|⟨_,hb⟩|⟨rfl,hb⟩
  .grind
  .grind
  .rw[h.ec.dk.alive] at hb;cases hb
  .simp
 .have:=h.ec.dk.cV;omega
 .rw[Ln h.ec.dk.cV] at I;obtain⟨m1,m2⟩:=main (by rw[I];exact⟨U,U,U,U⟩) (by rw[I];exact h.el.cert);exact⟨m1,m2,.inl ⟨by rw[I],I⟩⟩
theorem EI.done {kd:Int}{cl:Bool}(h:EI N B ε)(hB:B<=4000)(hn:NW N now)(h1:1<=kd)(h2:kd<=7)(hr:DnR ε now kd tx pv nx data 0 bj e cl ah):
  (cl=false/\(e=7\/e=2)/\EI N (B+2) ah/\∀m,pgA ah m=pgA ε m) \/
  (cl=true/\e=0/\EI N (B+2) ah/\∀m,pgA ah m=match lookL m now with|some b=>eV b bj|none=>pgA ε m):=by
 have I:∀n∈gp now,0<=n/\n<N:=λn hq=>hn.keys n (r_.1 hq);have hN:=h.many;have dx:∀ {c:List fT} {ah:bA} {e:Int},mV now (gp now) ε e c ah->iD kd c=true:=λhc=>by
  refine Li ⟨h1,by omega⟩ (hc.fit (λx hx=>jy (hn.good x hx).1) λn hq => ?_)<;>grind
 cases hr with
 |arg hq=>omega
 |dead _ _ _ hd=>rw[h.ec.dk.alive] at hd;cases hd
 |sQ e c ah _ _ _ hd hc he=>exact absurd (hc.ec h.ec h.ok I).2.2 he
 |app c ah _ _ _ hd hc he =>
  obtain⟨c1,c2,c3⟩:=hc.ec h.ec h.ok I;have hi:EI N B ah:=⟨hc.qw h.ok,c1,hc.el h.el,cN hc.cW h.cW⟩;obtain⟨a1,a2,a3⟩:=hi.app (kd:=kd) (tx:=tx) (pv:=pv) (nx:=nx) (data:=data) (c:=c) hB (dx hc);refine .inl ⟨U,?_,a1.more (by omega),λm=>by grind⟩<;>grind
 |put c ah e mw _ _ _ hd hc ha hp =>
  obtain⟨c1,c2,c3⟩:=hc.ec h.ec h.ok I;have hi:EI N B ah:=⟨hc.qw h.ok,c1,hc.el h.el,cN hc.cW h.cW⟩;obtain⟨a1,a2,a3⟩:=hi.app (kd:=kd) (tx:=tx) (pv:=pv) (nx:=nx) (data:=data) (c:=c) hB (dx hc);obtain⟨p1,p2,p3⟩:=hp.ec a1.ec a1.ok hn I;have hl:(gp now).length<=N:=by
   have:=hn.len;rw[gp,(iI _).length_eq,cf];exact this
  have nP:=hp.cW a1.ok;have rS:=a1.cW;refine .inr ⟨U,p2,⟨hp.qw a1.ok,p1,?_,by omega⟩,λm => ?_⟩
  .have:=hp.el a1.el;exact⟨this.log,this.cert,cN this.size (nB _ (by omega))⟩
  .grind[r_,vu]
theorem Nu (n:Nat): (digits 9 n).length<=10:=xH 9 n
def A8 (π:Pl)(n:Int)(b:List Nat): Prop:=∃(i:Nat) (f:Fm),π.aj[i]?=some f/\f.bT=n/\0<=n/\f.changed=true/\f.b=b
abbrev VP := (Int->List Nat->Prop)->List (Int×(Nat×Bool))->LD->Prop
abbrev vw (P:VP)(ε:bA): Prop:=P (A8 ε.1) ε.1.eu ε.2
theorem Wn (hn:ij π cB): A8 cB=A8 π:=by
 funext n b;refine propext ⟨λ⟨i,x,hx,I,h0,h2,h3⟩ => ?_,λ⟨i,f,hf,I,h0,h2,h3⟩ => ?_⟩
 .obtain⟨f,t,hf,rfl⟩:=hn.back hx;exact⟨i,f,hf,I,h0,h2,h3⟩
 .obtain⟨t,ht⟩:=hn.get i f hf;exact⟨i,_,ht,I,h0,h2,h3⟩
theorem DP {f g:Fm}(hf:π.aj[i]?=some f)(hs:∀n b,(f.bT=n/\0<=n/\f.changed=true/\f.b=b)↔(g.bT=n/\0<=n/\g.changed=true/\g.b=b)){w:List (Int×Int)}{hd:Nat}: A8 ⟨π.aj.set i g,w,d,hd⟩=A8 π:=by
 have hi:=(List.getElem?_eq_some_iff.1 hf).1;funext n b;refine propext ⟨λ⟨j,x,I,h⟩ => ?_,λ⟨j,x,I,h⟩ => ?_⟩
 .rcases xJ hf I with⟨rfl,rfl⟩|⟨_,I⟩
  .exact⟨i,f,hf,(hs n b).2 h⟩
  .exact⟨j,x,I,h⟩
 .by_cases hj:i=j
  .subst hj;rw[hf] at I;have:=bD I;subst this;exact⟨i,g,jO hi,(hs n b).1 h⟩
  .exact⟨j,x,by grind,h⟩
theorem Tn {f g:Fm}(hg:π.aj[i]?=some g)(hc:0<=g.bT->g.changed=false): A8 (eH π i f)=A8 π :=
 DP hg λn b=>⟨(λ⟨h1,h0,I,_⟩=>by grind),λ⟨_,_,I,_⟩=>(by cases I)⟩
theorem QI {e:Fm}(he:π.aj[i]?=some e)(hp:e.bT<0): A8 (kN π i n b)=A8 π :=
 DP he λm c=>⟨λ⟨h1,h0,_⟩=>by omega,λ⟨_,_,I,_⟩=>(by cases I)⟩
structure uX (N:Nat)(P:VP): Prop where
 one:∀(ε:bA) (i:Nat) (f:Fm),EC N ε->ε.1.aj[i]?=some f->0<=f.bT->f.changed=true->vw P ε->vw P (outF ε i).2
theorem nX.QJ (h:nX R)(N:Nat): uX N (λ_ _ x=>R x):=⟨λ_ _ _ _ _ _ _ hv=>h.out hv⟩
section
variable {P:VP} {l:List Int} {cs:List fT}
theorem uX.out (h:uX N P){f:Fm}(he:EC N ε)(I:ε.1.aj[i]?=some f)(hv:vw P ε): vw P (outF ε i).2:=by
 by_cases hc:f.bT<0\/f.changed=false
 .grind[outF]
 .exact h.one ε i f he I (by omega) (by grind) hv
theorem uX.mC (h:uX N P)(hr:ik ε n e b ah)(he:EC N ε)(hv:vw P ε): vw P ah:=by
 cases hr with
 |arg I=>exact hv
 |I8 i f h1 h2 hl hf =>
  grind[DP]
 |out cB i f h1 h2 hl I hf hh hq=>exact absurd ((he.uV I).1.out hf).1 hq
 |read cB i f h1 h2 hl I hf hh hq hr =>
  obtain⟨k1,k2,k3,k4,g,k5,k6,k7⟩:=(he.uV I).1.out hf;refine absurd ?_ hr;rw[he.dk.bI] at h2;rw[Dk.uj,ai (by rw[k2.dk.alive];decide),ai (by rw[k2.dk.bI];exact not_not_intro ⟨h1,h2⟩)]
 |bad cB i f h1 h2 hl I hf hh hq hr hc =>
  obtain⟨k1,k2,k3,k4,g,k5,k6,k7⟩:=(he.uV I).1.out hf;rw[he.dk.bI] at h2;exact absurd (k2.dk.good n h1 h2) hc
 |load cB i f h1 h2 hl I hf hh hq hr hc =>
  obtain⟨n1,n2⟩:=he.uV I;have SW:vw P (cB,ε.2):=by show P (A8 cB) cB.eu ε.2;rw[Wn I,I.eu];exact hv
  have I0:=h.out (ε:=(cB,ε.2)) n1 hf SW;grind[Tn,eH,outF,gn,kN,QI]
theorem To : A8 (unpinF π n).2=A8 π/\(unpinF π n).2.eu=π.eu:=by
 grind[unpinF,DP]
theorem uX.rd (h:uX N P)(hr:pq ε n e b ah)(he:EC N ε)(hv:vw P ε): vw P ah:=by
 cases hr<;>grind[mC,To]
theorem uX.Cn (h:uX N P)(hr:GRd ε now false n e b ah)(he:EC N ε)(hv:vw P ε): vw P ah:=by
 cases hr with
 |arg hn=>exact hv
 |cF _ _ ho=>cases ho
 |own b I h2 _ hl=>exact hv
 |read e b ah I h2 _ hl hr=>exact h.rd hr he hv
theorem uX.Lk (h:uX N P)(hr:wR ε now false n b e aN ah)(he:EC N ε)(hv:vw P ε): vw P ah:=by
 cases hr with
 |may e c ah hr _=>exact h.Cn hr he hv
 |bad c ah hr I=>exact h.Cn hr he hv
 |done c ah hr I=>exact h.Cn hr he hv
end
def sW (k:Nat)(v:V)(cs:List V): aE:=.xs λo:Option (Nat×Nat×Nat)=>match o with
 |none=>.pu ((v=.aZ\/∃a,v=.sle a)/\cs=[])
 |some (id,len,cap)=>.an (.ro id (.cells cs.length cs true)) (.pu (v=.sl id 0 len (.exact cap)/\cs.length=len*k))
theorem aI.sW (k:Nat)(v:V)(cs:List V): aI (Am.sW k v cs):=aI.xs λo=>by
 cases o with
 |none=>exact aI.pu _
 |some x=>exact aI.an (aI.ro _ _) (aI.pu _)
section
variable {v:V} {cs:List V}
theorem Sat.rowAt (s:Sat h S)(hj:getA S j=some (sW k v cs)): ((v=.aZ\/∃a,v=.sle a)/\cs=[])\/∃id len cap,v=.sl id 0 len (.exact cap)/\cs.length=len*k/\T.get h.tr id=some (.cells cs.length cs true):=by
 obtain⟨m,r,h1,h2,o,I⟩:=s.at hj;cases o with
 |none=>exact .inl I
 |some x=>exact .inr ⟨x.1,x.2.1,x.2.2,I.2.1,I.2.2,h2 _ _ I.1⟩
theorem Sat.Tp {n:Nat}{e:TypeId}(s:Sat h S)(hj:getA S j=some (sW k v cs))(I:cs.length=n*k)(hk:1<=k)(hu:P.underlying t=some (.slice e)): lenV P h t v=some (.int .i64 n):=by
 rcases s.rowAt hj with⟨hv,rfl⟩|⟨id,len,cap,rfl,hl,_⟩
 .have:n=0:=by
   cases n with
   |zero=>rfl
   |succ n=>simp only[b6,rM,Df] at I;omega
  subst this;rcases hv with rfl|⟨a,rfl⟩
  .exact Zv hu
  .simp only[lenV,hu];rfl
 .have:n=len:=by
   rw[hl] at I;exact(G5 (by omega) I).symm
  subst this;exact Sw hu
theorem Sat.adI {e:TypeId}(s:Sat h S)(hj:getA S j=some (sW k v cs))(hi:i*k+k<=cs.length)(hk:1<=k)(hu:P.underlying t=some (.slice e))(I:bq P e=some k)(ha:isAggT P e=some true):
  ∃id off,indexAddrV P t v (.int .i64 (i:Int))=some (.ptr id off)/\loadV P h e (.ptr id off)=some (.agg ((cs.drop (i*k)).take k)):=by
 rcases s.rowAt hj with⟨_,rfl⟩|⟨id,len,cap,rfl,hl,hg⟩
 .simp at hi;omega
 .refine⟨id,i*k,?_,ldN ha I hg U hi⟩;simp only[indexAddrV,hu,I,fI];have:i<len:=by
   have h4:i*k+k=(i+1)*k:=by rw[rM,Df]
   rw[h4,hl] at hi;exact Ho (G6 hi hk)
  rw[show(decide ((0:Int)<=(i:Int))&&decide ((i:Int)<(len:Int)))=true by simp;omega,ag];simp
end
def tot : List (List Nat)->Nat
 |[]=>0
 |c::l=>c.length+tot l
theorem tX {a b:List (List Nat)}: tot (a++b)=tot a+tot b:=by
 induction a<;>grind[tot]
theorem iW : ∀ {cs:List (List Nat)} {i:Nat} {c:List Nat},cs[i]?=some c->tot (cs.take (i+1))=tot (cs.take i)+c.length:=by
 intro cs;induction cs<;>grind[tot]
theorem AJ (h:i<=j): tot (cs.take i)<=tot (cs.take j):=by
 grind[List.take_append_drop,tX]
theorem lG {cs:List (List Nat)}{i:Nat}: tot (cs.take i)<=tot cs:=by
 grind[tX,List.take_append_drop]
theorem Z_ : ∀ {cs:List (List Nat)} {i:Nat} {c c':List Nat},cs[i]?=some c->c'.length=c.length->∀k,tot ((cs.set i c').take k)=tot (cs.take k):=by
 intro cs;induction cs with
 |nil=>simp
 |cons x cs I =>
  intro i c c' h hl k;cases i with
  |zero =>
   simp at h;subst h;cases k<;>grind[tot]
  |succ i=>cases k<;>grind[tot]
theorem dU {l m:List Nat}{a i:Nat}(h:a+m.length<=l.length)(hi:i<a\/a+m.length<=i): (az l a m)[i]?=l[i]?:=by
 grind[Gu]
theorem mW {l m:List Nat}{a i:Nat}(h:a+m.length<=l.length)(hi:i<m.length): (az l a m)[a+i]?=m[i]?:=by
 grind[Gu]
theorem dW {l m:List Nat}{a z:Nat}(h:∀i,a<=i->i<a+z->l[i]?=m[i]?): dQ l a z=dQ m a z:=by
 unfold dQ;congr 1;apply nE;simp_all[ic]
theorem Ie {m:List Nat}{b:Nat}(h:a+m.length<=l.length)(I:b+z<=a\/a+m.length<=b): dQ (az l a m) b z=dQ l b z :=
 by grind[dW,dU]
theorem pY {l:List Nat}{a z n:Nat}(h:a+z<=l.length:=by omega)(I:n<256^z:=by omega): dQ (az l a (le z n)) a z=n:=by
 have e:((az l a (le z n)).take (a+z)).drop a=le z n:=by
  apply nE;simp only[fq,ic];grind[mW,cQ]
 grind[dQ,Cp,Nat.mod_eq_of_lt]
theorem mN {l m:List Nat}{i:Nat}(h:l[i]?=m[i]?): l.getD i 0=m.getD i 0:=by grind
structure fh (b:List Nat)(k link extra:Nat)(cs:List (List Nat)): Prop where
 len:b.length=512
 Eh:b.getD 13 0=0
 kind:b.getD 12 0=k
 link:dQ b 18 4=link
 extra:dQ b 22 4=extra
 gu:jI b=cs.length
 low:dA b+tot cs=512
 fits:26+4*cs.length+tot cs<=512
 slot:∀i c,cs[i]?=some c->bB b i+tot (cs.take (i+1))=512/\er b i=c.length/\∀j,j<c.length->b[bB b i+j]?=c[j]?
theorem Lq : ∀(z k:Nat) (t:List Bool),k+z<=t.length->(∀j,k<=j->j<k+z->t.getD j false=false)->∃t',markL z k t=some t'/\t'.length=t.length/\∀j,(j<k\/k+z<=j)->t'.getD j false=t.getD j false:=by
 intro z;induction z with
 |zero=>intro k t _ _;exact⟨t,U,U,λ_ _=>U⟩
 |succ z I =>
  intro k t h1 h2;have hs:∀j,j≠k->(t.set k true).getD j false=t.getD j false:=λj hj=>by
   grind
  obtain⟨t',e1,e2,e3⟩:=I (k+1) (t.set k true) (by grind) (λj a b=>by grind)<;>grind[markL]
section
theorem fh.cells (h:fh b k link extra cs): ∀(n i:Nat) (t:List Bool),i+n=cs.length->t.length=512->(∀j,j+tot (cs.take i)<512->t.getD j false=false)->cellsL b (dA b) n i t=true:=by
 intro n;induction n with
 |zero=>intro i t _ _ _;rfl
 |succ n ih =>
  intro i t hi ht hf;have I:cs[i]?=some (cs[i]'(by omega)):=aF _;generalize (cs[i]'(by omega))=c at I;obtain⟨s1,s2,s3⟩:=h.slot i c I;have h1:=iW I;have h2:=lG (cs:=cs) (i:=i+1);have h3:=h.low;obtain⟨t',e1,e2,e3⟩:=Lq c.length (bB b i) t (by omega) (λj _ _=>hf j (by omega));rw[cellsL,s2,ai (by omega),e1];exact ih (i+1) t' (by omega) (by omega) (λj hj=>by grind)
theorem fh.good (h:fh b k link extra cs): cI b=true:=by
 have I:=h.low;have h2:=h.fits;rw[cI,dZ h.len,dZ h.Eh,dZ (by rw[h.gu];omega),h.cells _ _ _ (by rw[h.gu];omega) gA λj hj => ?_]
 .rfl
 grind
theorem fh.tail (h:fh b k link extra cs)(hl:b'.length=512)(ht:b'.drop 12=b.drop 12): fh b' k link extra cs:=by
 have hg:∀i,12<=i->b'[i]?=b[i]?:=λi hi=>by
  have:=dg (λl:List Nat=>l[i-12]?) ht;grind
 have I:∀a z,12<=a->dQ b' a z=dQ b a z:=λa z q=>wU ht q;refine⟨hl,?_,?_,?_,?_,?_,?_,h.fits,λi c hc => ?_⟩
 .rw[mN (hg 13 (by decide))];exact h.Eh
 .rw[mN (hg 12 (by decide))];exact h.kind
 .rw[I _ _ (by decide)];exact h.link
 .rw[I _ _ (by decide)];exact h.extra
 .rw[jI,I _ _ (by decide)];exact h.gu
 .rw[dA,I _ _ (by decide)];exact h.low
 .obtain⟨s1,s2,s3⟩:=h.slot i c hc;have e1:bB b' i=bB b i:=I _ _ (by omega);have e2:er b' i=er b i:=I _ _ (by omega);have dx:=h.fits;grind[lG]
def yl (k:Nat): List Nat:=az ((List.replicate 512 0).set 12 k) 16 (le 2 512)
theorem fh.new : fh (yl k) k 0 0 []:=by
 have hle:∀n,(le 2 n).length=2:=λn=>cQ 2 n;have I:∀i,i<16\/18<=i->(yl k)[i]?=((List.replicate 512 0).set 12 k)[i]?:=λi hi=>dU (by grind) (by grind);have hz:∀i,i≠12->((List.replicate 512 0).set 12 k)[i]?=(List.replicate 512 0)[i]?:=λi hi=>lX (by omega);have jY:∀a z,a+z<=512->(18<=a\/(13<=a/\a+z<=16))->dQ (yl k) a z=dQ (List.replicate 512 0) a z:=λa z h1 h2=>dW λi h3 h4=>by grind
 refine⟨by grind[yl,bG],?_,?_,?_,?_,?_,?_,by decide,λi c hc=>(by grind)⟩
 .rfl
 .rfl
 .rfl
 .rfl
 .rfl
 .rfl
def ym (b:List Nat)(x y:Nat): List Nat:=az (az b 18 (le 4 x)) 22 (le 4 y)
theorem fh.set (h:fh b k link extra cs){x y:Nat}(hx:x<4294967296)(hy:y<4294967296): fh (ym b x y) k x y cs:=by
 have hlen:=h.len;have hle:∀n,(le 4 n).length=4:=λn=>cQ 4 n;have l1:(az b 18 (le 4 x)).length=512:=by grind[bG]
 have l2:(ym b x y).length=512:=by grind[ym,bG]
 have I:∀i,i<18\/26<=i->(ym b x y)[i]?=b[i]?:=λi hi=>by
  grind[ym,dU]
 have jY:∀a z,a+z<=18\/26<=a->dQ (ym b x y) a z=dQ b a z:=λa z h2=>dW λi h3 h4=>I i (by omega);refine⟨l2,?_,?_,?_,?_,?_,?_,h.fits,λi c hc => ?_⟩
 .rw[mN (I 13 (by decide))];exact h.Eh
 .rw[mN (I 12 (by decide))];exact h.kind
 .grind[ym,Ie,pY]
 .grind[ym,pY]
 .rw[jI,jY _ _ (by decide)];exact h.gu
 .rw[dA,jY _ _ (by decide)];exact h.low
 .obtain⟨s1,s2,s3⟩:=h.slot i c hc;have e1:bB (ym b x y) i=bB b i:=jY _ _ (by omega);have e2:er (ym b x y) i=er b i:=jY _ _ (by omega);have dx:=h.fits;grind[lG]
def mD (b:List Nat)(i f z:Nat): List Nat:=az (az b (26+4*i) (le 2 f)) (26+4*i+2) (le 2 z)
section
variable {f:Nat}
theorem zI (hl:b.length=512)(hi:30+4*i<=512): (mD b i f z).length=512:=by
 grind[cQ,mD,bG]
theorem zJ (hl:b.length=512)(hi:30+4*i<=512){j:Nat}(I:j<26+4*i\/30+4*i<=j): (mD b i f z)[j]?=b[j]?:=by
 grind[cQ,mD,dU,bG]
theorem Cr (hl:b.length=512)(hi:30+4*i<=512:=by omega)(I:f<65536:=by omega)(hz:z<65536:=by omega): bB (mD b i f z) i=f/\er (mD b i f z) i=z:=by
 grind[cQ,bG,bB,mD,Ie,pY,er]
end
def AK (b:List Nat)(n lo:Nat)(c:List Nat): List Nat:=mD (az (az (az b 14 (le 2 (n+1))) lo c) 16 (le 2 lo)) n lo c.length
theorem fh.ins (h:fh b k link extra cs){c:List Nat}{lo:Nat}(hf:26+4*(cs.length+1)+(tot cs+c.length)<=512)(jG:lo+(tot cs+c.length)=512): fh (AK b cs.length lo c) k link extra (cs++[c]):=by
 have hlen:=h.len;have hle:∀n,(le 2 n).length=2:=λn=>cQ 2 n;have l1:(az b 14 (le 2 (cs.length+1))).length=512:=by grind[bG]
 have l2:(az (az b 14 (le 2 (cs.length+1))) lo c).length=512:=by rw[bG,l1]
 have l3:(az (az (az b 14 (le 2 (cs.length+1))) lo c) 16 (le 2 lo)).length=512:=by grind[bG]
 have l4:(AK b cs.length lo c).length=512:=zI l3 (by omega);have o3:∀i,i<16\/18<=i->(az (az (az b 14 (le 2 (cs.length+1))) lo c) 16 (le 2 lo))[i]?=(az (az b 14 (le 2 (cs.length+1))) lo c)[i]?:=λi hi=>dU (by grind) (by grind);have o4:∀i,i<26+4*cs.length\/30+4*cs.length<=i->(AK b cs.length lo c)[i]?=(az (az (az b 14 (le 2 (cs.length+1))) lo c) 16 (le 2 lo))[i]?:=λi hi=>zJ l3 (by omega) hi
 -- what is neither count, low, the slot nor the cell
 have I:∀i,(i<14\/18<=i)->(i<26+4*cs.length\/30+4*cs.length<=i)->(i<lo\/lo+c.length<=i)->(AK b cs.length lo c)[i]?=b[i]?:=λi h1 h2 h3=>by
  grind[dU]
 have jY:∀a z,(a+z<=14\/18<=a)->a+z<=26+4*cs.length->dQ (AK b cs.length lo c) a z=dQ b a z:=λa z h1 h2=>dW λi h3 h4=>I i (by omega) (by omega) (by omega);have jF:bB (AK b cs.length lo c) cs.length=lo/\er (AK b cs.length lo c) cs.length=c.length:=Cr l3;have abY:tot (cs++[c])=tot cs+c.length:=by rw[tX];simp[tot]
 refine⟨l4,?_,?_,?_,?_,?_,?_,by grind,λi x hx => ?_⟩
 .rw[mN (I 13 (by omega) (by omega) (by omega))];exact h.Eh
 .rw[mN (I 12 (by omega) (by omega) (by omega))];exact h.kind
 .rw[jY _ _ (by omega) (by omega)];exact h.link
 .rw[jY _ _ (by omega) (by omega)];exact h.extra
 .have e:dQ (AK b cs.length lo c) 14 2=dQ (az b 14 (le 2 (cs.length+1))) 14 2:=dW λi h1 h2=>by
   grind[dU]
  grind[jI,pY]
 .have e:dQ (AK b cs.length lo c) 16 2=dQ (az (az (az b 14 (le 2 (cs.length+1))) lo c) 16 (le 2 lo)) 16 2:=dW λi h1 h2=>o4 i (by omega);grind[dA,pY]
 .by_cases hi:i<cs.length
  .rw[rE hi] at hx;obtain⟨s1,s2,s3⟩:=h.slot i x hx<;>grind[bB,er,lG]
  .have fH:i=cs.length:=by
    grind
   subst fH;rw[hU (aH _),gK] at hx;have hx:c=x:=bD hx;subst hx;rw[jF.1,jF.2,h_ (by simp),abY];exact⟨jG,U,λj hj=>by grind[mW]⟩
def yn (b:List Nat)(i f:Nat)(c:List Nat): List Nat:=mD (az b f c) i f c.length
theorem fh.rep (h:fh b k link extra cs)(hc:cs[i]?=some c)(hl:c'.length=c.length): fh (yn b i (bB b i) c') k link extra (cs.set i c'):=by
 obtain⟨s1,s2,s3⟩:=h.slot i c hc;have hlen:=h.len;have hi:=(List.getElem?_eq_some_iff.1 hc).1;have oY:=h.low;have dx:=h.fits;have I7:=lG (cs:=cs) (i:=i+1);have Lr:=iW hc;have l1:(az b (bB b i) c').length=512:=by grind[bG]
 have l2:(yn b i (bB b i) c').length=512:=zI l1 (by omega);have o2:∀j,j<26+4*i\/30+4*i<=j->(yn b i (bB b i) c')[j]?=(az b (bB b i) c')[j]?:=λj hj=>zJ l1 (by omega) hj;have I:∀j,(j<26+4*i\/30+4*i<=j)->(j<bB b i\/bB b i+c.length<=j)->(yn b i (bB b i) c')[j]?=b[j]?:=λj h1 h2=>by grind[dU]
 have jY:∀a z,(a+z<=26+4*i\/30+4*i<=a)->a+z<=26+4*cs.length->dQ (yn b i (bB b i) c') a z=dQ b a z:=λa z h1 h2=>dW λj h3 h4=>I j (by omega) (by omega);have jF:bB (yn b i (bB b i) c') i=bB b i/\er (yn b i (bB b i) c') i=c'.length:=Cr l1;have uw:∀k,tot ((cs.set i c').take k)=tot (cs.take k):=Z_ hc hl;have abY:tot (cs.set i c')=tot cs:=by
  have:=uw cs.length;grind[List.length_set]
 refine⟨l2,?_,?_,?_,?_,?_,?_,by grind,λj x hx => ?_⟩
 .rw[mN (I 13 (by omega) (by omega))];exact h.Eh
 .rw[mN (I 12 (by omega) (by omega))];exact h.kind
 .rw[jY _ _ (by omega) (by omega)];exact h.link
 .rw[jY _ _ (by omega) (by omega)];exact h.extra
 .rw[jI,jY _ _ (by omega) (by omega),cG];exact h.gu
 .grind[dA]
 .rw[uw];by_cases kJ:i=j
  .subst kJ;rw[jO hi] at hx;have hx:c'=x:=bD hx;subst hx;rw[jF.1,jF.2];exact⟨s1,U,λq hq=>by rw[o2 _ (by omega),mW (by omega) hq]⟩
  .rw[lX kJ] at hx;obtain⟨r1,r2,r3⟩:=h.slot j x hx;have hj:=(List.getElem?_eq_some_iff.1 hx).1;have e1:bB (yn b i (bB b i) c') j=bB b j:=jY _ _ (by omega) (by omega);have e2:er (yn b i (bB b i) c') j=er b j:=jY _ _ (by omega) (by omega);have ht2:=iW hx;have htj:=lG (cs:=cs) (i:=j+1);rw[e1,e2];refine⟨r1,r2,λq hq => ?_⟩;rw[I _ (by omega) ?_]
   .grind
   .rcases C5 kJ with q1|q1
    .have:=AJ (cs:=cs) (i:=i+1) (j:=j) (by omega);omega
    .have:=AJ (cs:=cs) (i:=j+1) (j:=i) (by omega);omega
theorem fh.cell (h:fh b k link extra cs)(I:cs[i]?=some c): (b.drop (bB b i)).take c.length=c:=by
 obtain⟨s1,s2,s3⟩:=h.slot i c I;apply nE;grind
end
section
variable {v:V} {m:List Nat}
theorem Ls {n b:Nat}(mA:a<=b)(hb:b<=n): ∃off I,slR (.sl id 0 n cap) a b=.sl id off (b-a) I/\off<=n:=by
 cases cap with
 |exact c =>
  simp only[slR];by_cases Ye:c=a
  .rw[qW Ye,ag];exact⟨0,_,U,gh _⟩
  .rw[fM Ye,aT];exact⟨0+a*1,_,U,by omega⟩
 |rest e alt=>exact⟨0+a*1,_,U,by omega⟩
theorem OF {n:Nat}{cs:List V}(I:T.get h.tr id=some (.cells n cs false))(ho:off<=n)(hl:cs.length=n): wrN h id off []=some (h.put id (some (.cells n cs false))):=by
 simp only[wrN,I,b6];rw[aS.2 (by omega),ag];congr 3;cases hc:(Nat.beq off 0&&Nat.beq 0 n) with
 |true =>
  simp only[bV,beq_iff] at hc;rw[ag];rw[iZ (by omega:cs.length=0)]
 |false=>rw[aT,dL,eF,jP]
theorem Tq (s:Sat h (bf v l::X::S))(hX:cC X (cK w m)){b:Nat}(mA:a<=b)(hb:b<=l.length)(hl:1<=l.length):
  ∃h',copyV Tryz.prog h 29 (slR v a b) w=some (.int .i64 (min m.length (b-a):Nat),h')/\Sat h' (bf v (az l a (m.take (b-a)))::X::S):=by
 by_cases h1:a<b/\1<=m.length
 .exact KN s hX h1.1 hb h1.2
 .have hm:min m.length (b-a)=0:=by omega
  have ht:m.take (b-a)=[]:=iZ (by rw[cz];omega);have gI:az l a (m.take (b-a))=l:=by rw[ht,az];simp
  have hw:=(s.aC (k:=1) U hX).2;have hv:=(s.buf (k:=0) U).view;obtain⟨id,c,cap,rest,rfl,s1,hc,hf⟩:=s.eX hl;obtain⟨off,Bx,e1,e2⟩:=Ls (id:=id) (cap:=cap) mA hb;rw[e1,gI,hm];have hg:=s1.row (k:=0) U;have F0:=OF (off:=off) hg (by omega) (by rw[aO,dJ];exact hc);have uW:Sat (h.put id (some (.cells c (ofBytes l++rest) false))) (bf (.sl id 0 l.length cap) l::X::S):=hf _ _ U hv.1 (s1.put (k:=0) U);rcases hw with⟨rfl|⟨x,rfl⟩,_⟩|⟨wH,I,HW,n2,qM,st2,rfl,FZ,q1,q2,q3,q4⟩
  .exact⟨h,by simp only[copyV,aP,fO];rfl,s⟩
  .exact⟨h,by simp only[copyV,aP,fO];rfl,s⟩
  .refine⟨_,?_,uW⟩;have hr:rdN h wH I 0=some []:=by
    simp only[rdN,FZ,eF];rw[aS.2 (by omega),ag];cases hq:(Nat.beq I 0&&Nat.beq 0 n2) with
    |true =>
     simp only[bV,beq_iff] at hq;rw[ag,iZ (by omega:qM.length=0)]
    |false=>rw[aT,tF]
   simp only[copyV,aP,fO];rw[show Nat.min m.length (b-a)=0 from hm,mc,hr];simp only;rw[F0]
theorem Jd (s:Sat h (bf v l::S)){b:Nat}(ha:a<=l.length)(hb:b<=l.length)(hl:1<=l.length):
  ∃h',copyV Tryz.prog h 29 (slR v a a) (slR v b b)=some (.int .i64 0,h')/\Sat h' (bf v l::S):=by
 have hv:=(s.buf (k:=0) U).view;obtain⟨id,c,cap,rest,rfl,s1,hc,hf⟩:=s.eX hl;obtain⟨off,Bx,e1,e2⟩:=Ls (id:=id) (cap:=cap) (aH _) ha;obtain⟨I,HW,e3,e4⟩:=Ls (id:=id) (cap:=cap) (aH _) hb;rw[e1,e3];have hg:=s1.row (k:=0) U;have hle:(ofBytes l++rest).length=c:=by rw[aO,dJ];exact hc
 have F0:=OF (off:=off) hg (by omega) hle;refine⟨_,?_,hf _ _ U hv.1 (s1.put (k:=0) U)⟩;have hr:rdN h id I 0=some []:=by
  simp only[rdN,hg,eF];rw[aS.2 (by omega),ag];cases hq:(Nat.beq I 0&&Nat.beq 0 c) with
  |true =>
   simp only[bV,beq_iff] at hq;rw[ag,iZ (by omega:(ofBytes l++rest).length=0)]
  |false=>rw[aT,tF]
 simp only[copyV,aP,fO,gK];rw[show Nat.min 0 0=0 from U,mc,hr];simp only;rw[F0];rfl
end
section
variable {o:Oper} {v:V} {m:List Nat}
theorem OpR.J3 {b:Nat}(hP:C.P=Tryz.prog)(s:Sat h (bf v l::X::S))(hX:cC X (cK u m))(I:o.op=.call cl)(hc:cl.callee=.builtin .copy)(yV:cl.argTypes = #[29,29])(ha:lookArgs E cl.args.toList=some [slR v a b,u])
 (mA:a<=b)(hb:b<=l.length)(hl:1<=l.length): OpR C E h o λ_ h₁=>Sat h₁ (bf v (az l a (m.take (b-a)))::X::S):=by
 obtain⟨h₁,e1,e2⟩:=Tq s hX mA hb hl;refine OpR.builtin I hc ha ⟨.int .i64 (min m.length (b-a):Nat),h₁,?_,e2⟩;simp only[builtinV,hP,yV,e1]
theorem OpR.adJ {b:Nat}(hP:C.P=Tryz.prog)(s:Sat h (bf v l::S))(I:o.op=.call cl)(hc:cl.callee=.builtin .copy)(yV:cl.argTypes = #[29,29])(hx:lookArgs E cl.args.toList=some [slR v a a,slR v b b])
 (ha:a<=l.length)(hb:b<=l.length)(hl:1<=l.length): OpR C E h o λ_ h₁=>Sat h₁ (bf v l::S):=by
 obtain⟨h₁,e1,e2⟩:=Jd s ha hb hl;refine OpR.builtin I hc hx ⟨.int .i64 0,h₁,?_,e2⟩;simp only[builtinV,hP,yV,e1]
end
section
variable {told:cu} {v:V}
theorem sX (I:W told){f:Nat}(s:Sat h (bf v b::S))(hl:b.length=512)(hi:30+4*i<=512)(hf:f<65536)(hz:z<65536):
  Call ⟨Tryz.prog,told⟩ 122 [.agg [v],.int .i64 (i:Int),.int .i64 (f:Int),.int .i64 (z:Int)] h λr h'=>r=.aX []/\Sat h' (bf v (mD b i f z)::S):=by
 have hle:∀n,(le 2 n).length=2:=λn=>cQ 2 n;have l1:(az b (26+4*i) (le 2 f)).length=512:=by rw[bG (by rw[hle];omega),hl]
 obtain⟨lS,_,cap,_,rfl,_⟩:=s.eX (by omega);have e1:(26:Int)+4*(i:Int)=((26+4*i:Nat):Int):=by omega
 have e2:(26:Int)+4*(i:Int)+2=((26+4*i+2:Nat):Int):=by omega
 refine Call.of_wp (I.free _ U) Tryz.func122 U U (zg U ?_);refine au.cj s U U U (fC U U) (λp4 h s => ?_);refine zk 4 U (zb U (by exact jf ak) ?_);refine zb U (by exact aL ak) ?_;refine zk 4 U (zl U (s.b9 (k:=0) U bC aV) (zk 2 U (zo U (cS U (by exact kU b_ eZ iO)) ?_)));rw[e1];refine zc U (nW (a:=26+4*i) (z:=2) (n:=f) I (s.ae [1]) (by decide) (by decide) (by omega) (by omega)) ?_;rintro r h ⟨rfl,s⟩;have s:=s.ae [1,0];refine zk 2 U (zl U (s.b9 (k:=0) U bC aV) (zm U (zo U (aq (r:=.int .i64 ((26+4*i+2:Nat):Int)) U U (by rw[<-e2,<-e1];exact aL ak)) ?_)));refine zm U (zo U (cS U (by exact kU b_ eZ iO)) ?_);refine zc U (nW (a:=26+4*i+2) (z:=2) (n:=z) I (s.ae [1]) (by decide) (by decide) (by omega) (by omega)) ?_;rintro r h ⟨rfl,s⟩;exact zv ⟨aa,_,U,U,s.del 1⟩
theorem Ig (hT:W told)(s:Sat h S)(hk:getA S k=some X)(hX:cC X (cK v b))(hp:fh b kd link extra cs)(hc:cs[i]?=some c):
  Call ⟨Tryz.prog,told⟩ 187 [.agg [v],.int .i64 (i:Int)] h λr h'=>∃f,r=slR3 v f (f+c.length) (f+c.length)/\cC X (cK r c)/\Sat h' S:=by
 have hv:=s.aC hk hX;have hl:=hp.len;have hi:=(List.getElem?_eq_some_iff.1 hc).1;have dx:=hp.fits;have oY:=hp.low;obtain⟨s1,s2,s3⟩:=hp.slot i c hc;have I7:=lG (cs:=cs) (i:=i+1);have Lr:=iW hc;have I:=hp.cell hc;generalize hf:bB b i=f at s1 s3 I;obtain⟨pi,po,pc,rfl⟩:=iB hv;refine Call.of_wp (hT.free _ U) Tryz.func187 U U (zg U ?_);refine au.cj s U U U (fC U U) (λp2 h s => ?_);refine zk 4 U (zl U (s.b9 (k:=0) U bC aV) (zm U (zc U (tQ hT s (kT hk) hX hl (by omega)) ?_)));rintro r h' ⟨rfl,s⟩;rw[hf,s2];refine zk 8 U (zY s 0 ey bS U (zk 3 U (zb U (by exact aL ak) ?_)));refine zk 2 U (zb U (by exact aL ak) ?_);have e1:(f:Int)+(c.length:Int)=((f+c.length:Nat):Int):=by omega
 have jF:=uh (s.aC (kT hk) hX) (a:=f) (b:=f+c.length) (c:=f+c.length) (by omega) (aH _) (by omega) (by omega);rw[e1];refine zo U (bK (p:=some (.int .i64 (f:Int))) (q:=some (.int .i64 ((f+c.length:Nat):Int))) (m:=some (.int .i64 ((f+c.length:Nat):Int))) (p':=some f) (q':=some (f+c.length)) (m':=some (f+c.length)) U U U U (by rw[bN];rfl) (by rw[bN];rfl) (by rw[bN];rfl) jF) ?_;refine zk 2 U (WP.ret ⟨aa,_,U,?_⟩);refine⟨f,U,?_,s.drop⟩;have:=B0 hX (a:=f) (b:=f+c.length) (c:=f+c.length) (by omega) (aH _) (by omega) (by omega);rw[l8,show f+c.length-f=c.length by omega,I] at this;exact this
theorem aaa (hT:W told)(s:Sat h S)(hk:getA S k=some X)(hX:cC X (cK v b))(I:fh b kd link extra cs):
  Call ⟨Tryz.prog,told⟩ 125 [.agg [v]] h λr h'=>r=.int .i64 (486-(4*(cs.length:Int)+(tot cs:Int)))/\Sat h' S:=by
 have hv:=s.aC hk hX;have hl:=I.len;have dx:=I.fits;have oY:=I.low;obtain⟨pi,po,pc,rfl⟩:=iB hv;refine Call.of_wp (hT.free _ U) Tryz.func125 U U (zg U ?_);refine au.cj s U U U (fC U U) (λp1 h s => ?_);refine zk 3 U ?_;have s0:=s;refine WP.drawn [none,none,some (1,2),some (0,2),af,af,af,af] U (by kernel_rfl) (by kernel_rfl) ?_;refine zL U (s.b9 (k:=0) U bC aV) (aB.any U U U U (OpR.call U U U U (B6 hT s (kT hk) hX hl)) ?_);rintro r h' ⟨rfl,s⟩;have s1:=s;refine zO U (aq U U (by exact dV ak)) ?_;refine zL U (s.b9 (k:=0) U bC aV) (aB.any U U U U (OpR.call U U U U (gy hT s (kT hk) hX hl)) ?_);rintro r h' ⟨rfl,s⟩;rw[I.gu];refine zO U (aq U U (by exact jf ak)) ?_;refine zO U (aq U U (by exact dV ak)) ?_;refine zA U ?_;refine aB.nil ⟨⟨aa,aa,λ_ _=>.inr ⟨U,⟨_,aq U U (by exact dV ak)⟩,bx _ U⟩,gF (.inr ⟨U,⟨_,o_load U (s0.b9 (k:=0) U bC aV)⟩,bx _ U⟩) (.inr ⟨U,⟨_,o_load U (s1.b9 (k:=0) U bC aV)⟩,bx _ U⟩),yr 5⟩,?_⟩;refine WP.ret ⟨aa,_,U,?_⟩;exact⟨dg (V.int .i64) (by omega),s.drop⟩
noncomputable def pfL : Code:=dm [1,1,0,1,0,0] ((Tryz.f123.body).getD .skip)
theorem QK (hT:W told)(hX:cC X (cK x b))(IN:x.cells=[x])(hp:fh b kd link extra cs): ∀(m i:Nat) (h:H) (E:List (Nat×V)) (Q:Ex->List (Nat×V)->H->Prop),i+m=cs.length ->
  Sat h (pt p1 (.cells 1 [x] false)::X::S)->Has E [(1,.ptr p1 0),(3,.int .i64 (486-(4*(cs.length:Int)+(tot (cs.take i):Int)))),(12,.int .i64 (cs.length:Int)),(13,.int .i64 (i:Int))] ->
  (∀E' h',Has E' [(3,.int .i64 (486-(4*(cs.length:Int)+(tot cs:Int))))]->Sat h' (pt p1 (.cells 1 [x] false)::X::S)->Q (.exit 0) E' h')->WP ⟨Tryz.prog,told⟩ 27 (.loop pfL) E h Q:=by
 have hl:=hp.len;have dx:=hp.fits;intro m;induction m with
 |zero =>
  intro i h E Q hi s hE hq;refine WP.loop (WP.has hE (zg U (zC U aK (by simp<;>omega) ?_)));refine zk 3 U (WP.exit ?_);refine hq _ _ ⟨?_,aa⟩ s;rw[show cs.take i=cs from h_ (by omega)];rfl
 |succ m ih =>
  intro i h E Q hi s hE hq;have I:cs[i]?=some (cs[i]'(by omega)):=aF _;generalize (cs[i]'(by omega))=c at I;obtain⟨s1,s2,s3⟩:=hp.slot i c I;have I7:=lG (cs:=cs) (i:=i+1);have Lr:=iW I;refine WP.loop (WP.has hE (zg U (zB U aK (by simp<;>omega) ?_)));refine zk 5 U (WP.block (zK 7 U (zl U (s.b9 (k:=0) U bC aV) (zm U (zc U (tQ hT (i:=i) s (k:=1) U hX hl (by omega)) ?_)))));rintro r h' ⟨rfl,s⟩;rw[s2];refine zk 9 U (zb U (by exact dV ak) ?_);refine za U (zv (zr U (zb U (by exact aL ak) ?_)));refine zm U (zv ?_);refine ih (i+1) _ _ Q (by omega) s ⟨U,?_,U,U,aa⟩ hq;exact dg (λz=>some (V.int .i64 z)) (by omega)
theorem Wo (hT:W told)(s:Sat h (X::S))(hX:cC X (cK v b))(I:fh b kd link extra cs):
  Call ⟨Tryz.prog,told⟩ 123 [.agg [v]] h λr h'=>r=.int .i64 (486-(4*(cs.length:Int)+(tot cs:Int)))/\Sat h' (X::S):=by
 have hv:=s.aC (k:=0) U hX;have hl:=I.len;have dx:=I.fits;obtain⟨pi,po,pc,rfl⟩:=iB hv;refine Call.of_wp (hT.free _ U) Tryz.func123 U U (zg U ?_);refine au.cj s U U U (fC U U) (λp1 h s => ?_);refine zk 4 U (zl U (s.b9 (k:=0) U bC aV) (zc U (gy hT s (k:=1) U hX hl) ?_));rintro r h' ⟨rfl,s⟩;rw[I.gu];refine zb U (by exact jf ak) ?_;refine zb U (by exact dV ak) ?_;refine zk 5 U (zl U (s.b9 (k:=0) U bC aV) (zc U (gy hT s (k:=1) U hX hl) ?_));rintro r h' ⟨rfl,s⟩;rw[I.gu];refine zk 2 U (WP.block ?_);refine QK hT hX U I cs.length 0 _ _ _ (by omega) s ⟨U,?_,U,U,aa⟩ (λE' h' hE s' => ?_)
 .exact dg (λz=>some (V.int .i64 z)) (by have:tot (cs.take 0)=0:=rfl;omega)
 have s:=s';exact WP.has hE (zK 5 U (WP.ret ⟨aa,_,U,U,s.del 0⟩))
theorem EP (I:W told)(s:Sat h (bf v b::X::S))(hX:cC X (cK x c))(hl:b.length=512)(hi:30+4*i<=512)(jG:dA b=lo+c.length)(QL:lo+c.length<=512):
  Call ⟨Tryz.prog,told⟩ 127 [.agg [v],.int .i64 (i:Int),x] h λr h'=>r=.aX []/\Sat h' (bf v (mD (az (az b lo c) 16 (le 2 lo)) i lo c.length)::X::S):=by
 have hle:∀n,(le 2 n).length=2:=λn=>cQ 2 n;have l1:(az b lo c).length=512:=by rw[bG,hl]
 have l2:(az (az b lo c) 16 (le 2 lo)).length=512:=by rw[bG (by rw[hle];omega),l1]
 obtain⟨lS,_,cap,_,rfl,_⟩:=s.eX (by omega);have hxv:=s.aC (k:=1) U hX;have hx:=hxv.cells;refine Call.of_wp (I.free _ U) Tryz.func127 U U (zg U ?_);refine au.cj s U U U (fC U U) (λp3 h s => ?_);refine zk 3 U (zl U (s.b9 (k:=0) U bC aV) (zc U (B6 I s (k:=1) U (bh _ _) hl) ?_));rintro r h' ⟨rfl,s⟩;rw[jG];refine zm U (zo U (aD U U U (bw aP (s.aC (k:=2) U hX))) (zo U (aq (r:=.int .i64 (lo:Int)) U U (by rw[show((lo:Nat):Int)=((lo+c.length:Nat):Int)-(c.length:Int) by omega];exact dV ak)) ?_));refine zk 4 U (zY s 0 ey bS U (zm U ?_));have jF:=iu (s.aC (k:=1) U (bh _ _)) (a:=lo) (by omega);refine zo U (bK (p:=some (.int .i64 (lo:Int))) (q:=none) (m:=none) (p':=some lo) (q':=none) (m':=none) U U U U (by rw[bN];rfl) U U jF.1) ?_;refine zm U (au.any U U U (OpR.J3 U (s.ae [1,1]) hX U U U U (by omega) (aH _) (by omega)) ?_);intro r h s;rw[h_ (by omega)] at s;have s:=s.ae [2,0,0];refine zk 3 U (zl U (s.b9 (k:=0) U bC aV) (zm U (zo U (cS U (by exact kU b_ eZ iO)) ?_)));refine zc U (nW (a:=16) (z:=2) (n:=lo) I (s.ae [1]) (by decide) (by decide) (by omega) (by omega)) ?_;rintro r h ⟨rfl,s⟩;have s:=s.ae [1,0,0];refine zk 2 U (zl U (s.b9 (k:=0) U bC aV) (zk 3 U (zo U (aD U U U (bw aP (s.aC (k:=2) U hX))) (zc U (sX (i:=i) (f:=lo) (z:=c.length) I (s.ae [1]) l2 hi (by omega) (by omega)) ?_))));rintro r h ⟨rfl,s⟩;exact zv ⟨aa,_,U,U,s.del 1⟩
end
section
variable {told:cu} {v:V}
theorem Je (hT:W told)(s:Sat h S)(Gv:kd<=255):
  Call ⟨Tryz.prog,told⟩ 166 [.int .i64 (kd:Int)] h λr h'=>∃u,r=.aX [u,.int .i64 0]/\Sat h' (bf u (yl kd)::S):=by
 refine Call.of_wp (hT.free _ U) Tryz.func166 U U (zK 9 U (zC U aK (by simp) ?_));refine zk 2 U (zC U cA (by simp;omega) ?_);refine zk 6 U (au.any U U U (OpR.J0 U s U U U U (by decide)) ?_);intro u h s;have hl:(List.replicate 512 0).length=512:=gA;have hn:yl kd=az ((List.replicate 512 0).set 12 kd) 16 (le 2 512):=rfl;generalize List.replicate 512 0=l at hl hn s;obtain⟨lS,_,cap,_,rfl,_⟩:=s.eX (by omega);refine zo U (cO U (by rw[As];rfl)) ?_;refine au.cj s U U U (cm jD) (λp4 h s => ?_);refine zS U (s.gZ (j:=0) U aV U U) (λh s => ?_);refine zk 3 U (zY s 0 ey bS U (zm U (zo U (cS U (by exact kU b_ Tryz.underlying5 uB)) ?_)));have s:=s.ae [1,0];obtain⟨wH,I,e3,h2,e4,s2⟩:=oU s (i:=12) (b:=kd) (by omega) (by omega);have iL:(l.set 12 kd).length=512:=by rw[cG,hl]
 refine zo U (bM (r:=.ptr wH I) U U e3) (zS U (⟨h2,e4,s2⟩) ?_);rintro h s;have s:=s.ae [1,0];refine zk 3 U (zl U (s.b9 (k:=0) U bC aV) (zc U (nW (a:=16) (z:=2) (n:=512) hT (s.ae [1]) (by decide) (by decide) (by omega) (by omega)) ?_));rintro r h ⟨rfl,s⟩;have s:=s.ae [1,0];refine zk 3 U (zY s 0 ey bS U (zk 3 U (WP.ret ⟨aa,_,U,?_⟩)));refine⟨_,U,?_⟩;rw[hn];exact s.drop
theorem Lt (hT:W told)(s:Sat h S)(I:kd<=255):
  Call ⟨Tryz.prog,told⟩ 166 [.int .i64 (kd:Int)] h λr h'=>∃u b,r=.aX [u,.int .i64 0]/\fh b kd 0 0 []/\Sat h' (bf u b::S) :=
 (Je hT s I).mono λr h' ⟨u,e,s⟩=>⟨u,_,e,fh.new (k:=kd),s⟩
theorem OG (I:W told){lk ex:Nat}(s:Sat h (X::S))(hX:cC X (cK v b))(hp:fh b kd link extra cs)(Lu:lk<4294967296)(hex:ex<4294967296):
  Call ⟨Tryz.prog,told⟩ 167 [v,.int .i64 (lk:Int),.int .i64 (ex:Int)] h λr h'=>∃u b',r=.aX [u,.int .i64 0]/\fh b' kd lk ex cs/\Sat h' (bf u b'::X::S):=by
 have hl:=hp.len;have hle:∀n,(le 4 n).length=4:=λn=>cQ 4 n;have l1:(az b 18 (le 4 lk)).length=512:=by rw[bG (by rw[hle];omega),hl]
 refine Call.of_wp (I.free _ U) Tryz.func167 U U (zK 8 U (zc U (pS I s hX (by omega)) ?_));rintro r h' (⟨hg,u,rfl,s⟩|⟨hg,rfl,s⟩)
 .obtain⟨lS,_,cap,_,rfl,_⟩:=s.eX (by omega);refine zk 3 U ?_;refine au.cj s U U U (cm jD) (λp8 h s => ?_);dsimp only[V.cells,List.length_cons,List.length_nil,Nat.reduceAdd] at s;refine zS U (s.gZ (j:=0) U aV U U) (λh s => ?_);dsimp only[setA] at s;refine zk 3 U (WP.block (zK 3 U (zC U aG (U) (zk 6 U (zC U aK (by simp) ?_)))));refine zk 2 U (zC U cA (by simp;omega) ?_);refine zk 3 U (zC U aK (by simp) ?_);refine zk 3 U (zC U cA (by simp;omega) ?_);refine zk 2 U (zv (zj U (WP.skip (zg U (zl U (by exact s.b9 (k:=0) U bC aV) ?_)))));refine zm U (zo U (cS U (by exact kU b_ eZ iO)) ?_);refine zc U (nW (a:=18) (z:=4) (n:=lk) I (s.ae [1]) (by decide) (by decide) (by omega) (by omega)) ?_;rintro r h' ⟨rfl,s⟩;have s:=s.ae [1,0];refine zk 3 U (zl U (s.b9 (k:=0) U bC aV) (zm U (zo U (cS U (by exact kU b_ eZ iO)) ?_)));refine zc U (nW (a:=22) (z:=4) (n:=ex) I (s.ae [1]) (by decide) (by decide) (by omega) (by omega)) ?_;rintro r h' ⟨rfl,s⟩;have s:=s.ae [1,0];exact zk 3 U (zY s 0 ey bS U (zk 3 U (WP.ret ⟨aa,_,U,_,_,U,hp.set Lu hex,s.drop⟩)))
 .rw[hp.good] at hg;cases hg
theorem xK (hT:W told)(s:Sat h (X::S))(I:cC X (cK v l))(hl:l.length<1073741824):
  Call ⟨Tryz.prog,told⟩ 202 [v] h λr h'=>Sat h' (bf r l::X::S):=by
 have hv:=s.aC (k:=0) U I;refine Call.of_wp (hT.free _ U) Tryz.func202 U U (zK 7 U (zo U (aD U U U (bw aP (s.aC (k:=0) U I))) (au.any U U U (OpR.uD U s U U U U (by omega)) ?_)));intro u h s;refine zm U (au.any U U U (OpR.qB U s I U U U U (by simp;omega)) ?_);intro u2 h s;rw[dL] at s;exact zk 2 U (WP.ret ⟨aa,_,U,s⟩)
theorem Wp (I:W told)(s:Sat h (X::S))(hX:cC X (cK v b))(hp:fh b kd link extra cs)(hc:cs[i]?=some c):
  Call ⟨Tryz.prog,told⟩ 164 [v,.int .i64 (i:Int)] h λr h'=>∃u,r=.aX [u,.int .i64 0]/\Sat h' (bf u c::X::S):=by
 have hl:=hp.len;have hv:=s.aC (k:=0) U hX;have hi:=(List.getElem?_eq_some_iff.1 hc).1;have dx:=hp.fits;have I7:=lG (cs:=cs) (i:=i+1);have Lr:=iW hc;obtain⟨pi,po,pc,rfl⟩:=iB hv;refine Call.of_wp (I.free _ U) Tryz.func164 U U (zK 8 U (zc U (uF I s hX (by omega)) ?_));rintro r h' ⟨s,(⟨hg,rfl⟩|⟨hg,rfl⟩)⟩
 .refine au.op U U U (b7 U) ?_;refine zk 2 U ?_;refine au.cj s U U U (cm jD) (λp6 h s => ?_);dsimp only[V.cells,List.length_cons,List.length_nil,Nat.reduceAdd] at s;refine zS U (s.gZ (j:=0) U aV U U) (λh s => ?_);dsimp only[setA] at s;refine zk 3 U (WP.block (zK 3 U (zC U aG (U) (zk 6 U (zC U aK (by simp) ?_)))));refine zk 2 U (zl U (s.b9 (k:=0) U bC aV) (zc U (gy I s (k:=1) U hX hl) ?_));rintro r h' ⟨rfl,s⟩;rw[hp.gu];refine zC U j6 (by simp;omega) ?_;refine zk 2 U (zv (zj U (WP.skip (zg U (zl U (by exact s.b9 (k:=0) U bC aV) ?_)))));refine zm U (zc U (Ig (i:=i) I s (k:=1) U hX hp hc) ?_);rintro r h' ⟨f,rfl,hr,s⟩;refine zc U (xK I (s.ae [1]) hr (by omega)) ?_;intro u h s;exact zk 3 U (WP.ret ⟨aa,_,U,_,U,s.del 2⟩)
 .rw[hp.good] at hg;cases hg
end
theorem ry : ∃i,Tryz.prog.info? 29=some i/\i.size=1/\i.bytes=24 :=
 ⟨_,(show Tryz.prog.info? 29=some ((Tryz.prog.info? 29).getD default) by kernel_rfl),by kernel_rfl,by kernel_rfl⟩
section
variable {told:cu} {v:V}
theorem OH (I:W told)(s:Sat h (X::Y::S))(hX:cC X (cK v b))(hY:cC Y (cK x c))(hp:fh b kd link extra cs)(hf:26+4*(cs.length+1)+(tot cs+c.length)<=512):
  Call ⟨Tryz.prog,told⟩ 53 [v,.int .i64 (cs.length:Int),x] h λr h'=>∃u b',r=.aX [u,.int .i64 0]/\fh b' kd link extra (cs++[c])/\Sat h' (bf u b'::X::Y::S):=by
 have hl:=hp.len
 have oY:=hp.low
 have hle:∀n,(le 2 n).length=2:=λn=>cQ 2 n
 generalize hn:cs.length=n at hf
 have qX:=hp.gu
 have jG:∃lo,lo+(tot cs+c.length)=512:=⟨512-(tot cs+c.length),by omega⟩
 obtain⟨lo,jG⟩:=jG
 have l1:(az b 14 (le 2 (n+1))).length=512:=by grind[bG]
 have iL:dA (az b 14 (le 2 (n+1)))=lo+c.length:=by
  grind[dA,Ie]
 refine Call.of_wp (I.free _ U) Tryz.func53 U U (zK 8 U (zc U (pS I s hX (by omega)) ?_))
 rintro r h' (⟨hg,u,rfl,s⟩|⟨hg,rfl,s⟩)
 .obtain⟨lS,_,cap,_,rfl,_⟩:=s.eX (by omega)
  refine zk 3 U ?_
  refine au.cj s U U U (cm jD) (λp8 h s => ?_)
  dsimp only[V.cells,List.length_cons,List.length_nil,Nat.reduceAdd] at s
  refine zS U (s.gZ (j:=0) U aV U U) (λh s => ?_)
  dsimp only[setA] at s
  refine zk 3 U (WP.block (zK 3 U (zC U aG (U) (zk 6 U (zC U aK (by simp) ?_)))))
  refine zk 2 U (zl U (s.b9 (k:=0) U bC aV) (zc U (gy I s (k:=1) U (bh _ _) hl) ?_))
  rintro r h' ⟨rfl,s⟩
  rw[qX,hn]
  refine zC U cA (by simp) ?_
  refine zk 6 U (zl U (s.b9 (k:=0) U bC aV) (zc U (Wo I (s.ae [1]) (bh _ _) hp) ?_))
  rintro r h' ⟨rfl,s⟩
  have s:=s.ae [1,0]
  dsimp only[aM,bringA,getA] at s
  rw[hn]
  refine zm U (zo U (aD U U U (bw aP (s.aC (k:=3) U hY))) (zb U (by exact aL ak) ?_))
  refine zC U aK (by grind) ?_
  refine za U (zv (zj U (WP.skip (zw (zg U (zl U (by exact s.b9 (k:=0) U bC aV) ?_))))))
  refine zc U (aaa I s (k:=1) U (bh _ _) hp) ?_
  rintro r h' ⟨rfl,s⟩
  rw[hn]
  refine zm U (zo U (aD U U U (bw aP (s.aC (k:=3) U hY))) (zb U (by exact aL ak) ?_))
  refine zC U aK (by grind) ?_
  refine zv (zj U (WP.skip (zg U (zl U (by exact s.b9 (k:=0) U bC aV) ?_))))
  refine zc U (gy I s (k:=1) U (bh _ _) hl) ?_
  rintro r h' ⟨rfl,s⟩
  rw[qX,hn]
  refine zk 3 U ?_
  have q1:((26:Int)+4*((n:Int)+1)).toNat=30+4*n:=by omega
  have q2:((26:Int)+4*(n:Int)).toNat=26+4*n:=by omega
  have s0:=s
  refine WP.drawn [af,af,af,af,af,af,af,af,af,af,af,af,af,af,af,af,af,af,af,af,af] U (by kernel_rfl) (by kernel_rfl) ?_
  refine zF U (ey _ _) (zL U (s.ld (k:=0) U bS U) (zM U (zO U (aq U U (by exact aL ak)) ?_)))
  refine zO U (aq U U (by exact jf ak)) ?_
  refine zO U (aq U U (by exact aL ak)) ?_
  refine zM U (zO U (aq U U (by exact aL ak)) ?_)
  refine zO U (aq U U (by exact jf ak)) ?_
  refine zO U (aq U U (by exact aL ak)) ?_
  refine zO U (bK (p:=some (.int .i64 (26+4*((n:Int)+1)))) (q:=some (.int .i64 (26+4*((n:Int)+1)))) (m:=none) (p':=some (30+4*n)) (q':=some (30+4*n)) (m':=none) U U U U (by rw[bN,q1]) (by rw[bN,q1]) U (fR (s.buf (k:=1) U).view (aH _) (by omega)).1) ?_
  refine zF U (ey _ _) (zL U (s.ld (k:=0) U bS U) (zM U (zO U (aq U U (by exact jf ak)) ?_)))
  refine zO U (aq U U (by exact aL ak)) ?_
  refine zM U (zO U (aq U U (by exact jf ak)) ?_)
  refine zO U (aq U U (by exact aL ak)) ?_
  refine zO U (bK (p:=some (.int .i64 (26+4*(n:Int)))) (q:=some (.int .i64 (26+4*(n:Int)))) (m:=none) (p':=some (26+4*n)) (q':=some (26+4*n)) (m':=none) U U U U (by rfl) (by rfl) U (fR (s.buf (k:=1) U).view (aH _) (by omega)).1) ?_
  refine aB.any U U U U (OpR.adJ U (s.ae [1]) U U U U (by omega) (by omega) (by omega)) ?_
  intro r h s
  have s:=s.ae [1,0]
  refine aB.nil ⟨⟨aa,aa,aa,aa,aa,aa,aa,aa,aa,aa,aa,aa,aa,aa,aa,aa,aa,aa,aa,aa,aa,aa⟩,?_⟩
  refine zg U (zl U (s.b9 (k:=0) U bC aV) (zm U (zb U (by exact aL ak) ?_)))
  refine zo U (cS U (by exact kU b_ eZ iO)) ?_
  have en:(n:Int)+1=((n+1:Nat):Int):=by omega
  rw[en]
  refine zc U (nW (a:=14) (z:=2) (n:=n+1) I (s.ae [1]) (by decide) (by decide) (by omega) (by omega)) ?_
  rintro r h ⟨rfl,s⟩
  have s:=s.ae [1,0]
  refine zk 3 U (zl U (s.b9 (k:=0) U bC aV) (zk 2 U (zc U (EP (i:=n) (lo:=lo) I (s.ae [1,2]) hY l1 (by omega) iL (by omega)) ?_)))
  rintro r h ⟨rfl,s⟩
  have s:=s.ae [2,0,1,0]
  refine zk 3 U (zY s 0 ey bS U (zk 3 U (WP.ret ⟨aa,_,U,?_⟩)))
  subst hn
  exact⟨_,_,U,hp.ins hf jG,s.drop⟩
 .rw[hp.good] at hg;cases hg
theorem OI (hT:W told)(s:Sat h (X::Y::S))(hX:cC X (cK v b))(hY:cC Y (cK x c'))(hp:fh b kd link extra cs)(hc:cs[i]?=some c)(OJ:c'.length=c.length):
  Call ⟨Tryz.prog,told⟩ 51 [v,.int .i64 (i:Int),x] h λr h'=>∃u b',r=.aX [u,.int .i64 0]/\fh b' kd link extra (cs.set i c')/\Sat h' (bf u b'::X::Y::S):=by
 have hl:=hp.len;have dx:=hp.fits;have hi:=(List.getElem?_eq_some_iff.1 hc).1;have Lr:=iW hc;have I:=hp.rep hc OJ;obtain⟨s1,s2,s3⟩:=hp.slot i c hc;generalize hf:bB b i=f at s1 s3 I;have l1:(az b f c').length=512:=by rw[bG,hl]
 refine Call.of_wp (hT.free _ U) Tryz.func51 U U (zK 8 U (zc U (pS hT s hX (by omega)) ?_));rintro r h' (⟨hg,u,rfl,s⟩|⟨hg,rfl,s⟩)
 .obtain⟨lS,_,cap,_,rfl,_⟩:=s.eX (by omega);refine zk 3 U ?_;refine au.cj s U U U (cm jD) (λp8 h s => ?_);dsimp only[V.cells,List.length_cons,List.length_nil,Nat.reduceAdd] at s;refine zS U (s.gZ (j:=0) U aV U U) (λh s => ?_);dsimp only[setA] at s;refine zk 3 U (WP.block (zK 3 U (zC U aG (U) (zk 6 U (zC U aK (by simp) ?_)))));refine zk 2 U (zl U (s.b9 (k:=0) U bC aV) (zc U (gy hT s (k:=1) U (bh _ _) hl) ?_));rintro r h' ⟨rfl,s⟩;rw[hp.gu];refine zC U j6 (by grind) ?_;refine zk 2 U (zv (zj U (WP.skip (zg U (zl U (by exact s.b9 (k:=0) U bC aV) ?_)))));refine zm U (zc U (tQ (i:=i) hT s (k:=1) U (bh _ _) hl (by omega)) ?_);rintro r h' ⟨rfl,s⟩;rw[hf,s2];refine zk 10 U (zo U (aD U U U (bw aP (s.aC (k:=3) U hY))) (zm U (zB U tK (by grind) ?_)));refine zk 4 U (zY s 0 ey bS U (zm U ?_));have jF:=iu (s.aC (k:=1) U (bh _ _)) (a:=f) (by omega);refine zo U (bK (p:=some (.int .i64 (f:Int))) (q:=none) (m:=none) (p':=some f) (q':=none) (m':=none) U U U U (by rfl) U U jF.1) ?_;refine zm U (au.any U U U (OpR.J3 U (s.ae [1,2]) hY U U U U (by omega) (aH _) (by omega)) ?_);intro r h s;rw[h_ (by omega)] at s;have s:=s.ae [2,0,1,0];refine zk 3 U (zl U (s.b9 (k:=0) U bC aV) (zk 3 U (zo U (aD U U U (bw aP (s.aC (k:=3) U hY))) (zc U (sX (i:=i) (f:=f) (z:=c'.length) hT (s.ae [1]) l1 (by omega) (by omega) (by omega)) ?_))));rintro r h ⟨rfl,s⟩;have s:=s.ae [1,0];exact zk 3 U (zY s 0 ey bS U (zk 3 U (WP.ret ⟨aa,_,U,_,_,U,I,s.drop⟩)))
 .rw[hp.good] at hg;cases hg
theorem QM (I:W told){c0 c1:List Nat}(s:Sat h (X::S))(hX:cC X (cK v b))(hp:fh b kd link extra [c0,c1]):
  Call ⟨Tryz.prog,told⟩ 160 [v] h λr h'=>∃w u0 u1,r=.aX [w,.int .i64 0]/\Sat h' (.arr 1 w [u0,u1]::bf u0 c0::bf u1 c1::X::S):=by
 have hl:=hp.len;have hv:=s.aC (k:=0) U hX;have dx:=hp.fits;simp only[tot,aW,b6] at dx;obtain⟨pi,po,pc,rfl⟩:=iB hv;obtain⟨i1,c9,fH,pR⟩:=ry;refine Call.of_wp (I.free _ U) Le U U (zK 8 U (zc U (uF I s hX (by omega)) ?_));rintro r h' ⟨s,(⟨hg,rfl⟩|⟨hg,rfl⟩)⟩
 .refine au.op U U U (b7 U) ?_;refine zk 2 U ?_;refine au.cj s U U U (cm jD) (λp4 h s => ?_);dsimp only[V.cells,List.length_cons,List.length_nil,Nat.reduceAdd] at s;refine zS U (s.gZ (j:=0) U aV U U) (λh s => ?_);dsimp only[setA] at s;refine zk 6 U (zC U aG (U) (zk 5 U (zl U (s.b9 (k:=0) U bC aV) (zc U (gy I s (k:=1) U hX hl) ?_))));rintro r h' ⟨rfl,s⟩;rw[show jI b=2 from hp.gu];obtain⟨wv,h1,e3,s1⟩:=BY (P:=Tryz.prog) s aQ c9 lK fH (by omega) U (by decide) (by decide) (n:=0) (c:=2) (by decide) (by decide);refine au.any U U U (OpR.of (R:=λv h'=>v=wv/\h'=h1) (Al U U e3) ⟨U,U⟩) ?_;rintro w0 h ⟨rfl,rfl⟩;have s:Sat h (.arr 1 w0 []::_):=s1;have s:=s.ae [1,1,0];dsimp only[bringA,getA,aM] at s;refine zk 5 U (zl U (s.b9 (k:=0) U bC aV) (zc U (gy I s (k:=1) U hX hl) ?_));rintro r h' ⟨rfl,s⟩;rw[show jI b=2 from hp.gu];refine zk 2 U (WP.block (WP.loop (zg U (zB U aK (by decide) ?_))));refine zk 5 U (WP.block (zK 7 U (zl U (s.b9 (k:=0) U bC aV) (zm U (zc U (Ig (i:=0) (c:=c0) I s (k:=1) U hX hp U) ?_)))));rintro r h' ⟨f,rfl,hr,s⟩;refine zc U (xK I (s.ae [1]) hr (by omega)) ?_;intro u0 h s;have Ys:=(s.buf (k:=0) U).view.cells;have s:=s.ae [3];dsimp only[aM,bringA,getA] at s;obtain⟨iv,h1,wP,s1⟩:=kV (P:=Tryz.prog) (k:=1) (x:=u0) s aQ lK dP U (by decide) (by decide) (by grind) (by grind);rw[Ys.1] at s1;refine au.any U U U (OpR.of (R:=λv h'=>v=iv/\h'=h1) (je U wP) ⟨U,U⟩) ?_;rintro v' h' ⟨rfl,rfl⟩;obtain⟨av,h2,sR,s2⟩:=iw (s1.ae [1,0]) aQ c9 lK fH (by omega) U (by decide) (by simp);dsimp only[List.nil_append,aM,bringA] at s2;refine au.any U U U (OpR.of (R:=λv h'=>v=av/\h'=h2) (iY U U sR) ⟨U,U⟩) ?_;rintro v' h ⟨rfl,rfl⟩;have s:=(s2.del 1).ae [3,2,0,0];dsimp only[aM,bringA,getA] at s;refine za U (zv (zr U (zb U (by exact aL ak) ?_)));refine zm U (zv (WP.loop (zg U (zt U (aq U U aK) (by decide) ?_))));refine zk 5 U (WP.block (zK 7 U (zl U (s.b9 (k:=0) U bC aV) (zm U (zc U (Ig (i:=1) (c:=c1) I s (k:=1) U hX hp U) ?_)))));rintro r h' ⟨f1,rfl,Yr,s⟩;refine zc U (xK I (s.ae [1]) Yr (by omega)) ?_;intro u1 h s;have Yt:=(s.buf (k:=0) U).view.cells;have s:=s.ae [3];dsimp only[aM,bringA,getA] at s;obtain⟨iv1,h1,wP,s1⟩:=kV (P:=Tryz.prog) (k:=1) (x:=u1) s aQ lK dP U (by decide) (by decide) (by grind) (by grind);rw[Yt.1] at s1;refine au.any U U U (OpR.of (R:=λv h'=>v=iv1/\h'=h1) (je U wP) ⟨U,U⟩) ?_;rintro v' h' ⟨rfl,rfl⟩;obtain⟨av1,h2,sR,s2⟩:=iw (s1.ae [1,0]) aQ c9 lK fH (by omega) U (by decide) (by simp);dsimp only[List.cons_append,List.nil_append,aM,bringA] at s2;refine au.any U U U (OpR.of (R:=λv h'=>v=av1/\h'=h2) (iY U U sR) ⟨U,U⟩) ?_;rintro v' h ⟨rfl,rfl⟩;have s:=(s2.del 1).ae [3,2,0,1,0];dsimp only[aM,bringA,getA] at s;refine za U (zv (zr U (zb U (by exact aL ak) ?_)));refine zm U (zv (WP.loop (zg U (zh U (aq U U aK) (by decide) ?_))));exact zk 3 U (WP.exit (zK 6 U (WP.ret ⟨aa,_,U,_,_,_,U,(s.ae [2,2,2,1]).del 4⟩)))
 .rw[hp.good] at hg;cases hg
end
structure bH (b:List Nat)(k link extra:Nat)(cs:List (List Nat)): Prop where
 len:b.length=512
 Eh:b.getD 13 0=0
 kind:b.getD 12 0=k
 link:dQ b 18 4=link
 extra:dQ b 22 4=extra
 gu:jI b=cs.length
 low:26+4*cs.length<=dA b/\dA b<=512
 fits:26+4*cs.length+tot cs<=512
 slot:∀i c,cs[i]?=some c->dA b<=bB b i/\bB b i+c.length<=512/\er b i=c.length/\∀j,j<c.length->b[bB b i+j]?=c[j]?
 OK:∀i j c d,i≠j->cs[i]?=some c->cs[j]?=some d->bB b i+c.length<=bB b j\/bB b j+d.length<=bB b i\/c.length=0\/d.length=0
section
theorem fh.f (h:fh b k link extra cs): bH b k link extra cs:=by
 have oY:=h.low;have dx:=h.fits;have main:∀i j c d,i<j->cs[i]?=some c->cs[j]?=some d->bB b j+d.length<=bB b i:=λi j c d pH I hd=>by
  obtain⟨s1,_,_⟩:=h.slot i c I;obtain⟨r1,_,_⟩:=h.slot j d hd;have t1:=iW hd;have t2:=AJ (cs:=cs) (i:=i+1) (j:=j) (by omega);omega
 refine⟨h.len,h.Eh,h.kind,h.link,h.extra,h.gu,by omega,dx,λi c I => ?_,λi j c d pH I hd => ?_⟩
 .obtain⟨s1,s2,s3⟩:=h.slot i c I;have t1:=iW I;have t2:=lG (cs:=cs) (i:=i+1);exact⟨by omega,by omega,s2,s3⟩
 .rcases C5 pH with q|q
  .exact .inr (.inl (main i j c d q I hd))
  .exact .inl (main j i d c q hd I)
theorem bH.cells (h:bH b k link extra cs): ∀(n i:Nat) (t:List Bool),i+n=cs.length->t.length=512->(∀q d,i<=q->cs[q]?=some d->∀j,bB b q<=j->j<bB b q+d.length->t.getD j false=false)->cellsL b (dA b) n i t=true:=by
 intro n;induction n with
 |zero=>intro i t _ _ _;rfl
 |succ n ih =>
  intro i t hi ht hf;have I:cs[i]?=some (cs[i]'(by omega)):=aF _;generalize (cs[i]'(by omega))=c at I;obtain⟨s0,s1,s2,s3⟩:=h.slot i c I;obtain⟨t',e1,e2,e3⟩:=Lq c.length (bB b i) t (by omega) (λj a1 a2=>hf i c (aH _) I j a1 a2);rw[cellsL,s2,ai (by omega),e1];refine ih (i+1) t' (by omega) (by omega) λq d hq hd j a1 a2 => ?_;rw[e3 j (by
   have:=h.OK i q c d (by omega) I hd;omega)]
  exact hf q d (by omega) hd j a1 a2
theorem bH.good (h:bH b k link extra cs): cI b=true:=by
 have I:=h.low;rw[cI,dZ h.len,dZ h.Eh,dZ (by rw[h.gu];omega),h.cells _ _ _ (by rw[h.gu];omega) gA λq d _ _ j _ _ => ?_]
 .rfl
 grind
theorem bH.cell (h:bH b k link extra cs)(I:cs[i]?=some c): (b.drop (bB b i)).take c.length=c:=by
 obtain⟨s0,s1,s2,s3⟩:=h.slot i c I;apply nE;grind
theorem bH.Ih (h:bH b k link extra cs)(hl:b'.length=512)(hh:∀i,12<=i->i<14\/18<=i->i<26->b'[i]?=b[i]?)(hn:jI b'=cs'.length)(I:dA b'=lo)(h1:26+4*cs'.length<=lo)(h2:lo<=512)(hf:26+4*cs'.length+tot cs'<=512)
 (hs:∀i c,cs'[i]?=some c->lo<=bB b' i/\bB b' i+c.length<=512/\er b' i=c.length/\∀j,j<c.length->b'[bB b' i+j]?=c[j]?)
 (hd:∀i j c d,i<j->cs'[i]?=some c->cs'[j]?=some d->bB b' i+c.length<=bB b' j\/bB b' j+d.length<=bB b' i\/c.length=0\/d.length=0): bH b' k link extra cs':=by
 refine⟨hl,?_,?_,?_,?_,hn,by rw[I];exact⟨h1,h2⟩,hf,by rw[I];exact hs,λi j c d pH hc A9 => ?_⟩
 .rw[mN (hh 13 (by decide) (by decide) (by decide))];exact h.Eh
 .rw[mN (hh 12 (by decide) (by decide) (by decide))];exact h.kind
 .rw[dW (m:=b) λi a1 a2=>hh i (by omega) (by omega) (by omega)];exact h.link
 .rw[dW (m:=b) λi a1 a2=>hh i (by omega) (by omega) (by omega)];exact h.extra
 .rcases C5 pH with q|q
  .exact hd i j c d q hc A9
  .rcases hd j i d c q A9 hc with e|e|e|e
   .exact .inr (.inl e)
   .exact .inl e
   .exact .inr (.inr (.inr e))
   .exact .inr (.inr (.inl e))
theorem bH.tail (h:bH b k link extra cs)(hl:b'.length=512)(ht:b'.drop 12=b.drop 12): bH b' k link extra cs:=by
 have hg:∀i,12<=i->b'[i]?=b[i]?:=λi hi=>by
  have:=dg (λl:List Nat=>l[i-12]?) ht;grind
 have I:∀a z,12<=a->dQ b' a z=dQ b a z:=λa z q=>wU ht q;have hF:∀i,bB b' i=bB b i:=λi=>I _ _ (by omega);have hZ:∀i,er b' i=er b i:=λi=>I _ _ (by omega);refine h.Ih hl (λi h1 _ _=>hg i h1) (by rw[jI,I _ _ (by decide)];exact h.gu) (by rw[dA,I _ _ (by decide)];rfl) h.low.1 h.low.2 h.fits (λi c hc => ?_) λi j c d pH hc hd=>by rw[hF,hF];exact h.OK i j c d (by omega) hc hd
 have oY:=h.low;obtain⟨s0,s1,s2,s3⟩:=h.slot i c hc;rw[hF,hZ];exact⟨s0,s1,s2,λj hj=>by rw[hg _ (by omega)];exact s3 j hj⟩
def c8 {α:Type}(i:Nat)(c:α)(l:List α): List α:=l.take i++c::l.drop i
theorem ki {c:α}{l:List α}(hi:i<=l.length): (c8 i c l).length=l.length+1:=by
 simp[c8];omega
theorem nc {c:α}{l:List α}(hi:i<=l.length:=by omega): (c8 i c l)[j]?=if j<i then l[j]? else if j=i then some c else l[j-1]?:=by
 grind[c8]
theorem wV {l:List (List Nat)}: tot (c8 i c l)=tot l+c.length:=by
 have:=tX (a:=l.take i) (b:=l.drop i);rw[jP] at this;rw[c8,tX,tot];omega
def pZ (b:List Nat)(i n:Nat): List Nat:=az b (30+4*i) ((b.drop (26+4*i)).take (4*(n-i)))
def oC (b:List Nat)(i n lo:Nat)(c:List Nat): List Nat:=mD (az (az (az (pZ b i n) 14 (le 2 (n+1))) lo c) 16 (le 2 lo)) i lo c.length
theorem OL {n:Nat}(hl:b.length=512)(hi:i<=n)(I:30+4*n<=512): (pZ b i n).length=512:=by
 grind[pZ,bG]
theorem OM {n:Nat}(hl:b.length=512)(hi:i<=n)(I:30+4*n<=512)(hj:j<30+4*i\/30+4*n<=j): (pZ b i n)[j]?=b[j]?:=by
 unfold pZ;rw[dU (by grind) (by grind)]
theorem abZ {n:Nat}(hl:b.length=512)(hi:i<=n)(I:30+4*n<=512)(h1:26+4*i<=j)(h2:j<26+4*n): (pZ b i n)[j+4]?=b[j]?:=by
 have e:j+4=(30+4*i)+(j-(26+4*i)):=by omega
 rw[pZ,e,mW (by grind) (by grind)];grind
theorem xL {m:List Nat}{d:Nat}(h:∀i,a<=i->i<a+z->l[i+d]?=m[i]?): dQ l (a+d) z=dQ m a z:=by
 unfold dQ;congr 1;apply nE;intro i;simp only[fq,ic];by_cases hi:i<z
 .rw[ay (by omega),ay (by omega)];have:=h (a+i) (by omega) (by omega)
  rwa [show a+i+d=a+d+i by omega] at this
 .rw[ai (by omega),ai (by omega)]
theorem bH.ins (h:bH b k link extra cs)(hi:i<=cs.length)(jG:lo+c.length=dA b)(hr:30+4*cs.length<=lo)(hf:26+4*(cs.length+1)+(tot cs+c.length)<=512): bH (oC b i cs.length lo c) k link extra (c8 i c cs):=by
 have hlen:=h.len;have oY:=h.low;have hle:∀n,(le 2 n).length=2:=λn=>cQ 2 n;have l0:=OL hlen hi (by omega);have l1:(az (pZ b i cs.length) 14 (le 2 (cs.length+1))).length=512:=by grind[bG]
 have l2:(az (az (pZ b i cs.length) 14 (le 2 (cs.length+1))) lo c).length=512:=by rw[bG,l1]
 have l3:(az (az (az (pZ b i cs.length) 14 (le 2 (cs.length+1))) lo c) 16 (le 2 lo)).length=512:=by grind[bG]
 have l4:(oC b i cs.length lo c).length=512:=zI l3 (by omega);have o3:∀j,j<16\/18<=j->(az (az (az (pZ b i cs.length) 14 (le 2 (cs.length+1))) lo c) 16 (le 2 lo))[j]?=(az (az (pZ b i cs.length) 14 (le 2 (cs.length+1))) lo c)[j]?:=λj hj=>dU (by grind) (by grind);have o4:∀j,j<26+4*i\/30+4*i<=j->(oC b i cs.length lo c)[j]?=(az (az (az (pZ b i cs.length) 14 (le 2 (cs.length+1))) lo c) 16 (le 2 lo))[j]?:=λj hj=>zJ l3 (by omega) hj;have o1:∀j,(j<14\/16<=j)->(az (pZ b i cs.length) 14 (le 2 (cs.length+1)))[j]?=(pZ b i cs.length)[j]?:=λj hj=>dU (by grind) (by grind);have o2:∀j,(j<lo\/lo+c.length<=j)->(az (az (pZ b i cs.length) 14 (le 2 (cs.length+1))) lo c)[j]?=(az (pZ b i cs.length) 14 (le 2 (cs.length+1)))[j]?:=λj hj=>dU (by omega) hj;have oS:∀j,(j<14\/18<=j)->(j<26+4*i\/30+4*i<=j)->(j<lo\/lo+c.length<=j)->(oC b i cs.length lo c)[j]?=(pZ b i cs.length)[j]?:=λj a1 a2 a3=>by
  rw[o4 j a2,o3 j (by omega),o2 j a3,o1 j (by omega)]
 have yo:∀j,(j<14\/18<=j)->(j<26+4*i\/30+4*cs.length<=j)->(j<lo\/lo+c.length<=j)->(oC b i cs.length lo c)[j]?=b[j]?:=λj a1 a2 a3=>by
  rw[oS j a1 (by omega) a3,OM hlen hi (by omega) (by omega)]
 have sV:∀j,26+4*i<=j->j<26+4*cs.length->(oC b i cs.length lo c)[j+4]?=b[j]?:=λj a1 a2=>by
  rw[oS (j+4) (by omega) (by omega) (by omega),abZ hlen hi (by omega) a1 a2]
 have jF:bB (oC b i cs.length lo c) i=lo/\er (oC b i cs.length lo c) i=c.length:=Cr l3;have cq:∀j,j<i->bB (oC b i cs.length lo c) j=bB b j/\er (oC b i cs.length lo c) j=er b j:=λj hj =>
  ⟨dW λq a1 a2=>yo q (by omega) (by omega) (by omega),dW λq a1 a2=>yo q (by omega) (by omega) (by omega)⟩
 have IG:∀j,i<=j->j<cs.length->bB (oC b i cs.length lo c) (j+1)=bB b j/\er (oC b i cs.length lo c) (j+1)=er b j:=λj a1 a2 =>
  ⟨xL (a:=26+4*j) λq b1 b2=>sV q (by omega) (by omega),xL (a:=26+4*j+2) λq b1 b2=>sV q (by omega) (by omega)⟩
 have qX:jI (oC b i cs.length lo c)=cs.length+1:=by
  have e:dQ (oC b i cs.length lo c) 14 2=dQ (az (pZ b i cs.length) 14 (le 2 (cs.length+1))) 14 2:=dW λj h1 h2=>by
   rw[o4 j (by omega),o3 j (by omega),o2 j (by omega)]
  rw[jI,e,pY]
 have ON:dA (oC b i cs.length lo c)=lo:=by
  have e:dQ (oC b i cs.length lo c) 16 2=dQ (az (az (az (pZ b i cs.length) 14 (le 2 (cs.length+1))) lo c) 16 (le 2 lo)) 16 2:=dW λj h1 h2=>o4 j (by omega);rw[dA,e,pY]
 have hold:∀j d,cs[j]?=some d->∃j',(c8 i c cs)[j']?=some d/\bB (oC b i cs.length lo c) j'=bB b j:=λj d I=>by
  have hj:=(List.getElem?_eq_some_iff.1 I).1;by_cases q:j<i
  .exact⟨j,by rw[nc hi,ay q];exact I,(cq j q).1⟩
  .exact⟨j+1,by rw[nc hi,ai (by omega),ai (by omega)];exact I,(IG j (by omega) hj).1⟩
 have zP:∀j d,(c8 i c cs)[j]?=some d->(j=i/\d=c)\/∃j0,cs[j0]?=some d/\bB (oC b i cs.length lo c) j=bB b j0/\er (oC b i cs.length lo c) j=er b j0/\(j=j0/\j<i\/j=j0+1/\i<j):=λj d I=>by
  rw[nc hi] at I;by_cases q:j<i
  .rw[ay q] at I;exact .inr ⟨j,I,(cq j q).1,(cq j q).2,.inl ⟨U,q⟩⟩
  .rw[ai q] at I;by_cases q2:j=i
   .rw[ay q2] at I;exact .inl ⟨q2,(bD I).symm⟩
   .rw[ai q2] at I;have hj:=(List.getElem?_eq_some_iff.1 I).1;have g:=IG (j-1) (by omega) hj;rw[show j-1+1=j by omega] at g;exact .inr ⟨j-1,I,g.1,g.2,.inr ⟨by omega,by omega⟩⟩
 refine h.Ih l4 (λj a1 a2 a3=>yo j (by omega) (by omega) (by omega)) (by rw[qX,ki hi]) ON (by rw[ki hi];omega) (by omega) (by rw[ki hi,wV];omega) (λj d I => ?_) λj j2 d d2 hjj I A9 => ?_
 .rcases zP j d I with⟨rfl,rfl⟩|⟨j0,xA,e1,e2,_⟩
  .rw[jF.1,jF.2];refine⟨aH _,by omega,U,λq hq => ?_⟩;rw[o4 _ (by omega),o3 _ (by omega),mW (by omega) hq]
  .obtain⟨s0,s1,s2,s3⟩:=h.slot j0 d xA;rw[e1,e2];exact⟨by omega,s1,s2,λq hq=>by rw[yo _ (by omega) (by omega) (by omega)];exact s3 q hq⟩
 .rcases zP j d I with⟨rfl,rfl⟩|⟨j0,xA,e1,e2,e3⟩
  .rcases zP j2 d2 A9 with⟨rfl,rfl⟩|⟨j0,xA,e1,e2,_⟩
   .omega
   .obtain⟨s0,s1,s2,s3⟩:=h.slot j0 d2 xA;rw[jF.1,e1];left;omega
  .obtain⟨s0,s1,s2,s3⟩:=h.slot j0 d xA;rcases zP j2 d2 A9 with⟨rfl,rfl⟩|⟨j4,Tr,e4,e5,e6⟩
   .rw[jF.1,e1];right;left;omega
   .rw[e1,e4];exact h.OK j0 j4 d d2 (by omega) xA Tr
def A_ (b:List Nat)(i n:Nat): List Nat:=az (az (az b (26+4*i) ((b.drop (30+4*i)).take (4*(n-1-i)))) (22+4*n) (List.replicate 4 0)) 14 (le 2 (n-1))
theorem Jf : ∀ {cs:List (List Nat)} {i:Nat},tot (cs.eraseIdx i)<=tot cs:=by
 intro cs;induction cs with
 |nil=>intro i;simp[tot]
 |cons c cs I =>
  intro i;cases i with
  |zero=>simp[tot]
  |succ i=>have:=I (i:=i);simp only[List.eraseIdx_cons_succ,tot];omega
theorem bH.rm (h:bH b k link extra cs)(hi:i<cs.length)(jG:lo=dA b\/cs.length=1/\lo=512): bH (if lo=dA b then A_ b i cs.length else az (A_ b i cs.length) 16 (le 2 lo)) k link extra (cs.eraseIdx i):=by
 have hlen:=h.len;have oY:=h.low;have dx:=h.fits;have hle:∀n,(le 2 n).length=2:=λn=>cQ 2 n;generalize hn:cs.length=n at hi jG oY dx;have l1:(az b (26+4*i) ((b.drop (30+4*i)).take (4*(n-1-i)))).length=512:=by grind[bG]
 have l2:(az (az b (26+4*i) ((b.drop (30+4*i)).take (4*(n-1-i)))) (22+4*n) (List.replicate 4 0)).length=512:=by grind[bG]
 have l3:(A_ b i n).length=512:=by grind[A_,bG]
 have o3:∀j,j<14\/16<=j->(A_ b i n)[j]?=(az (az b (26+4*i) ((b.drop (30+4*i)).take (4*(n-1-i)))) (22+4*n) (List.replicate 4 0))[j]?:=λj hj=>dU (by grind) (by grind);have o2:∀j,j<22+4*n\/26+4*n<=j->(az (az b (26+4*i) ((b.drop (30+4*i)).take (4*(n-1-i)))) (22+4*n) (List.replicate 4 0))[j]?=(az b (26+4*i) ((b.drop (30+4*i)).take (4*(n-1-i))))[j]?:=λj hj=>dU (by grind) (by grind);have o1:∀j,j<26+4*i\/22+4*n<=j->(az b (26+4*i) ((b.drop (30+4*i)).take (4*(n-1-i))))[j]?=b[j]?:=λj hj=>dU (by grind) (by grind);have i1:∀j,30+4*i<=j->j<26+4*n->(az b (26+4*i) ((b.drop (30+4*i)).take (4*(n-1-i))))[j-4]?=b[j]?:=λj a1 a2=>by
  rw[show j-4=26+4*i+(j-(30+4*i)) by omega,mW (by grind) (by grind)];grind
 obtain⟨b',qt⟩:∃b',(if lo=dA b then A_ b i n else az (A_ b i n) 16 (le 2 lo))=b':=⟨_,U⟩;rw[qt];have l4:b'.length=512:=by rw[<-qt];split<;>grind[bG]
 have o4:∀j,j<16\/18<=j->b'[j]?=(A_ b i n)[j]?:=λj hj=>by
  rw[<-qt];split
  .rfl
  .exact dU (by grind) (by grind)
 have ON:dA b'=lo:=by
  rw[<-qt];split
  .rename_i e;rw[e,dA,dA];exact dW λj a1 a2=>by rw[o3 j (by omega),o2 j (by omega),o1 j (by omega)]
  .rw[dA,pY]
 have I:∀j,(j<14\/18<=j)->(j<26+4*i\/26+4*n<=j)->b'[j]?=b[j]?:=λj a1 a2=>by
  rw[o4 j (by omega),o3 j (by omega),o2 j (by omega),o1 j (by omega)]
 have qX:jI b'=n-1:=by
  have e:dQ b' 14 2=dQ (A_ b i n) 14 2:=dW λj h1 h2=>o4 j (by omega);rw[jI,e,A_,pY]
 have cq:∀j,j<i->bB b' j=bB b j/\er b' j=er b j:=λj hj =>
  ⟨dW λq a1 a2=>I q (by omega) (by omega),dW λq a1 a2=>I q (by omega) (by omega)⟩
 have sV:∀j,26+4*i<=j->j<22+4*n->b[j+4]?=b'[j]?:=λj a1 a2=>by
  rw[o4 j (by omega),o3 j (by omega),o2 j (by omega),<-i1 (j+4) (by omega) (by omega)];rfl
 have IG:∀j,i<=j->j<n-1->bB b' j=bB b (j+1)/\er b' j=er b (j+1):=λj a1 a2 =>
  ⟨(xL (a:=26+4*j) λq b1 b2=>sV q (by omega) (by omega)).symm,(xL (a:=26+4*j+2) λq b1 b2=>sV q (by omega) (by omega)).symm⟩
 have wC:(cs.eraseIdx i).length=n-1:=by rw[Hf,ay (by omega),hn]
 have zP:∀j d,(cs.eraseIdx i)[j]?=some d->∃j0,cs[j0]?=some d/\bB b' j=bB b j0/\er b' j=er b j0/\(j=j0/\j<i\/j+1=j0/\i<=j):=λj d hd=>by
  have hj:=(List.getElem?_eq_some_iff.1 hd).1;rw[yy] at hd;by_cases q:j<i
  .rw[ay q] at hd;exact⟨j,hd,(cq j q).1,(cq j q).2,.inl ⟨U,q⟩⟩
  .rw[ai q] at hd;exact⟨j+1,hd,(IG j (by omega) (by omega)).1,(IG j (by omega) (by omega)).2,.inr ⟨U,by omega⟩⟩
 have hte:=Jf (cs:=cs) (i:=i);refine h.Ih l4 (λj a1 a2 a3=>I j (by omega) (by omega)) (by rw[qX,wC]) ON (by rw[wC];omega) (by omega) (by rw[wC];omega) (λj d hd => ?_) λj j2 d d2 hjj hd A9 => ?_
 .have hj:=(List.getElem?_eq_some_iff.1 hd).1;obtain⟨j0,xA,e1,e2,_⟩:=zP j d hd;obtain⟨s0,s1,s2,s3⟩:=h.slot j0 d xA;rw[e1,e2];exact⟨by omega,s1,s2,λq hq=>by rw[I _ (by omega) (by omega)];exact s3 q hq⟩
 .obtain⟨j0,xA,e1,e2,e3⟩:=zP j d hd;obtain⟨j4,Tr,e4,e5,e6⟩:=zP j2 d2 A9;rw[e1,e4];exact h.OK j0 j4 d d2 (by omega) xA Tr
theorem qo (I:cs[i]?=some c): tot (cs.set i c')+c.length=tot cs+c'.length:=by
 induction cs generalizing i with
 |nil=>simp at I
 |cons x cs ih =>
  cases i with
  |zero=>simp at I;subst I;simp only[List.set_cons_zero,tot];omega
  |succ i=>have:=ih (i:=i) (by simpa using I);simp only[List.set_cons_succ,tot];omega
theorem bH.Lv (h:bH b k link extra cs){f:Nat}{b1:List Nat}(hc:cs[i]?=some c)(l1:b1.length=512)(jG:dA b1=lo)(QL:lo<=dA b)(hr:26+4*cs.length<=lo)(u_:lo<=f)(Jg:f+c'.length<=512)(dx:26+4*cs.length+tot (cs.set i c')<=512)
 (hb:∀j,12<=j->(j<16\/18<=j)->(j<f\/f+c'.length<=j)->b1[j]?=b[j]?)(sV:∀j,j<c'.length->b1[f+j]?=c'[j]?)
 (hd:f+c'.length<=dA b\/c'.length=0\/f=bB b i/\c'.length<=c.length): bH (mD b1 i f c'.length) k link extra (cs.set i c'):=by
 have hi:=(List.getElem?_eq_some_iff.1 hc).1;have oY:=h.low;have l2:(mD b1 i f c'.length).length=512:=zI l1 (by omega);have o2:∀j,j<26+4*i\/30+4*i<=j->(mD b1 i f c'.length)[j]?=b1[j]?:=λj hj=>zJ l1 (by omega) hj;have yo:∀j,12<=j->(j<16\/18<=j)->(j<26+4*i\/30+4*i<=j)->(j<f\/f+c'.length<=j)->(mD b1 i f c'.length)[j]?=b[j]?:=λj a1 a2 a3 a4=>by rw[o2 j a3,hb j a1 a2 a4]
 have jF:bB (mD b1 i f c'.length) i=f/\er (mD b1 i f c'.length) i=c'.length:=Cr l1;have fG:∀j,j≠i->j<cs.length->bB (mD b1 i f c'.length) j=bB b j/\er (mD b1 i f c'.length) j=er b j:=λj a1 a2 =>
  ⟨dW λq b1 b2=>yo q (by omega) (by omega) (by omega) (by omega),dW λq b1 b2=>yo q (by omega) (by omega) (by omega) (by omega)⟩
 have fN:∀j d,j≠i->cs[j]?=some d->d.length=0\/c'.length=0\/bB b j+d.length<=f\/f+c'.length<=bB b j:=λj d hj I=>by
  obtain⟨s0,s1,s2,s3⟩:=h.slot j d I;have:=h.OK i j c d (jS hj) hc I;omega
 have zP:∀j d,(cs.set i c')[j]?=some d->(j=i/\d=c')\/(j≠i/\cs[j]?=some d/\j<cs.length):=λj d I=>by
  by_cases q:i=j
  .subst q;rw[jO hi] at I;exact .inl ⟨U,(bD I).symm⟩
  .rw[lX q] at I;exact .inr ⟨jS q,I,(List.getElem?_eq_some_iff.1 I).1⟩
 have Ei:(cs.set i c').length=cs.length:=cG;refine h.Ih l2 (λj a1 a2 a3=>yo j a1 (by omega) (by omega) (by omega)) ?_ ?_ (by rw[Ei];exact hr) (by omega) (by rw[Ei];exact dx) (λj d I => ?_) λj j2 d d2 hjj I A9 => ?_
 .rw[Ei,<-h.gu];exact dW λq a1 a2=>yo q (by omega) (by omega) (by omega) (by omega)
 .rw[<-jG];exact dW λq a1 a2=>o2 q (by omega)
 .rcases zP j d I with⟨rfl,rfl⟩|⟨q1,q2,q3⟩
  .rw[jF.1,jF.2];exact⟨u_,Jg,U,λq hq=>by rw[o2 _ (by omega)];exact sV q hq⟩
  .obtain⟨s0,s1,s2,s3⟩:=h.slot j d q2;rw[(fG j q1 q3).1,(fG j q1 q3).2];have:=fN j d q1 q2;exact⟨by omega,s1,s2,λq hq=>by rw[yo _ (by omega) (by omega) (by omega) (by omega)];exact s3 q hq⟩
 .rcases zP j d I with⟨rfl,rfl⟩|⟨q1,q2,q3⟩
  .rcases zP j2 d2 A9 with⟨rfl,rfl⟩|⟨r1,r2,r3⟩
   .omega
   .have:=fN j2 d2 r1 r2;rw[jF.1,(fG j2 r1 r3).1];omega
  .rcases zP j2 d2 A9 with⟨rfl,rfl⟩|⟨r1,r2,r3⟩
   .have:=fN j d q1 q2;rw[jF.1,(fG j q1 q3).1];omega
   .rw[(fG j q1 q3).1,(fG j2 r1 r3).1];exact h.OK j j2 d d2 (by omega) q2 r2
theorem bH.rep (h:bH b k link extra cs)(hc:cs[i]?=some c)(hl:c'.length<=c.length): bH (yn b i (bB b i) c') k link extra (cs.set i c'):=by
 obtain⟨s0,s1,s2,s3⟩:=h.slot i c hc;have hlen:=h.len;have I:=h.low;have dx:=h.fits;have ht:=qo (c':=c') hc;have hi:=(List.getElem?_eq_some_iff.1 hc).1;have l1:(az b (bB b i) c').length=512:=by rw[bG,hlen]
 refine h.Lv hc l1 ?_ (aH _) I.1 s0 (by omega) (by omega) (λj _ _ a3=>dU (by omega) a3) (λj hj=>mW (by omega) hj) (.inr (.inr ⟨U,hl⟩));exact dW λq a1 a2=>dU (by omega) (by omega)
theorem bH.none (h:bH b k link extra cs)(hc:cs[i]?=some c): bH (mD b i (dA b) 0) k link extra (cs.set i []):=by
 have I:=h.low;have dx:=h.fits;have ht:=qo (c':=[]) hc;rw[b6] at ht;exact h.Lv (c':=[]) hc h.len U (aH _) I.1 (aH _) (by simpa using I.2) (by omega) (λj _ _ _=>U) (λj hj=>by cases hj) (.inr (.inl U))
theorem bH.below (h:bH b k link extra cs)(hc:cs[i]?=some c)(jG:lo+c'.length=dA b)(hr:26+4*cs.length<=lo)(I:26+4*cs.length+tot (cs.set i c')<=512): bH (mD (az (az b lo c') 16 (le 2 lo)) i lo c'.length) k link extra (cs.set i c'):=by
 have hlen:=h.len;have oY:=h.low;have hle:∀n,(le 2 n).length=2:=λn=>cQ 2 n;have l0:(az b lo c').length=512:=by rw[bG,hlen]
 have l1:(az (az b lo c') 16 (le 2 lo)).length=512:=by grind[bG]
 have o1:∀j,j<16\/18<=j->(az (az b lo c') 16 (le 2 lo))[j]?=(az b lo c')[j]?:=λj hj=>dU (by grind) (by grind);refine h.Lv hc l1 (by rw[dA,pY]) (by omega) hr (aH _) (by omega) I (λj _ a2 a3=>by rw[o1 j a2,dU (by omega) a3]) (λj hj=>by rw[o1 _ (by omega),mW (by omega) hj]) (.inl (by omega))
structure An (b0:List Nat)(cs:List (List Nat))(i:Nat)(b:List Nat): Prop where
 len:b.length=512
 head:∀j,j<26->b[j]?=b0[j]?
 slot:∀j c,j<i->cs[j]?=some c->bB b j+tot (cs.take (j+1))=512/\er b j=c.length/\∀q,q<c.length->b[bB b j+q]?=c[q]?
theorem An.start (hl:b0.length=512): An b0 cs 0 b0:=⟨hl,λ_ _=>U,λj c h=>by omega⟩
theorem An.step (h:An b0 cs i b)(hf:26+4*cs.length+tot cs<=512)(hc:cs[i]?=some c)(jG:lo+tot (cs.take (i+1))=512): An b0 cs (i+1) (mD (az b lo c) i lo c.length):=by
 have hlen:=h.len;have hi:=(List.getElem?_eq_some_iff.1 hc).1;have t1:=iW hc;have t2:=lG (cs:=cs) (i:=i+1);have l1:(az b lo c).length=512:=by rw[bG,hlen]
 have l2:(mD (az b lo c) i lo c.length).length=512:=zI l1 (by omega);have o2:∀j,j<26+4*i\/30+4*i<=j->(mD (az b lo c) i lo c.length)[j]?=(az b lo c)[j]?:=λj I=>zJ l1 (by omega) I;have o1:∀j,j<lo\/lo+c.length<=j->(az b lo c)[j]?=b[j]?:=λj I=>dU (by omega) I;have jF:bB (mD (az b lo c) i lo c.length) i=lo/\er (mD (az b lo c) i lo c.length) i=c.length:=Cr l1;refine⟨l2,λj I=>by rw[o2 j (by omega),o1 j (by omega)];exact h.head j I,λj d I hd => ?_⟩;by_cases q:j=i
 .subst q;rw[hc] at hd;obtain rfl:=bD hd;rw[jF.1,jF.2];exact⟨jG,U,λq hq=>by rw[o2 _ (by omega),mW (by omega) hq]⟩
 .obtain⟨s1,s2,s3⟩:=h.slot j d (by omega) hd;have Lw:=(List.getElem?_eq_some_iff.1 hd).1;have t3:=AJ (cs:=cs) (i:=j+1) (j:=i) (by omega);have t4:=iW hd;have t5:=lG (cs:=cs) (i:=j+1);have e1:bB (mD (az b lo c) i lo c.length) j=bB b j:=dW λq a1 a2=>by rw[o2 q (by omega),o1 q (by omega)]
  have e2:er (mD (az b lo c) i lo c.length) j=er b j:=dW λq a1 a2=>by rw[o2 q (by omega),o1 q (by omega)]
  rw[e1,e2];exact⟨s1,s2,λq hq=>by rw[o2 _ (by omega),o1 _ (by omega)];exact s3 q hq⟩
def Gw (b:List Nat)(n lo:Nat): List Nat:=az (az b (26+4*n) (List.replicate (lo-(26+4*n)) 0)) 16 (le 2 lo)
theorem An.done (h:An b0 cs cs.length b)(I:bH b0 k link extra cs)(jG:lo+tot cs=512): fh (Gw b cs.length lo) k link extra cs:=by
 have hlen:=h.len;have hf:=I.fits;have hle:∀n,(le 2 n).length=2:=λn=>cQ 2 n;have l1:(az b (26+4*cs.length) (List.replicate (lo-(26+4*cs.length)) 0)).length=512:=by rw[bG (by rw[gA];omega),hlen]
 have l2:(Gw b cs.length lo).length=512:=by grind[Gw,bG]
 have o2:∀j,j<16\/18<=j->(Gw b cs.length lo)[j]?=(az b (26+4*cs.length) (List.replicate (lo-(26+4*cs.length)) 0))[j]?:=λj hj=>dU (by grind) (by grind);have o1:∀j,j<26+4*cs.length\/lo<=j->(az b (26+4*cs.length) (List.replicate (lo-(26+4*cs.length)) 0))[j]?=b[j]?:=λj hj=>dU (by rw[gA];omega) (by rw[gA];omega);have hh:∀j,j<16\/18<=j->j<26->(Gw b cs.length lo)[j]?=b0[j]?:=λj a1 a2=>by rw[o2 j a1,o1 j (by omega)];exact h.head j a2
 refine⟨l2,?_,?_,?_,?_,?_,?_,hf,λi c hc => ?_⟩
 .rw[mN (hh 13 (by decide) (by decide))];exact I.Eh
 .rw[mN (hh 12 (by decide) (by decide))];exact I.kind
 .rw[dW (m:=b0) λi a1 a2=>hh i (by omega) (by omega)];exact I.link
 .rw[dW (m:=b0) λi a1 a2=>hh i (by omega) (by omega)];exact I.extra
 .rw[jI,dW (m:=b0) λi a1 a2=>hh i (by omega) (by omega)];exact I.gu
 .have:dA (Gw b cs.length lo)=lo:=by rw[dA,Gw,pY]
  omega
 .have hi:=(List.getElem?_eq_some_iff.1 hc).1;obtain⟨s1,s2,s3⟩:=h.slot i c hi hc;have t1:=iW hc;have t2:=lG (cs:=cs) (i:=i+1);have e1:bB (Gw b cs.length lo) i=bB b i:=dW λq a1 a2=>by rw[o2 q (by omega),o1 q (by omega)]
  have e2:er (Gw b cs.length lo) i=er b i:=dW λq a1 a2=>by rw[o2 q (by omega),o1 q (by omega)]
  rw[e1,e2];exact⟨s1,s2,λq hq=>by rw[o2 _ (by omega),o1 _ (by omega)];exact s3 q hq⟩
end
abbrev Ky := List Nat
variable {hi:Option Ky}
abbrev En := Ky×Ky
variable {es eL eR jH gM:List En}
def eB (e:En): List Nat:=e.1.length::(e.1++e.2)
def e_ (n:Nat)(k:Ky): List Nat:=le 4 n++k
structure fo where
 key:Ky
 pg:Nat
 es:List En
 ps:List Nat
variable {k1:fo} {ks:List fo}
def cL (k:fo): List Nat:=k.pg::k.ps
def bF (ks:List fo): List (List Nat):=ks.map λk=>e_ k.pg k.key
def Bd (lo:Ky)(hi:Option Ky)(k:Ky): Prop:=lo<=k/\∀h,hi=some h->k<h
structure kj (lo:Ky)(hi:Option Ky)(es:List En): Prop where
 bd:∀e∈es,Bd lo hi e.1
 sz:∀e∈es,1<=e.1.length/\e.1.length<=96/\e.2.length<=128
 jZ:es.Pairwise λa b=>a.1<b.1
def loK (lo:Ky)(ks:List fo)(i:Nat): Ky:=if i=0 then lo else match ks[i]? with|some k=>k.key|none=>[]
def cT (hi:Option Ky)(ks:List fo)(i:Nat): Option Ky:=match ks[i+1]? with|some k=>some k.key|none=>hi
structure Sep (lo:Ky)(hi:Option Ky)(ks:List fo): Prop where
 ne:ks≠[]
 pg:∀k∈ks,k.pg<4294967296
 len:∀k∈ks,k.key.length<=96
 sz:∀(i:Nat) (k:fo),ks[i]?=some k->1<=i->1<=k.key.length
 bd:∀(i:Nat) (k:fo),ks[i]?=some k->1<=i->lo<k.key/\∀h,hi=some h->k.key<h
 jZ:∀(i j:Nat) (k m:fo),ks[i]?=some k->ks[j]?=some m->1<=i->i<j->k.key<m.key
def Nv (F:Nat->List (List Nat)->Prop)(P:Int->List Nat): Nat->Ky->Option Ky->List (List Nat)->List En->List Nat->Prop
 |0,lo,hi,cs,es,ps=>cs=es.map eB/\kj lo hi es/\ps=[]
 |l+1,lo,hi,cs,es,ps=>∃ks:List fo,cs=bF ks/\Sep lo hi ks/\es=ks.flatMap (·.es)/\ps=ks.flatMap cL /\
   ∀i k,ks[i]?=some k->∃cs',Nv F P l (loK lo ks i) (cT hi ks i) cs' k.es k.ps/\F l cs'/\bH (P k.pg) 204 0 l cs'
section
variable {P:Int->List Nat} {l n:Nat} {lo:Ky}
theorem dn : (bF ks).length=ks.length:=cf _
theorem gX {k:fo}(h:ks[i]?=some k): (bF ks)[i]?=some (e_ k.pg k.key):=by
 rw[bF,kP,h];rfl
theorem Nv.frame : ∀ {l:Nat} {lo:Ky} {hi:Option Ky} {cs:List (List Nat)} {es:List En} {ps:List Nat},Nv F P l lo hi cs es ps->(∀m∈ps,P' m=P m)->Nv F P' l lo hi cs es ps:=by
 intro l;induction l with
 |zero=>intro lo hi cs es ps h _;exact h
 |succ l ih =>
  intro lo hi cs es ps ⟨ks,h1,h2,h3,h4,h5⟩ hp;subst h4;refine⟨ks,h1,h2,h3,U,λi k hk => ?_⟩;obtain⟨cs',a1,a2,a3⟩:=h5 i k hk;have hm:=aJ hk;have hq:∀m∈k.pg::k.ps,P' m=P m:=λm I=>hp m (List.mem_flatMap.2 ⟨k,hm,I⟩);exact⟨cs',ih a1 λm I=>hq m (bk _ I),a2,by rw[hq k.pg a_];exact a3⟩
theorem Bd.trans {fX:Ky}{eO:Option Ky}{k:Ky}(h:Bd lo hi k)(I:fX<=lo)(h2:∀b,eO=some b->∃a,hi=some a/\a<=b): Bd fX eO k :=
 ⟨List.le_trans I h.1,λb hb=>by obtain⟨a,ha,mA⟩:=h2 b hb;have:=h.2 a ha;grind⟩
theorem Sep.lo_le (h:Sep lo hi ks)(I:i<ks.length): lo<=loK lo ks i:=by
 unfold loK;split
 .exact nI _
 .have hk:ks[i]?=some ks[i]:=aF I;rw[hk];exact oQ (h.bd i _ hk (by omega)).1
theorem Sep.QN (h:Sep lo hi ks): ∀b,hi=some b->∃a,cT hi ks i=some a/\a<=b:=by
 intro b I;unfold cT;cases hk:ks[i+1]? with
 |none=>exact⟨b,I,nI _⟩
 |some k=>exact⟨k.key,U,oQ ((h.bd (i+1) k hk (by omega)).2 b I)⟩
theorem Ts {R:β->β->Prop}{f:α->List β}: ∀ {l:List α},(∀x∈l,(f x).Pairwise R)->(∀(i j:Nat) (x y:α),l[i]?=some x->l[j]?=some y->i<j->∀a∈f x,∀b∈f y,R a b)->(l.flatMap f).Pairwise R:=by
 intro l;induction l with
 |nil=>intro _ _;exact List.Pairwise.nil
 |cons x l ih =>
  intro h1 h2;rw[eE,yA];refine⟨h1 x a_,ih (λy I=>h1 y (bk _ I)) (λi j y z I hz pH=>h2 (i+1) (j+1) y z (by simpa using I) (by simpa using hz) (by omega)),λa ha b hb => ?_⟩;obtain⟨y,I,hb⟩:=List.mem_flatMap.1 hb;obtain⟨j,hj⟩:=List.mem_iff_getElem?.1 I;exact h2 0 (j+1) x y U (by simpa using hj) (by omega) a ha b hb
theorem Nv.ok : ∀ {l:Nat} {lo:Ky} {hi:Option Ky} {cs:List (List Nat)} {es:List En} {ps:List Nat},Nv F P l lo hi cs es ps->kj lo hi es:=by
 intro l;induction l with
 |zero=>intro lo hi cs es ps h;exact h.2.1
 |succ l ih =>
  intro lo hi cs es ps ⟨ks,h1,h2,h3,h4,h5⟩;have hE:∀i k,ks[i]?=some k->kj (loK lo ks i) (cT hi ks i) k.es:=λi k hk=>by
   obtain⟨cs',a1,_,_⟩:=h5 i k hk;exact ih a1
  subst h3;refine⟨λe he => ?_,λe he => ?_,?_⟩
  .obtain⟨k,hk,he⟩:=List.mem_flatMap.1 he;obtain⟨i,I⟩:=List.mem_iff_getElem?.1 hk;exact((hE i k I).bd e he).trans (h2.lo_le (List.getElem?_eq_some_iff.1 I).1) h2.QN
  .obtain⟨k,hk,he⟩:=List.mem_flatMap.1 he;obtain⟨i,I⟩:=List.mem_iff_getElem?.1 hk;exact(hE i k I).sz e he
  .refine Ts (λk hk => ?_) λi j x y hx hy pH a ha b hb => ?_
   .obtain⟨i,I⟩:=List.mem_iff_getElem?.1 hk;exact(hE i k I).jZ
   .have h6:=(hE i x hx).bd a ha;have h7:=(hE j y hy).bd b hb;have hj:=(List.getElem?_eq_some_iff.1 hy).1;have c9:ks[i+1]?=some ks[i+1]:=aF (by omega);have e1:cT hi ks i=some ks[i+1].key:=by rw[cT,c9]
    have e2:loK lo ks j=y.key:=by rw[loK,ai (by omega),hy]
    have h8:=h6.2 _ e1;have h9:=h7.1;rw[e2] at h9;by_cases hq:i+1=j
    .subst hq;rw[c9] at hy;obtain rfl:=bD hy;grind
    .have:=h2.jZ (i+1) j _ _ c9 hy (by omega) (by omega);grind
structure pz where
 pg:Nat
 ks:List fo
 i:Nat
def g_ (F:Nat->List (List Nat)->Prop)(P:Int->List Nat)(L r:Nat): List pz->Nat->Ky->Option Ky->Nat->List En->List En->List Nat->Prop
 |[],l,lo,hi,n,eL,eR,pO=>l=L/\lo=[]/\hi=none/\n=r/\eL=[]/\eR=[]/\pO=[]
 |f::fs,l,lo,hi,n,eL,eR,pO=>∃fX eO I ji iT k,g_ F P L r fs (l+1) fX eO f.pg I ji iT/\f.ks[f.i]?=some k/\k.pg=n/\lo=loK fX f.ks f.i/\hi=cT eO f.ks f.i/\bH (P f.pg) 204 0 (l+1) (bF f.ks)/\Sep fX eO f.ks/\(fs≠[]->F (l+1) (bF f.ks)) /\
   (∀j k,f.ks[j]?=some k->j≠f.i->∃cs',Nv F P l (loK fX f.ks j) (cT eO f.ks j) cs' k.es k.ps/\F l cs'/\bH (P k.pg) 204 0 l cs') /\
   eL=I++(f.ks.take f.i).flatMap (·.es)/\eR=(f.ks.drop (f.i+1)).flatMap (·.es)++ji/\pO=f.pg::(iT++(f.ks.eraseIdx f.i).flatMap cL)
theorem LA {l:List α}{x:α}(h:l[i]?=some x): l.set i x=l:=by
 apply nE;intro j;rw[vH];grind
theorem rz {g:α->List β}{l:List α}{x:α}(hi:i<l.length): (l.set i x).flatMap g=(l.take i).flatMap g++g x++(l.drop (i+1)).flatMap g:=by
 rw[CT,ay hi,nC,eE,dN]
theorem sY {g:α->List β}{l:List α}{x:α}(h:l[i]?=some x): l.flatMap g=(l.take i).flatMap g++g x++(l.drop (i+1)).flatMap g:=by
 obtain⟨I,h2⟩:=List.getElem?_eq_some_iff.1 h;have:=rz (g:=g) (x:=x) I
 rwa [LA h] at this
theorem vF {g:α->List β}{l:List α}: (l.eraseIdx i).flatMap g=(l.take i).flatMap g++(l.drop (i+1)).flatMap g:=by
 rw[ny,nC]
theorem ER {k:fo}(h:ks[i]?=some k)(I:k1.pg=k.pg)(h2:k1.key=k.key): bF (ks.set i k1)=bF ks:=by
 rw[bF,Dd,I,h2];exact LA (gX h)
theorem zQ {k:fo}(h:ks[i]?=some k)(I:k1.key=k.key): loK lo (ks.set i k1) j=loK lo ks j:=by
 unfold loK;rw[vH];grind
theorem v8 {k:fo}(h:ks[i]?=some k)(I:k1.key=k.key): cT hi (ks.set i k1) j=cT hi ks j:=by
 unfold cT;rw[vH];grind
theorem Sep.set {k:fo}(h:Sep lo hi ks)(hk:ks[i]?=some k)(h1:k1.pg=k.pg)(h2:k1.key=k.key): Sep lo hi (ks.set i k1):=by
 have key:∀(j:Nat) (m:fo),(ks.set i k1)[j]?=some m->∃m',ks[j]?=some m'/\m'.key=m.key/\m'.pg=m.pg:=λj m hm=>by
  rw[vH] at hm;grind
 refine⟨λe=>h.ne (iZ (by have:=dg List.length e;simpa using this)),λm hm => ?_,λm hm => ?_,λj m hm hj => ?_,λj m hm hj => ?_,λj j2 m m2 hm qG a1 a2 => ?_⟩
 .obtain⟨j,hj⟩:=List.mem_iff_getElem?.1 hm;obtain⟨m',I,e2,e3⟩:=key j m hj;rw[<-e3];exact h.pg m' (aJ I)
 .obtain⟨j,hj⟩:=List.mem_iff_getElem?.1 hm;obtain⟨m',I,e2,e3⟩:=key j m hj;rw[<-e2];exact h.len m' (aJ I)
 .obtain⟨m',I,e2,e3⟩:=key j m hm;rw[<-e2];exact h.sz j m' I hj
 .obtain⟨m',I,e2,e3⟩:=key j m hm;rw[<-e2];exact h.bd j m' I hj
 .obtain⟨m',I,e2,e3⟩:=key j m hm;obtain⟨m3,e4,e5,e6⟩:=key j2 m2 qG;rw[<-e2,<-e5];exact h.jZ j j2 m' m3 I e4 a1 a2
theorem Nv.hole {k:fo}(I:ks[i]?=some k)(h1:k1.pg=k.pg)(h2:k1.key=k.key)(hs:Sep lo hi ks)(hb:∀j k,ks[j]?=some k->j≠i->∃cs',Nv F P l (loK lo ks j) (cT hi ks j) cs' k.es k.ps/\F l cs'/\bH (P k.pg) 204 0 l cs')(hN:Nv F P l (loK lo ks i) (cT hi ks i) cs' k1.es k1.ps)(hF:F l cs')(hp:bH (P k.pg) 204 0 l cs'):
  Nv F P (l+1) lo hi (bF ks) ((ks.take i).flatMap (·.es)++k1.es++(ks.drop (i+1)).flatMap (·.es)) ((ks.take i).flatMap cL++cL k1++(ks.drop (i+1)).flatMap cL):=by
 have eO:=(List.getElem?_eq_some_iff.1 I).1;refine⟨ks.set i k1,(ER I h1 h2).symm,hs.set I h1 h2,(rz eO).symm,(rz eO).symm,λj m hm => ?_⟩;rw[zQ I h2,v8 I h2];by_cases hj:j=i
 .subst hj;rw[jO eO] at hm;obtain rfl:=bD hm;exact⟨cs',hN,hF,by rw[h1];exact hp⟩
 .rw[lX (jS hj)] at hm;exact hb j m hm hj
theorem g_.frame : ∀ {fs:List pz} {l:Nat} {lo:Ky} {hi:Option Ky} {n:Nat} {eL eR:List En} {pO:List Nat},g_ F P L r fs l lo hi n eL eR pO->(∀m∈pO,P' m=P m)->g_ F P' L r fs l lo hi n eL eR pO:=by
 intro fs;induction fs with
 |nil=>intro l lo hi n eL eR pO h _;exact h
 |cons f fs ih =>
  rintro l lo hi n eL eR pO ⟨fX,eO,I,ji,iT,k,h1,h2,h3,h4,h5,h6,h7,OO,h8,h9,u9,rfl⟩ hp;refine⟨fX,eO,I,ji,iT,k,ih h1 (λm hm=>hp m (bk _ (fc _ hm))),h2,h3,h4,h5,by rw[hp _ a_];exact h6,h7,OO,λj m hm hj => ?_,h9,u9,U⟩;obtain⟨cs',a1,a2,a3⟩:=h8 j m hm hj;have hq:∀x∈cL m,P' x=P x:=λx hx=>hp x (bk _ (js _ (List.mem_flatMap.2 ⟨m,by
   rw[List.mem_eraseIdx_iff_getElem?];exact⟨j,hj,hm⟩,hx⟩)))
  exact⟨cs',a1.frame λx hx=>hq x (bk _ hx),a2,by rw[hq m.pg a_];exact a3⟩
theorem g_.down {fs:List pz}(h:g_ F P L r fs (l+1) lo hi n eL eR pO)(hs:Sep lo hi ks)(I:fs≠[]->F (l+1) (bF ks))(hp:bH (P n) 204 0 (l+1) (bF ks))
 (hb:∀i k,ks[i]?=some k->∃cs',Nv F P l (loK lo ks i) (cT hi ks i) cs' k.es k.ps/\F l cs'/\bH (P k.pg) 204 0 l cs'){k:fo}(hk:ks[i]?=some k):
  g_ F P L r (⟨n,ks,i⟩::fs) l (loK lo ks i) (cT hi ks i) k.pg (eL++(ks.take i).flatMap (·.es)) ((ks.drop (i+1)).flatMap (·.es)++eR) (n::(pO++(ks.eraseIdx i).flatMap cL)) :=
 ⟨lo,hi,eL,eR,pO,k,h,hk,U,U,U,hp,hs,I,λj m hm _=>hb j m hm,U,U,U⟩
theorem g_.rt : ∀ {fs:List pz} {l:Nat} {lo:Ky} {hi:Option Ky} {n:Nat} {eL eR:List En} {pO:List Nat},g_ F P L r fs l lo hi n eL eR pO->(fs=[]/\l=L/\n=r)\/(fs≠[]/\r∈pO):=by
 intro fs;induction fs with
 |nil=>rintro l lo hi n eL eR pO ⟨rfl,rfl,rfl,rfl,rfl,rfl,rfl⟩;exact .inl ⟨U,U,U⟩
 |cons f fs I =>
  rintro l lo hi n eL eR pO ⟨fX,eO,ni,ji,iT,k,h1,h2,rfl,rfl,rfl,h6,h7,OO,h8,rfl,rfl,rfl⟩;refine .inr ⟨by simp,?_⟩;rcases I h1 with⟨_,_,q⟩|⟨_,q⟩
  .rw[q];exact a_
  .exact bk _ (fc _ q)
theorem g_.QO : ∀ {fs:List pz} {l:Nat} {lo:Ky} {hi:Option Ky} {n:Nat} {eL eR es:List En} {pO ps:List Nat} {cs:List (List Nat)},g_ F P L r fs l lo hi n eL eR pO->Nv F P l lo hi cs es ps->bH (P n) 204 0 l cs->(fs≠[]->F l cs) ->
  ∃I cs',Nv F P L [] none cs' (eL++es++eR) I/\bH (P r) 204 0 L cs'/\(r::I).Perm (pO++n::ps)/\(fs=[]->cs'=cs):=by
 intro fs;induction fs with
 |nil =>
  rintro l lo hi n eL eR es pO ps cs ⟨rfl,rfl,rfl,rfl,rfl,rfl,rfl⟩ hN hp _;exact⟨ps,cs,by simpa using hN,hp,List.Perm.refl _,λ_=>U⟩
 |cons f fs ih =>
  rintro l lo hi n eL eR es pO ps cs ⟨fX,eO,ni,ji,iT,k,h1,h2,rfl,rfl,rfl,h6,h7,OO,h8,rfl,rfl,rfl⟩ hN hp hF;have Gx:=Nv.hole (k1:=⟨k.key,k.pg,es,ps⟩) h2 U U h7 h8 hN (hF (by simp)) hp;obtain⟨I,cs',a1,a2,a3,_⟩:=ih h1 Gx h6 OO;refine⟨I,cs',by simpa[dN] using a1,a2,a3.trans ?_,λq=>by cases q⟩;rw[vF];rw[lY];intro x;simp only[cL,lZ,l7,fJ];omega
end
variable {fs:List pz}
def fE (l:Nat)(c:List Nat): Ky:=if l=0 then(c.drop 1).take (c.getD 0 0) else c.drop 4
def rgtC (l:Nat)(cs:List (List Nat)): List (List Nat):=if l=0 then cs else match cs with|[]=>[]|c::t=>c.take 4::t
theorem sg {e:En}: fE 0 (eB e)=e.1:=by
 simp[fE,eB]
theorem qp {l n:Nat}{k:Ky}: fE (l+1) (e_ n k)=k:=by
 have:=cQ 4 n;rw[fE,ai (by omega),e_,vM this]
section
variable {P:Int->List Nat} {l n:Nat} {lo:Ky}
theorem Tt : bF (ks.take k)=(bF ks).take k:=rL ..
def rgtK : List fo->List fo
 |[]=>[]
 |k::t=>⟨[],k.pg,k.es,k.ps⟩::t
theorem Wq : bF (rgtK ks)=rgtC (l+1) (bF ks):=by
 cases ks with
 |nil=>rfl
 |cons y u =>
  have:=cQ 4 y.pg;show e_ y.pg []::_=(e_ y.pg y.key).take 4::_;rw[e_,e_,fY this,fZ]
theorem Jh {g:fo->List α}(I:∀k:fo,g ⟨[],k.pg,k.es,k.ps⟩=g k): (rgtK ks).flatMap g=ks.flatMap g:=by
 cases ks with
 |nil=>rfl
 |cons y u=>simp only[rgtK,eE,I]
theorem Ws {x:fo}(h:(rgtK ks)[i]?=some x): ∃y,ks[i]?=some y/\x.pg=y.pg/\x.es=y.es/\x.ps=y.ps/\(1<=i->x=y)/\(i=0->x.key=[]):=by
 cases ks with
 |nil=>simp[rgtK] at h
 |cons y u =>
  cases i with
  |zero=>simp[rgtK] at h;subst h;exact⟨y,U,U,U,U,λh=>by omega,λ_=>U⟩
  |succ i=>exact⟨x,by simpa[rgtK] using h,U,U,U,λ_=>U,λh=>by omega⟩
theorem Wt : (rgtK ks).length=ks.length:=by cases ks<;>rfl
theorem Nv.cut (h:Nv F P l lo hi cs es ps)(h1:1<=k)(hc:cs[k]?=some c): ∃jH gM lU lV,es=jH++gM/\ps=lU++lV/\Nv F P l lo (some (fE l c)) (cs.take k) jH lU/\Nv F P l (fE l c) hi (rgtC l (cs.drop k)) gM lV /\
  lo<fE l c/\(∀b,hi=some b->fE l c<b)/\1<=(fE l c).length/\(fE l c).length<=96:=by
 have hk:=(List.getElem?_eq_some_iff.1 hc).1;cases l with
 |zero =>
  obtain⟨rfl,h2,rfl⟩:=h;rw[cf] at hk;obtain⟨e,he⟩:∃e,es[k]?=some e:=⟨_,aF hk⟩;rw[kP,he] at hc;obtain rfl:=bD hc;rw[sg];have OP:=aJ he;have gI:es=es.take k++es.drop k:=(jP k es).symm;have zR:=h2.jZ;rw[gI,yA] at zR;have hed:e∈es.drop k:=by
   rw[CV];exact⟨0,by rw[fq];simpa using he⟩
  have hle:∀x∈es.drop k,e.1<=x.1:=λx I=>by
   obtain⟨j,hj⟩:=List.mem_iff_getElem?.1 I;rw[fq] at hj;by_cases q:j=0
   .subst q;rw[eF,he] at hj;obtain rfl:=bD hj;exact nI _
   .have:=List.pairwise_iff_getElem.1 h2.jZ k (k+j) (by omega) (List.getElem?_eq_some_iff.1 hj).1 (by omega);rw[(List.getElem?_eq_some_iff.1 hj).2,(List.getElem?_eq_some_iff.1 he).2] at this;exact oQ this
  have h0:∃x,x∈es.take k:=⟨es[0]'(by omega),by
   rw[CV];exact⟨0,by rw[ic,ay (by omega)];exact aF _⟩⟩
  refine⟨es.take k,es.drop k,[],[],gI,U,⟨(rL ..).symm,⟨λx I=>⟨(h2.bd x (iM I)).1,λb hb => ?_⟩,λx I=>h2.sz x (iM I),zR.1⟩,U⟩,⟨(tH ..).symm,⟨λx I=>⟨hle x I,(h2.bd x (i_ I)).2⟩,λx I=>h2.sz x (i_ I),zR.2.1⟩,U⟩,?_,(h2.bd e OP).2,(h2.sz e OP).1,(h2.sz e OP).2.1⟩
  .obtain rfl:=bD hb;exact zR.2.2 x I e hed
  .obtain⟨x,I⟩:=h0;have:=zR.2.2 x I e hed;have:=(h2.bd x (iM I)).1;grind
 |succ l =>
  obtain⟨ks,rfl,h2,rfl,rfl,h5⟩:=h;rw[dn] at hk;obtain⟨m,hm⟩:∃m,ks[k]?=some m:=⟨_,aF hk⟩;have yQ:=gX hm;rw[yQ] at hc;obtain rfl:=bD hc;rw[qp];have gI:ks=ks.take k++ks.drop k:=(jP k ks).symm;have hT:∀j,j<k->(ks.take k)[j]?=ks[j]?:=λj hj=>by rw[ic,ay hj]
  have Tu:∀ {j x},(ks.take k)[j]?=some x->j<k/\ks[j]?=some x:=λ{j x} I=>by
   have hj:=(List.getElem?_eq_some_iff.1 I).1;rw[cz] at hj;exact⟨by omega,by rwa [hT j (by omega)] at I⟩
  have hD:∀ {j x},(rgtK (ks.drop k))[j]?=some x->∃y,ks[k+j]?=some y/\x.pg=y.pg/\x.es=y.es/\x.ps=y.ps/\(1<=j->x=y)/\(j=0->x.key=[]):=λ{j x} I=>by
   obtain⟨y,e1,e2⟩:=Ws I;rw[fq] at e1;exact⟨y,e1,e2⟩
  have xC:(rgtK (ks.drop k)).length=ks.length-k:=by rw[Wt,fA]
  refine⟨(ks.take k).flatMap (·.es),(ks.drop k).flatMap (·.es),(ks.take k).flatMap cL,(ks.drop k).flatMap cL,by rw[<-nC,<-gI],by rw[<-nC,<-gI],
   ⟨ks.take k,Tt.symm,⟨?_,λx I=>h2.pg x (iM I),λx I=>h2.len x (iM I),λi x I c9=>h2.sz i x (Tu I).2 c9,λi x I c9 => ?_,λi j x y I hy a1 a2=>h2.jZ i j x y (Tu I).2 (Tu hy).2 a1 a2⟩,U,U,λi x I => ?_⟩,
   ⟨rgtK (ks.drop k),by rw[Wq,bF,bF,tH],⟨?_,λx I => ?_,λx I => ?_,λi x I c9 => ?_,λi x I c9 => ?_,λi j x y I hy a1 a2 => ?_⟩,(Jh λ_=>U).symm,(Jh λ_=>U).symm,λi x I => ?_⟩,
   (h2.bd k m hm h1).1,(h2.bd k m hm h1).2,h2.sz k m hm h1,h2.len m (aJ hm)⟩
  .intro e;have:=dg List.length e;rw[cz,b6] at this;omega
  .obtain⟨hj,I⟩:=Tu I;refine⟨(h2.bd i x I c9).1,λb hb => ?_⟩;obtain rfl:=bD hb;exact h2.jZ i k x m I hm c9 (by omega)
  .obtain⟨hj,I⟩:=Tu I;have e1:loK lo (ks.take k) i=loK lo ks i:=by unfold loK;rw[hT i (by omega)]
   have e2:cT (some m.key) (ks.take k) i=cT hi ks i:=by
    unfold cT;by_cases q:i+1<k
    .rw[hT (i+1) q];have:ks[i+1]?=some ks[i+1]:=aF (by omega);rw[this]
    .have:i+1=k:=by omega
     rw[this,hm,rF (by rw[cz];omega)]
   rw[e1,e2];exact h5 i x I
  .intro e;have:=dg List.length e;rw[xC,b6] at this;omega
  .obtain⟨j,hj⟩:=List.mem_iff_getElem?.1 I;obtain⟨y,e1,e2,_⟩:=hD hj;rw[e2];exact h2.pg y (aJ e1)
  .obtain⟨j,hj⟩:=List.mem_iff_getElem?.1 I;obtain⟨y,e1,_,_,_,e2,e3⟩:=hD hj;rcases oL j with q|q
   .rw[e3 q];exact gh _
   .rw[e2 q];exact h2.len y (aJ e1)
  .obtain⟨y,e1,_,_,_,e2,_⟩:=hD I;rw[e2 c9];exact h2.sz (k+i) y e1 (by omega)
  .obtain⟨y,e1,_,_,_,e2,_⟩:=hD I;rw[e2 c9];exact⟨h2.jZ k (k+i) m y hm e1 h1 (by omega),(h2.bd (k+i) y e1 (by omega)).2⟩
  .obtain⟨z,e1,_,_,_,e2,_⟩:=hD I;obtain⟨z2,e3,_,_,_,e4,_⟩:=hD hy;rw[e2 a1,e4 (by omega)];exact h2.jZ (k+i) (k+j) z z2 e1 e3 (by omega) (by omega)
  .obtain⟨y,e1,p1,p2,p3,p4,_⟩:=hD I;have e3:loK m.key (rgtK (ks.drop k)) i=loK lo ks (k+i):=by
    unfold loK;rw[ai (show ¬k+i=0 by omega)];by_cases q:i=0
    .subst q;rw[ay U,eF,hm]
    .rw[ai q,I,e1,p4 (by omega)]
   have e4:cT hi (rgtK (ks.drop k)) i=cT hi ks (k+i):=by
    unfold cT;cases hq:(rgtK (ks.drop k))[i+1]? with
    |none =>
     rw[NI,xC] at hq;rw[rF (by omega)]
    |some w =>
     obtain⟨y2,e5,_,_,_,e6,_⟩:=hD hq;rw[show k+i+1=k+(i+1) by omega,e5,e6 (by omega)]
   rw[e3,e4,p1,p2,p3];exact h5 (k+i) y e1
theorem Nv.ab0 {k:fo}(q7:Sep lo hi ks)(q2:ks[i]?=some k)(q8:∀j k,ks[j]?=some k->j≠i->∃cs',Nv F P l (loK lo ks j) (cT hi ks j) cs' k.es k.ps/\F l cs'/\bH (P k.pg) 204 0 l cs'){cut:Ky}
 (h1:Nv F P l (loK lo ks i) (some cut) wT jH lU)(g1:F l wT)(p1:bH (P k.pg) 204 0 l wT)(h2:Nv F P l cut (cT hi ks i) qM gM lV)(g2:F l qM)(p2:bH (P n2) 204 0 l qM)(c1:loK lo ks i<cut)(c2:∀b,cT hi ks i=some b->cut<b)(c3:1<=cut.length/\cut.length<=96)(qu:n2<4294967296):
  Nv F P (l+1) lo hi (c8 (i+1) (e_ n2 cut) (bF ks)) ((ks.take i).flatMap (·.es)++(jH++gM)++(ks.drop (i+1)).flatMap (·.es)) ((ks.take i).flatMap cL++(k.pg::lU++n2::lV)++(ks.drop (i+1)).flatMap cL):=by
 have c9:=(List.getElem?_eq_some_iff.1 q2).1;obtain⟨k1,lN⟩:∃k1:fo,k1=⟨k.key,k.pg,jH,lU⟩:=⟨_,U⟩;obtain⟨k2,kW⟩:∃k2:fo,k2=⟨cut,n2,gM,lV⟩:=⟨_,U⟩;have e1:k1.pg=k.pg:=by rw[lN]
 have e2:k1.key=k.key:=by rw[lN]
 have hS:=q7.set q2 e1 e2;have hlen:(ks.set i k1).length=ks.length:=cG;have tj:bF (c8 (i+1) k2 (ks.set i k1))=c8 (i+1) (e_ n2 cut) (bF ks):=by
  rw[<-ER q2 e1 e2,kW];simp only[bF,c8,rJ,gB,rL,tH]
 have nL:∀j x,(c8 (i+1) k2 (ks.set i k1))[j]?=some x->(j<=i/\(ks.set i k1)[j]?=some x)\/(j=i+1/\x=k2)\/(i+1<j/\(ks.set i k1)[j-1]?=some x):=λj x hx=>by
  rw[nc] at hx;by_cases c1:j<i+1
  .rw[ay c1] at hx;exact .inl ⟨by omega,hx⟩
  .rw[ai c1] at hx;by_cases c2:j=i+1
   .rw[ay c2] at hx;exact .inr (.inl ⟨c2,(bD hx).symm⟩)
   .rw[ai c2] at hx;exact .inr (.inr ⟨by omega,hx⟩)
 have R3:(ks.set i k1)[i]?=some k1:=jO c9;have QL:lo<cut:=by have:=q7.lo_le c9;grind
 have aeJ:∀b,hi=some b->cut<b:=λb hb=>by obtain⟨a,ha,mA⟩:=q7.QN (i:=i) b hb;have:=c2 a ha;grind
 have nY:k2.key=cut:=by rw[kW]
 have ab1:∀j x,1<=j->j<=i->(ks.set i k1)[j]?=some x->x.key<cut:=λj x a1 a2 hx=>by
  have I:loK lo ks i=k.key:=by rw[loK,ai (by omega),q2]
  rw[I] at c1;by_cases q:j=i
  .subst q;rw[R3] at hx;obtain rfl:=bD hx;rw[e2];exact c1
  .have:=hS.jZ j i x k1 hx R3 a1 (by omega);rw[e2] at this;grind
 have ab2:∀j x,i+1<=j->(ks.set i k1)[j]?=some x->cut<x.key:=λj x a1 hx=>by
  rw[lX (by omega)] at hx;have hj:=(List.getElem?_eq_some_iff.1 hx).1;have hn:ks[i+1]?=some (ks[i+1]'(by omega)):=aF _;have I:cT hi ks i=some (ks[i+1]'(by omega)).key:=by rw[cT,hn]
  have h4:=c2 _ I;by_cases q:j=i+1
  .subst q;rw[hn] at hx;obtain rfl:=bD hx;exact h4
  .have:=q7.jZ (i+1) j _ x hn hx (by omega) (by omega);grind
 have hg1:cL k1=k.pg::lU:=by rw[lN];rfl
 have FZ:cL k2=n2::lV:=by rw[kW];rfl
 rw[<-hg1,<-FZ];refine⟨c8 (i+1) k2 (ks.set i k1),tj.symm,⟨?_,λx hx => ?_,λx hx => ?_,λj x hx hj => ?_,λj x hx hj => ?_,λj j2 x y hx hy a1 a2 => ?_⟩,?_,?_,λj x hx => ?_⟩
 .intro e;have:=dg List.length e;rw[ki (by omega)] at this;simp at this
 .obtain⟨j,hj⟩:=List.mem_iff_getElem?.1 hx;rcases nL j x hj with⟨_,I⟩|⟨_,rfl⟩|⟨_,I⟩
  .exact hS.pg x (aJ I)
  .rw[kW];exact qu
  .exact hS.pg x (aJ I)
 .obtain⟨j,hj⟩:=List.mem_iff_getElem?.1 hx;rcases nL j x hj with⟨_,I⟩|⟨_,rfl⟩|⟨_,I⟩
  .exact hS.len x (aJ I)
  .rw[nY];exact c3.2
  .exact hS.len x (aJ I)
 .rcases nL j x hx with⟨_,I⟩|⟨_,rfl⟩|⟨_,I⟩
  .exact hS.sz j x I hj
  .rw[nY];exact c3.1
  .exact hS.sz (j-1) x I (by omega)
 .rcases nL j x hx with⟨_,I⟩|⟨_,rfl⟩|⟨_,I⟩
  .exact hS.bd j x I hj
  .rw[nY];exact⟨QL,aeJ⟩
  .exact hS.bd (j-1) x I (by omega)
 .rcases nL j x hx with⟨b1,I⟩|⟨b1,rfl⟩|⟨b1,I⟩
  .rcases nL j2 y hy with⟨b2,h4⟩|⟨b2,rfl⟩|⟨b2,h4⟩
   .exact hS.jZ j j2 x y I h4 a1 a2
   .rw[nY];exact ab1 j x a1 b1 I
   .exact hS.jZ j (j2-1) x y I h4 a1 (by omega)
  .rcases nL j2 y hy with⟨b2,h4⟩|⟨b2,rfl⟩|⟨b2,h4⟩
   .omega
   .omega
   .rw[nY];exact ab2 (j2-1) y (by omega) h4
  .rcases nL j2 y hy with⟨b2,h4⟩|⟨b2,rfl⟩|⟨b2,h4⟩
   .omega
   .omega
   .exact hS.jZ (j-1) (j2-1) x y I h4 (by omega) (by omega)
 .show _=(c8 (i+1) k2 (ks.set i k1)).flatMap (·.es);rw[c8,nC,eE,List.take_set,List.drop_set,ay (by omega),rz (by rw[cz];omega),rK,l8,lN,kW];simp[show min i (i+1)=i by omega,dN]
 .show _=(c8 (i+1) k2 (ks.set i k1)).flatMap cL;rw[c8,nC,eE,List.take_set,List.drop_set,ay (by omega),rz (by rw[cz];omega),rK,l8];simp[show min i (i+1)=i by omega,dN]
 .rcases nL j x hx with⟨b1,I⟩|⟨b1,rfl⟩|⟨b1,I⟩
  .have e3:loK lo (c8 (i+1) k2 (ks.set i k1)) j=loK lo ks j:=by
    rw[<-zQ q2 e2];unfold loK;rw[hx,I]
   rw[e3];by_cases q:j=i
   .subst q;rw[R3] at I;obtain rfl:=bD I;have e4:cT hi (c8 (j+1) k2 (ks.set j k1)) j=some cut:=by
     unfold cT;rw[nc,ai (by omega),ay U];exact dg some nY
    rw[e4,lN];exact⟨wT,h1,g1,p1⟩
   .have e4:cT hi (c8 (i+1) k2 (ks.set i k1)) j=cT hi ks j:=by
     rw[<-v8 q2 e2];unfold cT;rw[nc,ay (by omega)]
    rw[e4];rw[lX (jS q)] at I;exact q8 j x I q
  .subst b1;have e3:loK lo (c8 (i+1) x (ks.set i k1)) (i+1)=cut:=by
    unfold loK;rw[ai (by omega),hx];exact nY
   have e4:cT hi (c8 (i+1) x (ks.set i k1)) (i+1)=cT hi ks i:=by
    rw[<-v8 q2 e2];unfold cT;rw[nc,ai (by omega),ai (by omega)];rfl
   rw[e3,e4,kW];exact⟨qM,h2,g2,p2⟩
  .have e3:loK lo (c8 (i+1) k2 (ks.set i k1)) j=loK lo ks (j-1):=by
    rw[<-zQ q2 e2];unfold loK;rw[hx,I,ai (by omega),ai (by omega)]
   have e4:cT hi (c8 (i+1) k2 (ks.set i k1)) j=cT hi ks (j-1):=by
    rw[<-v8 q2 e2];unfold cT;rw[nc,ai (by omega),ai (by omega),show j+1-1=j-1+1 by omega]
   rw[e3,e4];rw[lX (by omega)] at I;exact q8 (j-1) x I (by omega)
theorem g_.two {f:pz}(h:g_ F P L r (f::fs) l lo hi n eL eR pO){cut:Ky}
 (h1:Nv F P l lo (some cut) wT jH lU)(g1:F l wT)(p1:bH (P n) 204 0 l wT)(h2:Nv F P l cut hi qM gM lV)(g2:F l qM)(p2:bH (P n2) 204 0 l qM)(c1:lo<cut)(c2:∀b,hi=some b->cut<b)(c3:1<=cut.length/\cut.length<=96)(qu:n2<4294967296):
  ∃fX eO I ji iT Yu nj,g_ F P L r fs (l+1) fX eO f.pg I ji iT/\Nv F P (l+1) fX eO (c8 (f.i+1) (e_ n2 cut) (bF f.ks)) Yu nj/\I++Yu++ji=eL++(jH++gM)++eR /\
   (iT++f.pg::nj).Perm (pO++n::n2::(lU++lV))/\bH (P f.pg) 204 0 (l+1) (bF f.ks)/\f.i<f.ks.length:=by
 obtain⟨fX,eO,I,ji,iT,k,q1,q2,rfl,rfl,rfl,q6,q7,_,q8,rfl,rfl,rfl⟩:=h;refine⟨fX,eO,I,ji,iT,_,_,q1,Nv.ab0 q7 q2 q8 h1 g1 p1 h2 g2 p2 c1 c2 c3 qu,by simp[dN],?_,q6,(List.getElem?_eq_some_iff.1 q2).1⟩;rw[vF,lY];intro x;simp only[lZ,l7,fJ];omega
end
def cy (cs:List (List Nat)): Nat:=tot cs+4*cs.length
theorem AL (h:cs[i]?=some c): cy (cs.take (i+1))=cy (cs.take i)+c.length+4:=by
 have I:=iW h;have h2:=(List.getElem?_eq_some_iff.1 h).1;simp only[cy,cz];omega
theorem uH : cy (cs.take k)+cy (cs.drop k)=cy cs:=by
 have I:=tX (a:=cs.take k) (b:=cs.drop k);have h2:=dg List.length (jP k cs);rw[aO] at h2;rw[jP] at I;simp only[cy];omega
structure mz (cs:List (List Nat))(least k:Nat): Prop where
 k1:1<=k
 k2:k<cs.length
 l1:least<=k
 l2:least+k<=cs.length
 s1:cy (cs.take k)<=486
 s2:cy (cs.drop k)<=486
theorem Tv (hM:∀c∈cs,c.length+4<=M)(h1:1<=a)(ha:a<=cy cs): ∃k,k<=cs.length/\a<=cy (cs.take k)/\cy (cs.take k)<a+M/\1<=k:=by
 have main:∀n,n<=cs.length->a<=cy (cs.take n)->∃k,k<=n/\a<=cy (cs.take k)/\cy (cs.take k)<a+M/\1<=k:=by
  intro n;induction n with
  |zero=>intro _ h;rw[tF] at h;simp[cy,tot] at h;omega
  |succ n ih =>
   intro hn h;by_cases q:a<=cy (cs.take n)
   .obtain⟨k,k1,k2⟩:=ih (by omega) q;exact⟨k,by omega,k2⟩
   .have I:cs[n]?=some (cs[n]'(by omega)):=aF _;have h2:=AL I;have h3:=hM _ (aJ I);exact⟨n+1,aH _,h,by omega,by omega⟩
 obtain⟨k,k1,k2⟩:=main cs.length (aH _) (by rw[jR];exact ha);exact⟨k,k1,k2⟩
theorem Cs (I:∀c∈cs,c.length+4<=M): cy cs<=cs.length*M:=by
 induction cs with
 |nil=>simp[cy,tot]
 |cons c cs ih =>
  have h1:=ih λx hx=>I x (bk _ hx);have h2:=I c a_;simp only[cy,tot,aW] at h1 ⊢;rw[rM,Df];omega
theorem Wu (hM:∀c∈cs,c.length+4<=229)(h1:486<cy cs)(h2:cy cs<=715): ∃k,mz cs 1 k:=by
 obtain⟨k,k1,k2,k3,I⟩:=Tv hM (a:=229) (by decide) (by omega);have hs:=uH (cs:=cs) (k:=k);have hk:k<cs.length:=by
  rcases tI k cs.length with q|q
  .exact q
  .rw[h_ q] at k3;omega
 exact⟨k,I,hk,I,by omega,by omega,by omega⟩
theorem LB (I:∀c∈cs,c.length+4<=104)(h1:486<cy cs)(h2:cy cs<=695): ∃k,mz cs 2 k:=by
 obtain⟨k,k1,k2,k3,k4⟩:=Tv I (a:=209) (by decide) (by omega);have hs:=uH (cs:=cs) (k:=k);have ht:=Cs (cs:=cs.take k) (M:=104) λx hx=>I x (iM hx);have hd:=Cs (cs:=cs.drop k) (M:=104) λx hx=>I x (i_ hx);rw[cz] at ht;rw[fA] at hd;exact⟨k,by omega,by omega,by omega,by omega,by omega,by omega⟩
structure Ej (es:List En)(k:Ky)(i:Nat): Prop where
 le:i<=es.length
 lo:∀j e,es[j]?=some e->j<i->e.1<k
 hi:∀j e,es[j]?=some e->i<=j->k<=e.1
def AM (es:List En)(i:Nat)(same:Bool)(e:En): List En:=cond same (es.set i e) (c8 i e es)
def sameE (es:List En)(k:Ky)(i:Nat): Bool:=match es[i]? with|some e=>decide (e.1=k)|none=>false
section
variable {lo:Ky} {k v:Ky}
theorem LC {c x:α}{l:List α}: x∈c8 i c l↔x=c\/x∈l:=by
 have:=jP i l;have I:x∈l↔x∈l.take i\/x∈l.drop i:=by rw[<-nH,this]
 rw[I,c8,nH,gd];constructor
 .rintro(q|q|q)
  .exact .inr (.inl q)
  .exact .inl q
  .exact .inr (.inr q)
 .rintro(q|q|q)
  .exact .inr (.inl q)
  .exact .inl q
  .exact .inr (.inr q)
theorem kj.put (h:kj lo hi es)(hl:Ej es k i)(hb:Bd lo hi k)(h1:1<=k.length)(h2:k.length<=96)(h3:v.length<=128): kj lo hi (AM es i (sameE es k i) (k,v)):=by
 cases hs:sameE es k i with
 |true =>
  show kj lo hi (es.set i (k,v));obtain⟨e,he,xM⟩:∃e,es[i]?=some e/\e.1=k:=by
   unfold sameE at hs;split at hs
   .rename_i e he;exact⟨e,he,rG hs⟩
   .cases hs
  have c9:=(List.getElem?_eq_some_iff.1 he).1;refine⟨λx I => ?_,λx I => ?_,?_⟩
  .rcases mI I with q|rfl
   .exact h.bd x q
   .exact hb
  .rcases mI I with q|rfl
   .exact h.sz x q
   .exact⟨h1,h2,h3⟩
  .rw[List.pairwise_iff_getElem];intro a b ha ob mA;have hs:=List.pairwise_iff_getElem.1 h.jZ a b (by simpa using ha) (by simpa using ob) mA;have e0:=(List.getElem?_eq_some_iff.1 he).2;rw[List.getElem_set,List.getElem_set];split
   .rename_i q;subst q;rw[ai (by omega)];rw[e0,xM] at hs;exact hs
   .split
    .rename_i _ q;subst q;rw[e0,xM] at hs;exact hs
    .exact hs
 |false =>
  show kj lo hi (c8 i (k,v) es);have fG:∀e,es[i]?=some e->e.1≠k:=λe he q=>by
   unfold sameE at hs;rw[he] at hs;simp[q] at hs
  refine⟨λx I => ?_,λx I => ?_,?_⟩
  .rcases LC.1 I with rfl|q
   .exact hb
   .exact h.bd x q
  .rcases LC.1 I with rfl|q
   .exact⟨h1,h2,h3⟩
   .exact h.sz x q
  .have zR:=h.jZ;rw[<-jP i es,yA] at zR;rw[c8,yA];have cq:∀x∈es.take i,x.1<k:=λx I=>by
    obtain⟨j,hj⟩:=List.mem_iff_getElem?.1 I;have kJ:=(List.getElem?_eq_some_iff.1 hj).1;rw[cz] at kJ;rw[ic,ay (by omega)] at hj;exact hl.lo j x hj (by omega)
   have hgt:∀x∈es.drop i,k<x.1:=λx I=>by
    obtain⟨j,hj⟩:=List.mem_iff_getElem?.1 I;rw[fq] at hj;have h4:=hl.hi (i+j) x hj (by omega);by_cases q:j=0
    .subst q;have:=fG x hj;grind
    .have c9:=(List.getElem?_eq_some_iff.1 hj).1;have h5:=List.pairwise_iff_getElem.1 h.jZ i (i+j) (by omega) c9 (by omega);rw[(List.getElem?_eq_some_iff.1 hj).2] at h5;have h6:=hl.hi i _ (aF (by omega)) (aH _);grind
   refine⟨zR.1,List.pairwise_cons.2 ⟨λx I=>hgt x I,zR.2.1⟩,λx I y hy => ?_⟩;rcases List.mem_cons.1 hy with rfl|hy
   .exact cq x I
   .exact zR.2.2 x I y hy
def uY (l:List En)(k v:Ky): List En:=l.filter (λe=>decide (e.1<k))++(k,v)::l.filter (λe=>decide (k<e.1))
theorem filter_none {p:α->Bool}{l:List α}(h:∀x∈l,p x=false): l.filter p=[]:=by
 rw[List.filter_eq_nil_iff];intro x I;rw[h x I];decide
theorem filter_all {p:α->Bool}{l:List α}(h:∀x∈l,p x=true): l.filter p=l:=List.filter_eq_self.2 h
theorem Wv (hs:(eL++es++eR).Pairwise λa b=>a.1<b.1)(hl:Ej es k i)(hL:∀e∈eL,e.1<k)(hR:∀e∈eR,k<e.1): uY (eL++es++eR) k v=eL++AM es i (sameE es k i) (k,v)++eR:=by
 have gI:=jP i es;have hT:∀x∈es.take i,x.1<k:=λx I=>by
  obtain⟨j,hj⟩:=List.mem_iff_getElem?.1 I;have kJ:=(List.getElem?_eq_some_iff.1 hj).1;rw[cz] at kJ;rw[ic,ay (by omega)] at hj;exact hl.lo j x hj (by omega)
 have hD:∀x∈es.drop i,k<=x.1:=λx I=>by
  obtain⟨j,hj⟩:=List.mem_iff_getElem?.1 I;rw[fq] at hj;exact hl.hi (i+j) x hj (by omega)
 have a1:eL.filter (λe=>decide (e.1<k))=eL:=filter_all λx I=>decide_eq_true (hL x I);have a2:eL.filter (λe=>decide (k<e.1))=[]:=filter_none λx I=>decide_eq_false (by have:=hL x I;grind);have a3:eR.filter (λe=>decide (e.1<k))=[]:=filter_none λx I=>decide_eq_false (by have:=hR x I;grind);have a4:eR.filter (λe=>decide (k<e.1))=eR:=filter_all λx I=>decide_eq_true (hR x I);have a5:es.filter (λe=>decide (e.1<k))=es.take i:=by
  conv=>lhs;rw[<-gI]
  rw[oM,filter_all λx I=>decide_eq_true (hT x I),filter_none λx I=>decide_eq_false (by have:=hD x I;grind),fZ]
 have zR:es.Pairwise λa b=>a.1<b.1:=(List.pairwise_append.1 (List.pairwise_append.1 hs).1).2.1;unfold uY;rw[oM,oM,oM,oM,a1,a2,a3,a4,a5,fZ,dL];cases hq:sameE es k i with
 |true =>
  obtain⟨e,he,xM⟩:∃e,es[i]?=some e/\e.1=k:=by
   unfold sameE at hq;split at hq
   .rename_i e he;exact⟨e,he,rG hq⟩
   .cases hq
  have c9:=(List.getElem?_eq_some_iff.1 he).1;have OQ:es.drop i=e::es.drop (i+1):=by
   rw[mH c9,(List.getElem?_eq_some_iff.1 he).2]
  have a6:es.filter (λe=>decide (k<e.1))=es.drop (i+1):=by
   conv=>lhs;rw[<-gI,OQ]
   rw[oM,List.filter_cons,filter_none λx I=>decide_eq_false (by have:=hT x I;grind),ai (by simp[xM]),dL];refine filter_all λx I=>decide_eq_true ?_;have h2:(e::es.drop (i+1)).Pairwise λa b=>a.1<b.1:=by rw[<-OQ];exact zR.sublist (List.drop_sublist _ _)
   have:=(List.pairwise_cons.1 h2).1 x I;rw[xM] at this;exact this
  rw[a6];show _=eL++es.set i (k,v)++eR;rw[CT,ay c9];simp[dN]
 |false =>
  have fG:∀e,es[i]?=some e->e.1≠k:=λe he q=>by
   unfold sameE at hq;rw[he] at hq;simp[q] at hq
  have a6:es.filter (λe=>decide (k<e.1))=es.drop i:=by
   conv=>lhs;rw[<-gI]
   rw[oM,filter_none λx I=>decide_eq_false (by have:=hT x I;grind),dL];refine filter_all λx I=>decide_eq_true ?_;have h4:=hD x I;obtain⟨j,hj⟩:=List.mem_iff_getElem?.1 I;rw[fq] at hj;by_cases q:j=0
   .subst q;have:=fG x hj;grind
   .have c9:=(List.getElem?_eq_some_iff.1 hj).1;have h5:=List.pairwise_iff_getElem.1 zR i (i+j) (by omega) c9 (by omega);rw[(List.getElem?_eq_some_iff.1 hj).2] at h5;have h6:=hl.hi i _ (aF (by omega)) (aH _);grind
  rw[a6];show _=eL++c8 i (k,v) es++eR;simp[c8,dN]
end
section
variable {P:Int->List Nat}
theorem g_.bd : ∀ {fs:List pz} {l:Nat} {lo:Ky} {hi:Option Ky} {n:Nat} {eL eR:List En} {pO:List Nat},g_ F P L r fs l lo hi n eL eR pO->(∀e∈eL,e.1<lo)/\∀e∈eR,∃b,hi=some b/\b<=e.1:=by
 intro fs;induction fs with
 |nil=>rintro l lo hi n eL eR pO ⟨_,_,_,_,rfl,rfl,_⟩;exact⟨λe he=>(by cases he),λe he=>(by cases he)⟩
 |cons f fs ih =>
  rintro l lo hi n eL eR pO ⟨fX,eO,ni,ji,iT,k,h1,h2,rfl,rfl,rfl,h6,h7,_,h8,rfl,rfl,rfl⟩;obtain⟨i1,i2⟩:=ih h1;have c9:=(List.getElem?_eq_some_iff.1 h2).1;refine⟨λe he => ?_,λe he => ?_⟩
  .rcases List.mem_append.1 he with he|he
   .have:=i1 e he;have:=h7.lo_le c9;grind
   .obtain⟨x,hx,he⟩:=List.mem_flatMap.1 he;obtain⟨j,I⟩:=List.mem_iff_getElem?.1 hx;have kJ:=(List.getElem?_eq_some_iff.1 I).1;rw[cz] at kJ;rw[ic,ay (by omega)] at I;obtain⟨cs',a1,_,_⟩:=h8 j x I (by omega);have hb:=(a1.ok.bd e he).2;have hn:f.ks[j+1]?=some (f.ks[j+1]'(by omega)):=aF _;have h9:=hb (f.ks[j+1]'(by omega)).key (by rw[cT,hn]);have e1:loK fX f.ks f.i=k.key:=by rw[loK,ai (by omega),h2]
    rw[e1];by_cases q:j+1=f.i
    .have u9:f.ks[j+1]?=some k:=by rw[q];exact h2
     rw[hn] at u9;rw[<-bD u9];exact h9
    .have:=h7.jZ (j+1) f.i _ k hn h2 (by omega) (by omega);grind
  .rcases List.mem_append.1 he with he|he
   .obtain⟨x,hx,he⟩:=List.mem_flatMap.1 he;obtain⟨j,I⟩:=List.mem_iff_getElem?.1 hx;rw[fq] at I;obtain⟨cs',a1,_,_⟩:=h8 (f.i+1+j) x I (by omega);have hb:=(a1.ok.bd e he).1;rw[loK,ai (by omega),I] at hb;have I4:=(List.getElem?_eq_some_iff.1 I).1;have hn:f.ks[f.i+1]?=some (f.ks[f.i+1]'(by omega)):=aF _;refine⟨(f.ks[f.i+1]'(by omega)).key,by rw[cT,hn],?_⟩;by_cases q:j=0
    .subst q;rw[eF,hn] at I;obtain rfl:=bD I;exact hb
    .have:=h7.jZ (f.i+1) (f.i+1+j) _ x hn I (by omega) (by omega);grind
   .obtain⟨b,hb,R8⟩:=i2 e he;obtain⟨a,ha,mA⟩:=h7.QN (i:=f.i) b hb;exact⟨a,ha,by grind⟩
end
theorem Ct : ∀ {l m:List Nat},l.Nodup->(∀x∈l,x∈m)->l.length<=m.length:=by
 intro l;induction l with
 |nil=>intro m _ _;exact gh _
 |cons x l ih =>
  intro m hn hs;obtain⟨h1,h2⟩:=List.nodup_cons.1 hn;have I:=hs x a_;have:=ih (m:=m.erase x) h2 λy hy=>(List.mem_erase_of_ne (λe=>h1 (by rw[<-e];exact hy))).2 (hs y (bk _ hy));rw[List.length_erase_of_mem I] at this;have:=List.length_pos_of_mem I;rw[aW];omega
def cM (Z:List Nat)(l:Nat)(cs:List (List Nat)): Prop:=if l=0 then cs≠[] else 2<=cs.length\/∃p∈Z,∃k,p<4294967296/\cs=[e_ p k]
def o5 (Z ps:List Nat): Nat:=ps.countP (Z.contains ·)
section
variable {Z:List Nat} {P:Int->List Nat}
theorem LF {g:α->Nat}{f:α->List Nat}: ∀ {ks:List α},(∀k∈ks,(f k).length+z<=g k)->(ks.flatMap f).length+z*ks.length<=(ks.map g).sum:=by
 intro ks;induction ks with
 |nil=>intro _;simp
 |cons k ks I =>
  intro h;have h1:=h k a_;have h2:=I λx hx=>h x (bk _ hx);rw[eE,aO,gB,qg,aW,Nat.mul_add,cH];omega
theorem Tw : (ks.map λk=>2*k.es.length+o5 Z (cL k)).sum=2*(ks.flatMap (·.es)).length+o5 Z (ks.flatMap cL):=by
 induction ks with
 |nil=>rfl
 |cons k ks I=>rw[gB,qg,eE,eE,aO,I,o5,o5,o5,List.countP_append];omega
theorem Nv.count : ∀ {l:Nat} {lo:Ky} {hi:Option Ky} {cs:List (List Nat)} {es:List En} {ps:List Nat},Nv (cM Z) P l lo hi cs es ps->cM Z l cs->ps.length+2<=2*es.length+o5 Z ps/\1<=es.length/\(Z=[]->2^l<=es.length):=by
 intro l;induction l with
 |zero =>
  rintro lo hi cs es ps ⟨rfl,h2,rfl⟩ h;have h:es.map eB≠[]:=h;have:1<=es.length:=by
   cases es with
   |nil=>exact absurd U h
   |cons x t=>simp
  exact⟨by rw[b6];omega,this,λ_=>this⟩
 |succ l ih =>
  rintro lo hi cs es ps ⟨ks,rfl,h2,rfl,rfl,h5⟩ h;rw[cM,ai (by omega),dn] at h;have I:∀k∈ks,k.ps.length+2<=2*k.es.length+o5 Z k.ps/\1<=k.es.length/\(Z=[]->2^l<=k.es.length):=λk hm=>by
   obtain⟨i,hi⟩:=List.mem_iff_getElem?.1 hm;obtain⟨cs',a1,a2,_⟩:=h5 i k hi;exact ih a1 a2
  rcases h with h|⟨p,hp,key,aeK,h⟩
  .have h1:=LF (g:=λk=>2*k.es.length+o5 Z (cL k)) (f:=cL) (z:=1) (ks:=ks) λk hm=>by
    have:=(I k hm).1;rw[cL,aW,o5,Hr];rw[o5] at this;omega
   rw[Tw] at h1;match ks,h,I,h1 with
   |k1::k2::t,_,I,h1 =>
    have a1:=I k1 (by simp);have a2:=I k2 (by simp);refine⟨?_,?_,λhz => ?_⟩
    .simp only[aW] at h1;omega
    .simp only[eE,aO];omega
    .have b1:=a1.2.2 hz;have b2:=a2.2.2 hz;simp only[eE,aO];rw[Nat.pow_succ];omega
  .have hl:=dg List.length h;rw[dn] at hl;match ks,hl with
   |[k],_ =>
    have eA:k.pg=p:=by
     have h:[e_ k.pg k.key]=[e_ p key]:=h;have h6:=dg (List.take 4) (List.cons.inj h).1;rw[e_,e_,fY (cQ 4 _),fY (cQ 4 _)] at h6;have h7:=dg leN h6
     rwa [Cp,Cp,vI (by have:=h2.pg k (by simp);simpa using this),vI (by simpa using aeK)] at h7
    have a1:=I k (by simp);have hc:Z.contains k.pg=true:=by rw[eA];simpa using hp
    refine⟨?_,?_,λhz=>by rw[hz] at hp;cases hp⟩
    .simp only[eE,tE,fZ,cL,aW,o5,Hr];rw[ay hc];have:=a1.1;rw[o5] at this;omega
    .simp only[eE,tE,fZ];omega
theorem aab (h:ps.Nodup): o5 Z ps<=Z.length:=by
 rw[o5,List.countP_eq_length_filter];refine Ct (h.sublist List.filter_sublist) λx I => ?_;simpa using(List.mem_filter.1 I).2
theorem Nv.deep : ∀ {l:Nat} {lo:Ky} {hi:Option Ky} {cs:List (List Nat)} {es:List En} {ps:List Nat},Nv F P l lo hi cs es ps->l<=ps.length:=by
 intro l;induction l with
 |zero=>intros;exact gh _
 |succ l ih =>
  rintro lo hi cs es ps ⟨ks,rfl,h2,rfl,rfl,I⟩;match ks,h2.ne,I with
  |k::t,_,I =>
   obtain⟨cs',a1,_⟩:=I 0 k U;have:=ih a1;simp only[eE,aO,cL,aW];omega
theorem Nv.bI {lo:Ky}(h:Nv (cM Z) P L lo hi cs es ps)(hn:ps.Nodup): ps.length<=2*es.length+Z.length/\(Z=[]->1<=L->2^(L-1)<=es.length)/\(1<=L->1<=es.length):=by
 have hz:=aab (Z:=Z) hn;cases L with
 |zero =>
  obtain⟨rfl,h2,rfl⟩:=h;exact⟨gh _,λ_ h=>by omega,λh=>by omega⟩
 |succ l =>
  obtain⟨ks,rfl,h2,rfl,rfl,h5⟩:=h;have I:∀k∈ks,k.ps.length+2<=2*k.es.length+o5 Z k.ps/\1<=k.es.length/\(Z=[]->2^l<=k.es.length):=λk hm=>by
   obtain⟨i,hi⟩:=List.mem_iff_getElem?.1 hm;obtain⟨cs',a1,a2,_⟩:=h5 i k hi;exact a1.count a2
  have h1:=LF (g:=λk=>2*k.es.length+o5 Z (cL k)) (f:=cL) (z:=1) (ks:=ks) λk hm=>by
   have:=(I k hm).1;rw[cL,aW,o5,Hr];rw[o5] at this;omega
  rw[Tw] at h1;match ks,h2.ne,I,h1,hz with
  |k1::t,_,I,h1,hz =>
   have a1:=I k1 (by simp);refine⟨by omega,λe _ => ?_,λ_ => ?_⟩
   .have:=a1.2.2 e;simp only[eE,aO,Nat.add_sub_cancel];omega
   .simp only[eE,aO];omega
end
section
variable {v:V} {m:List Nat}
theorem Ii {n b:Nat}(s:Sat h (bf (.sl id 0 n cap) l::S))(hn:n=l.length)(mA:a<b)(hb:b<=l.length): ∃I,slR (.sl id 0 n cap) a b=.sl id a (b-a) I:=by
 cases cap with
 |exact c =>
  refine⟨.exact (c-a),?_⟩;simp only[slR];by_cases Ye:c=a
  .obtain⟨m',r,h1,h2,h3⟩:=s.at (k:=0) U;rcases h3.2 with⟨e,_⟩|⟨w8,cs',c',e,hg,SD⟩|⟨w8,e,_⟩
   .cases e
   .grind
   .grind
  grind[fM]
 |rest e alt=>simp[slR]
theorem LG {c:Nat}{rest:List V}(s:Sat h (pt id (.cells c (ofBytes l++rest) false)::S))(hc:l.length+rest.length=c)(hm:a+m.length<=l.length)(h1:1<=m.length):
  wrN h id a (ofBytes m)=some (h.put id (some (.cells c (ofBytes (az l a m)++rest) false))):=by
 simp only[wrN,s.row (k:=0) U,dJ];rw[aS.2 (by omega),ag];have e0:(ofBytes l++rest).take a++(ofBytes m++(ofBytes l++rest).drop (a+m.length))=ofBytes (az l a m)++rest:=by
  grind[dJ,wG,BX,az,ue]
 cases I:(Nat.beq a 0&&Nat.beq m.length c)<;>grind[beq_iff,List.drop_eq_nil_of_le,dJ]
theorem Tx (s:Sat h (bf v l::S)){b n:Nat}(ha:a+n<=l.length)(hb:b+n<=l.length)(h1:1<=n):
  ∃h',copyV Tryz.prog h 29 (slR v a (a+n)) (slR v b (b+n))=some (.int .i64 (n:Nat),h')/\Sat h' (bf v (az l a ((l.drop b).take n))::S):=by
 have hv:=(s.buf (k:=0) U).1;obtain⟨id,c,cap,rest,rfl,s1,hc,hf⟩:=s.eX (by omega);obtain⟨agk,e1⟩:=Ii (a:=a) (b:=a+n) s U (by omega) ha;obtain⟨HW,e2⟩:=Ii (a:=b) (b:=b+n) s U (by omega) hb;have hvw:=(s.buf (k:=0) U).view;rw[e1,e2,tv,tv];have hz:((l.drop b).take n).length=n:=by rw[cz,fA];omega
 have hg:=s1.row (k:=0) U;have jm:rdN h id b (Nat.min n n*1)=some (ofBytes ((l.drop b).take n)):=by
  rw[cH,show Nat.min n n=n from Nat.min_self n];have I:=(fR hvw (a:=b) (b:=b+n) (by omega) hb).2.1;rw[e2,tv,l8,tv] at I;exact I.rdN.2
 simp only[copyV,aP,fO,jm];rw[LG s1 hc (by rw[hz];omega) (by rw[hz];omega)];refine⟨_,by rw[show Nat.min n n=n from Nat.min_self n],hf _ _ (bG (by rw[hz];omega)) (xz hv (λx hx=>hv x (i_ (iM hx)))) ?_⟩;exact s1.put (k:=0) U
theorem Ty (s:Sat h (bf v l::S)){b:Nat}(mA:a<b)(hb:b<=l.length):
  ∃h',clearV Tryz.prog h 29 (slR v a b)=some h'/\Sat h' (bf v (az l a (List.replicate (b-a) 0))::S):=by
 have hv:=(s.buf (k:=0) U).1;obtain⟨id,c,cap,rest,rfl,s1,hc,hf⟩:=s.eX (by omega);obtain⟨I,e1⟩:=Ii (a:=a) (b:=b) s U (by omega) hb;rw[e1];have e2:repeatL [V.int .u8 0] (b-a)=ofBytes (List.replicate (b-a) 0):=Og _;refine⟨_,?_,hf _ (az l a (List.replicate (b-a) 0)) (bG (by rw[gA];omega)) (xz hv (λx hx=>by rw[yw hx];decide)) (s1.put (k:=0) U)⟩;simp only[clearV,aP,qY,V.cells,aW,b6];rw[aS.2 (by omega:1<=b-a),show(Nat.ble 1 (0+1)&&true)=true from U,ag,e2,LG s1 hc (by rw[gA];omega) (by rw[gA];omega)]
end
section
variable {o:Oper} {v:V} {m:List Nat}
theorem OpR.Yv {b a2 b2 n:Nat}(hP:C.P=Tryz.prog)(s:Sat h (bf v l::S))(I:o.op=.call cl)(hc:cl.callee=.builtin .copy)(yV:cl.argTypes = #[29,29])(hx:lookArgs E cl.args.toList=some [slR v a a2,slR v b b2])
 (ea:a2=a+n)(eb:b2=b+n)(ha:a+n<=l.length)(hb:b+n<=l.length)(hl:1<=l.length): OpR C E h o λ_ h₁=>Sat h₁ (bf v (az l a ((l.drop b).take n))::S):=by
 subst ea eb;by_cases h1:1<=n
 .obtain⟨h₁,e1,e2⟩:=Tx s ha hb h1;refine OpR.builtin I hc hx ⟨.int .i64 (n:Nat),h₁,?_,e2⟩;simp only[builtinV,hP,yV,e1]
 .have hn:n=0:=by omega
  subst hn;obtain⟨h₁,e1,e2⟩:=Jd (a:=a) (b:=b) s ha hb hl;refine OpR.builtin I hc hx ⟨.int .i64 0,h₁,?_,?_⟩
  .simp only[builtinV,hP,yV,eF,e1]
  .rw[tF,az,b6,eF,dL,jP];exact e2
theorem OpR.Tz {b:Nat}(hP:C.P=Tryz.prog)(s:Sat h (bf v l::S))(I:o.op=.call cl)(hc:cl.callee=.builtin .clear)(yV:cl.argTypes = #[29])(hx:lookArgs E cl.args.toList=some [slR v a b])
 (mA:a<b)(hb:b<=l.length): OpR C E h o λ_ h₁=>Sat h₁ (bf v (az l a (List.replicate (b-a) 0))::S):=by
 obtain⟨h₁,e1,e2⟩:=Ty s mA hb;refine OpR.builtin I hc hx ⟨.aX [],h₁,?_,e2⟩;simp only[builtinV,hP,yV,e1,gQ]
end
section
variable {told:cu} {v:V}
theorem LH (hT:W told)(s:Sat h S)(hk:getA S k=some X)(hX:cC X (cK v b))(hp:bH b kd link extra cs)(hc:cs[i]?=some c):
  Call ⟨Tryz.prog,told⟩ 187 [.agg [v],.int .i64 (i:Int)] h λr h'=>∃f,r=slR3 v f (f+c.length) (f+c.length)/\cC X (cK r c)/\Sat h' S:=by
 have hv:=s.aC hk hX;have hl:=hp.len;have hi:=(List.getElem?_eq_some_iff.1 hc).1;have oY:=hp.low;obtain⟨s0,s1,s2,s3⟩:=hp.slot i c hc;have I:=hp.cell hc;generalize hf:bB b i=f at s0 s1 s3 I;obtain⟨pi,po,pc,rfl⟩:=iB hv;refine Call.of_wp (hT.free _ U) Tryz.func187 U U (zg U ?_);refine au.cj s U U U (fC U U) (λp2 h s => ?_);refine zk 4 U (zl U (s.b9 (k:=0) U bC aV) (zm U (zc U (tQ hT s (kT hk) hX hl (by omega)) ?_)));rintro r h' ⟨rfl,s⟩;rw[hf,s2];refine zk 8 U (zY s 0 ey bS U (zk 3 U (zb U (by exact aL ak) ?_)));refine zk 2 U (zb U (by exact aL ak) ?_);have e1:(f:Int)+(c.length:Int)=((f+c.length:Nat):Int):=by omega
 have jF:=uh (s.aC (kT hk) hX) (a:=f) (b:=f+c.length) (c:=f+c.length) (by omega) (aH _) (by omega) (by omega);rw[e1];refine zo U (bK (p:=some (.int .i64 (f:Int))) (q:=some (.int .i64 ((f+c.length:Nat):Int))) (m:=some (.int .i64 ((f+c.length:Nat):Int))) (p':=some f) (q':=some (f+c.length)) (m':=some (f+c.length)) U U U U (by rw[bN];rfl) (by rw[bN];rfl) (by rw[bN];rfl) jF) ?_;refine zk 2 U (WP.ret ⟨aa,_,U,?_⟩);refine⟨f,U,?_,s.drop⟩;have:=B0 hX (a:=f) (b:=f+c.length) (c:=f+c.length) (by omega) (aH _) (by omega) (by omega);rw[l8,show f+c.length-f=c.length by omega,I] at this;exact this
theorem LI (I:W told)(s:Sat h S)(hk:getA S k=some X)(hX:cC X (cK v b))(hp:bH b kd link extra cs):
  Call ⟨Tryz.prog,told⟩ 125 [.agg [v]] h λr h'=>r=.int .i64 ((dA b:Int)-(26+4*(cs.length:Int)))/\Sat h' S:=by
 have hv:=s.aC hk hX;have hl:=hp.len;have oY:=hp.low;obtain⟨pi,po,pc,rfl⟩:=iB hv;refine Call.of_wp (I.free _ U) Tryz.func125 U U (zg U ?_);refine au.cj s U U U (fC U U) (λp1 h s => ?_);refine zk 3 U ?_;have s0:=s;refine WP.drawn [none,none,some (1,2),some (0,2),af,af,af,af] U (by kernel_rfl) (by kernel_rfl) ?_;refine zL U (s.b9 (k:=0) U bC aV) (aB.any U U U U (OpR.call U U U U (B6 I s (kT hk) hX hl)) ?_);rintro r h' ⟨rfl,s⟩;have s1:=s;refine zO U (aq U U (by exact dV ak)) ?_;refine zL U (s.b9 (k:=0) U bC aV) (aB.any U U U U (OpR.call U U U U (gy I s (kT hk) hX hl)) ?_);rintro r h' ⟨rfl,s⟩;rw[hp.gu];refine zO U (aq U U (by exact jf ak)) ?_;refine zO U (aq U U (by exact dV ak)) ?_;refine zA U ?_;refine aB.nil ⟨⟨aa,aa,λ_ _=>.inr ⟨U,⟨_,aq U U (by exact dV ak)⟩,bx _ U⟩,gF (.inr ⟨U,⟨_,o_load U (s0.b9 (k:=0) U bC aV)⟩,bx _ U⟩) (.inr ⟨U,⟨_,o_load U (s1.b9 (k:=0) U bC aV)⟩,bx _ U⟩),yr 5⟩,?_⟩;refine WP.ret ⟨aa,_,U,?_⟩;exact⟨dg (V.int .i64) (by omega),s.drop⟩
theorem Nw (hT:W told)(hX:cC X (cK x b))(IN:x.cells=[x])(hp:bH b kd link extra cs): ∀(m i:Nat) (h:H) (E:List (Nat×V)) (Q:Ex->List (Nat×V)->H->Prop),i+m=cs.length ->
  Sat h (pt p1 (.cells 1 [x] false)::X::S)->Has E [(1,.ptr p1 0),(3,.int .i64 (486-(4*(cs.length:Int)+(tot (cs.take i):Int)))),(12,.int .i64 (cs.length:Int)),(13,.int .i64 (i:Int))] ->
  (∀E' h',Has E' [(3,.int .i64 (486-(4*(cs.length:Int)+(tot cs:Int))))]->Sat h' (pt p1 (.cells 1 [x] false)::X::S)->Q (.exit 0) E' h')->WP ⟨Tryz.prog,told⟩ 27 (.loop pfL) E h Q:=by
 have hl:=hp.len;have dx:=hp.fits;intro m;induction m with
 |zero =>
  intro i h E Q hi s hE hq;refine WP.loop (WP.has hE (zg U (zC U aK (by simp<;>omega) ?_)));refine zk 3 U (WP.exit ?_);refine hq _ _ ⟨?_,aa⟩ s;rw[show cs.take i=cs from h_ (by omega)];rfl
 |succ m ih =>
  intro i h E Q hi s hE hq;have I:cs[i]?=some (cs[i]'(by omega)):=aF _;generalize (cs[i]'(by omega))=c at I;obtain⟨s0,s1,s2,s3⟩:=hp.slot i c I;have I7:=lG (cs:=cs) (i:=i+1);have Lr:=iW I;refine WP.loop (WP.has hE (zg U (zB U aK (by simp<;>omega) ?_)));refine zk 5 U (WP.block (zK 7 U (zl U (s.b9 (k:=0) U bC aV) (zm U (zc U (tQ hT (i:=i) s (k:=1) U hX hl (by omega)) ?_)))));rintro r h' ⟨rfl,s⟩;rw[s2];refine zk 9 U (zb U (by exact dV ak) ?_);refine za U (zv (zr U (zb U (by exact aL ak) ?_)));refine zm U (zv ?_);refine ih (i+1) _ _ Q (by omega) s ⟨U,?_,U,U,aa⟩ hq;exact dg (λz=>some (V.int .i64 z)) (by omega)
theorem Ji (hT:W told)(s:Sat h (X::S))(hX:cC X (cK v b))(I:bH b kd link extra cs):
  Call ⟨Tryz.prog,told⟩ 123 [.agg [v]] h λr h'=>r=.int .i64 (486-(4*(cs.length:Int)+(tot cs:Int)))/\Sat h' (X::S):=by
 have hv:=s.aC (k:=0) U hX;have hl:=I.len;have dx:=I.fits;obtain⟨pi,po,pc,rfl⟩:=iB hv;refine Call.of_wp (hT.free _ U) Tryz.func123 U U (zg U ?_);refine au.cj s U U U (fC U U) (λp1 h s => ?_);refine zk 4 U (zl U (s.b9 (k:=0) U bC aV) (zc U (gy hT s (k:=1) U hX hl) ?_));rintro r h' ⟨rfl,s⟩;rw[I.gu];refine zb U (by exact jf ak) ?_;refine zb U (by exact dV ak) ?_;refine zk 5 U (zl U (s.b9 (k:=0) U bC aV) (zc U (gy hT s (k:=1) U hX hl) ?_));rintro r h' ⟨rfl,s⟩;rw[I.gu];refine zk 2 U (WP.block ?_);refine Nw hT hX U I cs.length 0 _ _ _ (by omega) s ⟨U,?_,U,U,aa⟩ (λE' h' hE s' => ?_)
 .exact dg (λz=>some (V.int .i64 z)) (by have:tot (cs.take 0)=0:=rfl;omega)
 have s:=s';exact WP.has hE (zK 5 U (WP.ret ⟨aa,_,U,U,s.del 0⟩))
noncomputable def anL : Code:=dm [1,1,1,1,0,1,0,0] ((Tryz.f126.body).getD .skip)
theorem TA (hT:W told){p2:Nat}(hp:bH b0 kd link extra cs): ∀(m i lo:Nat) (b:List Nat) (h:H) (E:List (Nat×V)) (Q:Ex->List (Nat×V)->H->Prop),i+m=cs.length->lo+tot (cs.take i)=512->An b0 cs i b ->
  Sat h (pt p1 (.cells 1 [v] false)::pt p2 (.cells 1 [w] false)::bf v b::bf w b0::S)->Has E [(1,.ptr p1 0),(2,.ptr p2 0),(3,.int .i64 (lo:Int)),(4,.int .i64 (cs.length:Int)),(13,.int .i64 (cs.length:Int)),(14,.int .i64 (i:Int))] ->
  (∀E' h' lo b',lo+tot cs=512->An b0 cs cs.length b'->Has E' [(1,.ptr p1 0),(2,.ptr p2 0),(3,.int .i64 (lo:Int)),(4,.int .i64 (cs.length:Int))]->Sat h' (pt p1 (.cells 1 [v] false)::pt p2 (.cells 1 [w] false)::bf v b'::bf w b0::S)->Q (.exit 0) E' h')->WP ⟨Tryz.prog,told⟩ 48 (.loop anL) E h Q:=by
 have IA:=hp.len;have dx:=hp.fits;intro m;induction m with
 |zero =>
  intro i lo b h E Q hi jG ha s hE hq;have hi:i=cs.length:=hi;subst hi;rw[jR] at jG;refine WP.loop (WP.has hE (zg U (zC U aK (by simp) ?_)));exact zk 3 U (WP.exit (hq _ _ _ _ jG ha ⟨U,U,U,U,aa⟩ s))
 |succ m ih =>
  intro i lo b h E Q hi jG ha s hE hq;have Yw:cs[i]?=some (cs[i]'(by omega)):=aF _;generalize (cs[i]'(by omega))=c at Yw;have hl:=ha.len;have I7:=lG (cs:=cs) (i:=i+1);have Lr:=iW Yw;obtain⟨I,QL⟩:∃I,I+c.length=lo:=⟨lo-c.length,by omega⟩;obtain⟨lS,_,cap,_,rfl,_⟩:=(s.ae [2]).eX (by omega);refine WP.loop (WP.has hE (zg U (zB U aK (by simp;omega) ?_)));refine zk 5 U (WP.block (zK 7 U (zl U (s.b9 (k:=1) U bC aV) (zm U (zc U (LH (i:=i) (c:=c) hT s (k:=3) U (bh _ _) hp Yw) ?_)))));rintro r h' ⟨f,rfl,hr,s⟩;refine zk 6 U (zo U (aD U U U (bw aP (s.aC (k:=3) U hr))) (zo U (aq (r:=.int .i64 (I:Int)) U U (by rw[show((I:Nat):Int)=(lo:Int)-(c.length:Int) by omega];exact dV ak)) ?_));refine zk 4 U (zY s 0 ey bS U (zm U ?_));have jF:=iu (s.aC (k:=2) U (bh _ _)) (a:=I) (by omega);refine zo U (bK (p:=some (.int .i64 (I:Int))) (q:=none) (m:=none) (p':=some I) (q':=none) (m':=none) U U U U (by rw[bN];rfl) U U jF.1) ?_;refine zm U (au.any U U U (OpR.J3 U (s.ae [2,2]) hr U U U U (by omega) (aH _) (by omega)) ?_);intro r h s;rw[h_ (by omega)] at s;have s:=s.ae [2,2,0,0];dsimp only[aM,bringA,getA] at s;have l1:(az b I c).length=512:=by rw[bG,hl]
  refine zk 2 U (zl U (s.b9 (k:=0) U bC aV) (zk 3 U (zo U (aD U U U (bw aP (s.aC (k:=3) U hr))) (zc U (sX (i:=i) (f:=I) (z:=c.length) hT (s.ae [2]) l1 (by omega) (by omega) (by omega)) ?_))));rintro r h ⟨rfl,s⟩;have s:=s.ae [1,1,0,0];dsimp only[aM,bringA,getA] at s;refine zv (zr U (zb U (by exact aL ak) ?_));refine zm U (zv ?_);exact ih (i+1) I _ _ _ Q (by omega) (by omega) (ha.step dx Yw (by omega)) s ⟨U,U,U,U,U,U,aa⟩ hq
theorem OR (I:W told)(s:Sat h (bf v b::S))(hp:bH b kd link extra cs)(hr:26+4*cs.length+tot cs<512):
  Call ⟨Tryz.prog,told⟩ 126 [.agg [v]] h λr h'=>r=.aX []/\∃b',fh b' kd link extra cs/\Sat h' (bf v b'::S):=by
 have hl:=hp.len;have hle:∀n,(le 2 n).length=2:=λn=>cQ 2 n;obtain⟨lS,_,cap,_,rfl,_⟩:=s.eX (by omega);refine Call.of_wp (I.free _ U) Tryz.func126 U U (zg U ?_);refine au.cj s U U U (fC U U) (λp1 h s => ?_);refine zk 3 U (zY s 0 ey bS U (au.any U U U (OpR.qB U ((s.ae [1]).F3) (bh _ _) U U U U (by simp;omega)) ?_));intro w h s;rw[dL] at s;obtain⟨wid,_,Ck,_,rfl,_⟩:=s.eX (by omega);refine zo U (cO U (by rw[As];rfl)) ?_;refine au.cj s U U U (cm jD) (λp2 h s => ?_);refine zS U (s.gZ (j:=0) U aV U U) ?_;intro h s;have s:=s.ae [3,0,1,0];refine zk 7 U (zl U (s.b9 (k:=0) U bC aV) (zc U (gy I s (k:=2) U (bh _ _) hl) ?_));rintro r h' ⟨rfl,s⟩;rw[hp.gu];refine zk 8 U (WP.block (TA I hp cs.length 0 512 _ _ _ _ (by omega) U (An.start hl) s ⟨U,U,U,U,U,U,aa⟩ λE' h' lo b' jG ha dY s' => ?_));have s:=s';have D8:=ha.len;refine WP.has dY ?_;have q1:((26:Int)+4*(cs.length:Int)).toNat=26+4*cs.length:=by omega
 refine zg U (zY s 0 ey bS U (zm U (zb U (by exact jf ak) ?_)));refine zb U (by exact aL ak) ?_;refine zm U (zo U (bK (p:=some (.int .i64 (26+4*(cs.length:Int)))) (q:=some (.int .i64 (lo:Int))) (m:=none) (p':=some (26+4*cs.length)) (q':=some lo) (m':=none) U U U U (by rw[bN,q1]) (by rw[bN];rfl) U (fR (s.buf (k:=2) U).view (by omega) (by omega)).1) ?_);refine au.lJ U U (OpR.Tz U (s.ae [2]) U U U U (by omega) (by omega)) ?_;intro r h s;refine zk 2 U (zl U (s.b9 (k:=1) U bC aV) (zm U (zo U (cS U (by exact kU b_ eZ iO)) ?_)));have l1:(az b' (26+4*cs.length) (List.replicate (lo-(26+4*cs.length)) 0)).length=512:=by rw[bG (by rw[gA];omega),D8]
 refine zc U (nW (a:=16) (z:=2) (n:=lo) I s (by decide) (by decide) (by omega) (by omega)) ?_;rintro r h ⟨rfl,s⟩;exact zv ⟨aa,_,U,U,_,ha.done hp jG,(s.del 3 |>.del 2 |>.del 1)⟩
end
section
variable {told:cu} {v:V}
noncomputable def piT : Code:=dm [1,1,1,1] ((Tryz.f53.body).getD .skip)
theorem Gy (hT:W told)(hY:cC Y (cK x c))(hp:bH b kd link extra cs)(hi:i<=cs.length)(hf:26+4*(cs.length+1)+(tot cs+c.length)<=512)(hr:30+4*cs.length+c.length<=dA b)(s:Sat h (pt p8 (.cells 1 [u] false)::bf u b::Y::S))(hE:Has E [(1,.int .i64 (i:Int)),(2,x),(8,.ptr p8 0)])
 (hq:∀E' h' b',look E' 6=some u->look E' 7=some (.int .i64 0)->bH b' kd link extra (c8 i c cs)->Sat h' (bf u b'::Y::S)->Q .ret E' h'): WP ⟨Tryz.prog,told⟩ 78 piT E h Q:=by
 have hl:=hp.len
 have oY:=hp.low
 have I:=hp.gu
 have hle:∀n,(le 2 n).length=2:=λn=>cQ 2 n
 obtain⟨lo,jG⟩:∃lo,lo+c.length=dA b:=⟨dA b-c.length,by omega⟩
 have wW:=hp.ins (c:=c) hi jG (by omega) hf
 have l0:=OL hl hi (n:=cs.length) (by omega)
 have l1:(az (pZ b i cs.length) 14 (le 2 (cs.length+1))).length=512:=by rw[bG (by rw[hle];omega),l0]
 have iL:dA (az (pZ b i cs.length) 14 (le 2 (cs.length+1)))=lo+c.length:=by
  rw[jG,dA,dA]
  exact dW λj h1 h2=>by rw[dU (by rw[hle];omega) (by rw[hle];omega),OM hl hi (by omega) (by omega)]
 generalize hn:cs.length=n at *
 obtain⟨lS,_,cap,_,rfl,_⟩:=(s.ae [1]).eX (by omega)
 refine WP.has hE (zg U (zl U (s.b9 (k:=0) U bC aV) (zc U (gy hT s (k:=1) U (bh _ _) hl) ?_)))
 rintro r h' ⟨rfl,s⟩
 rw[I]
 refine zk 3 U ?_
 have q1:((26:Int)+4*((i:Int)+1)).toNat=30+4*i:=by omega
 have q2:((26:Int)+4*((n:Int)+1)).toNat=30+4*n:=by omega
 have q3:((26:Int)+4*(i:Int)).toNat=26+4*i:=by omega
 have q4:((26:Int)+4*(n:Int)).toNat=26+4*n:=by omega
 have s0:=s
 refine WP.drawn [af,af,af,af,af,af,af,af,af,af,af,af,af,af,af,af,af,af,af,af,af] U (by kernel_rfl) (by kernel_rfl) ?_
 refine zF U (ey _ _) (zL U (s.ld (k:=0) U bS U) (zM U (zO U (aq U U (by exact aL ak)) ?_)))
 refine zO U (aq U U (by exact jf ak)) ?_
 refine zO U (aq U U (by exact aL ak)) ?_
 refine zM U (zO U (aq U U (by exact aL ak)) ?_)
 refine zO U (aq U U (by exact jf ak)) ?_
 refine zO U (aq U U (by exact aL ak)) ?_
 refine zO U (bK (p:=some (.int .i64 (26+4*((i:Int)+1)))) (q:=some (.int .i64 (26+4*((n:Int)+1)))) (m:=none) (p':=some (30+4*i)) (q':=some (30+4*n)) (m':=none) U U U U (by rw[bN,q1]) (by rw[bN,q2]) U (fR (s.buf (k:=1) U).view (by omega) (by omega)).1) ?_
 refine zF U (ey _ _) (zL U (s.ld (k:=0) U bS U) (zM U (zO U (aq U U (by exact jf ak)) ?_)))
 refine zO U (aq U U (by exact aL ak)) ?_
 refine zM U (zO U (aq U U (by exact jf ak)) ?_)
 refine zO U (aq U U (by exact aL ak)) ?_
 refine zO U (bK (p:=some (.int .i64 (26+4*(i:Int)))) (q:=some (.int .i64 (26+4*(n:Int)))) (m:=none) (p':=some (26+4*i)) (q':=some (26+4*n)) (m':=none) U U U U (by rw[bN,q3]) (by rw[bN,q4]) U (fR (s.buf (k:=1) U).view (by omega) (by omega)).1) ?_
 refine aB.any U U U U (OpR.Yv (n:=4*(n-i)) U (s.ae [1]) U U U U (by omega) (by omega) (by omega) (by omega) (by omega)) ?_
 intro r h s
 have s:=s.ae [1,0]
 refine aB.nil ⟨⟨aa,aa,aa,aa,aa,aa,aa,aa,aa,aa,aa,aa,aa,aa,aa,aa,aa,aa,aa,aa,aa,aa⟩,?_⟩
 have s:Sat h (pt p8 _::bf _ (pZ b i n)::_):=s
 refine zg U (zl U (s.b9 (k:=0) U bC aV) (zm U (zb U (by exact aL ak) ?_)))
 refine zo U (cS U (by exact kU b_ eZ iO)) ?_
 have en:(n:Int)+1=((n+1:Nat):Int):=by omega
 rw[en]
 refine zc U (nW (a:=14) (z:=2) (n:=n+1) hT (s.ae [1]) (by decide) (by decide) (by omega) (by omega)) ?_
 rintro r h ⟨rfl,s⟩
 have s:=s.ae [1,0]
 refine zk 3 U (zl U (s.b9 (k:=0) U bC aV) (zk 2 U (zc U (EP (i:=i) (lo:=lo) hT (s.ae [1,1]) hY l1 (by omega) iL (by omega)) ?_)))
 rintro r h ⟨rfl,s⟩
 have s:=s.ae [2,0,0]
 exact zk 3 U (zY s 0 ey bS U (zk 3 U (WP.ret (hq _ _ _ U U wW s.drop))))
theorem LJ (hT:W told)(s:Sat h (X::Y::S))(hX:cC X (cK v b))(hY:cC Y (cK x c))(I:bH b kd link extra cs)(hi:i<=cs.length)(fN:c.length<=65536):
  Call ⟨Tryz.prog,told⟩ 53 [v,.int .i64 (i:Int),x] h λr h'=>(26+4*(cs.length+1)+(tot cs+c.length)<=512/\∃u b',r=.aX [u,.int .i64 0]/\bH b' kd link extra (c8 i c cs)/\Sat h' (bf u b'::X::Y::S)) \/
   (512<26+4*(cs.length+1)+(tot cs+c.length)/\r=.aX [.aZ,.int .i64 7]/\Sat h' (X::Y::S)):=by
 have hl:=I.len;have dx:=I.fits;have oY:=I.low;refine Call.of_wp (hT.free _ U) Tryz.func53 U U (zK 8 U (zc U (pS hT s hX (by omega)) ?_));rintro r h' (⟨hg,u,rfl,s⟩|⟨hg,rfl,s⟩)
 .obtain⟨lS,_,cap,_,rfl,_⟩:=s.eX (by omega);refine zk 3 U ?_;refine au.cj s U U U (cm jD) (λp8 h s => ?_);dsimp only[V.cells,List.length_cons,List.length_nil,Nat.reduceAdd] at s;refine zS U (s.gZ (j:=0) U aV U U) (λh s => ?_);dsimp only[setA] at s;refine zk 3 U (WP.block (zK 3 U (zC U aG (U) (zk 6 U (zC U aK (by simp) ?_)))));refine zk 2 U (zl U (s.b9 (k:=0) U bC aV) (zc U (gy hT s (k:=1) U (bh _ _) hl) ?_));rintro r h' ⟨rfl,s⟩;rw[I.gu];refine zC U cA (by simp;omega) ?_;refine zk 6 U (zl U (s.b9 (k:=0) U bC aV) (zc U (Ji hT (s.ae [1]) (bh _ _) I) ?_));rintro r h' ⟨rfl,s⟩;have s:=s.ae [1,0];dsimp only[aM,bringA,getA] at s;refine zm U (zo U (aD U U U (bw aP (s.aC (k:=3) U hY))) (zb U (by exact aL ak) ?_));by_cases hf:26+4*(cs.length+1)+(tot cs+c.length)<=512
  .skip;refine zC U aK (by simp;omega) ?_;refine za U (zv (zj U (WP.skip (zw (zg U (zl U (by exact s.b9 (k:=0) U bC aV) ?_))))));refine zc U (LI hT s (k:=1) U (bh _ _) I) ?_;rintro r h' ⟨rfl,s⟩;refine zm U (zo U (aD U U U (bw aP (s.aC (k:=3) U hY))) (zb U (by exact aL ak) ?_));by_cases hr:30+4*cs.length+c.length<=dA b
   .skip;refine zC U aK (by simp;omega) ?_;refine zv (zj U (WP.skip ?_));refine Gy (i:=i) hT hY I hi hf hr (s.ae [0,0,1]) ⟨U,U,U,aa⟩ λE' h' b' e6 e7 uI s'=>⟨aa,_,AG e6 e7,.inl ⟨hf,_,b',U,uI,s'.ae [0,1,0]⟩⟩
   .skip;refine zB U aK (by simp;omega) ?_;refine zk 3 U (zl U (s.b9 (k:=0) U bC aV) (zc U (OR hT (s.ae [1]) I (by omega)) ?_));rintro r h ⟨rfl,b2,A7,s⟩;have h2:=A7.low;have s:=s.ae [1,0];refine zv ?_;refine Gy (i:=i) hT hY A7.f hi hf (by omega) (s.ae [0,0,1]) ⟨U,U,U,aa⟩ λE' h' b' e6 e7 uI s'=>⟨aa,_,AG e6 e7,.inl ⟨hf,_,b',U,uI,s'.ae [0,1,0]⟩⟩
  .skip;refine zB U aK (by simp;omega) ?_;exact zk 8 U (WP.ret ⟨aa,_,U,.inr ⟨by omega,U,s.del 1 |>.del 0⟩⟩)
 .rw[I.good] at hg;cases hg
noncomputable def prT : Code:=dm [1,1,1,1,1,1,1,1] ((Tryz.f51.body).getD .skip)
theorem Gz (hT:W told)(hY:cC Y (cK x c))(hp:bH b kd link extra cs)(hc:cs[i]?=some c')(hr:26+4*cs.length+c.length<=dA b)(hf:26+4*cs.length+tot (cs.set i c)<=512)(s:Sat h (pt p8 (.cells 1 [u] false)::bf u b::Y::S))(hE:Has E [(1,.int .i64 (i:Int)),(2,x),(8,.ptr p8 0)])
 (hq:∀E' h' b',look E' 6=some u->look E' 7=some (.int .i64 0)->bH b' kd link extra (cs.set i c)->Sat h' (bf u b'::Y::S)->Q .ret E' h'): WP ⟨Tryz.prog,told⟩ 79 prT E h Q:=by
 have hl:=hp.len;have oY:=hp.low;have hi:=(List.getElem?_eq_some_iff.1 hc).1;obtain⟨lo,I⟩:∃lo,lo+c.length=dA b:=⟨dA b-c.length,by omega⟩;have wW:=hp.below hc I (by omega) hf;refine WP.has hE (zg U (zl U (s.b9 (k:=0) U bC aV) (zk 2 U (zc U (EP (i:=i) (lo:=lo) hT (s.ae [1,1]) hY hl (by omega) I.symm (by omega)) ?_))));rintro r h ⟨rfl,s⟩;have s:=s.ae [2,0,0];exact zk 3 U (zY s 0 ey bS U (zk 3 U (WP.ret (hq _ _ _ U U wW s.drop))))
theorem Ww (hT:W told)(s:Sat h (X::Y::S))(hX:cC X (cK v b))(hY:cC Y (cK x c'))(hp:bH b kd link extra cs)(hc:cs[i]?=some c)(fN:c'.length<=65536):
  Call ⟨Tryz.prog,told⟩ 51 [v,.int .i64 (i:Int),x] h λr h'=>(26+4*cs.length+tot (cs.set i c')<=512/\∃u b',r=.aX [u,.int .i64 0]/\bH b' kd link extra (cs.set i c')/\Sat h' (bf u b'::X::Y::S)) \/
   (512<26+4*cs.length+tot (cs.set i c')/\r=.aX [.aZ,.int .i64 7]/\Sat h' (X::Y::S)):=by
 have hl:=hp.len;have dx:=hp.fits;have oY:=hp.low;have hi:=(List.getElem?_eq_some_iff.1 hc).1;have ht:=qo (c':=c') hc;have ht0:=qo (c':=[]) hc;rw[b6] at ht0;obtain⟨t0,s1,s2,s3⟩:=hp.slot i c hc;refine Call.of_wp (hT.free _ U) Tryz.func51 U U (zK 8 U (zc U (pS hT s hX (by omega)) ?_));rintro r h' (⟨hg,u,rfl,s⟩|⟨hg,rfl,s⟩)
 .obtain⟨lS,_,cap,_,rfl,_⟩:=s.eX (by omega);refine zk 3 U ?_;refine au.cj s U U U (cm jD) (λp8 h s => ?_);dsimp only[V.cells,List.length_cons,List.length_nil,Nat.reduceAdd] at s;refine zS U (s.gZ (j:=0) U aV U U) (λh s => ?_);dsimp only[setA] at s;refine zk 3 U (WP.block (zK 3 U (zC U aG (U) (zk 6 U (zC U aK (by simp) ?_)))));refine zk 2 U (zl U (s.b9 (k:=0) U bC aV) (zc U (gy hT s (k:=1) U (bh _ _) hl) ?_));rintro r h' ⟨rfl,s⟩;rw[hp.gu];refine zC U j6 (by simp;omega) ?_;refine zk 2 U (zv (zj U (WP.skip (zg U (zl U (by exact s.b9 (k:=0) U bC aV) ?_)))));refine zm U (zc U (tQ (i:=i) hT s (k:=1) U (bh _ _) hl (by omega)) ?_);rintro r h' ⟨rfl,s⟩;rw[s2];refine zk 10 U (zo U (aD U U U (bw aP (s.aC (k:=3) U hY))) (zm U ?_));by_cases hle:c'.length<=c.length
  .have wW:=hp.rep (c':=c') hc hle;generalize hf:bB b i=f at t0 s1 s3 wW;have l1:(az b f c').length=512:=by rw[bG,hl]
   refine zB U tK (by simp;omega) ?_;refine zk 4 U (zY s 0 ey bS U (zm U ?_));have I:=iu (s.aC (k:=1) U (bh _ _)) (a:=f) (by omega);refine zo U (bK (p:=some (.int .i64 (f:Int))) (q:=none) (m:=none) (p':=some f) (q':=none) (m':=none) U U U U (by rfl) U U I.1) ?_;refine zm U (au.any U U U (OpR.J3 U (s.ae [1,2]) hY U U U U (by omega) (aH _) (by omega)) ?_);intro r h s;rw[h_ (by omega)] at s;have s:=s.ae [2,0,1,0];refine zk 3 U (zl U (s.b9 (k:=0) U bC aV) (zk 3 U (zo U (aD U U U (bw aP (s.aC (k:=3) U hY))) (zc U (sX (i:=i) (f:=f) (z:=c'.length) hT (s.ae [1]) l1 (by omega) (by omega) (by omega)) ?_))));rintro r h ⟨rfl,s⟩;have s:=s.ae [1,0];exact zk 3 U (zY s 0 ey bS U (zk 3 U (WP.ret ⟨aa,_,U,.inl ⟨by omega,_,_,U,wW,s.drop⟩⟩)))
  .skip;refine zC U tK (by simp;omega) ?_;refine zk 6 U (zl U (s.b9 (k:=0) U bC aV) (zc U (Ji hT (s.ae [1]) (bh _ _) hp) ?_));rintro r h' ⟨rfl,s⟩;have s:=s.ae [1,0];refine zm U (zo U (aD U U U (bw aP (s.aC (k:=3) U hY))) (zm U (zb U (by exact dV ak) ?_)));by_cases hf:26+4*cs.length+tot (cs.set i c')<=512
   .have rS:=hp.none hc;have h0:(cs.set i [])[i]?=some []:=jO hi;have Cu:(cs.set i []).set i c'=cs.set i c':=by simp
    have I:(cs.set i ([]:List Nat)).length=cs.length:=cG;refine zC U aK (by simp;omega) ?_;refine zk 4 U ?_;have z0:=s;refine WP.drawn [some (0,2),some (0,2),af,af,af] U (by kernel_rfl) (by kernel_rfl) ?_;refine zL U (s.b9 (k:=0) U bC aV) (zM U (zL U (s.b9 (k:=0) U bC aV) (aB.any U U U U (OpR.call U U U U (B6 hT s (k:=1) U (bh _ _) hl)) ?_)));rintro r h' ⟨rfl,s⟩;have z1:=s;refine aB.any U U U U (OpR.call U U U U (sX (i:=i) (f:=dA b) (z:=0) hT (s.ae [1]) hl (by omega) (by omega) (by omega))) ?_;rintro r h ⟨rfl,s⟩;have s:=s.ae [1,0];refine aB.nil ⟨⟨gF (.inr ⟨U,⟨_,o_load U (z0.b9 (k:=0) U bC aV)⟩,bx _ U⟩) (.inr ⟨U,⟨_,o_load U (z1.b9 (k:=0) U bC aV)⟩,bx _ U⟩),λ_ _=>.inr ⟨U,⟨_,b7 U⟩,bx _ U⟩,yr 4⟩,?_⟩;refine zK 3 U (zl U (s.b9 (k:=0) U bC aV) (zc U (LI hT s (k:=1) U (bh _ _) rS) ?_));rintro r h' ⟨rfl,s⟩;rw[I];refine zm U (zo U (aD U U U (bw aP (s.aC (k:=3) U hY))) ?_);by_cases hr:26+4*cs.length+c'.length<=dA (mD b i (dA b) 0)
    .skip;refine zC U aK (by simp;omega) ?_;refine zk 3 U ?_;refine Gz (i:=i) hT hY rS h0 (by rw[I];exact hr) (by rw[Cu,I];exact hf) (s.ae [0,0,1]) ⟨U,U,U,aa⟩ λE' h' b' e6 e7 uI s'=>⟨aa,_,AG e6 e7,.inl ⟨hf,_,b',U,by rw[<-Cu];exact uI,s'.ae [0,1,0]⟩⟩
    .skip;refine zB U aK (by simp;omega) ?_;refine zk 3 U (zl U (s.b9 (k:=0) U bC aV) (zc U (OR hT (s.ae [1]) rS (by rw[I];omega)) ?_));rintro r h ⟨rfl,b2,A7,s⟩;have h2:=A7.low;have s:=s.ae [1,0];refine zv ?_;refine Gz (i:=i) hT hY A7.f h0 (by rw[I];omega) (by rw[Cu,I];exact hf) (s.ae [0,0,1]) ⟨U,U,U,aa⟩ λE' h' b' e6 e7 uI s'=>⟨aa,_,AG e6 e7,.inl ⟨hf,_,b',U,by rw[<-Cu];exact uI,s'.ae [0,1,0]⟩⟩
   .skip;refine zB U aK (by simp;omega) ?_;exact zk 7 U (WP.ret ⟨aa,_,U,.inr ⟨by omega,U,s.del 1 |>.del 0⟩⟩)
 .rw[hp.good] at hg;cases hg
end
abbrev dy (us:List V)(cs:List (List Nat)): aE:=each (λv c=>.b8 v c) us cs
section
variable {us:List V}
theorem aI.qS (us:List V)(cs:List (List Nat)): aI (dy us cs):=aI.each (λ_ _=>aI.b8 _ _) _ _
theorem OS (s:Sat h S): Sat h (dy [] []::S):=s.gJ (φ:=True) aa
theorem Wx (s:Sat h (og u c::dy us cs::S)): Sat h (dy (us++[u]) (cs++[c])::S) :=
 (s.ae [1]).two (aI.qS _ _) (aI.b8 _ _) λ_ _ a b=>Av a ⟨b,aa⟩
theorem TB (s:Sat h (dy us cs::S))(I:cs[i]?=some c): ∃u,us[i]?=some u/\Sat h (og u c::dy us cs::S):=Oo (λ_ _=>aI.b8 _ _) s I
theorem ko (s:Sat h (dy us cs::S)): us.length=cs.length:=by
 obtain⟨_,_,_,_,I⟩:=s.at (k:=0) U;exact EA I
end
section
variable {told:cu} {v:V}
noncomputable def pcL : Code:=dm [1,1,1,1,0,1,0,0] ((Tryz.f160.body).getD .skip)
theorem LK (hT:W told){p4:Nat}(hX:cC X (cK x b))(IN:x.cells=[x])(hp:bH b kd link extra cs): ∀(m i:Nat) (w:V) (us:List V) (h:H) (E:List (Nat×V)) (Q:Ex->List (Nat×V)->H->Prop),i+m=cs.length->us.length=i ->
  Sat h (pt p4 (.cells 1 [x] false)::X::.arr 1 w us::dy us (cs.take i)::S)->Has E [(4,.ptr p4 0),(6,w),(20,.int .i64 (cs.length:Int)),(21,.int .i64 (i:Int))] ->
  (∀E' h' w' TC,TC.length=cs.length->Has E' [(6,w')]->Sat h' (pt p4 (.cells 1 [x] false)::X::.arr 1 w' TC::dy TC cs::S)->Q (.exit 0) E' h')->WP ⟨Tryz.prog,told⟩ 33 (.loop pcL) E h Q:=by
 have hl:=hp.len;have dx:=hp.fits;obtain⟨i1,c9,fH,pR⟩:=ry;intro m;induction m with
 |zero =>
  intro i w us h E Q hi oo s hE hq;have hi:i=cs.length:=hi;subst hi;rw[jR] at s;refine WP.loop (WP.has hE (zg U (zC U aK (by simp) ?_)));exact zk 3 U (WP.exit (hq _ _ _ us oo ⟨U,aa⟩ s))
 |succ m ih =>
  intro i w us h E Q hi oo s hE hq;have I:cs[i]?=some (cs[i]'(by omega)):=aF _;generalize (cs[i]'(by omega))=c at I;obtain⟨t0,s1,s2,s3⟩:=hp.slot i c I;have qx:cs.take (i+1)=cs.take i++[c]:=by rw[nF,I];rfl
  refine WP.loop (WP.has hE (zg U (zB U aK (by simp;omega) ?_)));refine zk 5 U (WP.block (zK 7 U (zl U (s.b9 (k:=0) U bC aV) (zm U (zc U (LH (i:=i) (c:=c) hT s (k:=1) U hX hp I) ?_)))));rintro r h' ⟨f,rfl,hr,s⟩;refine zc U (xK hT (s.ae [1]) hr (by omega)) ?_;intro u0 h s;have Ys:=(s.buf (k:=0) U).view.cells;have s:=s.ff;have s:=s.ae [0,3];dsimp only[aM,bringA,getA] at s;have s:=Wx s;rw[<-qx] at s;have s:=s.ae [3];dsimp only[bringA,getA,aM] at s;obtain⟨iv,h1,wP,s1⟩:=kV (P:=Tryz.prog) (k:=1) (x:=u0) s aQ lK dP U (by decide) (by decide) (by grind) (by grind);rw[Ys.1] at s1;refine au.any U U U (OpR.of (R:=λv h'=>v=iv/\h'=h1) (je U wP) ⟨U,U⟩) ?_;rintro v' h' ⟨rfl,rfl⟩;obtain⟨av,h2,sR,s2⟩:=iw (s1.ae [1,0]) aQ c9 lK fH (by omega) U (by decide) (by simp;omega);dsimp only[aM,bringA] at s2;refine au.any U U U (OpR.of (R:=λv h'=>v=av/\h'=h2) (iY U U sR) ⟨U,U⟩) ?_;rintro v' h ⟨rfl,rfl⟩;have s:=(s2.del 1).ae [3,2,0,0];dsimp only[aM,bringA,getA] at s;refine za U (zv (zr U (zb U (by exact aL ak) ?_)));refine zm U (zv ?_);exact ih (i+1) _ _ _ _ Q (by omega) (by rw[aO,oo];rfl) s ⟨U,U,U,U,aa⟩ hq
theorem QS (hT:W told)(s:Sat h (X::S))(hX:cC X (cK v b))(I:bH b kd link extra cs):
  Call ⟨Tryz.prog,told⟩ 160 [v] h λr h'=>∃w us,r=.aX [w,.int .i64 0]/\Sat h' (.arr 1 w us::dy us cs::X::S):=by
 have hl:=I.len;have hv:=s.aC (k:=0) U hX;have dx:=I.fits;obtain⟨pi,po,pc,rfl⟩:=iB hv;obtain⟨i1,c9,fH,pR⟩:=ry;refine Call.of_wp (hT.free _ U) Le U U (zK 8 U (zc U (uF hT s hX (by omega)) ?_));rintro r h' ⟨s,(⟨hg,rfl⟩|⟨hg,rfl⟩)⟩
 .refine au.op U U U (b7 U) ?_;refine zk 2 U ?_;refine au.cj s U U U (cm jD) (λp4 h s => ?_);refine zS U (s.gZ (j:=0) U aV U U) (λh s => ?_);refine zk 6 U (zC U aG (U) (zk 5 U (zl U (s.b9 (k:=0) U bC aV) (zc U (gy hT s (k:=1) U hX hl) ?_))));rintro r h' ⟨rfl,s⟩;rw[I.gu];obtain⟨wv,h1,e3,s1⟩:=BY (P:=Tryz.prog) s aQ c9 lK fH (by omega) U (by decide) (by decide) (n:=0) (c:=cs.length) (by omega) (by omega);refine au.any U U U (OpR.of (R:=λv h'=>v=wv/\h'=h1) (Al U U e3) ⟨U,U⟩) ?_;rintro w0 h ⟨rfl,rfl⟩;have s:Sat h (.arr 1 w0 []::_):=s1;have s:=OS s;have s:=s.ae [2,2,1,0];refine zk 5 U (zl U (s.b9 (k:=0) U bC aV) (zc U (gy hT s (k:=1) U hX hl) ?_));rintro r h' ⟨rfl,s⟩;rw[I.gu];refine zk 2 U (WP.block (LK hT hX U I cs.length 0 _ [] _ _ _ (by omega) U s ⟨U,U,U,U,aa⟩ λE' h' w' TC oo dY s' => ?_));have s:=s';exact WP.has dY (zK 6 U (WP.ret ⟨aa,_,U,_,TC,U,(s.ae [2,2,1]).del 3⟩))
 .rw[I.good] at hg;cases hg
end
def cmpN : List Nat->List Nat->Int
 |[],[]=>0
 |[],_::_=>.negSucc 0
 |_::_,[]=>1
 |a::l,b::m=>cond (Nat.blt a b) (.negSucc 0) (cond (Nat.blt b a) 1 (cmpN l m))
noncomputable def byteList (h:H): V->Option (List Nat)
 |.aZ=>some []
 |.sl id off len _=>match rdN h id off len with
  |some cs=>bytesOf cs
  |none=>none
 |_=>none
theorem Yx {b:Nat}(I:a<256)(hb:b<256): (UInt8.ofNat a<UInt8.ofNat b)↔a<b:=by
 rw[UInt8.lt_iff_toNat_lt,UInt8.toNat_ofNat',UInt8.toNat_ofNat',vI I,vI hb]
theorem aac : ∀(l m:List Nat),(∀x∈l,x<256)->(∀x∈m,x<256)->Lib.compareBytes (l.map UInt8.ofNat) (m.map UInt8.ofNat)=cmpN l m:=by
 intro l;induction l with
 |nil=>intro m _ _;cases m<;>rfl
 |cons a l ih =>
  intro m hl hm;cases m with
  |nil=>rfl
  |cons b m =>
   have ha:=hl a a_;have hb:=hm b a_;simp only[gB,Lib.compareBytes,cmpN,Yx ha hb,Yx hb ha];by_cases I:a<b
   .rw[ay I,gi.2 I];rfl
   .have:Nat.blt a b=false:=by
     cases hq:Nat.blt a b with
     |true=>exact absurd (gi.1 hq) I
     |false=>rfl
    rw[ai I,this,aT];by_cases h2:b<a
    .rw[ay h2,gi.2 h2,ag]
    .have:Nat.blt b a=false:=by
      cases hq:Nat.blt b a with
      |true=>exact absurd (gi.1 hq) h2
      |false=>rfl
     rw[ai h2,this,aT];exact ih m (λx hx=>hl x (bk _ hx)) (λx hx=>hm x (bk _ hx))
section
variable {c:Ctx} {σ:H} {w:World}
theorem Nx (h:Rel c σ w)(hw:wf c x)(hl:byteList σ x=some l):
  (∀y∈l,y<256)/\(Extern.Bytes.bytesOf (conc c x)).run P w=.ok ⟨(l.map UInt8.ofNat).toArray⟩ w:=by
 unfold byteList at hl;split at hl
 .simp only[aA] at hl;subst hl;refine⟨λy I=>(jQ I).elim,?_⟩;simp only[conc];rfl
 .rename_i id off len cap;cases hr:rdN σ id off len with
  |none=>simp[hr] at hl
  |some cs =>
   simp only[hr] at hl;obtain⟨ns,h1,h2⟩:=Fj (c:=c) cs l hl;obtain⟨a,n,e1,e2,e3,e4⟩:=yO (P:=P) h hw hr (λh=>h);refine⟨λy I => ?_,?_⟩
   .rw[h2] at I;obtain⟨z,_,rfl⟩:=List.mem_map.1 I;exact Di _ (by decide)
   .rw[e1];have hlen:ns.length=len:=by
     have:=dg List.length h1;simp only[cf] at this;rw[<-this];exact(ur h hr).1
    have hq:=Lib.run_loadBytesX (P:=P) w ns a .empty (λj y hj=>e4 j _ (by rw[h1,kP,hj];rfl));rw[hlen] at hq;show(Extern.Bytes.loadBytes a len .empty).run P w=_;rw[hq];congr 1;apply C_;show(#[]:Array UInt8)++(Lib.bytesOf ns).toArray=_;rw[h2];simp only[Array.empty_append,Lib.bytesOf,List.map_map];congr 1;refine yC λy _ => ?_;simp only[Function.comp_apply,ofNat_mod]
 .cases hl
end
theorem aad {x y:Value}{a:List Nat}{w:World}(I:∀z∈a,z<256)(hb:∀z∈b,z<256)
 (hx:(Extern.Bytes.bytesOf x).run P w=.ok ⟨(a.map UInt8.ofNat).toArray⟩ w)(hy:(Extern.Bytes.bytesOf y).run P w=.ok ⟨(b.map UInt8.ofNat).toArray⟩ w):
  (Extern.BytealgCompare.compare #[x,y]).run P w=.ok (.int .i64 (cmpN a b)) w:=by
 change Sem.run P (do pure (goInt (Extern.BytealgCompare.cmp (<- Extern.Bytes.bytesOf x) (<- Extern.Bytes.bytesOf y)))) w=_
 simp only[Sem.run_bind,Sem.run_pure,hx,hy,Result.andThen];rw[Lib.cmp_eq,aac a b I hb];rfl
def Ij (cap:Cap)(k n:Nat): Prop:=match cap with
 |.exact c=>n<=c
 |.rest e _=>e=k
def wX (m:PM)(k:Nat)(v:V)(cs:List V): Prop:=cs.all storable=true/\((v=.aZ/\cs=[]) \/
 ∃id off n cap N row,v=.sl id off n cap/\m id=some (.cells N row false)/\row.length=N/\off+n*k<=N/\(row.drop off).take (n*k)=cs/\Ij cap k n)
theorem wX.up {m m':PM}{v:V}{cs:List V}(h:wX m k v cs)(hm:PM.le m m'): wX m' k v cs:=by
 obtain⟨h1,I⟩:=h;refine⟨h1,?_⟩;rcases I with I|⟨id,off,n,cap,N,row,e,hg,h3⟩
 .exact .inl I
 .exact .inr ⟨id,off,n,cap,N,row,e,hm _ _ hg,h3⟩
theorem qZ.sl {m:PM}{v:V}{cs:List V}(h:qZ m k v cs): wX m k v cs:=by
 obtain⟨h1,I⟩:=h;refine⟨h1,?_⟩;rcases I with I|⟨id,n,cap,N,rest,e,hg,h3,h4,h5,h6⟩
 .exact .inl I
 .refine .inr ⟨id,0,n,cap,N,cs++rest,e,hg,by rw[aO];exact h4,by omega,by rw[ga,<-h3,fY U],?_⟩;cases cap with
  |exact c=>exact h6.2
  |rest a b=>exact h6.1
def wY (X:aE)(k:Nat)(v:V)(cs:List V): Prop:=∀m r,X.p m r->wX m k v cs\/wX r k v cs
theorem Oi.s {v:V}{cs:List V}(h:Oi X k v cs): wY X k v cs:=λm r hm=>(h m r hm).imp qZ.sl qZ.sl
def roS (k:Nat)(v:V)(cs:List V): aE:=.xs λo:Option (Nat×Nat×Nat×Cap×Nat×List V)=>match o with
 |none=>.pu (cs.all storable=true/\v=.aZ/\cs=[])
 |some (id,off,n,cap,N,row)=>.an (.ro id (.cells N row false)) (.pu (cs.all storable=true/\v=.sl id off n cap/\row.length=N/\off+n*k<=N/\(row.drop off).take (n*k)=cs/\Ij cap k n))
theorem cU (k:Nat)(v:V)(cs:List V): wY (roS k v cs) k v cs:=λm r h=>by
 obtain⟨_|⟨id,off,n,cap,N,row⟩,h⟩:=h
 .exact .inr ⟨h.1,.inl h.2⟩
 .exact .inr ⟨h.2.1,.inr ⟨id,off,n,cap,N,row,h.2.2.1,h.1,h.2.2.2⟩⟩
theorem GB {v:V}{cs:List V}: cC (roH k v cs) (roS k v cs):=λm r h=>by
 obtain⟨_|⟨id,n,cap,N,rest⟩,h⟩:=h
 .exact⟨none,h⟩
 .obtain⟨h1,h2,h3,h4,h5,h6,I⟩:=h;refine⟨some (id,0,n,cap,N,cs++rest),h1,h2,h3,by rw[aO];exact h5,by omega,by rw[ga,<-h4,fY U],?_⟩;cases cap with
  |exact c=>exact I.2
  |rest a b=>exact I.1
section
variable {v:V} {cs:List V} {e:TypeId}
theorem Sat.jo (s:Sat h S)(I:getA S j=some X)(hX:wY X k v cs): wX (T.get h.tr) k v cs:=by
 obtain⟨m,r,h1,h2,h3⟩:=s.at I;rcases hX _ _ h3 with q|q
 .exact q.up h1
 .exact q.up h2
theorem ku (a:wX (T.get h.tr) k v cs): v.cells=[v]/\storable v=true/\v.beq v=true:=by
 rcases a.2 with⟨rfl,_⟩|⟨id,off,n,cap,N,row,rfl,_⟩
 .exact⟨U,U,U⟩
 .exact⟨U,U,Ap _ _ _ _⟩
theorem zT {n:Nat}(a:wX (T.get h.tr) k v cs)(hn:cs.length=n*k)(hk:1<=k)(hu:P.underlying t=some (.slice e)): lenV P h t v=some (.int .i64 n):=by
 rcases a.2 with⟨rfl,rfl⟩|⟨id,off,n',cap,N,row,rfl,hg,h1,h2,h3,_⟩
 .have:n=0:=by
   rcases oL n with I|I
   .exact I
   .have:=tG I hk;simp at hn;omega
  simp_all[lenV]
 .have hl:cs.length=n'*k:=by rw[<-h3,cz,fA];omega
  have:n'=n:=G5 hk (by omega);subst this;simp only[lenV,hu]
theorem Wy (a:wX (T.get h.tr) k v cs)(hi:i*k+k<=cs.length)(hk:1<=k)(hu:P.underlying t=some (.slice e))(I:bq P e=some k):
  ∃id off,indexAddrV P t v (.int .i64 (i:Int))=some (.ptr id off)/\∀m c t',((cs.drop (i*k)).take k)[m]?=some c->isAggT P t'=some false->loadV P h t' (.ptr id (off+m))=some c:=by
 rcases a.2 with⟨_,rfl⟩|⟨id,off,n,cap,N,row,rfl,hg,h1,h2,h3,_⟩
 .simp at hi;omega
 .have hl:cs.length=n*k:=by rw[<-h3,cz,fA];omega
  have sV:i<n:=by
   refine Nat.lt_of_not_le λq => ?_;have:=nB k q;omega
  refine⟨id,off+i*k,?_,λm c t' hc ht=>BM ht hg ?_⟩
  .simp only[indexAddrV,hu,I,fI];grind
  .have hm:=(List.getElem?_eq_some_iff.1 hc).1;rw[cz] at hm;rw[ic,ay (by omega),fq,<-h3,ic,ay (by omega),fq] at hc;rw[gE,<-hc];congr 1;omega
theorem TD (a:wX (T.get h.tr) k v cs): ∃n,cs.length=n*k/\srcV h k v=some (cs,n):=by
 rcases a.2 with⟨rfl,rfl⟩|⟨id,off,n,cap,N,row,rfl,hg,h1,h2,I,_⟩
 .exact⟨0,by simp,U⟩
 .have hl:cs.length=n*k:=by rw[<-I,cz,fA];omega
  refine⟨n,hl,?_⟩;have hr:rdN h id off (n*k)=some cs:=by
   simp only[rdN,hg];rw[aS.2 h2,ag];cases hq:(Nat.beq off 0&&Nat.beq (n*k) N) with
   |true =>
    simp only[bV,beq_iff] at hq;rw[ag,<-I,hq.1,ga,hq.2,<-h1,jR]
   |false=>rw[aT,I]
  simp only[srcV,hr,gQ]
theorem LL (s:Sat h (roS k v cs::S)): (v=.aZ/\cs=[])\/∃id off n cap N row,v=.sl id off n cap/\row.length=N/\off+n*k<=N/\(row.drop off).take (n*k)=cs/\Ij cap k n/\cs.all storable=true/\Sat h (ro id (.cells N row false)::S):=by
 obtain⟨_|⟨id,off,n,cap,N,row⟩,s⟩:=jv.1 s
 .exact .inl (uA.1 s).1.2
 .have s:Sat h (aE.an (.ro id (.cells N row false)) (.pu (cs.all storable=true/\v=.sl id off n cap/\row.length=N/\off+n*k<=N/\(row.drop off).take (n*k)=cs/\Ij cap k n))::S):=s;obtain⟨_,_,_,_,I⟩:=s.at (k:=0) U;obtain⟨_,q1,q2,q3,q4,q5,q6⟩:=I;exact .inr ⟨id,off,n,cap,N,row,q2,q3,q4,q5,q6,q1,s.dM λ_ _ h=>h.1⟩
theorem uJ {n:Nat}{row:List V}(I:row.length=N)(q4:off+n*k<=N)(q5:(row.drop off).take (n*k)=cs)(q6:Ij cap k n)(q1:cs.all storable=true)(s:Sat h (ro id (.cells N row false)::S)): Sat h (roS k (.sl id off n cap) cs::S) :=
 s.dM λ_ _ h=>⟨some (id,off,n,cap,N,row),h,q1,U,I,q4,q5,q6⟩
theorem QT {b:Nat}(s:Sat h (roS 1 v cs::S))(hb:b<=cs.length)(h1:1<=b)(hu:P.underlying t=some (.slice e))(p_:bq P e=some 1): ∃v',sliceV P h t v none (some b) (some b)=some v'/\Sat h (roS 1 v' (cs.take b)::roS 1 v cs::S):=by
 rcases LL s with⟨rfl,rfl⟩|⟨id,off,n,cap,N,row,rfl,q3,q4,q5,I,q1,s⟩
 .simp at hb;omega
 .have hl:cs.length=n:=by rw[<-q5,cz,fA];omega
  have s:=(uJ (cs:=cs) q3 q4 q5 I q1 (s.dup (aI.ro _ _))).ae [1];have s:Sat h (roS 1 (.sl id off b (.exact b)) (cs.take b)::_):=uJ q3 (by omega) (by rw[<-q5,rK];congr 1;omega) (aH _) (by
   rw[nG] at q1 ⊢;exact λx hx=>q1 x (iM hx)) s
  refine⟨.sl id off b (.exact b),?_,s⟩;cases cap with
  |exact c =>
   have I:n<=c:=I;simp only[sliceV,hu,p_,fy];rw[show(Nat.ble 0 b&&Nat.ble b b&&Nat.ble b c)=true by simp;omega,ag,fM (by omega),aT,mc,eF,ie]
  |rest a alt =>
   have I:a=1:=I;simp only[sliceV,hu,p_,fy];rw[show(Nat.beq a 1&&Nat.ble 1 1)=true by simp[I],ag,show(Nat.ble 0 b&&Nat.ble b b&&(Nat.ble b n||Nat.ble b (fF h id off 1))&&Nat.blt 0 n)=true by simp;omega,ag,fM (by omega),aT,mc,eF,ie]
theorem Yy (s:Sat h (roS 1 v cs::S))(ha:a<cs.length)(hu:P.underlying t=some (.slice e))(p_:bq P e=some 1): ∃v',sliceV P h t v (some a) none none=some v'/\Sat h (roS 1 v' (cs.drop a)::roS 1 v cs::S):=by
 rcases LL s with⟨rfl,rfl⟩|⟨id,off,n,cap,N,row,rfl,q3,q4,q5,q6,q1,s⟩
 .simp at ha
 .have hl:cs.length=n:=by rw[<-q5,cz,fA];omega
  have s:=(uJ (cs:=cs) q3 q4 q5 q6 q1 (s.dup (aI.ro _ _))).ae [1];have key:∀I,Ij I 1 (n-a)->Sat h (roS 1 (.sl id (off+a*1) (n-a) I) (cs.drop a)::roS 1 (.sl id off n cap) cs::S):=λI hc =>
   uJ (cs:=cs.drop a) q3 (by omega) (by rw[<-q5,l8,vN,cH,cH,cH]) hc (by
    rw[nG] at q1 ⊢;exact λx hx=>q1 x (i_ hx)) s
  cases cap with
  |exact c =>
   have q6:n<=c:=q6;refine⟨_,?_,key (.exact (c-a)) (by show n-a<=c-a;omega)⟩;simp only[sliceV,hu,p_,fy,dz];rw[show(Nat.ble a n&&Nat.ble n c)=true by simp;omega,ag,fM (by omega),aT]
  |rest z alt =>
   have q6:z=1:=q6;refine⟨_,?_,key (.rest 1 (cond (Nat.beq a 0) alt (cond (Nat.blt a n) (off+a*1) off))) U⟩;simp only[sliceV,hu,p_,fy,dz];rw[show(Nat.beq z 1&&Nat.ble 1 1)=true by simp[q6],ag,show(Nat.ble a n&&(Nat.ble n n||Nat.ble n (fF h id off 1)))=true by simp;omega,ag]
end
end Go.Proofs.YtdonpgpfplgigaaGreat.Am
