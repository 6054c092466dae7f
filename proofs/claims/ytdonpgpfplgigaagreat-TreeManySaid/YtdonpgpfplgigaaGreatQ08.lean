/- 'munimentlaw11.TreeMany' returns true, whatever its arguments, and nothing that lay before the call has turned. Conditions: none. -/
import Derived.Test.YtdonpgpfplgigaaGreatQ07
import Derived.Test.YtdonpgpfplgigaaGreatQ04
import Derived.Test.YtdonpgpfplgigaaGreatQ05
import Derived.WalkKit
import Derived.ProofKit
import Derived.OpenShut
import Derived.ChangeSlices
import Derived.Test.YtdonpgpfplgigaaGreatRows
set_option linter.defProp false
namespace Go.Proofs.YtdonpgpfplgigaaGreat.Am
open Go
def GU:=@Tryz.underlying140
variable {X:aG} {c:Ctx} {e:En} {ε:bk} {A:bk->aG} {pg:bk->Int->List Nat} {Q:Ex->List (Nat×V)->H->Prop} {size:Int} {P:Int->List Nat} {lo k:Ky} {now:List (Int×List Nat)} {cs:List (List Nat)} {E:List (Nat×V)} {S:List aG} {es gJ:List En} {ks:List fV} {b ps R ot Z:List Nat} {N B root x n l L a i j g q r:Nat} {F:Nat->List (List Nat)->Prop} {y:Operand} {hi:Option Ky} {t:TypeId} {rv mv w fv hv lv kv lw:V}
def PdT (F:Nat->List (List Nat)->Prop)(P:Int->List Nat)(k:fV): Prop:=∃l lo hi cs,l<=60/\Nv F P l lo hi cs k.es k.ps/\bH (P k.pg) 204 0 l cs
abbrev GV : V->Unit->aG:=λv _=>.pu (v=.agg [])
section
variable {told:cu} {ov:V}
noncomputable def tpO : Code:=cX [1,1,1,1,0,0,0] ((Tryz.f25.body).getD .skip)
noncomputable def tpI : Code:=cX [1,1,1,1,0,0,0,1,0,1,1,1,1,1,1,1,1,0,0] ((Tryz.f25.body).getD .skip)
theorem W3 (hT:W told)(eA:∀k∈ks,k.pg<4294967296)(hl:ks.length<=512)(TB:l<=60): ∀(m:Nat) (D:List Nat) (wv:V) (h:H) (E:List (Nat×V)) (S:List aG) (Q:Ex->List (Nat×V)->H->Prop),m<=ks.length->D.length+m<=100000 ->
  Sat h (oZ wv (cC D)::aW x n (l+1) b (bI ks)::S)->Has E [(0,rv),(6,ov),(7,mv),(8,wv),(12,.ptr x 0),(14,.int .i64 ((m:Int)-1))] ->
  (∀E' h' I,Has E' [(0,rv),(6,ov),(7,mv),(8,I)]->Sat h' (oZ I (cC (D++(ks.take m).reverse.map (·.pg)))::aW x n (l+1) b (bI ks)::S)->Q (.exit 2) E' h')->WP ⟨Tryz.prog,told⟩ 81 (.loop tpI) E h Q:=by
 intro m;induction m with
 |zero =>
  intro D wv h E S Q hm hD s hE hq;refine WP.loop (WP.has hE (zK 4 U (zC U j5 (by simp) ?_)));exact zk 9 U (WP.exit (hq _ _ wv ⟨U,U,U,U,aa⟩ (by simpa using s)))
 |succ m ih =>
  intro D wv h E S Q hm hD s hE hq;obtain⟨k,hk⟩:∃k,ks[m]?=some k:=⟨_,aF (by omega)⟩;obtain⟨bv,cv,us,s⟩:=aT.1 (s.ae [1]);rw[show(((m+1:Nat):Int)-1)=(m:Int) by omega] at hE;refine WP.loop (WP.has hE (zK 4 U (zB U j5 (by simp) ?_)));refine zk 3 U (zY s 0 ew bT U (zB U cP (decide_eq_true (by omega)) ?_));have s:Sat h (aW x n (l+1) b (bI ks)::_):=aT.2 ⟨bv,cv,us,s⟩;dsimp only[aL,bringA] at s;refine zk 5 U (WP.block (zK 4 U (zc U (DI hT (gU hk) (eA k (aI hk)) s) ?_)));rintro v h ⟨rfl,s⟩;have s:=s.ae [1,0];dsimp only[bringA,getA,aL] at s;obtain⟨iv,h1,w,h2,e3,e4,s2⟩:=WZ (k:=k.pg) s (by omega);refine au.any U U U (OpR.of (R:=λv h'=>v=iv/\h'=h1) (iZ U e3) ⟨U,U⟩) ?_;rintro iv h1 ⟨rfl,rfl⟩;refine au.any U U U (OpR.of (R:=λv h'=>v=w/\h'=h2) (jc U U e4) ⟨U,U⟩) ?_;rintro w h2 ⟨rfl,rfl⟩;refine za U (zv (zr U (zm U (zb U (by exact dM ak) ?_))));refine za U (zv ?_);refine ih (D++[k.pg]) w _ _ S Q (by omega) (by rw[aN,yp];omega) s2 ⟨U,U,U,U,U,U,aa⟩ (λE' h' I dY s'=>hq E' h' I dY ?_);rw[nA,hk];simpa using s'
theorem T3 (TB:cs.length<=512){I:V}{D:List Nat}{h:H}
 (s:Sat h (oZ I (cC D)::aW x n 0 b cs::S))(hE:Has E [(0,rv),(6,ov),(7,mv),(8,I),(12,.ptr x 0),(14,.int .i64 ((cs.length:Int)-1))])
 (hq:∀E',Has E' [(0,rv),(6,ov),(7,mv),(8,I)]->Sat h (oZ I (cC D)::aW x n 0 b cs::S)->Q (.exit 2) E' h): WP ⟨Tryz.prog,told⟩ 81 (.loop tpI) E h Q:=by
 have s1:=s;obtain⟨bv,cv,us,s⟩:=aT.1 (s.ae [1]);refine WP.loop (WP.has hE (zK 4 U ?_));rcases nq cs.length with h0|h0
 .skip;refine zC U j5 (decide_eq_false (by omega)) ?_;exact zk 9 U (WP.exit (hq _ ⟨U,U,U,U,aa⟩ s1))
 .skip;refine zB U j5 (decide_eq_true (by omega)) ?_;refine zk 3 U (zY s 0 ew bT U (zC U cP (by simp) ?_));exact zk 3 U (WP.exit (hq _ ⟨U,U,U,U,aa⟩ s1))
theorem T4 (hT:W told)(hR:my told N B rv A pg)(hN:N<=65536){all:List Nat}(fE:all.Nodup)(nZ:∀m∈all,m<N)(Nq:all.length<=3000): ∀(T:Nat) (AZ:List fV) (out:List Nat) (seen:List (Int×Unit)) (ov mv wv:V) (ε:bk) (h:H) (E:List (Nat×V)) (S:List aG) (Q:Ex->List (Nat×V)->H->Prop),
  (AZ.flatMap cW).length<=T->out++AZ.flatMap cW=all->(∀k∈AZ,PdT F P k)->(∀m:Nat,lookL (m:Int) seen≠none->m∈out)->EI N B ε->pg ε=P ->
  Sat h (.arr 1 ov (cC out)::pN GV mv seen::oZ wv (cC (AZ.reverse.map (·.pg)))::A ε::S)->Has E [(0,rv),(6,ov),(7,mv),(8,wv)] ->
  (∀E' h' GS ah,EI N B ah->Sm N ε ah->Has E' [(6,GS)]->Sat h' (.arr 1 GS (cC all)::A ah::S)->Q (.exit 0) E' h')->WP ⟨Tryz.prog,told⟩ 81 (.loop tpO) E h Q:=by
 intro T;induction T with
 |zero =>
  intro AZ out seen ov mv wv ε h E S Q hlen I T6 QM b_ eA s hE hq;have tc:AZ=[]:=by
   cases AZ with
   |nil=>rfl
   |cons k t=>simp[cW] at hlen
  subst tc;have pU:=OS (P:=Tryz.prog) (s.ae [2]) dm;refine WP.loop (WP.has hE (zK 4 U (zo U (aC U U U pU) (zC U cP (by simp[cC]) ?_))));refine zk 2 U (WP.exit ?_);simp only[tv,gd] at I;subst I;exact hq _ _ ov ε b_ (Sm.refl N ε) ⟨U,aa⟩ ((s.ae [0,2]).del 3 |>.del 2)
 |succ T ih =>
  intro AZ out seen ov mv wv ε h E S Q hlen I T6 QM b_ eA s hE hq;have pU:=OS (P:=Tryz.prog) (s.ae [2]) dm;cases AZ with
  |nil =>
   refine WP.loop (WP.has hE (zK 4 U (zo U (aC U U U pU) (zC U cP (by simp[cC]) ?_))));refine zk 2 U (WP.exit ?_);simp only[tv,gd] at I;subst I;exact hq _ _ ov ε b_ (Sm.refl N ε) ⟨U,aa⟩ ((s.ae [0,2]).del 3 |>.del 2)
  |cons k rest =>
   obtain⟨l,lo,hi,cs,Me,hv,hp⟩:=T6 k a_;have hka:k.pg∈all:=by rw[<-I];simp[cW]
   have Mf:=nZ _ hka;have hko:k.pg∉out:=by
    rw[<-I,eG,cW,mE] at fE;exact λhm=>fE.2.2 _ hm _ (fA _ a_) U
   have pY:lookL (k.pg:Int) seen=none:=by
    cases hq:lookL (k.pg:Int) seen with
    |none=>rfl
    |some _=>exact absurd (QM k.pg (by rw[hq];simp)) hko
   have eO:cC ((k::rest).reverse.map (·.pg))=cC (rest.reverse.map (·.pg))++[.int .i64 (k.pg:Int)]:=by simp[cC]
   have Ga:rest.length<=3000:=by
    have h1:rest.length<=(rest.flatMap cW).length:=by
     clear eO I T6 hlen pU s;induction rest with
     |nil=>simp
     |cons y t ih2=>rw[eG,aN];simp only[cW,aX];omega
    have:=dg List.length I;rw[aN,eG,aN] at this;omega
   rw[eO] at s pU;have Ee:(cC (rest.reverse.map (·.pg))).length=rest.length:=by rw[jy,cj,ju]
   have jX:(cC (rest.reverse.map (·.pg))++[V.int .i64 (k.pg:Int)])[rest.length]?=some (.int .i64 (k.pg:Int)):=by rw[iz (by omega),Ee,gF];rfl
   obtain⟨id,off,e1,e2⟩:=ab0 (P:=Tryz.prog) (s.ae [2]) jX dm lI;obtain⟨wv2,e3,s2⟩:=Z5 (P:=Tryz.prog) (s.ae [2]) dm lI;rw[aN,Ee,yp] at pU;rw[Ee] at e3;refine WP.loop (WP.has hE (zK 4 U (zo U (aC U U U pU) (zB U cP (decide_eq_true (by omega)) ?_))));refine zk 3 U (WP.block (zK 4 U (zo U (aC U U U pU) (zo U (aq (r:=.int .i64 (rest.length:Int)) U U (by rw[show(rest.length:Int)=((rest.length+1:Nat):Int)-1 by omega];exact dM ak)) ?_))));refine zo U (bM (r:=.ptr id off) U U e1) (zl U (e2 _ bT) (zk 6 U (zo U (aC U U U pU) (zo U (aq (r:=.int .i64 (rest.length:Int)) U U (by rw[show(rest.length:Int)=((rest.length+1:Nat):Int)-1 by omega];exact dM ak)) ?_))));refine zo U (bK (p:=none) (q:=some (.int .i64 (rest.length:Int))) (m:=none) (p':=none) (q':=some rest.length) (m':=none) U U U U U (by rw[bN,fS]) U e3) ?_;have s:=s2.ae [2,1,0];have Lc:gA Tryz.prog h 140 mv (.int .i64 (k.pg:Int)) true=some (.aV [.agg [],.bool false]):=by
    rcases om (n:=(k.pg:Int)) (λ_ _=>bf.pu _) s GU b9 JJ with⟨_,g2,_⟩|⟨uu,y,g1,_⟩
    .exact g2
    .rw[pY] at g1;cases g1
   refine zk 7 U (zo U (kL U U Lc) (zk 3 U ?_));refine au.cg s U U U (cm JJ) (λp10 h s => ?_);refine zS U (s.gX (j:=0) U Xx U U) ?_;intro h s;have s:=s.drop;refine zk 12 U (zo U (cI U (by rw[Xy];rfl)) ?_);refine au.lP U U (OpR.mapUpdate U U U U (oB (n:=(k.pg:Int)) (f:=GV) (x:=()) (λ_ _=>bf.pu _) (s.ir U) GU b9)) ?_;intro _ h s;have s:=s.ae [1];obtain⟨iv,h1,w,h2,f3,f4,s2⟩:=ET (k:=k.pg) s (by
    have:=dg List.length I;rw[aN] at this;omega)
   refine zk 5 U (au.any U U U (OpR.of (R:=λv h'=>v=iv/\h'=h1) (iZ U f3) ⟨U,U⟩) ?_);rintro iv h1 ⟨rfl,rfl⟩;refine au.any U U U (OpR.of (R:=λv h'=>v=w/\h'=h2) (jc U U f4) ⟨U,U⟩) ?_;rintro w h2 ⟨rfl,rfl⟩;have s:=s2.ae [3];refine zk 6 U (zc U (zX (l:=l) (cs:=cs) hT hR b_ Mf (by rw[eA];exact hp) (λc hc=>⟨(hv.cells c hc).1,(hv.cells c hc).2.1⟩) (by omega) s) ?_);rintro v h ⟨x,dz,rfl,kD,ej,s⟩;have gV:pg dz=P:=by rw[<-eA];funext m;exact hR.same ej m
   rw[eA] at s;have gn:cs.length<=512:=by have:=hp.fits;omega
   obtain⟨bv,cv,us,s⟩:=aT.1 s;have jk:=gR (P:=Tryz.prog) aO s;have QN:(out++[k.pg])++(k.ps++rest.flatMap cW)=all:=by rw[<-I];simp[cW]
   have T7:∀m:Nat,lookL (m:Int) (cD (k.pg:Int) () seen)≠none->m∈out++[k.pg]:=λm hm=>by
    rw[mP] at hm;by_cases hq:k.pg=m
    .subst hq;simp
    .rw[ai (by omega)] at hm;exact fA _ (QM m hm)
   refine zk 10 U (zC U aE (U) (zk 7 U (zY s 0 cM gu U (zo U (aC U U U jk) (zo U (aq (r:=.int .i64 ((cs.length:Int)-1)) U U (dM ak)) ?_)))));refine zk 2 U (WP.block ?_);have s:Sat h (aW x k.pg l (P k.pg) cs::_):=aT.2 ⟨bv,cv,us,s⟩;have s:=s.ae [4,0];cases l with
   |zero =>
    have o5:k.ps=[]:=hv.2.2;rw[o5,dJ] at QN;refine T3 gn s ⟨U,U,U,U,U,U,aa⟩ (λE' hE s' => ?_);have s:=s';exact WP.has hE (ih rest (out++[k.pg]) _ _ _ _ dz _ _ S Q (by rw[eG,aN] at hlen;simp only[cW,aX] at hlen;omega) QN (λm hm=>T6 m (bw _ hm)) T7 kD gV ((s.ae [3,3,0,1]).del 4) ⟨U,U,U,U,aa⟩ (λE' h' GS ah g1 g2=>hq E' h' GS ah g1 (ej.trans g2)))
   |succ l =>
    obtain⟨ks,kU,Mk,Fs,o5,sW⟩:=hv;subst kU;rw[dI] at gn ⊢;refine W3 hT Mk.pg gn (by omega) ks.length _ _ _ _ _ _ (aH _) (by rw[cj,ju];omega) s ⟨U,U,U,U,U,U,aa⟩ (λE' h' Oz hE s' => ?_);have s:=s';rw[jP,<-rG,<-List.reverse_append] at s;refine WP.has hE ?_;refine ih (ks++rest) (out++[k.pg]) _ _ _ _ dz _ _ S Q ?_ ?_ (λm hm => ?_) T7 kD gV ((s.ae [3,3,0,1]).del 4) ⟨U,U,U,U,aa⟩ (λE' h' GS ah g1 g2=>hq E' h' GS ah g1 (ej.trans g2))
    .rw[eG,aN,cW,aX,o5] at hlen;rw[nk,aN];omega
    .rw[nk,<-o5];exact QN
    .rcases List.mem_append.1 hm with hm|hm
     .obtain⟨i,hi⟩:=List.mem_iff_getElem?.1 hm;obtain⟨cs',a1,_,a3⟩:=sW i m hi;exact⟨l,_,_,cs',by omega,a1,a3⟩
     .exact T6 m (bw _ hm)
theorem Z6 (I:W told){cs:List V}{h:H}(h1:1<=cs.length)(s:Sat h (roS 1 w cs::S)): Call ⟨Tryz.prog,told⟩ 79 [w] h λv h'=>Sat h' (roS 1 v cs::S):=by
 have hl:=zP (P:=Tryz.prog) (n:=cs.length) (s.jm (j:=0) U (cR _ _ _)) (by omega) (by decide) dm;obtain⟨v',e1,s1⟩:=Qj (P:=Tryz.prog) (b:=cs.length) s (aH _) h1 dm lI;rw[jP] at s1;refine Call.of_wp (I.free _ U) Tryz.func79 U U (zK 8 U (zo U (aC U U U hl) (zm U (zo U (aC U U U hl) (zo U (bK (p:=none) (q:=some (.int .i64 (cs.length:Int))) (m:=some (.int .i64 (cs.length:Int))) (p':=none) (q':=some cs.length) (m':=some cs.length) U U U U U (by rw[bN,fS]) (by rw[bN,fS]) e1) ?_)))));exact zk 2 U (WP.ret ⟨aa,_,U,s1.del 1⟩)
theorem T8 (hT:W told)(hR:my told N B rv A pg)(hN:N<=65536){h:H}(hL:L<=60)(hv:Nv F P L [] none cs es ps)(hp:bH (P root) 204 0 L cs)(fE:(root::ps).Nodup)(I:∀m∈root::ps,m<N)(Nq:ps.length<=2999)(b_:EI N B ε)(eA:pg ε=P)(s:Sat h (A ε::S)):
  Call ⟨Tryz.prog,told⟩ 25 [rv,.int .i64 (root:Int)] h λv h'=>∃w ah,v=.aV [w,.int .i64 0]/\EI N B ah/\Sm N ε ah/\Sat h' (roS 1 w (cC (root::ps))::A ah::S):=by
 refine Call.of_wp (hT.free _ U) Tryz.func25 U U (zK 7 U ?_);obtain⟨h1,e3,s1⟩:=Ob (P:=Tryz.prog) s dm BW lI U (by decide);refine au.any U U U (OpR.of (R:=λv h'=>v=.sl h.next 0 0 (.exact 0)/\h'=h1) (iZ U e3) ⟨U,U⟩) ?_
 rintro v h' ⟨rfl,rfl⟩;have s:Sat h' (.arr 1 (.sl h.next 0 0 (.exact 0)) (cC [])::_):=Zx s1
 generalize V.sl h.next 0 0 (.exact 0)=ov at s ⊢
 refine zk 4 U ?_;refine au.BV s U U U U (λp16 h s => ?_);refine zk 5 U ?_;have s:=qX (f:=GV) s;obtain⟨iv,h1,e4,s2⟩:=kY (P:=Tryz.prog) (k:=1) (x:=.int .i64 (root:Int)) s dm BW lI U (by decide) (by decide) U U;refine au.any U U U (OpR.of (R:=λv h'=>v=iv/\h'=h1) (iZ U e4) ⟨U,U⟩) ?_;rintro iv h1 ⟨rfl,rfl⟩;have s:=abZ (cs:=cC [root]) (by simp[cC]) s2;have s:=s.ae [2,1,0];refine zk 3 U (WP.block ?_);refine T4 (F:=F) hT hR hN fE I (by simp only[aX];omega) (root::ps).length [⟨[],root,es,ps⟩] [] [] _ _ _ ε _ _ S _ (by simp[cW]) (by simp[cW]) (λk hk=>by
  rw[List.mem_singleton.1 hk];exact⟨L,_,_,cs,hL,hv,hp⟩) (λm hm=>by simp[lookL] at hm) b_ eA s ⟨U,U,U,U,aa⟩ (λE' h' GS ah k1 k2 hE s' => ?_)
 have s:=s'.rW.eD Gu;refine WP.has hE (zK 3 U (zc U (Z6 hT (by simp[cC]) s) ?_));rintro v h s;exact zk 3 U (WP.ret ⟨aa,_,U,v,ah,U,k1,k2,s⟩)
end
section
variable {told:cu} {h:H}
theorem Nv.ld (hv:Nv F P L lo hi cs es ps): ∀c∈cs,iT L c/\c.length<=225:=λc I=>⟨(hv.cells c I).1,(hv.cells c I).2.1⟩
theorem T9 (hT:W told)(hR:my told N B rv A pg)(hL:L<=60)(hv:Nv F P L lo hi cs es ps)(hp:bH (P root) 204 0 L cs)(hr:root<N)(b_:EI N B ε)(eA:pg ε=P)(s:Sat h (A ε::S)):
  Call ⟨Tryz.prog,told⟩ 67 [rv,.int .i64 (root:Int)] h λv h'=>∃ah,v=.aV [.int .i64 ((L+1:Nat):Int),.int .i64 0]/\EI N B ah/\Sm N ε ah/\Sat h' (A ah::S):=by
 refine Call.of_wp (hT.free _ U) Tryz.func67 U U (zK 9 U (zc U (zX (l:=L) (cs:=cs) hT hR b_ hr (by rw[eA];exact hp) hv.ld (by omega) s) ?_));rintro v h ⟨x,dz,rfl,I,ej,s⟩;obtain⟨bv,cv,us,s⟩:=aT.1 s;refine zk 10 U (zC U aE (U) (zk 7 U (zY s 0 ew bT U (zo U (aq (r:=.int .i64 ((L+1:Nat):Int)) U U (by rw[show((L+1:Nat):Int)=(L:Int)+1 by omega];exact aM ak)) ?_))));exact zk 3 U (WP.ret ⟨aa,_,U,dz,U,I,ej,s.drop.drop.drop.drop⟩)
end
def yj (v:V)(hi:Option Ky): aG:=match hi with
 |none=>.pu (v=.aZ)
 |some b=>.cG v b
theorem bf.bel (v:V)(hi:Option Ky): bf (yj v hi):=by
 cases hi with
 |none=>exact bf.pu _
 |some b=>exact bf.cG _ _
structure ab1 (l f:Nat)(lo:Ky)(hi:Option Ky)(cs:List (List Nat)): Prop where
 qO:∀c∈cs,iT l c/\c.length<=225
 lo:∀i c,cs[i]?=some c->f<=i->lo<=fM l c
 hi:∀i c,cs[i]?=some c->f<=i->∀b,hi=some b->fM l c<b
 up:∀i c d,cs[i]?=some c->cs[i+1]?=some d->f<=i->fM l c<fM l d
section
theorem Nv.keys (hv:Nv F P l lo hi cs es ps): ab1 l (min 1 l) lo hi cs:=by
 cases l with
 |zero =>
  have CN:=hv.ld;obtain⟨rfl,jK,_⟩:=hv;have jX:∀i c,(es.map eE)[i]?=some c->∃e,es[i]?=some e/\c=eE e:=λi c I=>by
   rw[kR] at I;cases he:es[i]? with
   |none=>rw[he] at I;cases I
   |some e=>rw[he] at I;exact⟨e,he,(bB I).symm⟩
  refine⟨CN,λi c I _ => ?_,λi c I _ b hb => ?_,λi c d I hd _ => ?_⟩
  .obtain⟨e,he,rfl⟩:=jX i c I;rw[r7];exact(jK.bd e (aI he)).1
  .obtain⟨e,he,rfl⟩:=jX i c I;rw[r7];exact(jK.bd e (aI he)).2 b hb
  .obtain⟨e,he,rfl⟩:=jX i c I;obtain⟨e2,Gf,rfl⟩:=jX (i+1) d hd;rw[r7,r7];exact jK.get he Gf (by omega)
 |succ l =>
  have CN:=hv.ld;obtain⟨ks,rfl,hs,_,_,_⟩:=hv;have jX:∀i c,(bI ks)[i]?=some c->min 1 (l+1)<=i->∃k,ks[i]?=some k/\c=ff k.pg k.key:=λi c I h1=>by
   have hi:=(List.getElem?_eq_some_iff.1 I).1;rw[dI] at hi;have hk:ks[i]?=some ks[i]:=aF hi;have:=gU hk;rw[I] at this;exact⟨_,hk,bB this⟩
  refine⟨CN,λi c I h1 => ?_,λi c I h1 b hb => ?_,λi c d I hd h1 => ?_⟩
  .obtain⟨k,hk,rfl⟩:=jX i c I h1;rw[ql];exact oM (hs.bd i k hk (by omega)).1
  .obtain⟨k,hk,rfl⟩:=jX i c I h1;rw[ql];exact(hs.bd i k hk (by omega)).2 b hb
  .obtain⟨k,hk,rfl⟩:=jX i c I h1;obtain⟨k2,kZ,rfl⟩:=jX (i+1) d hd (by omega);rw[ql,ql];exact hs.jY i (i+1) k k2 hk kZ (by omega) (by omega)
end
section
variable {told:cu} {f:Nat} {Gw:Option Ky}
theorem W4 {h:H}{x:Operand}: binV Tryz.prog h .neq 29 x y .aZ .aZ=some (.bool false):=by
 simp only[binV,eqV,aP,gO,Bool.not_true]
theorem Z7 {h:H}{x:Operand}{v:V}{l:List Nat}(hv:View h v l)(hl:1<=l.length): binV Tryz.prog h .neq 29 x y v .aZ=some (.bool true):=by
 obtain⟨id,off,cap,rfl⟩:=iC hv hl;simp only[binV,eqV,aP,gO,yB]
theorem Ml {a b:Ky}(h:a<b): ¬ cmpN a b>=0:=by have:=(tU a b).1.2 h;omega
theorem ab2 {a b:Ky}(h:b<=a): ¬ cmpN a b<0:=λq=>List.not_lt.2 h ((tU a b).1.1 q)
noncomputable def ckA : Code:=cX [1,1,1,1,0,1,0,0] ((Tryz.f153.body).getD .skip)
theorem QO (hT:WB told)(hk:ab1 l f lo hi cs)(hl:l<=60)(gn:cs.length<=512)(GC:∀b,hi=some b->1<=b.length): ∀(j i:Nat) (h:H) (E:List (Nat×V)) (Q:Ex->List (Nat×V)->H->Prop),(cs.length<=i/\j=0\/i+j=cs.length)->f<=i ->
  Sat h (aW x n l b cs::.cG fv lo::yj hv hi::S)->Has E [(0,rv),(1,.ptr x 0),(2,fv),(3,hv),(4,mv),(13,.int .i64 (f:Int)),(14,.int .i64 (i:Int))] ->
  (∀E' h',Has E' [(0,rv),(1,.ptr x 0),(2,fv),(3,hv),(4,mv)]->Sat h' (aW x n l b cs::.cG fv lo::yj hv hi::S)->Q (.exit 0) E' h')->WP ⟨Tryz.prog,told⟩ 138 (.loop ckA) E h Q:=by
 intro j;induction j with
 |zero =>
  intro i h E Q eN hf s hE hq;have s1:=s;obtain⟨bv,cv,us,s⟩:=aT.1 s;have jk:=gR (P:=Tryz.prog) aO s;refine WP.loop (WP.has hE (zK 6 U (zY s 0 cM gu U (zo U (aC U U U jk) (zC U aK (decide_eq_false (by omega)) ?_)))));exact zk 2 U (WP.exit (hq _ _ ⟨U,U,U,U,U,aa⟩ s1))
 |succ j ih =>
  intro i h E Q eN hf s hE hq;obtain⟨c,hc⟩:∃c,cs[i]?=some c:=⟨_,aF (by omega)⟩;have Cb:=aI hc;have lD:=hk.lo i c hc hf;have ob:=hk.hi i c hc hf;have s1:=s;obtain⟨bv,cv,us,s⟩:=aT.1 s;have jk:=gR (P:=Tryz.prog) aO s;refine WP.loop (WP.has hE (zK 6 U (zY s 0 cM gu U (zo U (aC U U U jk) (zB U aK (decide_eq_true (by omega)) ?_)))));refine zk 4 U (WP.block (zK 4 U (zc U (oR hT.w hc (hk.qO c Cb).1 (by omega) (hk.qO c Cb).2 s1) ?_)));rintro kv h s;have I:=s.aD (k:=0) U (bC _ _);have Xq:=s.aD (k:=2) U (bC _ _);refine zk 6 U (zc U (qn hT I Xq) ?_);rintro v h' ⟨rfl,rfl⟩;refine zC U aK (decide_eq_false (ab2 lD)) (zk 2 U ?_);have fin:∀(E':List (Nat×V)) (h':H),Has E' [(0,rv),(1,.ptr x 0),(2,fv),(3,hv),(4,mv),(13,.int .i64 (f:Int)),(14,.int .i64 ((i+1:Nat):Int))]->Sat h' (oh kv (fM l c)::aW x n l b cs::.cG fv lo::yj hv hi::S)->WP ⟨Tryz.prog,told⟩ 138 (.loop ckA) E' h' Q:=λE' h' dY s'=>ih (i+1) h' E' Q (by omega) (by omega) s'.drop dY hq;cases hi with
  |none =>
   have hh:hv=.aZ:=by
    obtain⟨_,_,_,_,q⟩:=s.at (k:=3) U;exact q
   subst hh;refine zC U W4 (U) (zk 10 U ?_);by_cases hif:f<i
   .obtain⟨d,hd⟩:∃d,cs[i-1]?=some d:=⟨_,aF (by omega)⟩;have T_:=aI hd;have II:=hk.up (i-1) d c hd (by rw[show i-1+1=i by omega];exact hc) (by omega);refine zB U cP (decide_eq_true (by omega)) ?_;refine zk 3 U (zo U (aq (r:=.int .i64 ((i-1:Nat):Int)) U U (by rw[show((i-1:Nat):Int)=(i:Int)-1 by omega];exact dM ak)) ?_);have s:=s.ae [1];dsimp only[bringA,getA,aL] at s;refine zc U (oR hT.w hd (hk.qO d T_).1 (by omega) (hk.qO d T_).2 s) ?_;rintro kd h s;have Gp:=s.aD (k:=0) U (bC _ _);have I:=s.aD (k:=2) U (bC _ _);refine zm U (zc U (qn hT Gp I) ?_);rintro v h' ⟨rfl,rfl⟩;refine zh U (aq U U j5) (decide_eq_false (Ml II)) (zk 2 U (zv (zj U (WP.skip (zr U (zm U (zb U (by exact aM ak) ?_)))))));refine za U (zv ?_);exact fin _ _ ⟨U,U,U,U,U,U,U,aa⟩ ((s.ae [2,1]).del 2)
   .skip;refine zC U cP (decide_eq_false (by omega)) ?_;refine zk 10 U (zv (zj U (WP.skip (zr U (zm U (zb U (by exact aM ak) ?_))))));refine za U (zv ?_);exact fin _ _ ⟨U,U,U,U,U,U,U,aa⟩ s
  |some b =>
   have s:Sat h' (oh kv (fM l c)::aW x n l _ cs::.cG fv lo::.cG hv b::S):=s;have hhv:=s.aD (k:=3) U (bC _ _);refine zB U (Z7 hhv (GC b U)) (U) (zk 3 U (zc U (qn hT I hhv) ?_));rintro v h' ⟨rfl,rfl⟩;refine zC U j5 (decide_eq_false (Ml (ob b U))) (zk 5 U ?_);by_cases hif:f<i
   .obtain⟨d,hd⟩:∃d,cs[i-1]?=some d:=⟨_,aF (by omega)⟩;have T_:=aI hd;have II:=hk.up (i-1) d c hd (by rw[show i-1+1=i by omega];exact hc) (by omega);refine zB U cP (decide_eq_true (by omega)) ?_;refine zk 3 U (zo U (aq (r:=.int .i64 ((i-1:Nat):Int)) U U (by rw[show((i-1:Nat):Int)=(i:Int)-1 by omega];exact dM ak)) ?_);have s:=s.ae [1];dsimp only[bringA,getA,aL] at s;refine zc U (oR hT.w hd (hk.qO d T_).1 (by omega) (hk.qO d T_).2 s) ?_;rintro kd h s;have Gp:=s.aD (k:=0) U (bC _ _);have I:=s.aD (k:=2) U (bC _ _);refine zm U (zc U (qn hT Gp I) ?_);rintro v h' ⟨rfl,rfl⟩;refine zh U (aq U U j5) (decide_eq_false (Ml II)) (zk 2 U (zv (zj U (WP.skip (zr U (zm U (zb U (by exact aM ak) ?_)))))));refine za U (zv ?_);exact fin _ _ ⟨U,U,U,U,U,U,U,aa⟩ ((s.ae [2,1]).del 2)
   .skip;refine zC U cP (decide_eq_false (by omega)) ?_;refine zk 10 U (zv (zj U (WP.skip (zr U (zm U (zb U (by exact aM ak) ?_))))));refine za U (zv ?_);exact fin _ _ ⟨U,U,U,U,U,U,U,aa⟩ s
noncomputable def ckP : Code:=cX [1,1,1,1,1,0,1,0,0,1,0,0,1,0] ((Tryz.f153.body).getD .skip)
theorem Ua (hT:W told){k:fV}(hk:ks[i]?=some k)(I:∀c∈bI ks,iT (l+1) c/\c.length<=225)(hl:l<=60)(A6:i<=1000){h:H}
 (s:Sat h (aW x n (l+1) b (bI ks)::.cG fv lo::S))(hE:Has E [(0,rv),(1,.ptr x 0),(2,fv),(3,hv),(4,mv),(16,.int .i64 (i:Int)),(17,fv),(18,hv)])
 (hq:∀E' h' lv,Has E' [(0,rv),(1,.ptr x 0),(2,fv),(3,hv),(4,mv),(16,.int .i64 (i:Int)),(17,lv),(18,hv)]->Sat h' (.cG lv (loK lo ks i)::aW x n (l+1) b (bI ks)::.cG fv lo::S)->Q .normal E' h'): WP ⟨Tryz.prog,told⟩ 138 ckP E h Q:=by
 have hc:=gU hk;refine WP.has hE (zK 3 U ?_);rcases nq i with rfl|h1
 .skip;refine zC U cP (by simp) ?_;refine zv (zj U (WP.skip (hq _ _ fv ⟨U,U,U,U,U,U,U,U,aa⟩ ?_)));have e:loK lo ks 0=lo:=by rw[loK,ay U]
  rw[e];exact((s.ae [1]).dup (bf.cG _ _)).ae [0,1,0]
 .skip;refine zB U cP (decide_eq_true (by omega)) ?_;refine zk 5 U (zc U (oR hT hc (I _ (aI hc)).1 (by omega) (I _ (aI hc)).2 s) ?_);rintro r h s;rw[ql] at s;refine za U (zv (hq _ _ r ⟨U,U,U,U,U,U,U,U,aa⟩ ?_));have e:loK lo ks i=k.key:=by rw[loK,ai (by omega),hk]
  rw[e];exact s
noncomputable def ckH : Code:=cX [1,1,1,1,1,0,1,0,0,1,0,0,1,1,0] ((Tryz.f153.body).getD .skip)
theorem QS (hT:W told)(hi:i<ks.length)(I:∀c∈bI ks,iT (l+1) c/\c.length<=225)(hl:l<=60)(A6:ks.length<=1000){h:H}
 (s:Sat h (aW x n (l+1) b (bI ks)::yj hv Gw::S))(hE:Has E [(0,rv),(1,.ptr x 0),(2,fv),(3,hv),(4,mv),(16,.int .i64 (i:Int)),(17,lv),(18,hv)])
 (hq:∀E' h' uv,Has E' [(0,rv),(1,.ptr x 0),(2,fv),(3,hv),(4,mv),(16,.int .i64 (i:Int)),(17,lv),(18,uv)]->Sat h' (yj uv (cQ Gw ks i)::aW x n (l+1) b (bI ks)::yj hv Gw::S)->Q .normal E' h'): WP ⟨Tryz.prog,told⟩ 138 ckH E h Q:=by
 have s1:=s;obtain⟨bv,cv,us,s⟩:=aT.1 s;have jk:=gR (P:=Tryz.prog) aO s;rw[dI] at jk;have c9:(i:Int)+1=((i+1:Nat):Int):=by omega
 refine WP.has hE (zK 3 U (zo U (aq (r:=.int .i64 ((i+1:Nat):Int)) U U ((aM ak).trans (by rw[c9]))) ?_));refine zk 2 U (zY s 0 cM gu U (zo U (aC U U U jk) ?_));by_cases cq:i+1<ks.length
 .obtain⟨k2,kZ⟩:∃k2,ks[i+1]?=some k2:=⟨_,aF cq⟩;have hc:=gU kZ;refine zB U aK (decide_eq_true (by omega)) ?_;refine zk 5 U (zo U (aq (r:=.int .i64 ((i+1:Nat):Int)) U U ((aM ak).trans (by rw[c9]))) ?_);refine zc U (oR hT hc (I _ (aI hc)).1 (by omega) (I _ (aI hc)).2 s1) ?_;rintro r h s;rw[ql] at s;refine za U (zv (hq _ _ r ⟨U,U,U,U,U,U,U,U,aa⟩ ?_));have e:cQ Gw ks i=some k2.key:=by rw[cQ,kZ]
  rw[e];exact s
 .skip;refine zC U aK (decide_eq_false (by omega)) ?_;refine zv (zj U (WP.skip (hq _ _ hv ⟨U,U,U,U,U,U,U,U,aa⟩ ?_)));have e:cQ Gw ks i=Gw:=by rw[cQ,List.getElem?_eq_none_iff.2 (by omega)]
  rw[e];exact((s1.ae [1]).dup (bf.bel _ _)).ae [0,1,0]
end
section
variable {told:cu}
noncomputable def ckB : Code:=cX [1,1,1,1,1,0,1,0,0] ((Tryz.f153.body).getD .skip)
def Yt (told:cu)(N B:Nat)(rv:V)(A:bk->aG)(pg:bk->Int->List Nat)(F:Nat->List (List Nat)->Prop)(P:Int->List Nat)(l:Nat): Prop :=
 ∀(x n:Nat) (lo:Ky) (hi:Option Ky) (cs:List (List Nat)) (es:List En) (ps:List Nat) (seen:List (Int×Unit)) (fv hv mv:V) (ε:bk) (h:H) (S:List aG),Nv F P l lo hi cs es ps->(∀b,hi=some b->1<=b.length)->(n::ps).Nodup->(∀m∈n::ps,m<N/\lookL (m:Int) seen=none)->EI N B ε->pg ε=P->cs.length<=512 ->
  Sat h (aW x n l (P n) cs::pN GV mv seen::A ε::.cG fv lo::yj hv hi::S) ->
  Call ⟨Tryz.prog,told⟩ 153 [rv,.ptr x 0,fv,hv,mv] h λv h'=>∃seen' ah,v=.int .i64 0/\EI N B ah/\Sm N ε ah/\(∀m:Nat,m∉n::ps->lookL (m:Int) seen'=lookL (m:Int) seen)/\Sat h' (pN GV mv seen'::A ah::S)
theorem QT (hT:WB told)(hR:my told N B rv A pg)(hN:N<=65536)(hl:l+1<=60)(ih:Yt told N B rv A pg F P l)(Mk:Sep lo hi ks)(gn:ks.length<=512)(CN:∀c∈bI ks,iT (l+1) c/\c.length<=225)(GC:∀b,hi=some b->1<=b.length)
 (sW:∀i k,ks[i]?=some k->∃cs',Nv F P l (loK lo ks i) (cQ hi ks i) cs' k.es k.ps/\F l cs'/\bH (P k.pg) 204 0 l cs'): ∀(j i:Nat) (seen:List (Int×Unit)) (ε:bk) (h:H) (E:List (Nat×V)) (Q:Ex->List (Nat×V)->H->Prop),i+j=ks.length ->
  ((ks.drop i).flatMap cW).Nodup->(∀m∈(ks.drop i).flatMap cW,m<N/\lookL (m:Int) seen=none)->EI N B ε->pg ε=P ->
  Sat h (aW x n (l+1) b (bI ks)::.cG fv lo::yj hv hi::pN GV mv seen::A ε::S)->Has E [(0,rv),(1,.ptr x 0),(2,fv),(3,hv),(4,mv),(16,.int .i64 (i:Int))] ->
  (∀E' h' seen' ah,EI N B ah->Sm N ε ah->(∀m:Nat,m∉(ks.drop i).flatMap cW->lookL (m:Int) seen'=lookL (m:Int) seen)->Sat h' (pN GV mv seen'::A ah::S)->Q (.exit 2) E' h')->WP ⟨Tryz.prog,told⟩ 138 (.loop ckB) E h Q:=by
 intro j;induction j with
 |zero =>
  intro i seen ε h E Q eN fE I b_ eA s hE hq;have s1:=s;obtain⟨bv,cv,us,s⟩:=aT.1 s;have jk:=gR (P:=Tryz.prog) aO s;rw[dI] at jk;refine WP.loop (WP.has hE (zK 5 U (zY s 0 ew bT U (zB U cP (by simp) ?_))));refine zk 4 U (zY s 0 cM gu U (zo U (aC U U U jk) (zC U aK (decide_eq_false (by omega)) ?_)));exact zk 3 U (WP.exit (hq _ _ seen ε b_ (Sm.refl N ε) (λ_ _=>U) s1.drop.drop.drop))
 |succ j ihj =>
  intro i seen ε h E Q eN fE I b_ eA s hE hq;obtain⟨k,hk⟩:∃k,ks[i]?=some k:=⟨_,aF (by omega)⟩;obtain⟨cs',ab3,_,uE⟩:=sW i k hk;have hd:(ks.drop i).flatMap cW=cW k++(ks.drop (i+1)).flatMap cW:=by
   obtain⟨hb,hk3⟩:=List.getElem?_eq_some_iff.1 hk;rw[<-hk3,mC hb,eG]
  rw[hd] at fE I hq;obtain⟨aeH,yg,LZ⟩:=List.nodup_append.1 fE;have Mf:=(I k.pg (fA _ a_)).1;have aeI:cs'.length<=512:=by have:=uE.fits;omega
  have hh':∀b,cQ hi ks i=some b->1<=b.length:=λb hb=>by
   unfold cQ at hb;cases hq:ks[i+1]? with
   |none=>rw[hq] at hb;exact GC b hb
   |some m =>
    rw[hq] at hb;obtain rfl:=bB hb;exact Mk.sz (i+1) m hq (by omega)
  have s1:=s;obtain⟨bv,cv,us,s⟩:=aT.1 s;have jk:=gR (P:=Tryz.prog) aO s;rw[dI] at jk;refine WP.loop (WP.has hE (zK 5 U (zY s 0 ew bT U (zB U cP (by simp) ?_))));refine zk 4 U (zY s 0 cM gu U (zo U (aC U U U jk) (zB U aK (decide_eq_true (by omega)) ?_)));refine zk 5 U (WP.block (zK 8 U (Ua hT.w hk CN (by omega) (by omega) s1 ⟨U,U,U,U,U,U,U,U,aa⟩ λE' h' lv dY s' => ?_)));have s:=s'.ae [1,2];dsimp only[bringA,getA,aL] at s;refine WP.has dY (zw (QS hT.w (by omega) CN (by omega) (by omega) s ⟨U,U,U,U,U,U,U,U,aa⟩ λE' h' uv dY s' => ?_));have s:=s'.ae [1,5];dsimp only[bringA,getA,aL] at s;refine WP.has dY ?_;have uY:=gU hk;refine zK 5 U (zc U (sY hT.w hR b_ uY Mf hN (by rw[eA];exact uE) ab3.ld (by omega) s) ?_);rintro v h ⟨y,dz,rfl,kD,ej,s⟩;have gV:pg dz=P:=by rw[<-eA];funext m;exact hR.same ej m
  rw[eA] at s;have s:=s.ae [0,5,1,3,1,0];dsimp only[bringA,getA,aL] at s;have s:=s.ae [0,6,1,1,1];dsimp only[bringA,getA,aL] at s;refine zk 10 U (zC U aE (U) (zk 10 U (zc U (ih y k.pg (loK lo ks i) (cQ hi ks i) cs' k.es k.ps seen lv uv mv dz _ _ ab3 hh' aeH (λm hm=>I m (fA _ hm)) kD gV aeI s) ?_)));rintro v h ⟨adj,ij,rfl,nY,jZ,iJ,s⟩;have QU:pg ij=P:=by rw[<-gV];funext m;exact hR.same jZ m
  have s:=s.ae [3,2,2,0,0];dsimp only[bringA,getA,aL] at s;refine za U (zv (zg U (zm U (zh U (aq U U aE) (U) (zv (zj U (WP.skip (zr U (zm U (zb U (by exact aM ak) ?_))))))))));refine za U (zv ?_);refine ihj (i+1) adj ij _ _ Q (by omega) yg (λm hm=>⟨(I m (jt _ hm)).1,?_⟩) nY QU s ⟨U,U,U,U,U,U,aa⟩ (λE' h' seen' ah g1 g2 g3 g4=>hq E' h' seen' ah g1 ((ej.trans jZ).trans g2) (λm hm => ?_) g4)
  .rw[iJ m λq=>LZ m q m hm U];exact(I m (jt _ hm)).2
  .rw[g3 m λq=>hm (jt _ q),iJ m λq=>hm (fA _ q)]
theorem Jl (hT:WB told)(hR:my told N B rv A pg)(hN:N<=65536)(hl:l<=60)(ih:∀l',l=l'+1->Yt told N B rv A pg F P l'): Yt told N B rv A pg F P l:=by
 intro x n lo hi cs es ps seen fv hv mv ε h S I GC fE uU b_ eA gn s;have XP:=I.keys;have CN:=XP.qO;obtain⟨bv,cv,us,s⟩:=aT.1 s;have s:=s.ae [4];have Lc:gA Tryz.prog h 140 mv (.int .i64 (n:Int)) true=some (.aV [.agg [],.bool false]):=by
  rcases om (n:=(n:Int)) (λ_ _=>bf.pu _) s GU b9 JJ with⟨_,g2,_⟩|⟨uu,y,g1,_⟩
  .exact g2
  .rw[(uU n a_).2] at g1;cases g1
 refine Call.of_wp (hT.w.free _ U) Tryz.func153 U U (zK 10 U (zY s 1 iB bT U (zo U (kL U U Lc) (zk 3 U ?_))));refine au.cg s U U U (cm JJ) (λGe h s => ?_);refine zS U (s.gX (j:=0) U Xx U U) ?_;intro h s;have s:=s.drop;refine zk 13 U (zY s 1 iB bT U (zo U (cI U (by rw[Xy];rfl)) ?_));refine au.lP U U (OpR.mapUpdate U U U U (oB (n:=(n:Int)) (f:=GV) (x:=()) (λ_ _=>bf.pu _) (s.ir U) GU b9)) ?_;intro _ h s;have s:=s.ae [1,1,1,1];have yR:∀m:Nat,m≠n->lookL (m:Int) (cD (n:Int) () seen)=lookL (m:Int) seen:=λm hm=>by rw[mP,ai (by omega)]
 refine zk 5 U (zY s 0 ew bT U (zo U (KB (r:=.int .i64 ((min 1 l:Nat):Int)) U U (adQ.trans (by rw[show min (1:Int) (l:Int)=((min 1 l:Nat):Int) by omega]))) ?_));refine zk 8 U (WP.block ?_);have s:Sat h (aW x n l (P n) cs::_):=aT.2 ⟨bv,cv,us,s⟩;have s:=s.ae [0,2,2];refine QO hT XP hl gn GC (cs.length-min 1 l) (min 1 l) _ _ _ (by omega) (aH _) s ⟨U,U,U,U,U,U,U,aa⟩ (λE' h' hE s' => ?_);have s:=s';refine WP.has hE (zK 5 U (WP.block ?_));have s:=s.ae [0,0,0,0,0];cases l with
 |zero =>
  have s1:=s;obtain⟨bv,cv,us,s⟩:=aT.1 s;refine WP.loop (zK 5 U (zY s 0 ew bT U (zC U cP (by simp) ?_)));exact zk 11 U (WP.exit (zK 4 U (WP.ret ⟨aa,_,U,_,ε,U,b_,Sm.refl N ε,λm hm=>yR m λq=>hm (q ▸ a_),s1.drop.drop.drop⟩)))
 |succ l =>
  have abS:=I;obtain⟨ks,rfl,Mk,Fs,o5,sW⟩:=I;rw[dI] at gn;rw[o5] at fE uU;obtain⟨wB,qp⟩:=List.nodup_cons.1 fE;refine QT hT hR hN (by omega) (ih l U) Mk gn CN GC sW ks.length 0 _ ε _ _ _ (by omega) (by rw[gi];exact qp) (λm hm => ?_) b_ eA s ⟨U,U,U,U,U,U,aa⟩ (λE' h' seen' ah g1 g2 g3 s' => ?_)
  .rw[gi] at hm;obtain⟨q1,q2⟩:=uU m (bw _ hm);exact⟨q1,by rw[yR m λq=>wB (q ▸ hm)];exact q2⟩
  have s:=s';rw[gi] at g3;refine WP.has (F:=[]) aa (zK 4 U (WP.ret ⟨aa,_,U,?_⟩));exact⟨seen',ah,U,g1,g2,λm hm=>by
   rw[o5] at hm;rw[g3 m λq=>hm (bw _ q),yR m λq=>hm (q ▸ a_)],s⟩
theorem aeJ (I:WB told)(hR:my told N B rv A pg)(hN:N<=65536): ∀(l:Nat),l<=60->Yt told N B rv A pg F P l:=by
 intro l;induction l with
 |zero=>exact λh=>Jl I hR hN h λl' e=>by cases e
 |succ l ih=>exact λh=>Jl I hR hN h λl' e=>Nat.succ.inj e ▸ ih (by omega)
theorem Ub (hT:WB told)(hR:my told N B rv A pg)(hN:N<=65536){h:H}(hL:L<=60)(hv:Nv F P L [] none cs es ps)(hp:bH (P root) 204 0 L cs)(fE:(root::ps).Nodup)(I:∀m∈root::ps,m<N)(b_:EI N B ε)(eA:pg ε=P)(s:Sat h (A ε::S)):
  Call ⟨Tryz.prog,told⟩ 69 [rv,.int .i64 (root:Int)] h λv h'=>∃ah,v=.int .i64 0/\EI N B ah/\Sm N ε ah/\Sat h' (A ah::S):=by
 refine Call.of_wp (hT.w.free _ U) Tryz.func69 U U (zK 8 U (zc U (zX (l:=L) (cs:=cs) hT.w hR b_ (I root a_) (by rw[eA];exact hp) hv.ld (by omega) s) ?_));rintro v h ⟨x,dz,rfl,kD,ej,s⟩;have gV:pg dz=P:=by rw[<-eA];funext m;exact hR.same ej m
 rw[eA] at s;refine zk 10 U (zC U aE (U) (zk 7 U ?_));refine au.BV s U U U U (λp18 h s => ?_);have s:=qX (f:=GV) s;have s:=s.vm.ir (φ:=V.aZ=.aZ) U;have s:Sat _ (yj .aZ none::_):=s;have s:=s.ae [3,2,2,1,0];refine zc U (aeJ hT hR hN L hL x root [] none cs es ps [] .aZ .aZ _ dz _ _ hv (λb hb=>by cases hb) fE (λm hm=>⟨I m hm,U⟩) kD gV (by have:=hp.fits;omega) s) ?_;rintro v h ⟨seen',ij,rfl,nY,jZ,_,s⟩;exact zk 2 U (WP.ret ⟨aa,_,U,ij,U,nY,ej.trans jZ,s.drop⟩)
end
def TrH (N root:Nat)(R ot:List Nat)(P:Int->List Nat)(es:List En): Prop:=∃M L cs ps Z,fT N R M P/\jo N M ((root::ps)++ot)/\Nv (cU Z) P L [] none cs es ps/\bH (P root) 204 0 L cs/\ps.length<=2*es.length/\L<=60
section
variable {P:Program} {h:H} {v c:V} {cs:List V} {e:TypeId}
theorem JU (a:wN (T.get h.tr) 1 v cs)(hc:cs[i]?=some c)(hu:P.underlying t=some (.slice e))(I:bq P e=some 1):
  ∃id off,indexAddrV P t v (.int .i64 (i:Int))=some (.ptr id off)/\∀t',isAggT P t'=some false->loadV P h t' (.ptr id off)=some c:=by
 have hi:=(List.getElem?_eq_some_iff.1 hc).1;obtain⟨id,off,e1,e2⟩:=VX (i:=i) a (by omega) (by decide) hu I;exact⟨id,off,e1,λt' ht=>e2 0 c t' (by rw[hO,ay (by decide),fB,cH,eH];exact hc) ht⟩
end
section
variable {told:cu} {h:H} {uv:V} {pl ul:List Nat}
noncomputable def hoO : Code:=cX [1,1,1,1,1,1,0,1,0,0] ((Tryz.f19.body).getD .skip)
noncomputable def hoA : Code:=cX [1,1,1,1,1,1,0,1,0,0,1,0,0,1,0,1,0,0] ((Tryz.f19.body).getD .skip)
noncomputable def hoB : Code:=cX [1,1,1,1,1,1,0,1,0,0,1,0,0,1,1,0,1,0,0] ((Tryz.f19.body).getD .skip)
theorem W5 (hp:pl[i]?=some n)(ou:ul.length<=100000): ∀(j k:Nat) (E:List (Nat×V)) (Q:Ex->List (Nat×V)->H->Prop),k+j=ul.length->Sat h (roS 1 w (cC pl)::.arr 1 uv (cC ul)::S) ->
  Has E [(9,w),(13,uv),(14,.int .i64 0),(15,.int .i64 (i:Int)),(16,.bool (decide (n∈ul.take k))),(17,.int .i64 (k:Int))] ->
  (∀E',Has E' [(9,w),(13,uv),(14,.int .i64 0),(15,.int .i64 (i:Int)),(16,.bool (decide (n∈ul)))]->Q (.exit 2) E' h)->WP ⟨Tryz.prog,told⟩ 143 (.loop hoA) E h Q:=by
 intro j
 induction j with
 |zero =>
  intro k E Q hk s hE hq
  have I:=s.fq (P:=Tryz.prog) (j:=1) (n:=ul.length) U (by rw[jy,cH]) (by decide) dm
  obtain rfl:k=ul.length:=hk
  rw[jP] at hE
  refine WP.loop (WP.has hE (zK 5 U (zo U (aC U U U I) (zC U aK (by simp) ?_))))
  exact zk 2 U (WP.exit (hq _ ⟨U,U,U,U,U,aa⟩))
 |succ j ih =>
  intro k E Q hk s hE hq
  have I:=s.fq (P:=Tryz.prog) (j:=1) (n:=ul.length) U (by rw[jy,cH]) (by decide) dm
  obtain⟨u,hu⟩:∃u,ul[k]?=some u:=⟨_,aF (by omega)⟩
  have qt:ul.take (k+1)=ul.take k++[u]:=by rw[nA,hu];rfl
  obtain⟨id,off,e1,e2⟩:=ki (P:=Tryz.prog) s (k:=1) (i:=k) U (kP hu) dm lI
  obtain⟨r8,oX,e3,e4⟩:=JU (P:=Tryz.prog) (s.jm (j:=0) U (cR _ _ _)) (kP hp) dm lI
  by_cases sR:n∈ul.take k
  .rw[dZ sR] at hE
   refine WP.loop (WP.has hE (zK 5 U (zo U (aC U U U I) (zB U aK (by simp;omega) ?_))))
   refine zk 4 U (WP.block (WP.drawn [af,af,af,af,af,af,af,af,af,af,af,af,af] U (by kernel_rfl) (by kernel_rfl) ?_))
   refine zM U (zM U (aB.no (e:=false) U U U U (aB.no (e:=false) U U U U (aB.no (e:=false) U U U U (aB.no (e:=false) U U U U (aB.no (e:=false) U U U U (aB.no (e:=false) U U U U (aB.no (e:=false) U U U U (aB.no (e:=false) U U U U (aB.no (e:=false) U U U U (zO U (oO U U) (zA U ?_))))))))))))
   refine aB.nil ⟨⟨aa,aa,aa,aa,aa,aa,aa,aa,aa,aa,aa,aa,aa,aa⟩,?_⟩
   refine zK 2 U (zb U (by exact aM ak) ?_)
   refine za U (zv ?_)
   exact ih (k+1) _ Q (by omega) s ⟨U,U,U,U,by rw[dZ (by rw[qt];exact fA _ sR)];rfl,U,aa⟩ hq
  .rw[gh sR] at hE
   have key:∀E',Has E' [(9,w),(13,uv),(14,.int .i64 0),(15,.int .i64 (i:Int)),(16,.bool (decide ((u:Int)=(n:Int)))),(17,.int .i64 ((k+1:Nat):Int))]->WP ⟨Tryz.prog,told⟩ 143 (.loop hoA) E' h Q:=λE' dY=>by
    refine ih (k+1) E' Q (by omega) s ?_ hq
    have e:decide (n∈ul.take (k+1))=decide ((u:Int)=(n:Int)):=by
     rw[qt]
     exact decide_eq_decide.2 ⟨λq=>by
      rcases List.mem_append.1 q with q|q
      .exact absurd q sR
      .rw[List.mem_singleton.1 q],λq=>jt _ (by rw[G8];omega)⟩
    rw[e]
    exact dY
   by_cases hun:u=n
   .subst hun
    refine WP.loop (WP.has hE (zK 5 U (zo U (aC U U U I) (zB U aK (by simp;omega) ?_))))
    refine zk 4 U (WP.block (WP.drawn [af,af,af,af,af,af,af,af,af,af,af,af,af] U (by kernel_rfl) (by kernel_rfl) ?_))
    refine zM U (zM U (zM U (zM U (zO U (bM (r:=.ptr id off) U U e1) (zL U (e2 _ bT) (zM U (zM U (zO U (bM (r:=.ptr r8 oX) U U e3) (zL U (e4 _ bT) (aB.w_ U U U U (aq U U cS) (by simp) ?_))))))))))
    refine zO U (rP U U) (zA U ?_)
    refine aB.nil ⟨⟨aa,aa,aa,aa,aa,aa,aa,aa,aa,aa,aa,aa,aa,aa⟩,?_⟩
    refine zK 2 U (zb U (by exact aM ak) ?_)
    refine za U (zv ?_)
    exact key _ ⟨U,U,U,U,by rw[dZ U];rfl,U,aa⟩
   .skip
    refine WP.loop (WP.has hE (zK 5 U (zo U (aC U U U I) (zB U aK (by simp;omega) ?_))))
    refine zk 4 U (WP.block (WP.drawn [af,af,af,af,af,af,af,af,af,af,af,af,af] U (by kernel_rfl) (by kernel_rfl) ?_))
    refine zM U (zM U (zM U (zM U (zO U (bM (r:=.ptr id off) U U e1) (zL U (e2 _ bT) (zM U (zM U (zO U (bM (r:=.ptr r8 oX) U U e3) (zL U (e4 _ bT) (aB.rR U U U U (aq U U cS) (by simp;omega) ?_))))))))))
    refine zO U (rP U U) (zA U ?_)
    refine aB.nil ⟨⟨aa,aa,aa,aa,aa,aa,aa,aa,aa,aa,aa,aa,aa,aa⟩,?_⟩
    refine zK 2 U (zb U (by exact aM ak) ?_)
    refine za U (zv ?_)
    exact key _ ⟨U,U,U,U,by rw[gh (by omega)];rfl,U,aa⟩
theorem QV (fE:pl.Nodup)(hp:pl[i]?=some n)(Ik:pl.length<=100000): ∀(j k:Nat) (E:List (Nat×V)) (Q:Ex->List (Nat×V)->H->Prop),k+j=i->Sat h (roS 1 w (cC pl)::.arr 1 uv (cC ul)::S) ->
  Has E [(9,w),(13,uv),(14,.int .i64 0),(15,.int .i64 (i:Int)),(16,.bool true),(18,.int .i64 (k:Int))] ->
  (∀E',Has E' [(9,w),(13,uv),(14,.int .i64 0),(15,.int .i64 (i:Int)),(16,.bool true)]->Q (.exit 4) E' h)->WP ⟨Tryz.prog,told⟩ 143 (.loop hoB) E h Q:=by
 have hi:=(List.getElem?_eq_some_iff.1 hp).1
 intro j
 induction j with
 |zero =>
  intro k E Q hk s hE hq
  obtain rfl:k=i:=hk
  refine WP.loop (WP.has hE (zK 5 U (zC U aK (by simp) ?_)))
  exact zk 2 U (WP.exit (hq _ ⟨U,U,U,U,U,aa⟩))
 |succ j ih =>
  intro k E Q hk s hE hq
  obtain⟨u,hu⟩:∃u,pl[k]?=some u:=⟨_,aF (by omega)⟩
  have hun:u≠n:=λq=>by
   subst q
   obtain⟨a1,a2⟩:=List.getElem?_eq_some_iff.1 hu
   obtain⟨b1,b2⟩:=List.getElem?_eq_some_iff.1 hp
   exact List.pairwise_iff_getElem.1 fE k i a1 b1 (by omega) (a2.trans b2.symm)
  obtain⟨id,off,e1,e2⟩:=JU (P:=Tryz.prog) (s.jm (j:=0) U (cR _ _ _)) (kP hu) dm lI
  obtain⟨r8,I,e3,e4⟩:=JU (P:=Tryz.prog) (s.jm (j:=0) U (cR _ _ _)) (kP hp) dm lI
  refine WP.loop (WP.has hE (zK 5 U (zB U aK (by simp;omega) ?_)))
  refine zk 4 U (WP.block (WP.drawn [af,af,af,af,af,af,af,af,af,af,af,af,af] U (by kernel_rfl) (by kernel_rfl) ?_))
  refine zM U (zM U (zM U (zM U (zO U (bM (r:=.ptr id off) U U e1) (zL U (e2 _ bT) (zM U (zM U (zO U (bM (r:=.ptr r8 I) U U e3) (zL U (e4 _ bT) (aB.w_ U U U U (aq U U aE) (by simp;omega) ?_))))))))))
  refine zO U (oO U U) (zA U ?_)
  refine aB.nil ⟨⟨aa,aa,aa,aa,aa,aa,aa,aa,aa,aa,aa,aa,aa,aa⟩,?_⟩
  refine zK 2 U (zb U (by exact aM ak) ?_)
  refine za U (zv ?_)
  exact ih (k+1) _ Q (by omega) s ⟨U,U,U,U,U,U,aa⟩ hq
theorem QW (fE:pl.Nodup)(Ik:pl.length<=100000)(ou:ul.length<=100000)(V4:∀n∈pl,n∈ul): ∀(j i:Nat) (E:List (Nat×V)) (Q:Ex->List (Nat×V)->H->Prop),i+j=pl.length->Sat h (roS 1 w (cC pl)::.arr 1 uv (cC ul)::S) ->
  Has E [(9,w),(13,uv),(14,.int .i64 0),(15,.int .i64 (i:Int))]->(∀E',Has E' [(14,.int .i64 0)]->Q (.exit 0) E' h)->WP ⟨Tryz.prog,told⟩ 143 (.loop hoO) E h Q:=by
 intro j;induction j with
 |zero =>
  intro i E Q hi s I hq;have IP:=zP (P:=Tryz.prog) (n:=pl.length) (s.jm (j:=0) U (cR _ _ _)) (by rw[jy,cH]) (by decide) dm;refine WP.loop (WP.has I (zK 5 U (zo U (aC U U U IP) (zC U aK (by simp;omega) ?_))));exact zk 2 U (WP.exit (hq _ ⟨U,aa⟩))
 |succ j ih =>
  intro i E Q hi s I hq;have IP:=zP (P:=Tryz.prog) (n:=pl.length) (s.jm (j:=0) U (cR _ _ _)) (by rw[jy,cH]) (by decide) dm;obtain⟨n,hn⟩:∃n,pl[i]?=some n:=⟨_,aF (by omega)⟩;have xT:=V4 n (aI hn);refine WP.loop (WP.has I (zK 5 U (zo U (aC U U U IP) (zB U aK (by simp;omega) ?_))));refine zk 4 U (WP.block (zK 9 U (WP.block ?_)));refine W5 hn ou ul.length 0 _ _ (by omega) s ⟨U,U,U,U,U,U,aa⟩ (λE' I => ?_);rw[dZ xT] at I;refine WP.has I (zK 5 U (WP.block ?_));refine QV fE hn Ik i 0 _ _ (by omega) s ⟨U,U,U,U,U,U,aa⟩ (λE' I => ?_);refine WP.has I (zg U (zm U (zo U (eo U U) (zv (zj U (WP.skip (zr U (zm U (zb U (by exact aM ak) ?_)))))))));refine za U (zv ?_);exact ih (i+1) _ Q (by omega) s ⟨U,U,U,U,aa⟩ hq
end
section
variable {told:cu} {h:H}
theorem Z8 {f:Nat->Bool}: j∈z6 f n↔j<n/\f j=true:=by
 unfold z6;rw[List.mem_filter,List.mem_range]
theorem JV {a b:bk}(hR:my told N B rv A pg)(hs:Sm N a b)(I:pg a=P): pg b=P:=by rw[<-I];funext m;exact hR.same hs m
theorem Mm (hT:WB told)(hR:my told N B rv A pg)(hN:N<=2999)(ht:TrH N root R ot P es)(hb:∀d∈es,∀x∈d.1,x<256)(hlen:es.length<=300)(b_:EI N B ε)(eA:pg ε=P)(s:Sat h (A ε::.arr 2 lv (cZ es)::S)):
  Call ⟨Tryz.prog,told⟩ 19 [rv,.int .i64 (root:Int),lv] h λv h'=>∃ah,v=.bool true/\EI N B ah/\Sm N ε ah/\Sat h' (A ah::.arr 2 lv (cZ es)::S):=by
 obtain⟨M,L,cs,ps,Z,gD,si,hv,hp,hpn,hL⟩:=ht;have hdp:=hv.deep;have fE:(root::ps).Nodup:=(List.nodup_append.1 si.nd).1;have I:∀m∈root::ps,m<N:=λm hm=>(si.mz m (fA _ hm)).2;have hr:=I root a_;have h2r:=(si.mz root (fA _ a_)).1;have wj:(cZ es).length=es.length*2:=dW _;have pU:∀ {h:H} {j:Nat} {S:List aG},Sat h S->getA S j=some (.arr 2 lv (cZ es))->lenV Tryz.prog h 28 lv=some (.int .i64 (es.length:Int)):=λs hj=>s.fq (P:=Tryz.prog) hj wj (by decide) iy;refine Call.of_wp (hT.w.free _ U) Tryz.func19 U U (zK 9 U (zo U (aC U U U (pU s (j:=1) U)) (zo U (aq (r:=.int .i64 ((es.length:Int)+1)) U U (aM ak)) ?_)));refine zc U (T2 hT hR (by omega) (by omega) hv hp hr (λm hm=>I m (bw _ hm)) hb (by omega) (by omega) (by omega) b_ eA s) ?_;rintro v h ⟨ov,dz,rfl,kD,ej,s⟩;have gV:=JV hR ej eA;have s:=s.ae [1];refine zk 10 U (zc U (T8 (F:=cU Z) hT.w hR (by omega) (by omega) hv hp fE I (by omega) kD gV s) ?_);rintro v h ⟨w,ij,rfl,nY,jZ,s⟩;have QU:=JV hR jZ gV;have s:=s.ae [1];refine zk 10 U (zc U (T9 hT.w hR (by omega) hv hp hr nY QU s) ?_);rintro v h ⟨kQ,rfl,xF,r9,s⟩;have QX:=JV hR r9 QU;refine zk 10 U (zo U (eo U U) (zk 3 U ?_));have s:=s.ae [2,2];refine zc U (WV hT.w (by omega) s) ?_;rintro v h ⟨rfl,s⟩;refine zo U (eo U U) (zk 3 U (zC U aE (U) (zk 3 U (zC U aE (U) (zk 4 U ?_)))));have s:=s.ae [2];refine zc U (Ub (F:=cU Z) hT hR (by omega) (by omega) hv hp fE I xF QX s) ?_;rintro v h ⟨qP,rfl,TD,hs4,s⟩;have aeK:=JV hR hs4 QX;have Ik:(root::ps).length=ps.length+1:=rfl;have IP:=zP (P:=Tryz.prog) (n:=(root::ps).length) (s.jm (j:=3) U (cR _ _ _)) (by rw[jy,cH]) (by decide) dm;obtain⟨id,off,e1,e2⟩:=JU (P:=Tryz.prog) (i:=0) (s.jm (j:=3) U (cR _ _ _)) (kP (n:=root) U) dm lI;refine zC U aE (U) (zk 3 U (zo U (aC U U U IP) (zC U aK (decide_eq_false (by omega)) ?_)));refine zk 3 U (zo U (bM (r:=.ptr id off) U U e1) (zl U (e2 _ bT) (zm U (zC U aE (by simp) ?_))));refine zk 3 U (zC U aK (by simp;omega) ?_);refine zk 4 U (zo U (aC U U U IP) (zC U cP (by simp;omega) ?_));refine zk 3 U (zo U (aC U U U IP) (zm U (zo U (aC U U U (pU s (j:=2) U)) (zo U (aq (r:=.int .i64 (2*(es.length:Int))) U U (iO ak)) ?_))));refine zo U (aq (r:=.int .i64 (2*(es.length:Int)+1)) U U (aM ak)) ?_;refine zC U cP (decide_eq_false (by omega)) ?_;refine zk 7 U (zc U (Wg hT.w hR TD (by omega) (by rw[aeK];exact gD) s) ?_);rintro v h ⟨uv,Jz,rfl,ae7,hs5,s⟩;have s:=s.ae [4,0];refine zk 11 U (WP.block ?_);refine QW fE (by omega) (by have:=Ie (f:=bt M) (k:=N);omega) (λn hn=>Z8.2 ⟨I n hn,by rw[si.bits n (I n hn)];exact dZ (.inr (fA _ hn))⟩) (root::ps).length 0 _ _ (by omega) s ⟨U,U,U,U,aa⟩ (λE' hE => ?_);refine WP.has hE (zK 3 U (zB U cS (by simp) ?_));exact zk 2 U (WP.ret ⟨aa,_,U,Jz,U,ae7,(((ej.trans jZ).trans r9).trans hs4).trans hs5,((s.ae [2,3]).del 4 |>.del 3 |>.del 2)⟩)
end
def o_ (N root:Nat)(R ot Z:List Nat)(P:Int->List Nat)(es:List En): Prop:=∃A,qv N root R ot Z A 10 P P es
section
variable {bj:Nat} {ah:bk}
theorem o_.done (hw:NW N now)(I:∀m,pgA ah m=match lookL m now with|some b=>e_ b bj|none=>pgA ε m)(h:o_ N root R ot Z (pgG now ε) es): o_ N root R ot Z (pgA ah) es:=by
 obtain⟨A,M,L,cs,ps,h1,h2,h3,h4,h5,_⟩:=h;exact⟨A,M,L,cs,ps,h1.done hw I,h2,h3.H9 λm _ k x e cs hp=>hp.done I,h4.done I,h5,λ_ _=>U⟩
theorem o_.fresh {M:List Nat}(hs:fT N R M P)(I:jo N M (root::ot))(hp:bH (P root) 204 0 0 []): o_ N root R ot [] P [] :=
 ⟨486,M,0,[],[],hs,I,⟨U,⟨by simp,by simp,List.Pairwise.nil⟩,U⟩,hp,⟨by decide,by decide⟩,λ_ _=>U⟩
theorem o_.ok (h:o_ N root R ot Z P es): js [] none es:=by
 obtain⟨A,M,L,cs,ps,h1,h2,I,h4,h5,_⟩:=h;exact I.ok
theorem o_.nd {I:List Nat}(h2:jo N I ((root::ps)++ot)): ps.Nodup:=(List.nodup_cons.1 (List.nodup_append.1 h2.nd).1).2
theorem o_.h (h:o_ N root R ot [] P es): TrH N root R ot P es:=by
 obtain⟨A,M,L,cs,ps,h1,h2,h3,h4,h5,_⟩:=h;have I:=(h3.bG (o_.nd h2)).1;exact⟨M,L,cs,ps,[],h1,h2,h3,h4,by simpa using I,by omega⟩
theorem o_.h0 (h:o_ N root R ot Z P []): TrH N root R ot P []:=by
 obtain⟨A,M,L,cs,ps,h1,I,h3,h4,h5,_⟩:=h;have h0:=(h3.bG (o_.nd I)).2.2;have hL:L=0:=by
  rcases nq L with q|q
  .exact q
  .have:=h0 q;simp at this
 subst hL;obtain⟨q1,q2,rfl⟩:=h3;exact⟨M,0,cs,[],Z,h1,I,⟨q1,q2,U⟩,h4,by simp,by omega⟩
end
section
variable {told:cu} {h:H} {p aQ:Nat} {data:List Nat}
theorem Z9 (hT:WI told)(hB:B<=2000)(hN:N<=2999)(b_:EI N B ε)(hw:NW N now){val:Ky}{vv:V}{Y:aG}(ht:o_ N root R ot [] (pgG now ε) es)(Fs:es.length<1000)(hX:cy X (cE kv k))(hY:cy Y (cE vv val))(hk:1<=k.length/\k.length<=96)(Gv:val.length<=128)(qR:2*es.length+ot.length+14<N)
 (s:Sat h (GA g a p q r data aQ now ε::X::Y::S)):
  Call ⟨Tryz.prog,told⟩ 14 [.ptr g 0,.int .i64 (root:Int),kv,vv] h λv h'=>∃ah aJ ov,v=.aV [ov,.bool (fI es k).isSome,.int .i64 0]/\EI N B ah/\Sm N ε ah/\NW N aJ/\aJ.length<=now.length+47 /\
   Sat h' (GA g a p q r data aQ aJ ah::yh ov (fI es k)::X::Y::S)/\o_ N root R ot [] (pgG aJ ah) (rq es k val):=by
 obtain⟨A,M,L,cs,ps,h1,I,h3,h4,h5,_⟩:=ht;have hpn:=(h3.bG (o_.nd I)).1;rw[bY] at hpn;refine(OK (L:=L) (cs:=cs) (ps:=ps) hT hB hN b_ hw h1 I h3 h4 (by omega) h5.2 hX hY hk Gv s).mono ?_;rintro v h ⟨ah,aJ,k1,k2,k3,k4,(⟨e1,e2,e3⟩|⟨ov,e1,e2,e3⟩)⟩
 .simp only[aN,aX] at e2;omega
 .refine⟨ah,aJ,ov,e1,k1,k2,k3,by omega,e2,A+104,?_⟩;obtain⟨M,L,cs,ps,h1,I,h3,h4,h5,_⟩:=e3;have hlen:=L6 (es:=es) (k:=k) (val:=val);exact⟨M,L,cs,ps,h1,I,h3,h4,⟨h3.lvl (o_.nd I) (by omega),h5.2⟩,λ_ _=>U⟩
theorem W6 (hT:WB told)(hB:B<=2000)(hN:N<=2999)(I:EI N B ε)(hw:NW N now)(ht:o_ N root R ot Z (pgG now ε) es)(hX:cy X (cE kv k))(hk:1<=k.length/\k.length<=96)
 (s:Sat h (GA g a p q r data aQ now ε::X::S)):
  Call ⟨Tryz.prog,told⟩ 21 [.ptr g 0,.int .i64 (root:Int),kv] h λv h'=>∃ah aJ ov z,v=.aV [ov,.bool (fI es k).isSome,.int .i64 0]/\EI N B ah/\Sm N ε ah/\NW N aJ/\aJ.length<=now.length+65/\Sat h' (GA g a p q r data aQ aJ ah::yh ov (fI es k)::X::S)/\o_ N root R ot (z::Z) (pgG aJ ah) (kO es k):=by
 obtain⟨A,M,L,cs,ps,h1,h2,h3,h4,h5,_⟩:=ht;refine(WN (L:=L) (cs:=cs) (ps:=ps) hT hB hN I hw h1 h2 h3 h4 (by omega) h5.2 hX hk s).mono ?_;rintro v h ⟨ah,aJ,ov,z,rfl,k1,k2,k3,k4,s,M,L2,cs,ps,h1,h2,h3,h4,h5,_⟩;exact⟨ah,aJ,ov,z,U,k1,k2,k3,by omega,s,A+104,M,L2,cs,ps,h1,h2,h3,h4,⟨by omega,h5.2⟩,λ_ _=>U⟩
end
def CO (n i:Nat): Nat:=if n%11=0 then i else i*11%n
section
theorem ab4 (hi:i<n): CO n i<n:=by
 unfold CO;split
 .exact hi
 .exact tF _ (by omega)
theorem adk : ∀n,n<300->n%11≠0->Nat.gcd n 11=1:=by decide +kernel
theorem Z_ (hn:n<300)(hi:i<n)(hj:j<i): CO n i≠CO n j:=by
 unfold CO;split
 .omega
 .rename_i I;intro e;have h1:=Nat.sub_mod_eq_zero_of_mod_eq e;rw[<-Nat.sub_mul] at h1;have h2:n∣i-j:=Nat.Coprime.dvd_of_dvd_mul_right (adk n hn I) (Nat.dvd_of_mod_eq_zero h1);have:=Nat.le_of_dvd (by omega) h2;omega
end
section
structure E5 (gJ:List En)(i:Nat)(es:List En): Prop where
 sub:∀e∈es,e∈gJ
 ab5:∀m e,gJ[m]?=some e->(∀t,t<i->CO gJ.length t≠m)->e∈es
 len:es.length+i=gJ.length
theorem E5.zero : E5 es 0 es:=⟨λ_ h=>h,λ_ _ h _=>aI h,U⟩
theorem aaa : ∀ {es:List En},(es.map (·.1)).Nodup->e∈es->(kO es e.1).length+1=es.length:=by
 intro es;induction es with
 |nil=>intro _ h;cases h
 |cons a t ih =>
  intro I he;simp only[hU,nC] at I;unfold kO at ih ⊢;rcases List.mem_cons.1 he with rfl|he
  .have:(t.filter λd=>decide (d.1≠e.1))=t:=List.filter_eq_self.2 λd hd=>by
    simp only[ne_eq,decide_not,CZ,decide_eq_false_iff_not];exact λq=>I.1 (q ▸ nj hd)
   rw[List.filter_cons_of_neg (by simp),this,aX]
  .have fb:a.1≠e.1:=λq=>I.1 (q ▸ nj he);rw[List.filter_cons_of_pos (by simpa using fb),aX,aX,ih I.2 he]
theorem ab6 (I:(es.map (·.1)).Nodup)(he:e∈es): fI es e.1=some e.2:=by
 obtain⟨j,hj⟩:=List.mem_iff_getElem?.1 he;exact DJ I hj U
theorem E5.step (h:E5 gJ i es)(I:js [] none gJ)(hs:js [] none es)(hn:gJ.length<300)(hi:i<gJ.length)(he:gJ[CO gJ.length i]?=some e): e∈es/\E5 gJ (i+1) (kO es e.1):=by
 have hm:e∈es:=h.ab5 _ e he λt ht q=>Z_ hn hi ht q.symm;refine⟨hm,λd hd=>h.sub d (List.mem_filter.1 hd).1,λm d hd fb => ?_,?_⟩
 .refine List.mem_filter.2 ⟨h.ab5 m d hd λt ht=>fb t (by omega),?_⟩;simp only[ne_eq,decide_not,CZ,decide_eq_false_iff_not];intro q;have Wn:=fb i (by omega);rcases yy Wn with q1|q1
  .exact absurd (q ▸ I.get he hd q1) (jQ _)
  .exact absurd (q ▸ I.get hd he q1) (jQ _)
 .have h1:=aaa hs.nodup hm;have h2:=h.len;omega
end
theorem E6 {k:Int}{m:Nat}(hm:m<65536): ∃r:Nat,r<=m/\∀ {P:Program} {h:H} {t:TypeId} {x y:Operand},binV P h .and t x y (.int .i64 k) (.int .i64 (m:Int))=some (.int .i64 (r:Int)):=by
 refine⟨Nat.land ((k%(2^(IntKind.i64).bits:Int)).toNat) m,Nat.and_le_right,λ{P h t x y} => ?_⟩;have I:(((m:Nat):Int)%(2^(IntKind.i64).bits:Int)).toNat=m:=by simp only[IntKind.bits];omega
 simp only[binV,ikBeq,ag,intV,bitsV,I];have hle:Nat.land ((k%(2^(IntKind.i64).bits:Int)).toNat) m<=m:=Nat.and_le_right;rw[wrap_i64 (n:=Nat.land ((k%(2^(IntKind.i64).bits:Int)).toNat) m) (by omega)]
theorem adl {P:Program}{h:H}{x:Operand}{b:Nat}(I:a<512)(hb:b<512): binV P h .xor t x y (.int .i64 (a:Int)) (.int .i64 (b:Int))=some (.int .i64 ((Nat.xor a b:Nat):Int)):=by
 have h1:∀c:Nat,c<512->((c:Int)%(2^(IntKind.i64).bits:Int)).toNat=c:=λc hc=>by simp only[IntKind.bits];omega
 have h2:Nat.xor a b<2^9:=G7 (n:=9) I hb;simp only[binV,ikBeq,ag,intV,bitsV,h1 a I,h1 b hb];rw[wrap_i64 (n:=Nat.xor a b) (by omega)]
theorem aab {h:H}{y:Nat}: buildSliceV Tryz.prog h 29 2 [(0,.int .u8 (x:Int)),(1,.int .u8 (y:Int))]=some (.sl h.next 0 2 (.exact 2),newRow h (ofBytes [x,y])):=by
 simp only[buildSliceV,aP,fF,pJ,V.cells];rfl
structure Yu (R:List Nat)(root i:Nat)(ε:bk)(es:List En): Prop where
 ei:EI 2048 (5+2*i) ε
 tr:o_ 2048 root R [] [] (pgA ε) es
 by_:∀d∈es,∀x∈d.1,x<256
 len:es.length<=i
def Uc (k:Nat): List Nat:=[k/256,k%256]
section
variable {told:cu} {h:H} {p k many:Nat} {way:Int}
noncomputable def tmO : Code:=cX [1,1,1,1,1,1,0,1,0,0] ((Tryz.f5.body).getD .skip)
noncomputable def tmB : Code:=cX [1,1,1,1,1,1,0,1,0,0,1,0,0,1,1] ((Tryz.f5.body).getD .skip)
noncomputable def tmK : Code:=cX [1,1,1,1,1,1,0,1,0,0,1,0,0,1,0,1] ((Tryz.f5.body).getD .skip)
theorem aac (hT:WT told)(hi:i<275)(hk:k<512)(hI:Yu R root i ε es)
 (s:Sat h (.arr 2 lv (cZ es)::SA a p q r .cf [] 0 ε::.arr 1 lw (cC [root])::S))(hE:Has E [(1,.int .i64 way),(2,.int .i64 size),(7,.ptr a 0),(8,lw),(10,.int .i64 (many:Int)),(11,lv),(12,.int .i64 (i:Int)),(13,.int .i64 (k:Int))])
 (mj:∀E' h',look E' 6=some (.bool true)->Q .ret E' h')
 (hq:∀E' h' lv es ε,Yu R root (i+1) ε es->Has E' [(1,.int .i64 way),(2,.int .i64 size),(7,.ptr a 0),(8,lw),(10,.int .i64 (many:Int)),(11,lv),(12,.int .i64 (i:Int))]->Sat h' (.arr 2 lv (cZ es)::SA a p q r .cf [] 0 ε::.arr 1 lw (cC [root])::S)->Q .normal E' h'): WP ⟨Tryz.prog,told⟩ 188 tmB E h Q:=by
 have hW:=hT.w;obtain⟨b_,ht,Eh,hlen⟩:=hI;have jK:=ht.ok;obtain⟨m,hm,hand⟩:=E6 (k:=size) (m:=127) (by decide);have GJ:∀b∈Uc k,b<256:=λb hb=>by
  simp only[Uc,gz,ke,nG] at hb;omega
 have Ls:∀b∈List.replicate m 0,b<256:=λb hb=>by rw[(List.mem_replicate.1 hb).2];decide
 refine WP.has hE (zK 3 U (zo U (aq (r:=.int .i64 ((k/256:Nat):Int)) U U (xE (b:=256) (by decide) (by omega))) ?_));refine zo U (cN U (by exact kC b9 Tryz.underlying5 qH)) ?_;refine zm U (zo U (aq (r:=.int .i64 ((k%256:Nat):Int)) U U (Az (b:=256) (by decide))) ?_);refine zo U (cN U (by exact kC b9 Tryz.underlying5 qH)) ?_;refine au.any U U U (OpR.of (R:=λv h'=>v=.sl h.next 0 2 (.exact 2)/\h'=newRow h (ofBytes [k/256,k%256])) (iZ U aab) ⟨U,U⟩) ?_
 rintro v1 h1 ⟨rfl,rfl⟩;have s1:Sat (newRow h (ofBytes [k/256,k%256])) (pt h.next (.cells 2 (ofBytes [k/256,k%256]) false)::_):=s.new _
 generalize newRow h (ofBytes [k/256,k%256])=h1 at s1;generalize h.next=id at s1
 have s:Sat h1 (.cG (.sl id 0 2 (.exact 2)) (Uc k)::_):=s1.freeze.eD λm r hm=>⟨GJ,.inr ⟨id,0,.exact 2,2,_,false,U,hm,U,aH 2,U,aH 2⟩⟩;refine zo U (cN U (D_ (s.aD (k:=0) U (bC _ _)))) (zk 5 U (zb U hand (au.any U U U (OpR.FU (c:=m) U s U U U U (by omega)) ?_)));intro z h s;refine zo U (cN U (D_ (s.aD (k:=0) U (bg _ _)))) ?_;have s:=((s.ae [3,2,2]).del 4).del 3;dsimp only[bringA,getA,aL] at s;refine zk 5 U (zc U (xN hW s) ?_);rintro v h ⟨g,rfl,s⟩;obtain⟨kv,h1,y1,y2,s2⟩:=wR s GJ;obtain⟨vv,h2,y3,y4,s3⟩:=wR s2 Ls;obtain⟨id,off,e1,e2⟩:=ki (P:=Tryz.prog) s (k:=2) (i:=0) U (kP (n:=root) U) dm lI;refine zk 6 U (zC U (xp jH) (U) (zk 7 U (zo U (bM (r:=.ptr id off) U U e1) (zl U (e2 _ bT) (zm U (au.any U U U (OpR.of (R:=λv h'=>v=kv/\h'=h1) (qm U y1 y2) ⟨U,U⟩) ?_))))));rintro kv h1 ⟨rfl,rfl⟩;refine zm U (au.any U U U (OpR.of (R:=λv h'=>v=vv/\h'=h2) (qm U y3 y4) ⟨U,U⟩) ?_);rintro vv h2 ⟨rfl,rfl⟩;have s:=s3.ae [2,1,0];dsimp only[bringA,getA,aL] at s;refine zc U (Z9 (now:=[]) hT.toWI (by omega) (by decide) b_ (NW.nil 2048) ht (by omega) (bC _ _) (bC _ _) ⟨by show 1<=2;decide,by show 2<=96;decide⟩ (by rw[f_];omega) (by simp only[bY];omega) s) ?_;rintro v h ⟨dz,n_,ov,rfl,k1,k2,k3,k4,s,hTn⟩;rw[bY] at k4;have s:=(((s.del 3).del 2).del 1);dsimp only[aL] at s;refine zk 11 U (zo U (cI U (vB (kd:=1))) (zc U (Ji (kd:=1) hW (by omega) k1 k3 (by decide) (by omega) (by decide) (by decide) s) ?_));rintro v h ⟨bj,(rfl|⟨ij,rfl,q1,q2,s⟩)⟩
 .skip;refine zk 10 U (zB U cS (by decide) ?_);exact zk 6 U (WP.ret (mj _ _ U))
 .skip;refine zk 10 U (zC U cS (by decide) ?_);refine zk 7 U (zC U aE (U) (zk 2 U (zC U aE (by decide) ?_)));have s:=s.ae [1];dsimp only[bringA,getA,aL] at s;refine zk 8 U (zc U (ZT hW jK.jY (by omega) s) ?_);rintro v h ⟨lv1,rfl,s⟩;refine zk 5 U (zv ?_);have AA:=L6 (es:=es) (k:=Uc k) (val:=List.replicate m 0);refine hq _ _ lv1 (rq es (Uc k) (List.replicate m 0)) ij ⟨q1,hTn.done k3 q2,λd I => ?_,by omega⟩ ⟨U,U,U,U,U,U,U,aa⟩ s;unfold rq at I;rcases List.mem_append.1 I with I|I
  .exact Eh d (List.mem_filter.1 I).1
  .rcases List.mem_cons.1 I with rfl|I
   .exact GJ
   .exact Eh d (List.mem_filter.1 I).1
theorem ab7 {w:Nat}(hi:i<many)(hm:many<=275)(hE:Has E [(1,.int .i64 way),(2,.int .i64 size),(7,.ptr a 0),(8,lw),(10,.int .i64 (many:Int)),(11,lv),(12,.int .i64 (i:Int)),(13,.int .i64 (i:Int)),(49,.int .i64 (w:Int))])
 (I:∀E' (k:Nat),k<512->Has E' [(1,.int .i64 way),(2,.int .i64 size),(7,.ptr a 0),(8,lw),(10,.int .i64 (many:Int)),(11,lv),(12,.int .i64 (i:Int)),(13,.int .i64 (k:Int))]->Q .normal E' h): WP ⟨Tryz.prog,told⟩ 188 tmK E h Q:=by
 refine WP.has hE (WP.block (zg U ?_));by_cases h1:w=1
 .skip;refine zB U cS (decide_eq_true (by omega)) ?_;refine zk 5 U (zo U (aq (r:=.int .i64 ((many-1:Nat):Int)) U U (by rw[show((many-1:Nat):Int)=(many:Int)-1 by omega];exact dM ak)) ?_);refine zm U (zo U (aq (r:=.int .i64 ((many-1-i:Nat):Int)) U U (by rw[show((many-1-i:Nat):Int)=((many-1:Nat):Int)-(i:Int) by omega];exact dM ak)) ?_);refine za U (zv ?_);exact I _ _ (by omega) ⟨U,U,U,U,U,U,U,U,aa⟩
 refine zC U cS (decide_eq_false (by omega)) ?_;refine zk 5 U ?_;by_cases h2:w=2
 .skip;refine zB U cS (decide_eq_true (by omega)) ?_;refine zk 5 U (zo U (aq (r:=.int .i64 ((i*37:Nat):Int)) U U (by rw[show((i*37:Nat):Int)=(i:Int)*37 by omega];exact iO ak)) ?_);refine zm U (zo U (aq (r:=.int .i64 ((i*37%many:Nat):Int)) U U (Az (by omega))) ?_);refine za U (zv ?_);exact I _ _ (by have:=tF (i*37) (show many>0 by omega);omega) ⟨U,U,U,U,U,U,U,U,aa⟩
 refine zC U cS (decide_eq_false (by omega)) ?_;refine zk 5 U ?_;by_cases h3:w=3
 .skip;refine zB U cS (decide_eq_true (by omega)) ?_;refine zk 5 U (zo U (aq (r:=.int .i64 ((Nat.xor i 21:Nat):Int)) U U (adl (b:=21) (by omega) (by decide))) ?_);refine za U (zv ?_);exact I _ (Nat.xor i 21) (G7 (n:=9) (show i<2^9 by omega) (by decide)) ⟨U,U,U,U,U,U,U,U,aa⟩
 refine zC U cS (decide_eq_false (by omega)) ?_;refine za U (zv (zj U (WP.skip ?_)));exact I _ _ (by omega) ⟨U,U,U,U,U,U,U,U,aa⟩
theorem aeL (hT:WT told)(hm:many<=275): ∀(d i:Nat) (lv:V) (es:List En) (ε:bk) (h:H) (E:List (Nat×V)) (Q:Ex->List (Nat×V)->H->Prop),i+d=many->Yu R root i ε es ->
  Sat h (.arr 2 lv (cZ es)::SA a p q r .cf [] 0 ε::.arr 1 lw (cC [root])::S)->Has E [(1,.int .i64 way),(2,.int .i64 size),(7,.ptr a 0),(8,lw),(10,.int .i64 (many:Int)),(11,lv),(12,.int .i64 (i:Int))] ->
  (∀E' h',look E' 6=some (.bool true)->Q .ret E' h') ->
  (∀lv es ε E' h',Yu R root many ε es->Sat h' (.arr 2 lv (cZ es)::SA a p q r .cf [] 0 ε::.arr 1 lw (cC [root])::S)->Has E' [(7,.ptr a 0),(8,lw),(11,lv)]->Q (.exit 0) E' h') ->
  WP ⟨Tryz.prog,told⟩ 188 (.loop tmO) E h Q:=by
 obtain⟨w,hw,hand⟩:=E6 (k:=way) (m:=3) (by decide);intro d;induction d with
 |zero =>
  intro i lv es ε h E Q hi hI s hE I hq;obtain rfl:i=many:=hi;refine WP.loop (WP.has hE (zK 5 U (zC U aK (by simp) ?_)));exact zk 2 U (WP.exit (hq lv es ε _ _ hI s ⟨U,U,U,aa⟩))
 |succ d ih =>
  intro i lv es ε h E Q hi hI s hE I hq;refine WP.loop (WP.has hE (zK 5 U (zB U aK (by simp;omega) ?_)));refine zk 4 U (WP.block (zK 9 U (zb U hand (zv (ab7 (w:=w) (size:=size) (way:=way) (a:=a) (lw:=lw) (lv:=lv) (i:=i) (by omega) hm ⟨U,U,U,U,U,U,U,U,U,aa⟩ λE1 k hk Gx => ?_)))));refine WP.has Gx (aac hT (by omega) hk hI s ⟨U,U,U,U,U,U,U,U,aa⟩ I λE2 h2 lv2 gL ij Ud zR s => ?_);refine WP.has zR (zK 2 U (zb U (by exact aM ak) ?_));refine za U (zv ?_);exact ih (i+1) lv2 gL ij _ _ Q (by omega) Ud s ⟨U,U,U,U,U,U,U,aa⟩ I hq
end
structure Ue (R:List Nat)(root B:Nat)(gJ:List En)(i:Nat)(ε:bk)(es:List En): Prop where
 ei:EI 2048 (B+2*i) ε
 tr:∃Z,o_ 2048 root R [] Z (pgA ε) es
 lef:E5 gJ i es
section
variable {told:cu} {h:H} {p:Nat}
noncomputable def tmT : Code:=cX [1,1,1,1,1,1,1,1,0,1,0,0] ((Tryz.f5.body).getD .skip)
noncomputable def tmD : Code:=cX [1,1,1,1,1,1,1,1,0,1,0,0,1,0,0,1,1,1,1] ((Tryz.f5.body).getD .skip)
theorem OT (hT:WT told)(hB:B<=600)(hi:i<gJ.length)(hn:gJ.length<=275)(yR:js [] none gJ)(Eh:∀d∈gJ,∀x∈d.1,x<256)(hI:Ue R root B gJ i ε es)(he:gJ[CO gJ.length i]?=some e)
 (s:Sat h (GA g a p q r [] 0 [] ε::.arr 2 lv (cZ gJ)::.arr 1 lw (cC [root])::S))(hE:Has E [(7,.ptr a 0),(8,lw),(11,lv),(22,.int .i64 (i:Int)),(23,.ptr g 0),(24,.str e.1)])
 (mj:∀E' h',look E' 6=some (.bool true)->Q .ret E' h')
 (hq:∀E' h' es ε,Ue R root B gJ (i+1) ε es->Has E' [(7,.ptr a 0),(8,lw),(11,lv),(22,.int .i64 (i:Int))]->Sat h' (.arr 2 lv (cZ gJ)::SA a p q r .cf [] 0 ε::.arr 1 lw (cC [root])::S)->Q .normal E' h'): WP ⟨Tryz.prog,told⟩ 188 tmD E h Q:=by
 have hW:=hT.w;obtain⟨b_,⟨Z,ht⟩,hL⟩:=hI;have I:=ht.ok;obtain⟨hm,X_⟩:=hL.step yR I (by omega) hi he;have fY:=I.sz e hm;have hg:=ab6 I.nodup hm;obtain⟨id,off,e1,e2⟩:=ki (P:=Tryz.prog) s (k:=2) (i:=0) U (kP (n:=root) U) dm lI;obtain⟨kv,h1,y1,y2,s2⟩:=wR s (Eh e (aI he));refine WP.has hE (zK 4 U (zo U (bM (r:=.ptr id off) U U e1) (zl U (e2 _ bT) (zm U (au.any U U U (OpR.of (R:=λv h'=>v=kv/\h'=h1) (qm U y1 y2) ⟨U,U⟩) ?_)))));rintro kv h1 ⟨rfl,rfl⟩;have s:=s2.ae [1];dsimp only[bringA,getA,aL] at s;refine zc U (W6 (now:=[]) hT.toWB (by omega) (by decide) b_ (NW.nil 2048) ht (bC _ _) ⟨by omega,by omega⟩ s) ?_;rintro v h ⟨dz,n_,ov,z,rfl,k1,k2,k3,k4,s,hTn⟩;rw[bY] at k4;rw[hg];have s:=(s.del 2).del 1;dsimp only[aL] at s;refine zk 11 U (zo U (cI U (vB (kd:=1))) (zc U (Ji (kd:=1) hW (by omega) k1 k3 (by decide) (by omega) (by decide) (by decide) s) ?_));rintro v h ⟨bj,(rfl|⟨ij,rfl,q1,q2,s⟩)⟩
 .skip;refine zk 10 U (zB U cS (by decide) ?_);exact zk 6 U (WP.ret (mj _ _ U))
 .skip;refine zk 10 U (zC U cS (by decide) ?_);refine zk 6 U (zC U aE (U) (zk 2 U (zC U aE (by decide) ?_)));refine zk 3 U (zo U (eo U U) (zp U (zv (zj U (WP.skip ?_)))));exact hq _ _ (kO es e.1) ij ⟨q1.more (by omega),⟨z::Z,hTn.done k3 q2⟩,X_⟩ ⟨U,U,U,U,aa⟩ (s.ae [1])
theorem aeM (hT:WT told)(hB:B<=600)(hn:gJ.length<=275)(yR:js [] none gJ)(Eh:∀d∈gJ,∀x∈d.1,x<256): ∀(d i:Nat) (es:List En) (ε:bk) (h:H) (E:List (Nat×V)) (Q:Ex->List (Nat×V)->H->Prop),i+d=gJ.length->Ue R root B gJ i ε es ->
  Sat h (.arr 2 lv (cZ gJ)::SA a p q r .cf [] 0 ε::.arr 1 lw (cC [root])::S)->Has E [(7,.ptr a 0),(8,lw),(11,lv),(22,.int .i64 (i:Int))] ->
  (∀E' h',look E' 6=some (.bool true)->Q .ret E' h') ->
  (∀ε E' h',Ue R root B gJ gJ.length ε []->Sat h' (.arr 2 lv (cZ gJ)::SA a p q r .cf [] 0 ε::.arr 1 lw (cC [root])::S)->Has E' [(7,.ptr a 0),(8,lw)]->Q (.exit 3) E' h') ->
  WP ⟨Tryz.prog,told⟩ 188 (.loop tmT) E h Q:=by
 have hW:=hT.w;intro d;induction d with
 |zero =>
  intro i es ε h E Q hi hI s hE I hq;obtain rfl:i=gJ.length:=hi;have wj:es=[]:=iK (by have:=hI.lef.len;omega);subst wj;refine WP.loop (WP.has hE (zK 5 U (zo U (aC U U U (s.fq (P:=Tryz.prog) (j:=0) (n:=gJ.length) U (dW _) (by decide) iy)) ?_)));refine zC U aK (by simp) ?_;exact zk 2 U (WP.exit (hq ε _ _ hI s ⟨U,U,aa⟩))
 |succ d ih =>
  intro i es ε h E Q hi hI s hE I hq;have fc:i<gJ.length:=by omega
  have cq:=ab4 fc;obtain⟨e,he⟩:∃e,gJ[CO gJ.length i]?=some e:=⟨_,aF cq⟩;obtain⟨e3,XN⟩:∃e,gJ[i*11%gJ.length]?=some e:=⟨_,aF (tF _ (by omega))⟩;obtain⟨e4,he4⟩:∃e,gJ[i]?=some e:=⟨_,aF fc⟩;refine WP.loop (WP.has hE (zK 5 U (zo U (aC U U U (s.fq (P:=Tryz.prog) (j:=0) (n:=gJ.length) U (dW _) (by decide) iy)) ?_)));refine zB U aK (by simp;omega) ?_;have s:=s.ae [1];dsimp only[bringA,getA,aL] at s;refine zk 4 U (WP.block (zK 3 U (zc U (xN hW s) ?_)));rintro v h ⟨g,rfl,s⟩;have pU:=s.fq (P:=Tryz.prog) (j:=1) (n:=gJ.length) U (dW _) (by decide) iy;obtain⟨r8,oX,f3,g3,_,_⟩:=z7 (P:=Tryz.prog) iy Aq XN (s.ae [1]);obtain⟨L1,EW,f4,g4,_,_⟩:=z7 (P:=Tryz.prog) iy Aq he4 (s.ae [1]);refine zk 6 U (zC U (xp jH) (U) (zk 7 U (zo U (aq (r:=.int .i64 ((i*11:Nat):Int)) U U (by rw[show((i*11:Nat):Int)=(i:Int)*11 by omega];exact iO ak)) ?_)));refine zm U (zo U (aC U U U pU) (zo U (aq (r:=.int .i64 ((i*11%gJ.length:Nat):Int)) U U (Az (by omega))) ?_));refine zo U (bM (r:=.ptr r8 oX) U U f3) (zf U (FL _ _) (zl U (g3 _ RY) (zk 6 U (zo U (aC U U U pU) (zo U (aq (r:=.int .i64 ((gJ.length%11:Nat):Int)) U U (Az (b:=11) (by decide))) ?_)))));have fin:∀ {E':List (Nat×V)} {h':H} {es:List En} {ε:bk},Ue R root B gJ (i+1) ε es->Has E' [(7,.ptr a 0),(8,lw),(11,lv),(22,.int .i64 ((i+1:Nat):Int))]->Sat h' (.arr 2 lv (cZ gJ)::SA a p q r .cf [] 0 ε::.arr 1 lw (cC [root])::S)->WP ⟨Tryz.prog,told⟩ 188 (.loop tmT) E' h' Q:=λhI hE s=>ih (i+1) _ _ _ _ Q (by omega) hI s hE I hq;by_cases A5:gJ.length%11=0
  .have hx:CO gJ.length i=i:=ay A5;obtain rfl:e=e4:=by rw[hx,he4] at he;exact(bB he).symm
   refine zB U cS (decide_eq_true (by omega)) ?_;refine zk 5 U (zo U (bM (r:=.ptr L1 EW) U U f4) (zf U (FL _ _) (zl U (g4 _ RY) (zk 2 U (OT hT hB fc hn yR Eh hI he s ⟨U,U,U,U,U,U,aa⟩ I λE2 h2 gL ij Ud zR s=>(WP.has zR (zK 2 U (zb U (by exact aM ak) ?_))))))));refine za U (zv ?_);exact fin Ud ⟨U,U,U,U,aa⟩ s
  .have hx:CO gJ.length i=i*11%gJ.length:=ai A5;obtain rfl:e=e3:=by rw[hx,XN] at he;exact(bB he).symm
   refine zC U cS (decide_eq_false (by omega)) ?_;refine zk 3 U (OT hT hB fc hn yR Eh hI he s ⟨U,U,U,U,U,U,aa⟩ I λE2 h2 gL ij Ud zR s=>(WP.has zR (zK 2 U (zb U (by exact aM ak) ?_))));refine za U (zv ?_);exact fin Ud ⟨U,U,U,U,aa⟩ s
end
section
variable {told:cu} {h:H} {n way:Int}
theorem W7 (I:WT told)(s:Sat h S): Call ⟨Tryz.prog,told⟩ 5 [.int .i64 n,.int .i64 way,.int .i64 size] h λv h'=>v=.bool true:=by
 have hW:=I.w;obtain⟨m,hm,hand⟩:=E6 (k:=n) (m:=255) (by decide);refine Call.of_wp (hW.free _ U) Tryz.func5 U U (zK 7 U (zc U (QH I s) ?_));rintro v h ⟨rfl,s⟩;refine zo U (eo U U) (zk 5 U (zc U (Jj (N:=2048) (nt:=1) I (by decide) (by decide) (by decide) s) ?_));rintro v h ⟨p,a,q,r,lw,rs,M,ε,rfl,Ga,b_,gD,si,eA,s⟩;obtain⟨root,rfl⟩:∃z,rs=[z]:=List.length_eq_one_iff.1 Ga;generalize List.replicate 64 0=R at gD;have ht:o_ 2048 root R [] [] (pgA ε) []:=o_.fresh gD si (eA root a_);have s:=(s.ae [1]).lJ (k:=2);refine zk 12 U (zo U (eo U U) (zk 6 U (zb U hand (zo U (aq (r:=.int .i64 ((20+m:Nat):Int)) U U (by rw[show((20+m:Nat):Int)=20+(m:Int) by omega];exact aM ak)) ?_))));refine zk 11 U (WP.block ?_);refine aeL (size:=size) (way:=way) I (show 20+m<=275 by omega) (20+m) 0 .aZ [] ε _ _ _ (by omega) ⟨b_,ht,by simp,by simp⟩ s ⟨U,U,U,U,U,U,U,aa⟩ (λE' h' hE=>⟨aa,_,xW hE,U⟩) (λlv es ij E' h' hI s' hE => ?_);obtain⟨nY,XS,Eh,hlen⟩:=hI;have jK:=XS.ok;have s:=s'.ae [1,0];obtain⟨id,off,e1,e2⟩:=ki (P:=Tryz.prog) s (k:=2) (i:=0) U (kP (n:=root) U) dm lI;refine WP.has hE (zK 4 U (zo U (oz U (mki_of zu U)) (zm U (zo U (bM (r:=.ptr id off) U U e1) (zl U (e2 _ bT) (zm U (zc U (Mm I.toWB (V5 hW (by omega)) (by decide) XS.h Eh (by omega) nY U s) ?_)))))));rintro v h ⟨kQ,rfl,xF,r9,s⟩;have QX:pgA kQ=pgA ij:=by funext m;exact r9.1 m
 have s:=s.ae [1];refine zo U (eo U U) (zk 8 U (WP.block ?_));refine aeM I (B:=5+2*(20+m)) (by omega) (by omega) jK Eh es.length 0 es kQ _ _ _ (by omega) ⟨xF,⟨[],by rw[QX];exact XS⟩,E5.zero⟩ s ⟨U,U,U,U,aa⟩ (λE' h' hE=>⟨aa,_,xW hE,U⟩) (λqP E' h' hI s' hE => ?_);obtain⟨TD,⟨Z,ht4⟩,_⟩:=hI;have s:=s'.lJ (k:=2);have s:=s.ae [2,0,1];obtain⟨id,off,e1,e2⟩:=ki (P:=Tryz.prog) s (k:=2) (i:=0) U (kP (n:=root) U) dm lI;refine WP.has hE (zK 3 U (zo U (oz U (mki_of zu U)) (zm U (zo U (bM (r:=.ptr id off) U U e1) (zl U (e2 _ bT) (zc U (Mm (es:=[]) I.toWB (V5 hW (by omega)) (by decide) ht4.h0 (by simp) (by simp) TD U s) ?_))))));rintro v h ⟨Jz,rfl,_⟩;refine zk 2 U (WP.ret ⟨aa,_,U,?_⟩);rfl
end
def ab8 (c:Ctx): Prop:=∀id,id<c.N->c.X id=true
theorem Nd {c':Ctx}{w w':World}(hX:ab8 c)(h:dA c w c' w'): w.keptBut w' (λ_=>False)/\w.heap.size<=w'.heap.size/\∀b,b<w.heap.size->w'.heap[b]?=w.heap[b]?:=by
 have hk:∀b,b<w.heap.size->w'.heap[b]?=w.heap[b]?:=λb hb=>h.qx b hb λid I _=>hX id I;refine⟨⟨h.sys.1,h.sys.2,λi hi => ?_⟩,h.size,hk⟩;rw[hk i hi];split<;>simp_all
end Go.Proofs.YtdonpgpfplgigaaGreat.Am
namespace Go.Proofs.YtdonpgpfplgigaaGreat.Am
open Go Go.ChangeShapes
variable {X:aG} {c:Ctx} {e:En} {ε:bk} {A:bk->aG} {pg:bk->Int->List Nat} {Q:Ex->List (Nat×V)->H->Prop} {size:Int} {P:Int->List Nat} {lo k:Ky} {now:List (Int×List Nat)} {cs:List (List Nat)} {E:List (Nat×V)} {S:List aG} {es gJ:List En} {ks:List fV} {b ps R ot Z:List Nat} {N B root x n l L a i j g q r:Nat} {F:Nat->List (List Nat)->Prop} {y:Operand} {hi:Option Ky} {t:TypeId} {rv mv w fv hv lv kv lw:V}
def W8 (W:World)(S:List aG)(c:Ctx)(σ:H): Prop:=Rel c σ W/\ab8 c/\Sat σ S
theorem W8.zero (W:World): ∃c σ,W8 W [] c σ:=by
 refine⟨_,_,Rel.empty W,λid h=>absurd h (vG _),⟨λid o h=>by simp[T.vX] at h,λ_=>none,λ_=>none,λ_ _ h=>(by cases h),λ_ _ h=>(by cases h),λ_=>.inl U,aa⟩⟩
end Go.Proofs.YtdonpgpfplgigaaGreat.Am
namespace Go.Proofs.YtdonpgpfplgigaaGreat.Am
open Go Go.ChangeShapes Go.WideShapes Go.ChangeAt Go.RowKit
variable {X:aG} {c:Ctx} {e:En} {ε:bk} {A:bk->aG} {pg:bk->Int->List Nat} {Q:Ex->List (Nat×V)->H->Prop} {size:Int} {P:Int->List Nat} {lo k:Ky} {now:List (Int×List Nat)} {cs:List (List Nat)} {E:List (Nat×V)} {S:List aG} {es gJ:List En} {ks:List fV} {b ps R ot Z:List Nat} {N B root x n l L a i j g q r:Nat} {F:Nat->List (List Nat)->Prop} {y:Operand} {hi:Option Ky} {t:TypeId} {rv mv w fv hv lv kv lw:V}
end Go.Proofs.YtdonpgpfplgigaaGreat.Am
namespace Go.Proofs.YtdonpgpfplgigaaGreat.Am
open Go Go.ChangeShapes Go.WideShapes Go.ChangeAt Go.RowKit
variable {X:aG} {c:Ctx} {e:En} {ε:bk} {A:bk->aG} {pg:bk->Int->List Nat} {Q:Ex->List (Nat×V)->H->Prop} {size:Int} {P:Int->List Nat} {lo k:Ky} {now:List (Int×List Nat)} {cs:List (List Nat)} {E:List (Nat×V)} {S:List aG} {es gJ:List En} {ks:List fV} {b ps R ot Z:List Nat} {N B root x n l L a i j g q r:Nat} {F:Nat->List (List Nat)->Prop} {y:Operand} {hi:Option Ky} {t:TypeId} {rv mv w fv hv lv kv lw:V}
noncomputable def QY : List (Nat×Oy):=[(116,LH),(52,GF),(32,LG 32)]
noncomputable def QZ : Nat->Option (List V->H->Option (V×H)):=toldP QY ue
noncomputable abbrev CW : gN:=⟨Tryz.prog,QZ⟩
theorem aad : W QZ:=ZJ λx I=>by
 simp only[QY,gz,ke,nG] at I;rcases I with rfl|rfl|rfl<;>exact⟨by decide,by decide,by decide⟩
theorem Mn : iU CW:=V7 λx I=>by
 simp only[QY,gz,ke,nG] at I;rcases I with rfl|rfl|rfl
 .exact⟨_,Lq,U,by decide⟩
 .exact⟨_,zQ,U,by decide⟩
 .exact⟨_,Lr,U,by decide⟩
theorem W9 : WT QZ:=⟨⟨⟨aad,U⟩,U⟩,U⟩
theorem iV.okW {f:FuncId}{args:List V}{h h':H}{v:V}(hd:iV CW f args h v h'){w:World}(I:Rel c h w)(hw:∀x∈args,wf c x): kJ Tryz.prog f args c w v h':=by
 obtain⟨N,hN⟩:=hd;exact(callF_ok (C:=CW) (Dl Ck Mn N).1 Mn hN I hw).1
end Go.Proofs.YtdonpgpfplgigaaGreat.Am
namespace Go.Proofs.YtdonpgpfplgigaaGreat.Am
open Go Go.ChangeShapes Go.WideShapes Go.ChangeAt Go.RowKit
variable {X:aG} {c:Ctx} {e:En} {ε:bk} {A:bk->aG} {pg:bk->Int->List Nat} {Q:Ex->List (Nat×V)->H->Prop} {size:Int} {P:Int->List Nat} {lo k:Ky} {now:List (Int×List Nat)} {cs:List (List Nat)} {E:List (Nat×V)} {S:List aG} {es gJ:List En} {ks:List fV} {b ps R ot Z:List Nat} {N B root x n l L a i j g q r:Nat} {F:Nat->List (List Nat)->Prop} {y:Operand} {hi:Option Ky} {t:TypeId} {rv mv w fv hv lv kv lw:V}
theorem Uf {W:World}{n0 n1 n2:Int}: Calls Tryz.prog 5 #[.int .i64 n0,.int .i64 n1,.int .i64 n2] W λe w'=>e=.returned (.bool true)/\W.keptBut w' (λ_=>False):=by
 obtain⟨c,σ,hr⟩:=W8.zero W;obtain⟨v',h',RH,rfl⟩:=W7 (n:=n0) (way:=n1) (size:=n2) W9 hr.2.2;have I:=RH.okW hr.1 (λx hx=>by
  rcases List.mem_cons.1 hx with rfl|hx
  .exact aa
  rcases List.mem_cons.1 hx with rfl|hx
  .exact aa
  .rw[List.mem_singleton.1 hx];exact aa)
 unfold kJ at I;refine Calls.mono I ?_;rintro e w' ⟨c',rfl,_,_,hs⟩;obtain⟨k1,k2,k3⟩:=Nd hr.2.1 hs;exact⟨by simp[conc],k1⟩
end Go.Proofs.YtdonpgpfplgigaaGreat.Am
namespace Go.Proofs.YtdonpgpfplgigaaGreat.TreeMany
open Go.ChangeShapes Go.WideShapes Go.ChangeAt Go.RowKit
theorem own : ownKnob Tryz.prog.godebug=none:=by kernel_rfl
set_option maxRecDepth 100000 in
theorem lifted (os:Os)(started:os.Started)(H:Type)(enc:TypeId×Value→H):
  ReturnsInHanded {} Tryz.checked os 5 .any (Rows.treeManySpec.pre6 enc Tryz.prog Tryz.f5 Rows.treeManyRow.domain false) (Rows.treeManySpec.post enc Tryz.prog Tryz.f5 false true false false):=by
 refine returnsInHanded_of_change (C:=Tryz.checked) own started (by kernel_rfl) Tryz.func5
  (ChangeSpec.witness6 (enc:=enc) (C:=Tryz.checked) false ⟨#[], #[.int .i64 0,.int .i64 0,.int .i64 0],[]⟩ 8 (by kernel_rfl) (by kernel_rfl) (by kernel_rfl) (by kernel_rfl)) ?_
 intro W base args ds gs before Yv hW afH _
 have I:∀(j:Nat) t v,Tryz.f5.params[j]?=some t→args[j]?=some v→Value.okWide Tryz.prog W .any base t v:=Yv
 have hW':=hW
 obtain⟨p,q,OI,hV,rfl,vY,fE⟩:=hW
 have hA:DataW.TrodAll enc Tryz.prog W 0 (fun _=>true) true Tryz.f5.params.toList args.toList ds p:=OI
 rw[Tryz.params5] at hA I
 obtain⟨v0,vs0,d0,ds0,p0,q0,JF,rfl,rfl,h0,r0⟩:=trodAll_cons hA
 obtain⟨v1,vs1,d1,ds1,p1,q1,rfl,rfl,rfl,h1,r1⟩:=trodAll_cons r0
 obtain⟨v2,vs2,d2,ds2,p2,q2,rfl,rfl,rfl,h2,r2⟩:=trodAll_cons r1
 obtain⟨rfl,rfl,rfl⟩:=trodAll_nil r2
 obtain rfl:args = #[v0,v1,v2]:=by cases args;simp_all
 obtain⟨rfl,rfl⟩:=trodVars_none hV
 obtain⟨a0,rfl,rfl,rfl,w0⟩:=open_int Tryz.underlying3 (I 0 3 v0 rfl rfl) h0
 obtain⟨a1,rfl,rfl,rfl,w1⟩:=open_int Tryz.underlying3 (I 1 3 v1 rfl rfl) h1
 obtain⟨a2,rfl,rfl,rfl,w2⟩:=open_int Tryz.underlying3 (I 2 3 v2 rfl rfl) h2
 clear OI Yv
 simp only[List.append_nil] at hW'
 refine(Am.Uf (n0:=a0) (n1:=a1) (n2:=a2)).mono fun e W' ⟨he,hg⟩ => ?_
 subst he
 exact⟨_,rfl,⟨_,[],_,[],[],[],hW',trodAll_cons_mk (shut_bool Tryz.underlying4 _) trodAll_mk0,trodAll_cons_mk (shut_int Tryz.underlying3 w0) (trodAll_cons_mk (shut_int Tryz.underlying3 w1) (trodAll_cons_mk (shut_int Tryz.underlying3 w2) trodAll_mk0)),rfl,World.keptBut_mono (fun _ f=>f.elim) hg,fun h=>by cases h⟩⟩
theorem cK : Rows.treeManyRow.holds Tryz.pinned (OpenSpec.ofChange Rows.treeManySpec) :=
 OpenClaim.holds_of_wide 5 Tryz.f5 rfl rfl rfl rfl rfl rfl rfl ⟨rfl,rfl,rfl,rfl,rfl⟩ rfl rfl rfl rfl rfl (by kernel_rfl) Tryz.func5 (by kernel_rfl)
  (of_decide_eq_true (by kernel_rfl)) (by unfold Func.isWrapper;first|(rw[if_pos (by decide +kernel)];kernel_rfl)|(rw[if_neg (by decide +kernel)];exact⟨rfl,rfl⟩))
  (fun os started H enc _=>lifted os started H enc)
theorem proved : Rows.TreeManySaid :=
 cK
#print axioms proved
end Go.Proofs.YtdonpgpfplgigaaGreat.TreeMany
