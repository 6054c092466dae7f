/- 'munimentlaw11.TreeFull' returns true whatever its arguments, where what it reads is of bulk at most 1048576; the input reads as it did, and nothing that lay before the call has turned. Conditions: that bound alone. -/
import Derived.Test.YtdonpgpfplgigaaGreatS07
import Derived.Test.YtdonpgpfplgigaaGreatRows
import Derived.WalkKit
import Derived.ProofKit
import Derived.OpenShut
import Derived.JoinedCond
import Derived.ChangeBook
import Derived.ChangeStays
set_option linter.defProp false
namespace Go.Proofs.YtdonpgpfplgigaaGreat.Am
open Go
def GZ:=@Tryz.underlying140
variable {ε ah:bA} {A:bA->aE} {pg:bA->Int->List Nat} {Q:Ex->List (Nat×V)->H->Prop} {h:H} {P:Int->List Nat} {lo:Ky} {now:List (Int×List Nat)} {cs:List (List Nat)} {E:List (Nat×V)} {S:List aE} {es:List En} {ks:List fo} {b ps R Z:List Nat} {l i x a N B root L n q r:Nat} {F:Nat->List (List Nat)->Prop} {y:Operand} {hi:Option Ky} {α:Type} {t e:TypeId} {rv c w mv fv hv lv dv lw:V}
theorem UE {l:List Nat}{b:Nat}(I:l[i]?=some b): indexV Tryz.prog 9 (.str l) (.int .i64 (i:Int))=some (.int .u8 (b:Int)):=by
 simp only[indexV,oF,fI];rw[show decide ((0:Int)<=(i:Int))=true by simp,ag,gE,I]
theorem UF {l:List Nat}{b:Nat}(I:b<=l.length): sliceV Tryz.prog h 9 (.str l) none (some b) none=some (.str (l.take b)):=by
 simp only[sliceV,oF,fy,dz,ga];rw[aS.2 (gh b),aS.2 I];rfl
theorem adY {P:Program}{x:Operand}{a:List Nat}(hl:a.length+b.length<=1000000): binV P h .add t x y (.str a) (.str b)=some (.str (a++b)):=by
 simp only[binV,strV];rw[aS.2 (by omega),ag]
section
variable {told:cu} {a:List Nat}
noncomputable def nxA : Code:=dm [1,1,0,0,0] ((Tryz.f152.body).getD .skip)
theorem Rn : ∀(n:Nat) (h:H) (E:List (Nat×V)) (Q:Ex->List (Nat×V)->H->Prop),n<=a.length->a.length<=1000->(∀x∈a.drop n,x=255)->Has E [(0,.str a),(4,.int .i64 (n:Int))]->Sat h S ->
  (∀E' n,n<=a.length->(∀x∈a.drop n,x=255)->(n=0\/∃m x,n=m+1/\a[m]?=some x/\x≠255)->Has E' [(0,.str a),(4,.int .i64 (n:Int))]->Q (.exit 0) E' h)->WP ⟨Tryz.prog,told⟩ 35 (.loop nxA) E h Q:=by
 intro n;induction n with
 |zero =>
  intro h E Q hn hl hd hE s hq;refine WP.loop (WP.has hE (zK 4 U (zC U cA (by simp) ?_)));exact zk 9 U (WP.exit (hq _ 0 hn hd (.inl U) ⟨U,U,aa⟩))
 |succ n ih =>
  intro h E Q hn hl hd hE s hq;obtain⟨x,hx⟩:∃x,a[n]?=some x:=⟨_,aF (by omega)⟩;refine WP.loop (WP.has hE (zK 4 U (zB U cA (by simp) ?_)));refine zk 3 U (zo U (aq (r:=.int .i64 (n:Int)) U U (by rw[show(n:Int)=((n+1:Nat):Int)-1 by omega];exact dV ak)) ?_);refine zo U (Ak U U (UE hx)) ?_;by_cases I:x=255
  .subst I;refine zB U dK (by simp) ?_;refine zk 4 U (WP.block (zK 2 U (zo U (aq (r:=.int .i64 (n:Int)) U U (by rw[show(n:Int)=((n+1:Nat):Int)-1 by omega];exact dV ak)) ?_)));refine za U (zv ?_);exact ih _ _ Q (by omega) hl (λy hy=>by
    rw[mH (show n<a.length by omega)] at hy;rcases List.mem_cons.1 hy with rfl|hy
    .rw[aF (by omega)] at hx;exact bD hx
    .exact hd y hy) ⟨U,U,aa⟩ s hq
  .skip;refine zC U dK (by simp;omega) ?_;exact zk 3 U (WP.exit (hq _ (n+1) hn hd (.inr ⟨n,x,U,hx,I⟩) ⟨U,U,aa⟩))
theorem XD (hT:W told)(hl:a.length<=1000)(hb:∀x∈a,x<256)(s:Sat h S):
  Call ⟨Tryz.prog,told⟩ 152 [.str a] h λv h'=>v=.aX [.str ((nextF a).getD []),.bool (nextF a).isSome]/\Sat h' S:=by
 refine Call.of_wp (hT.free _ U) Tryz.func152 U U (zK 8 U (zo U (aD U U U (N9 oF)) (zk 3 U (WP.block ?_))));refine Rn a.length _ _ _ (aH _) hl (by simp) ⟨U,U,aa⟩ s (λE' n hn hd hx hE => ?_);refine WP.has hE (zK 4 U ?_);rcases hx with rfl|⟨m,x,rfl,hx,afs⟩
 .have hn:nextF a=none:=Jy hd;rw[hn];refine zB U dK (by simp) ?_;exact zk 7 U (WP.ret ⟨aa,_,U,U,s⟩)
 .obtain⟨hm,hxe⟩:=List.getElem?_eq_some_iff.1 hx;have ha:a=a.take m++x::a.drop (m+1):=by rw[<-hxe];simp
  have B_:nextF a=some (a.take m++[x+1]):=by
   conv=>lhs;rw[ha]
   exact XA afs hd
  have qx:a.take (m+1)=a.take m++[x]:=by rw[nF,hx];rfl
  have I:(a.take m).length=m:=by rw[cz];omega
  have hxb:x<256:=hb x (aJ hx);rw[B_];refine zC U dK (by simp;omega) ?_;refine zk 5 U ?_;obtain⟨h1,e3,s1⟩:=OD (P:=Tryz.prog) s aP zt5 X9 U (by decide);refine au.any U U U (OpR.of (R:=λv h'=>v=.sl h.next 0 0 (.exact 0)/\h'=h1) (je U e3) ⟨U,U⟩) ?_
  rintro v h' ⟨rfl,rfl⟩;obtain⟨v,h2,e4,s2⟩:=Rl (l:=a.take (m+1)) s1 (λy hy=>hb y (iM hy)) (by rw[qx,aO,I];simp) (by rw[cz];omega);refine zk 2 U (zo U (bK (p:=none) (q:=some (.int .i64 ((m+1:Nat):Int))) (m:=none) (p':=none) (q':=some (m+1)) (m':=none) U U U U U (by rw[bN,fI]) U (UF hm)) ?_);refine au.any U U U (OpR.of (R:=λv' h'=>v'=v/\h'=h2) (iY U U e4) ⟨U,U⟩) ?_;rintro v h ⟨rfl,rfl⟩;rw[qx] at s2;have jY:(a.take m++[x])[m]?=some x:=by rw[hU (by omega),I,gK];rfl
  obtain⟨id,off,e5,e6⟩:=eU (s2.buf (k:=0) U).view jY;obtain⟨id7,aft,e7,h3,e8,s3⟩:=oU s2 (i:=m) (b:=x+1) (by rw[aO,I];simp) (by omega);have ee:V.ptr id off=V.ptr id7 aft:=by rw[e5] at e7;exact bD e7
  rw[<-ee] at e8;have Cu:(a.take m++[x]).set m (x+1)=a.take m++[x+1]:=by rw[G_ _ _ (by omega),I,gK];rfl
  rw[Cu] at s3;refine zk 6 U (zo U (aq (r:=.int .i64 (m:Int)) U U (by rw[show(m:Int)=((m+1:Nat):Int)-1 by omega];exact dV ak)) ?_);refine zo U (bM (r:=.ptr id off) U U e5) (zl U e6 (zo U (aq (r:=.int .u8 ((x+1:Nat):Int)) U U (by rw[show((x+1:Nat):Int)=(x:Int)+1 by omega];exact aL uB)) ?_));refine zo U (bM (r:=.ptr id off) U U e5) (zS U (⟨h3,e8,s3⟩) ?_);rintro h s;exact zk 4 U (zo U (cS U (Co (s.aC (k:=0) U (bh _ _)))) (zk 3 U (WP.ret ⟨aa,_,U,U,s.drop⟩)))
end
section
variable {told:cu} {Iu:Int}
noncomputable def liA : Code:=dm [1,1,1,0,1,0,0] ((Tryz.f66.body).getD .skip)
theorem NF (hT:WB told)(hR:mE told N B rv A pg)(hN:N<=65536)(hL:L<=60)(hv:Nv (cM Z) P L [] none cs es ps)(hp:bH (P root) 204 0 L cs)(hr:root<N)(nZ:∀m∈ps,m<N)(hb:∀d∈es,∀x∈d.1,x<256)(hlen:es.length<=600)(hm:(es.length:Int)<=Iu)(qG:Iu<1000000):
  ∀(j i:Nat) (k:Ky) (ov:V) (ε:bA) (h:H) (E:List (Nat×V)) (S:List aE) (Q:Ex->List (Nat×V)->H->Prop),i+j=es.length->xX es i k->(∀x∈k,x<256)->k.length<=96->EI N B ε->pg ε=P ->
  Sat h (.arr 2 ov (dw (es.take i))::A ε::S)->Has E [(0,rv),(1,.int .i64 (root:Int)),(2,.int .i64 Iu),(8,ov),(9,.str k),(10,.int .i64 (i:Int))] ->
  (∀E' h' I ah,EI N B ah->Sm N ε ah->Has E' [(6,I),(7,.bool true)]->Sat h' (.arr 2 I (dw es)::A ah::S)->Q .ret E' h')->WP ⟨Tryz.prog,told⟩ 61 (.loop liA) E h Q:=by
 have jX:=hv.ok;intro j;induction j with
 |zero =>
  intro i k ov ε h E S Q hi jY Ub qa cn eA s hE hq;obtain rfl:i=es.length:=hi;obtain⟨kv,h1,c1,c2,s1⟩:=MJ s Ub;have xh:es[es.length]?=none:=List.getElem?_eq_none_iff.2 (aH _);refine WP.loop (WP.has hE (zK 5 U (zB U tK (by simp;omega) ?_)));refine zk 4 U (WP.block (zK 5 U (au.any U U U (OpR.of (R:=λv h'=>v=kv/\h'=h1) (v_ U c1 c2) ⟨U,U⟩) ?_)));rintro v h ⟨rfl,rfl⟩;refine zc U (Mu hT hR hN hL (bp _ _) qa hv hp cn eA hr nZ (s1.ae [2,0])) ?_;rintro v h ⟨c_,k1,k2,k3⟩;rw[jY.Q_,xh] at k3;obtain⟨rfl,s⟩:=k3;refine zk 14 U (zC U aG (U) (zk 7 U (zo U (eo U U) (zk 8 U (WP.ret (hq _ _ ov c_ k1 k2 ⟨U,U,aa⟩ ?_))))));rw[jR] at s;exact s.ae [1,0]
 |succ j ih =>
  intro i k ov ε h E S Q hi jY Ub qa cn eA s hE hq;obtain⟨e,he⟩:∃e,es[i]?=some e:=⟨_,aF (by omega)⟩;have OP:=aJ he;have qx:es.take (i+1)=es.take i++[e]:=by rw[nF,he];rfl
  have wC:=jX.sz e OP;have Ku:=hb e OP;obtain⟨kv,h1,c1,c2,s1⟩:=MJ s Ub;refine WP.loop (WP.has hE (zK 5 U (zB U tK (by simp;omega) ?_)));refine zk 4 U (WP.block (zK 5 U (au.any U U U (OpR.of (R:=λv h'=>v=kv/\h'=h1) (v_ U c1 c2) ⟨U,U⟩) ?_)));rintro v h ⟨rfl,rfl⟩;refine zc U (Mu hT hR hN hL (bp _ _) qa hv hp cn eA hr nZ (s1.ae [2,0])) ?_;rintro v h ⟨c_,k1,k2,k3⟩;rw[jY.Q_,he] at k3;obtain⟨kb,vb,rfl,s⟩:=k3;have gY:pg c_=P:=by rw[<-eA];funext m;exact hR.same k2 m
  refine zk 14 U (zC U aG (U) (zk 7 U (zo U (eo U U) (zk 7 U (zo U (cS U (Co (s.aC (k:=0) U (bh _ _)))) (zm U (zo U (cS U (Co (s.aC (k:=1) U (bh _ _)))) ?_)))))));obtain⟨xv,h1,w,h2,e3,e4,s2⟩:=E7 (e:=e) (by rw[cz];omega) (s.ae [3]);rw[<-qx] at s2;refine zo U (cO U (by rw[abF];rfl)) ?_;refine au.any U U U (OpR.of (R:=λv h'=>v=xv/\h'=h1) (je U e3) ⟨U,U⟩) ?_;rintro xv h1 ⟨rfl,rfl⟩;refine au.any U U U (OpR.of (R:=λv h'=>v=w/\h'=h2) (iY U U e4) ⟨U,U⟩) ?_;rintro w h2 ⟨rfl,rfl⟩;have s:=s2;dsimp only[aM,bringA] at s;have Gv:∀d∈es,d.1.length<=96:=λd hd=>(jX.sz d hd).2.1;refine zk 5 U (zo U (cS U (Co (s.aC (k:=1) U (bh _ _)))) (zo U (aq (r:=.str (e.1++[0])) U U (adY (a:=e.1) (b:=[0]) (by simp only[aW,b6];omega))) ?_));refine zk 5 U (zo U (aD U U U (N9 oF)) ?_);by_cases Y4:e.1.length=96
  .skip;refine zB U cA (by simp only[aO,aW,b6,Y4];decide) ?_;refine zk 5 U (zo U (cS U (Co (s.aC (k:=1) U (bh _ _)))) (zc U (XD hT.w (by omega) Ku s) ?_));rintro v h ⟨rfl,s⟩;cases B_:nextF e.1 with
   |none =>
    have adZ:=xX.last jX.jZ he (λd hd=>by rw[Y4];exact Gv d hd) hb B_;rw[adZ,jR] at s;exact zk 10 U (zo U (eo U U) (zk 8 U (WP.ret (hq _ _ _ c_ k1 k2 ⟨U,U,aa⟩ ((s.ae [0,2]).del 3 |>.del 2)))))
   |some u =>
    refine zk 5 U (zv (zw (zg U (zm U (zo U (eo U U) (zv (zj U (WP.skip (zr U (zk 2 U (zv (zr U (zm U (zb U (by exact aL ak) ?_))))))))))))));refine za U (zv ?_);have oo:u.length<=96:=by rw[<-Y4];exact UB B_
    have SP:∀x∈u,x<256:=Rk B_ Ku;have h1':(i:Int)+1=((i+1:Nat):Int):=by omega
    exact ih (i+1) u _ c_ _ _ S Q (by omega) (xX.next jX.jZ he (λd hd=>by rw[Y4];exact Gv d hd) hb B_) SP oo k1 gY ((s.ae [0,2]).del 3 |>.del 2) ⟨U,U,U,U,U,U,aa⟩ (λE' h' I ah g1 g2=>hq E' h' I ah g1 (k2.trans g2))
  .skip;refine zC U cA (by simp;omega) ?_;refine zv (zj U (WP.skip (zr U (zm U (zb U (by exact aL ak) ?_)))));refine za U (zv ?_);exact ih (i+1) _ _ c_ _ _ S Q (by omega) (xX.more jX.jZ he) (λx hx=>by
    rcases List.mem_append.1 hx with hx|hx
    .exact Ku x hx
    .rw[List.mem_singleton.1 hx];decide) (by rw[aO];simp;omega) k1 gY ((s.ae [0,2]).del 3 |>.del 2) ⟨U,U,U,U,U,U,aa⟩ (λE' h' I ah g1 g2=>hq E' h' I ah g1 (k2.trans g2))
theorem UG (hT:WB told)(hR:mE told N B rv A pg)(hN:N<=65536)(hL:L<=60)(hv:Nv (cM Z) P L [] none cs es ps)(hp:bH (P root) 204 0 L cs)(hr:root<N)(I:∀m∈ps,m<N)(hb:∀d∈es,∀x∈d.1,x<256)(hlen:es.length<=600)(hm:(es.length:Int)<=Iu)(qG:Iu<1000000)(cn:EI N B ε)(eA:pg ε=P)(s:Sat h (A ε::S)):
  Call ⟨Tryz.prog,told⟩ 66 [rv,.int .i64 (root:Int),.int .i64 Iu] h λv h'=>∃ov ah,v=.aX [ov,.bool true]/\EI N B ah/\Sm N ε ah/\Sat h' (.arr 2 ov (dw es)::A ah::S):=by
 refine Call.of_wp (hT.w.free _ U) Tryz.func66 U U (zK 18 U (WP.block ?_));refine NF hT hR hN hL hv hp hr I hb hlen hm qG es.length 0 [] .aZ ε _ _ S _ (by omega) xX.nil (by simp) (by simp) cn eA s.mq ⟨U,U,U,U,U,U,aa⟩ (λE' h' G0 ah k1 k2 hE s' => ?_);exact⟨aa,_,AG hE.1 hE.2.1,G0,ah,U,k1,k2,s'⟩
end
def XE (cap:Cap)(N:Nat): Prop:=match cap with
 |.exact c=>c=N
 |.rest e _=>e=1
def o7 (v:V)(cs:List V): aE:=.xs λo:Nat×Nat×Cap×List V=>.an (.pt o.1 (.cells o.2.1 (cs++o.2.2.2) false))
 (.pu (v=.sl o.1 0 cs.length o.2.2.1/\cs.length+o.2.2.2.length=o.2.1/\1<=o.2.1/\(cs++o.2.2.2).all storable=true/\XE o.2.2.1 o.2.1))
section
variable {P:Program} {v:V} {cs:List V}
theorem AX (s:Sat h (o7 v cs::S)): ∃id N cap rest,v=.sl id 0 cs.length cap/\cs.length+rest.length=N/\1<=N/\(cs++rest).all storable=true/\XE cap N/\Sat h (pt id (.cells N (cs++rest) false)::S):=by
 obtain⟨⟨id,N,cap,rest⟩,s⟩:=jv.1 s;obtain⟨_,_,_,_,I⟩:=s.at (k:=0) U;obtain⟨_,q1,q2,q3,q4,q5⟩:=I;exact⟨id,N,cap,rest,q1,q2,q3,q4,q5,s.dM λ_ _ h=>h.1⟩
theorem CP {id:Nat}{cap:Cap}{row rest:List V}(hr:row=cs++rest)(I:cs.length+rest.length=N)(q3:1<=N)(q4:row.all storable=true)(q5:XE cap N)(s:Sat h (pt id (.cells N row false)::S)): Sat h (o7 (.sl id 0 cs.length cap) cs::S) :=
 s.dM λ_ _ h=>⟨(id,N,cap,rest),by subst hr;exact h,by subst hr;exact⟨U,I,q3,q4,q5⟩⟩
theorem acG (hc:1<=cs.length)(s:Sat h (.arr 1 v cs::S)): Sat h (o7 v cs::S):=by
 have I:cs≠[]:=λq=>by rw[q] at hc;simp at hc
 have eG:=s.JZ (j:=0) U;exact s.dM λm r hm=>by
  obtain⟨h1,h2⟩:=hm;rcases h2 with⟨_,q⟩|⟨id,n,cap,N,rest,rfl,hg,h3,h4,h5,h6⟩
  .exact absurd q I
  .have hN:1<=N:=by rw[<-h4];omega
   have hn:cs.length=n:=by omega
   subst hn;refine⟨(id,N,cap,rest),hg,U,h4,hN,by rw[C9,h1,h5];rfl,?_⟩;cases cap with
   |exact c=>show c=N;omega
   |rest e alt=>exact h6.1
theorem Pp (s:Sat h (o7 v cs::S))(hu:P.underlying t=some (.slice e)): lenV P h t v=some (.int .i64 (cs.length:Int)):=by
 obtain⟨id,N,cap,rest,rfl,_⟩:=AX s;simp only[lenV,hu]
theorem acH (s:Sat h (o7 v cs::S))(hc:cs[i]?=some c)(hu:P.underlying t=some (.slice e))(I:bq P e=some 1):
  ∃id off,indexAddrV P t v (.int .i64 (i:Int))=some (.ptr id off)/\∀t',isAggT P t'=some false->loadV P h t' (.ptr id off)=some c:=by
 obtain⟨id,N,cap,rest,rfl,q2,q3,q4,q5,s⟩:=AX s;have hi:=(List.getElem?_eq_some_iff.1 hc).1;refine⟨id,i,?_,λt' ht=>BM ht (s.row (k:=0) U) ?_⟩
 .simp only[indexAddrV,hu,I,fI];rw[show(decide ((0:Int)<=(i:Int))&&decide ((i:Int)<(cs.length:Int)))=true by simp;omega,ag,eW,cH]
 .rw[gE,rE hi,hc]
theorem aaG (s:Sat h (o7 v (cs++[c])::S))(hu:P.underlying t=some (.slice e))(p_:bq P e=some 1): ∃v',sliceV P h t v none (some cs.length) none=some v'/\Sat h (o7 v' cs::S):=by
 obtain⟨id,N,cap,rest,rfl,q2,q3,q4,I,s⟩:=AX s;rw[aO,yz] at q2;refine⟨.sl id 0 cs.length cap,?_,CP (rest:=c::rest) (by simp) (by simp;omega) q3 q4 I s⟩;cases cap with
 |exact m =>
  have I:m=N:=I;subst I;simp only[sliceV,hu,p_,fy,dz];rw[show(Nat.ble 0 cs.length&&Nat.ble cs.length m)=true by simp;omega,ag,ie,ie,mc,eF];cases Nat.beq m 0<;>rfl
 |rest z alt =>
  have I:z=1:=I;subst I;simp only[sliceV,hu,p_,fy,dz];rw[show(Nat.beq 1 1&&Nat.ble 1 1)=true from U,ag,show(Nat.ble 0 cs.length&&(Nat.ble cs.length (cs++[c]).length||Nat.ble cs.length (fF h id 0 1)))=true by simp,ag,ie,mc,eF,show Nat.beq 0 0=true from U,ag]
theorem XF {x:V}{i:TypeInfo}{z:V}(hx:storable x=true)(ya:srcV h 1 w=some ([x],1))(hl:cs.length<=1000000)(s:Sat h (o7 v cs::S))(hu:P.underlying t=some (.slice e))(hi:P.info? e=some i)(hz:zeroT P e=some z)(hk:i.size=1)(hb:i.bytes<=4096)(hzl:z.cells.length=1):
  ∃v' h',appendV P h #[t,t] v w=some (v',h')/\Sat h' (o7 v' (cs++[x])::S):=by
 obtain⟨id,N,cap,rest,rfl,q2,q3,q4,q5,sp⟩:=AX s;have hg:=sp.row (k:=0) U;have ob:(cs.length+1)*i.bytes<=140737488355328:=cN (tG (by omega:cs.length+1<=1000001) hb) (by decide);have N3:lu (cs.length+1) i.bytes=true:=ow.2 ⟨by omega,ob⟩;rw[C9,bV] at q4;have I:∀ {h0:H} {S0:List aE},Sat h0 S0->Sat (j7 h0 1 cs [x] (cs.length+1)).2 (o7 (j7 h0 1 cs [x] (cs.length+1)).1 (cs++[x])::S0):=λ{h0 S0} s0=>by
  have e:(j7 h0 1 cs [x] (cs.length+1)).1=.sl h0.next 0 (cs++[x]).length (.rest 1 0):=by simp[j7]
  rw[e];have:=s0.new (.cells ((cs.length+1)*1) (cs++[x]) false);exact CP (rest:=[]) (by simp) (by simp) (by simp) (by rw[C9,q4.1];simp[hx]) U this
 unfold appendV;simp only[hu,hi,hz,hk,ya];rw[show(Nat.ble 1 1&&Nat.ble i.bytes 4096&&Nat.beq z.cells.length 1)=true by rw[aS.2 hb,qW hzl];rfl,ag];rw[show Nat.beq 1 0=false from U,aT];have uW:cs.length+1<=N->wrN h id (0+cs.length*1) [x]=some (h.put id (some (.cells N (cs++(x::rest.drop 1)) false)))/\Sat (h.put id (some (.cells N (cs++(x::rest.drop 1)) false))) (o7 (.sl id 0 (cs.length+1) cap) (cs++[x])::S):=λhN=>by
  constructor
  .rw[y9 hg (by rw[aO];exact q2) (by simp;omega)];simp only[eW,cH,yz];rw[fY U,vJ,tw (by omega),show cs.length+1-cs.length=1 by omega];rfl
  .have:=sp.put (k:=0) (o':=.cells N (cs++(x::rest.drop 1)) false) U;have:=CP (cs:=cs++[x]) (rest:=rest.drop 1) (cap:=cap) (by simp) (by simp;omega) q3 (by
    rw[C9,q4.1];simp only[l_,hx,Db];rw[nG] at q4 ⊢;exact λy hy=>List.all_eq_true.1 q4.2 y (i_ hy)) q5 this
   simpa using this
 have jm:rdN h id 0 (cs.length*1)=some cs:=by
  rw[pN hg (by rw[aO];exact q2),ga,cH,fY U]
 cases cap with
 |exact c =>
  have q5:c=N:=q5;subst q5;simp only;cases hq:Nat.ble (cs.length+1) c with
  |true =>
   obtain⟨e1,e2⟩:=uW (aS.1 hq);rw[ag,e1];exact⟨_,_,U,e2⟩
  |false =>
   rw[aT,N3,ag,jm];exact⟨_,_,U,I sp.drop⟩
 |rest y alt =>
  have q5:y=1:=q5;subst q5;have wq:fF h id 0 1=N:=by simp only[fF,hg];simp
  simp only;rw[show Nat.beq 1 1=true from U,ag,wq];cases hq:Nat.ble (cs.length+1) N with
  |true =>
   obtain⟨e1,e2⟩:=uW (aS.1 hq);rw[ag,e1];exact⟨_,_,U,e2⟩
  |false =>
   have hn:N<=cs.length:=by
    refine tD λq => ?_;rw[aS.2 (by omega)] at hq;cases hq
   rw[aT,N3,show Nat.ble 2 ((cs.length+1)*1)=true from aS.2 (by omega),kf,ag,jm,hg];exact⟨_,_,U,I sp.kill⟩
end
section
variable {v:V} {l:List Nat} {k:Nat}
theorem XG (s:Sat h (o7 v (cJ l)::S))(hl:l.length<=1000000):
  ∃iv h1 w h2,buildSliceV Tryz.prog h 25 1 [(0,.int .i64 (k:Int))]=some (iv,h1)/\appendV Tryz.prog h1 #[25,25] v iv=some (w,h2)/\Sat h2 (o7 w (cJ (l++[k]))::S):=by
 obtain⟨iv,h1,e1,s1⟩:=kV (P:=Tryz.prog) (k:=1) (x:=.int .i64 (k:Int)) s dF BT lQ U (by decide) (by decide) U U;obtain⟨i1,c9,fH,pR⟩:=Ay;obtain⟨n,hn,I⟩:=TD (s1.jo (j:=0) U (jg _ _ _).s);have wJ:n=1:=by simpa[V.cells] using hn.symm
 subst wJ;obtain⟨w,h2,e2,s2⟩:=XF (x:=.int .i64 (k:Int)) U I (by rw[jz];exact hl) (s1.ae [1,0]) dF c9 BT fH (by omega) U;have e:cJ (l++[k])=cJ l++[.int .i64 (k:Int)]:=by simp[cJ]
 exact⟨iv,h1,w,h2,e1,e2,by rw[e];exact s2.del 1⟩
end
def PdT (F:Nat->List (List Nat)->Prop)(P:Int->List Nat)(k:fo): Prop:=∃l lo hi cs,l<=60/\Nv F P l lo hi cs k.es k.ps/\bH (P k.pg) 204 0 l cs
abbrev G1 : V->Unit->aE:=λv _=>.pu (v=.agg [])
section
variable {told:cu} {ov:V}
noncomputable def tpO : Code:=dm [1,1,1,1,0,0,0] ((Tryz.f25.body).getD .skip)
noncomputable def tpI : Code:=dm [1,1,1,1,0,0,0,1,0,1,1,1,1,1,1,1,1,0,0] ((Tryz.f25.body).getD .skip)
theorem XH (hT:W told)(eA:∀k∈ks,k.pg<4294967296)(hl:ks.length<=512)(T7:l<=60): ∀(m:Nat) (D:List Nat) (wv:V) (h:H) (E:List (Nat×V)) (S:List aE) (Q:Ex->List (Nat×V)->H->Prop),m<=ks.length->D.length+m<=100000 ->
  Sat h (o7 wv (cJ D)::aY x n (l+1) b (bF ks)::S)->Has E [(0,rv),(6,ov),(7,mv),(8,wv),(12,.ptr x 0),(14,.int .i64 ((m:Int)-1))] ->
  (∀E' h' I,Has E' [(0,rv),(6,ov),(7,mv),(8,I)]->Sat h' (o7 I (cJ (D++(ks.take m).reverse.map (·.pg)))::aY x n (l+1) b (bF ks)::S)->Q (.exit 2) E' h')->WP ⟨Tryz.prog,told⟩ 81 (.loop tpI) E h Q:=by
 intro m;induction m with
 |zero =>
  intro D wv h E S Q hm hD s hE hq;refine WP.loop (WP.has hE (zK 4 U (zC U j6 (by simp) ?_)));exact zk 9 U (WP.exit (hq _ _ wv ⟨U,U,U,U,aa⟩ (by simpa using s)))
 |succ m ih =>
  intro D wv h E S Q hm hD s hE hq;obtain⟨k,hk⟩:∃k,ks[m]?=some k:=⟨_,aF (by omega)⟩;obtain⟨bv,cv,us,s⟩:=aU.1 (s.ae [1]);rw[show(((m+1:Nat):Int)-1)=(m:Int) by omega] at hE;refine WP.loop (WP.has hE (zK 4 U (zB U j6 (by simp) ?_)));refine zk 3 U (zY s 0 ew bP U (zB U cA (decide_eq_true (by omega)) ?_));have s:Sat h (aY x n (l+1) b (bF ks)::_):=aU.2 ⟨bv,cv,us,s⟩;dsimp only[aM,bringA] at s;refine zk 5 U (WP.block (zK 4 U (zc U (DS hT (gX hk) (eA k (aJ hk)) s) ?_)));rintro v h ⟨rfl,s⟩;have s:=s.ae [1,0];dsimp only[bringA,getA,aM] at s;obtain⟨iv,h1,w,h2,e3,e4,s2⟩:=XG (k:=k.pg) s (by omega);refine au.any U U U (OpR.of (R:=λv h'=>v=iv/\h'=h1) (je U e3) ⟨U,U⟩) ?_;rintro iv h1 ⟨rfl,rfl⟩;refine au.any U U U (OpR.of (R:=λv h'=>v=w/\h'=h2) (iY U U e4) ⟨U,U⟩) ?_;rintro w h2 ⟨rfl,rfl⟩;refine za U (zv (zr U (zm U (zb U (by exact dV ak) ?_))));refine za U (zv ?_);refine ih (D++[k.pg]) w _ _ S Q (by omega) (by rw[aO,yz];omega) s2 ⟨U,U,U,U,U,U,aa⟩ (λE' h' I dY s'=>hq E' h' I dY ?_);rw[nF,hk];simpa using s'
theorem UH (T7:cs.length<=512){I:V}{D:List Nat}
 (s:Sat h (o7 I (cJ D)::aY x n 0 b cs::S))(hE:Has E [(0,rv),(6,ov),(7,mv),(8,I),(12,.ptr x 0),(14,.int .i64 ((cs.length:Int)-1))])
 (hq:∀E',Has E' [(0,rv),(6,ov),(7,mv),(8,I)]->Sat h (o7 I (cJ D)::aY x n 0 b cs::S)->Q (.exit 2) E' h): WP ⟨Tryz.prog,told⟩ 81 (.loop tpI) E h Q:=by
 have s1:=s;obtain⟨bv,cv,us,s⟩:=aU.1 (s.ae [1]);refine WP.loop (WP.has hE (zK 4 U ?_));rcases oL cs.length with h0|h0
 .skip;refine zC U j6 (decide_eq_false (by omega)) ?_;exact zk 9 U (WP.exit (hq _ ⟨U,U,U,U,aa⟩ s1))
 .skip;refine zB U j6 (decide_eq_true (by omega)) ?_;refine zk 3 U (zY s 0 ew bP U (zC U cA (by simp) ?_));exact zk 3 U (WP.exit (hq _ ⟨U,U,U,U,aa⟩ s1))
theorem UI (hT:W told)(hR:mE told N B rv A pg)(hN:N<=65536){all:List Nat}(fB:all.Nodup)(nZ:∀m∈all,m<N)(NP:all.length<=3000): ∀(T:Nat) (AY:List fo) (out:List Nat) (seen:List (Int×Unit)) (ov mv wv:V) (ε:bA) (h:H) (E:List (Nat×V)) (S:List aE) (Q:Ex->List (Nat×V)->H->Prop),
  (AY.flatMap cL).length<=T->out++AY.flatMap cL=all->(∀k∈AY,PdT F P k)->(∀m:Nat,lookL (m:Int) seen≠none->m∈out)->EI N B ε->pg ε=P ->
  Sat h (.arr 1 ov (cJ out)::pQ G1 mv seen::o7 wv (cJ (AY.reverse.map (·.pg)))::A ε::S)->Has E [(0,rv),(6,ov),(7,mv),(8,wv)] ->
  (∀E' h' G0 ah,EI N B ah->Sm N ε ah->Has E' [(6,G0)]->Sat h' (.arr 1 G0 (cJ all)::A ah::S)->Q (.exit 0) E' h')->WP ⟨Tryz.prog,told⟩ 81 (.loop tpO) E h Q:=by
 intro T;induction T with
 |zero =>
  intro AY out seen ov mv wv ε h E S Q hlen I UJ Ro cn eA s hE hq;have rS:AY=[]:=by
   cases AY with
   |nil=>rfl
   |cons k t=>simp[cL] at hlen
  subst rS;have pW:=Pp (P:=Tryz.prog) (s.ae [2]) dF;refine WP.loop (WP.has hE (zK 4 U (zo U (aD U U U pW) (zC U cA (by simp[cJ]) ?_))));refine zk 2 U (WP.exit ?_);simp only[tE,fZ] at I;subst I;exact hq _ _ ov ε cn (Sm.refl N ε) ⟨U,aa⟩ ((s.ae [0,2]).del 3 |>.del 2)
 |succ T ih =>
  intro AY out seen ov mv wv ε h E S Q hlen I UJ Ro cn eA s hE hq;have pW:=Pp (P:=Tryz.prog) (s.ae [2]) dF;cases AY with
  |nil =>
   refine WP.loop (WP.has hE (zK 4 U (zo U (aD U U U pW) (zC U cA (by simp[cJ]) ?_))));refine zk 2 U (WP.exit ?_);simp only[tE,fZ] at I;subst I;exact hq _ _ ov ε cn (Sm.refl N ε) ⟨U,aa⟩ ((s.ae [0,2]).del 3 |>.del 2)
  |cons k rest =>
   obtain⟨l,lo,hi,cs,Mz,hv,hp⟩:=UJ k a_;have hka:k.pg∈all:=by rw[<-I];simp[cL]
   have MA:=nZ _ hka;have hko:k.pg∉out:=by
    rw[<-I,eE,cL,mJ] at fB;exact λhm=>fB.2.2 _ hm _ (fc _ a_) U
   have p_:lookL (k.pg:Int) seen=none:=by
    cases hq:lookL (k.pg:Int) seen with
    |none=>rfl
    |some _=>exact absurd (Ro k.pg (by rw[hq];simp)) hko
   have eG:cJ ((k::rest).reverse.map (·.pg))=cJ (rest.reverse.map (·.pg))++[.int .i64 (k.pg:Int)]:=by simp[cJ]
   have Ca:rest.length<=3000:=by
    have h1:rest.length<=(rest.flatMap cL).length:=by
     clear eG I UJ hlen pW s;induction rest with
     |nil=>simp
     |cons y t ih2=>rw[eE,aO];simp only[cL,aW];omega
    have:=dg List.length I;rw[aO,eE,aO] at this;omega
   rw[eG] at s pW;have Em:(cJ (rest.reverse.map (·.pg))).length=rest.length:=by rw[jz,cf,jt]
   have jY:(cJ (rest.reverse.map (·.pg))++[V.int .i64 (k.pg:Int)])[rest.length]?=some (.int .i64 (k.pg:Int)):=by rw[hU (by omega),Em,gK];rfl
   obtain⟨id,off,e1,e2⟩:=acH (P:=Tryz.prog) (s.ae [2]) jY dF lQ;obtain⟨wv2,e3,s2⟩:=aaG (P:=Tryz.prog) (s.ae [2]) dF lQ;rw[aO,Em,yz] at pW;rw[Em] at e3;refine WP.loop (WP.has hE (zK 4 U (zo U (aD U U U pW) (zB U cA (decide_eq_true (by omega)) ?_))));refine zk 3 U (WP.block (zK 4 U (zo U (aD U U U pW) (zo U (aq (r:=.int .i64 (rest.length:Int)) U U (by rw[show(rest.length:Int)=((rest.length+1:Nat):Int)-1 by omega];exact dV ak)) ?_))));refine zo U (bM (r:=.ptr id off) U U e1) (zl U (e2 _ bP) (zk 6 U (zo U (aD U U U pW) (zo U (aq (r:=.int .i64 (rest.length:Int)) U U (by rw[show(rest.length:Int)=((rest.length+1:Nat):Int)-1 by omega];exact dV ak)) ?_))));refine zo U (bK (p:=none) (q:=some (.int .i64 (rest.length:Int))) (m:=none) (p':=none) (q':=some rest.length) (m':=none) U U U U U (by rw[bN,fI]) U e3) ?_;have s:=s2.ae [2,1,0];have Lu:gC Tryz.prog h 140 mv (.int .i64 (k.pg:Int)) true=some (.aX [.agg [],.bool false]):=by
    rcases oh (n:=(k.pg:Int)) (λ_ _=>aI.pu _) s GZ b_ JW with⟨_,g2,_⟩|⟨uu,y,g1,_⟩
    .exact g2
    .rw[p_] at g1;cases g1
   refine zk 7 U (zo U (kM U U Lu) (zk 3 U ?_));refine au.cj s U U U (cm JW) (λp10 h s => ?_);refine zS U (s.gZ (j:=0) U X_ U U) ?_;intro h s;have s:=s.drop;refine zk 12 U (zo U (cO U (by rw[Ya];rfl)) ?_);refine au.lJ U U (OpR.mapUpdate U U U U (oB (n:=(k.pg:Int)) (f:=G1) (x:=()) (λ_ _=>aI.pu _) (s.gJ U) GZ b_)) ?_;intro _ h s;have s:=s.ae [1];obtain⟨iv,h1,w,h2,f3,f4,s2⟩:=E3 (k:=k.pg) s (by
    have:=dg List.length I;rw[aO] at this;omega)
   refine zk 5 U (au.any U U U (OpR.of (R:=λv h'=>v=iv/\h'=h1) (je U f3) ⟨U,U⟩) ?_);rintro iv h1 ⟨rfl,rfl⟩;refine au.any U U U (OpR.of (R:=λv h'=>v=w/\h'=h2) (iY U U f4) ⟨U,U⟩) ?_;rintro w h2 ⟨rfl,rfl⟩;have s:=s2.ae [3];refine zk 6 U (zc U (z6 (l:=l) (cs:=cs) hT hR cn MA (by rw[eA];exact hp) (λc hc=>⟨(hv.cells c hc).1,(hv.cells c hc).2.1⟩) (by omega) s) ?_);rintro v h ⟨x,c_,rfl,kD,ej,s⟩;have gY:pg c_=P:=by rw[<-eA];funext m;exact hR.same ej m
   rw[eA] at s;have fN:cs.length<=512:=by have:=hp.fits;omega
   obtain⟨bv,cv,us,s⟩:=aU.1 s;have jl:=gT (P:=Tryz.prog) aQ s;have Rp:(out++[k.pg])++(k.ps++rest.flatMap cL)=all:=by rw[<-I];simp[cL]
   have UK:∀m:Nat,lookL (m:Int) (cD (k.pg:Int) () seen)≠none->m∈out++[k.pg]:=λm hm=>by
    rw[mU] at hm;by_cases hq:k.pg=m
    .subst hq;simp
    .rw[ai (by omega)] at hm;exact fc _ (Ro m hm)
   refine zk 10 U (zC U aG (U) (zk 7 U (zY s 0 cP gx U (zo U (aD U U U jl) (zo U (aq (r:=.int .i64 ((cs.length:Int)-1)) U U (dV ak)) ?_)))));refine zk 2 U (WP.block ?_);have s:Sat h (aY x k.pg l (P k.pg) cs::_):=aU.2 ⟨bv,cv,us,s⟩;have s:=s.ae [4,0];cases l with
   |zero =>
    have o_:k.ps=[]:=hv.2.2;rw[o_,dL] at Rp;refine UH fN s ⟨U,U,U,U,U,U,aa⟩ (λE' hE s' => ?_);have s:=s';exact WP.has hE (ih rest (out++[k.pg]) _ _ _ _ c_ _ _ S Q (by rw[eE,aO] at hlen;simp only[cL,aW] at hlen;omega) Rp (λm hm=>UJ m (bk _ hm)) UK kD gY ((s.ae [3,3,0,1]).del 4) ⟨U,U,U,U,aa⟩ (λE' h' G0 ah g1 g2=>hq E' h' G0 ah g1 (ej.trans g2)))
   |succ l =>
    obtain⟨ks,kR,MK,ID,o_,sZ⟩:=hv;subst kR;rw[dn] at fN ⊢;refine XH hT MK.pg fN (by omega) ks.length _ _ _ _ _ _ (aH _) (by rw[cf,jt];omega) s ⟨U,U,U,U,U,U,aa⟩ (λE' h' OZ hE s' => ?_);have s:=s';rw[jR,<-rJ,<-List.reverse_append] at s;refine WP.has hE ?_;refine ih (ks++rest) (out++[k.pg]) _ _ _ _ c_ _ _ S Q ?_ ?_ (λm hm => ?_) UK kD gY ((s.ae [3,3,0,1]).del 4) ⟨U,U,U,U,aa⟩ (λE' h' G0 ah g1 g2=>hq E' h' G0 ah g1 (ej.trans g2))
    .rw[eE,aO,cL,aW,o_] at hlen;rw[nC,aO];omega
    .rw[nC,<-o_];exact Rp
    .rcases List.mem_append.1 hm with hm|hm
     .obtain⟨i,hi⟩:=List.mem_iff_getElem?.1 hm;obtain⟨cs',a1,_,a3⟩:=sZ i m hi;exact⟨l,_,_,cs',by omega,a1,a3⟩
     .exact UJ m (bk _ hm)
theorem aaH (I:W told){cs:List V}(h1:1<=cs.length)(s:Sat h (roS 1 w cs::S)): Call ⟨Tryz.prog,told⟩ 79 [w] h λv h'=>Sat h' (roS 1 v cs::S):=by
 have hl:=zT (P:=Tryz.prog) (n:=cs.length) (s.jo (j:=0) U (cU _ _ _)) (by omega) (by decide) dF;obtain⟨v',e1,s1⟩:=QT (P:=Tryz.prog) (b:=cs.length) s (aH _) h1 dF lQ;rw[jR] at s1;refine Call.of_wp (I.free _ U) Tryz.func79 U U (zK 8 U (zo U (aD U U U hl) (zm U (zo U (aD U U U hl) (zo U (bK (p:=none) (q:=some (.int .i64 (cs.length:Int))) (m:=some (.int .i64 (cs.length:Int))) (p':=none) (q':=some cs.length) (m':=some cs.length) U U U U U (by rw[bN,fI]) (by rw[bN,fI]) e1) ?_)))));exact zk 2 U (WP.ret ⟨aa,_,U,s1.del 1⟩)
theorem UL (hT:W told)(hR:mE told N B rv A pg)(hN:N<=65536)(hL:L<=60)(hv:Nv F P L [] none cs es ps)(hp:bH (P root) 204 0 L cs)(fB:(root::ps).Nodup)(I:∀m∈root::ps,m<N)(NP:ps.length<=2999)(cn:EI N B ε)(eA:pg ε=P)(s:Sat h (A ε::S)):
  Call ⟨Tryz.prog,told⟩ 25 [rv,.int .i64 (root:Int)] h λv h'=>∃w ah,v=.aX [w,.int .i64 0]/\EI N B ah/\Sm N ε ah/\Sat h' (roS 1 w (cJ (root::ps))::A ah::S):=by
 refine Call.of_wp (hT.free _ U) Tryz.func25 U U (zK 7 U ?_);obtain⟨h1,e3,s1⟩:=OD (P:=Tryz.prog) s dF BT lQ U (by decide);refine au.any U U U (OpR.of (R:=λv h'=>v=.sl h.next 0 0 (.exact 0)/\h'=h1) (je U e3) ⟨U,U⟩) ?_
 rintro v h' ⟨rfl,rfl⟩;have s:Sat h' (.arr 1 (.sl h.next 0 0 (.exact 0)) (cJ [])::_):=Z8 s1
 generalize V.sl h.next 0 0 (.exact 0)=ov at s ⊢
 refine zk 4 U ?_;refine au.BS s U U U U (λp16 h s => ?_);refine zk 5 U ?_;have s:=ri (f:=G1) s;obtain⟨iv,h1,e4,s2⟩:=kV (P:=Tryz.prog) (k:=1) (x:=.int .i64 (root:Int)) s dF BT lQ U (by decide) (by decide) U U;refine au.any U U U (OpR.of (R:=λv h'=>v=iv/\h'=h1) (je U e4) ⟨U,U⟩) ?_;rintro iv h1 ⟨rfl,rfl⟩;have s:=acG (cs:=cJ [root]) (by simp[cJ]) s2;have s:=s.ae [2,1,0];refine zk 3 U (WP.block ?_);refine UI (F:=F) hT hR hN fB I (by simp only[aW];omega) (root::ps).length [⟨[],root,es,ps⟩] [] [] _ _ _ ε _ _ S _ (by simp[cL]) (by simp[cL]) (λk hk=>by
  rw[List.mem_singleton.1 hk];exact⟨L,_,_,cs,hL,hv,hp⟩) (λm hm=>by simp[lookL] at hm) cn eA s ⟨U,U,U,U,aa⟩ (λE' h' G0 ah k1 k2 hE s' => ?_)
 have s:=s'.r8.dM GB;refine WP.has hE (zK 3 U (zc U (aaH hT (by simp[cJ]) s) ?_));rintro v h s;exact zk 3 U (WP.ret ⟨aa,_,U,v,ah,U,k1,k2,s⟩)
end
section
variable {told:cu}
theorem Nv.ld (hv:Nv F P L lo hi cs es ps): ∀c∈cs,iQ L c/\c.length<=225:=λc I=>⟨(hv.cells c I).1,(hv.cells c I).2.1⟩
theorem UM (hT:W told)(hR:mE told N B rv A pg)(hL:L<=60)(hv:Nv F P L lo hi cs es ps)(hp:bH (P root) 204 0 L cs)(hr:root<N)(cn:EI N B ε)(eA:pg ε=P)(s:Sat h (A ε::S)):
  Call ⟨Tryz.prog,told⟩ 67 [rv,.int .i64 (root:Int)] h λv h'=>∃ah,v=.aX [.int .i64 ((L+1:Nat):Int),.int .i64 0]/\EI N B ah/\Sm N ε ah/\Sat h' (A ah::S):=by
 refine Call.of_wp (hT.free _ U) Tryz.func67 U U (zK 9 U (zc U (z6 (l:=L) (cs:=cs) hT hR cn hr (by rw[eA];exact hp) hv.ld (by omega) s) ?_));rintro v h ⟨x,c_,rfl,I,ej,s⟩;obtain⟨bv,cv,us,s⟩:=aU.1 s;refine zk 10 U (zC U aG (U) (zk 7 U (zY s 0 ew bP U (zo U (aq (r:=.int .i64 ((L+1:Nat):Int)) U U (by rw[show((L+1:Nat):Int)=(L:Int)+1 by omega];exact aL ak)) ?_))));exact zk 3 U (WP.ret ⟨aa,_,U,c_,U,I,ej,s.drop.drop.drop.drop⟩)
end
def yt (v:V)(hi:Option Ky): aE:=match hi with
 |none=>.pu (v=.aZ)
 |some b=>.b8 v b
theorem aI.bel (v:V)(hi:Option Ky): aI (yt v hi):=by
 cases hi with
 |none=>exact aI.pu _
 |some b=>exact aI.b8 _ _
structure acI (l f:Nat)(lo:Ky)(hi:Option Ky)(cs:List (List Nat)): Prop where
 qS:∀c∈cs,iQ l c/\c.length<=225
 lo:∀i c,cs[i]?=some c->f<=i->lo<=fE l c
 hi:∀i c,cs[i]?=some c->f<=i->∀b,hi=some b->fE l c<b
 up:∀i c d,cs[i]?=some c->cs[i+1]?=some d->f<=i->fE l c<fE l d
section
theorem Nv.keys (hv:Nv F P l lo hi cs es ps): acI l (min 1 l) lo hi cs:=by
 cases l with
 |zero =>
  have CQ:=hv.ld;obtain⟨rfl,jX,_⟩:=hv;have jY:∀i c,(es.map eB)[i]?=some c->∃e,es[i]?=some e/\c=eB e:=λi c I=>by
   rw[kP] at I;cases he:es[i]? with
   |none=>rw[he] at I;cases I
   |some e=>rw[he] at I;exact⟨e,he,(bD I).symm⟩
  refine⟨CQ,λi c I _ => ?_,λi c I _ b hb => ?_,λi c d I hd _ => ?_⟩
  .obtain⟨e,he,rfl⟩:=jY i c I;rw[sg];exact(jX.bd e (aJ he)).1
  .obtain⟨e,he,rfl⟩:=jY i c I;rw[sg];exact(jX.bd e (aJ he)).2 b hb
  .obtain⟨e,he,rfl⟩:=jY i c I;obtain⟨e2,Cj,rfl⟩:=jY (i+1) d hd;rw[sg,sg];exact jX.get he Cj (by omega)
 |succ l =>
  have CQ:=hv.ld;obtain⟨ks,rfl,hs,_,_,_⟩:=hv;have jY:∀i c,(bF ks)[i]?=some c->min 1 (l+1)<=i->∃k,ks[i]?=some k/\c=e_ k.pg k.key:=λi c I h1=>by
   have hi:=(List.getElem?_eq_some_iff.1 I).1;rw[dn] at hi;have hk:ks[i]?=some ks[i]:=aF hi;have:=gX hk;rw[I] at this;exact⟨_,hk,bD this⟩
  refine⟨CQ,λi c I h1 => ?_,λi c I h1 b hb => ?_,λi c d I hd h1 => ?_⟩
  .obtain⟨k,hk,rfl⟩:=jY i c I h1;rw[qp];exact oQ (hs.bd i k hk (by omega)).1
  .obtain⟨k,hk,rfl⟩:=jY i c I h1;rw[qp];exact(hs.bd i k hk (by omega)).2 b hb
  .obtain⟨k,hk,rfl⟩:=jY i c I h1;obtain⟨k2,kW,rfl⟩:=jY (i+1) d hd (by omega);rw[qp,qp];exact hs.jZ i (i+1) k k2 hk kW (by omega) (by omega)
end
section
variable {told:cu} {f:Nat} {GC:Option Ky}
theorem XI {x:Operand}: binV Tryz.prog h .neq 29 x y .aZ .aZ=some (.bool false):=by
 simp only[binV,eqV,aP,gQ,Bool.not_true]
theorem aaI {x:Operand}{v:V}{l:List Nat}(hv:View h v l)(hl:1<=l.length): binV Tryz.prog h .neq 29 x y v .aZ=some (.bool true):=by
 obtain⟨id,off,cap,rfl⟩:=iB hv hl;simp only[binV,eqV,aP,gQ,yH]
theorem ML {a b:Ky}(h:a<b): ¬ cmpN a b>=0:=by have:=(tY a b).1.2 h;omega
theorem acJ {a b:Ky}(h:b<=a): ¬ cmpN a b<0:=λq=>List.not_lt.2 h ((tY a b).1.1 q)
noncomputable def ckA : Code:=dm [1,1,1,1,0,1,0,0] ((Tryz.f153.body).getD .skip)
theorem Rq (hT:WB told)(hk:acI l f lo hi cs)(hl:l<=60)(fN:cs.length<=512)(GH:∀b,hi=some b->1<=b.length): ∀(j i:Nat) (h:H) (E:List (Nat×V)) (Q:Ex->List (Nat×V)->H->Prop),(cs.length<=i/\j=0\/i+j=cs.length)->f<=i ->
  Sat h (aY x n l b cs::.b8 fv lo::yt hv hi::S)->Has E [(0,rv),(1,.ptr x 0),(2,fv),(3,hv),(4,mv),(13,.int .i64 (f:Int)),(14,.int .i64 (i:Int))] ->
  (∀E' h',Has E' [(0,rv),(1,.ptr x 0),(2,fv),(3,hv),(4,mv)]->Sat h' (aY x n l b cs::.b8 fv lo::yt hv hi::S)->Q (.exit 0) E' h')->WP ⟨Tryz.prog,told⟩ 138 (.loop ckA) E h Q:=by
 intro j;induction j with
 |zero =>
  intro i h E Q eO hf s hE hq;have s1:=s;obtain⟨bv,cv,us,s⟩:=aU.1 s;have jl:=gT (P:=Tryz.prog) aQ s;refine WP.loop (WP.has hE (zK 6 U (zY s 0 cP gx U (zo U (aD U U U jl) (zC U aK (decide_eq_false (by omega)) ?_)))));exact zk 2 U (WP.exit (hq _ _ ⟨U,U,U,U,U,aa⟩ s1))
 |succ j ih =>
  intro i h E Q eO hf s hE hq;obtain⟨c,hc⟩:∃c,cs[i]?=some c:=⟨_,aF (by omega)⟩;have B9:=aJ hc;have lB:=hk.lo i c hc hf;have ob:=hk.hi i c hc hf;have s1:=s;obtain⟨bv,cv,us,s⟩:=aU.1 s;have jl:=gT (P:=Tryz.prog) aQ s;refine WP.loop (WP.has hE (zK 6 U (zY s 0 cP gx U (zo U (aD U U U jl) (zB U aK (decide_eq_true (by omega)) ?_)))));refine zk 4 U (WP.block (zK 4 U (zc U (oW hT.w hc (hk.qS c B9).1 (by omega) (hk.qS c B9).2 s1) ?_)));rintro kv h s;have I:=s.aC (k:=0) U (bp _ _);have X3:=s.aC (k:=2) U (bp _ _);refine zk 6 U (zc U (qq hT I X3) ?_);rintro v h' ⟨rfl,rfl⟩;refine zC U aK (decide_eq_false (acJ lB)) (zk 2 U ?_);have fin:∀(E':List (Nat×V)) (h':H),Has E' [(0,rv),(1,.ptr x 0),(2,fv),(3,hv),(4,mv),(13,.int .i64 (f:Int)),(14,.int .i64 ((i+1:Nat):Int))]->Sat h' (og kv (fE l c)::aY x n l b cs::.b8 fv lo::yt hv hi::S)->WP ⟨Tryz.prog,told⟩ 138 (.loop ckA) E' h' Q:=λE' h' dY s'=>ih (i+1) h' E' Q (by omega) (by omega) s'.drop dY hq;cases hi with
  |none =>
   have hh:hv=.aZ:=by
    obtain⟨_,_,_,_,q⟩:=s.at (k:=3) U;exact q
   subst hh;refine zC U XI (U) (zk 10 U ?_);by_cases hif:f<i
   .obtain⟨d,hd⟩:∃d,cs[i-1]?=some d:=⟨_,aF (by omega)⟩;have UN:=aJ hd;have IZ:=hk.up (i-1) d c hd (by rw[show i-1+1=i by omega];exact hc) (by omega);refine zB U cA (decide_eq_true (by omega)) ?_;refine zk 3 U (zo U (aq (r:=.int .i64 ((i-1:Nat):Int)) U U (by rw[show((i-1:Nat):Int)=(i:Int)-1 by omega];exact dV ak)) ?_);have s:=s.ae [1];dsimp only[bringA,getA,aM] at s;refine zc U (oW hT.w hd (hk.qS d UN).1 (by omega) (hk.qS d UN).2 s) ?_;rintro kd h s;have Gv:=s.aC (k:=0) U (bp _ _);have I:=s.aC (k:=2) U (bp _ _);refine zm U (zc U (qq hT Gv I) ?_);rintro v h' ⟨rfl,rfl⟩;refine zh U (aq U U j6) (decide_eq_false (ML IZ)) (zk 2 U (zv (zj U (WP.skip (zr U (zm U (zb U (by exact aL ak) ?_)))))));refine za U (zv ?_);exact fin _ _ ⟨U,U,U,U,U,U,U,aa⟩ ((s.ae [2,1]).del 2)
   .skip;refine zC U cA (decide_eq_false (by omega)) ?_;refine zk 10 U (zv (zj U (WP.skip (zr U (zm U (zb U (by exact aL ak) ?_))))));refine za U (zv ?_);exact fin _ _ ⟨U,U,U,U,U,U,U,aa⟩ s
  |some b =>
   have s:Sat h' (og kv (fE l c)::aY x n l _ cs::.b8 fv lo::.b8 hv b::S):=s;have hhv:=s.aC (k:=3) U (bp _ _);refine zB U (aaI hhv (GH b U)) (U) (zk 3 U (zc U (qq hT I hhv) ?_));rintro v h' ⟨rfl,rfl⟩;refine zC U j6 (decide_eq_false (ML (ob b U))) (zk 5 U ?_);by_cases hif:f<i
   .obtain⟨d,hd⟩:∃d,cs[i-1]?=some d:=⟨_,aF (by omega)⟩;have UN:=aJ hd;have IZ:=hk.up (i-1) d c hd (by rw[show i-1+1=i by omega];exact hc) (by omega);refine zB U cA (decide_eq_true (by omega)) ?_;refine zk 3 U (zo U (aq (r:=.int .i64 ((i-1:Nat):Int)) U U (by rw[show((i-1:Nat):Int)=(i:Int)-1 by omega];exact dV ak)) ?_);have s:=s.ae [1];dsimp only[bringA,getA,aM] at s;refine zc U (oW hT.w hd (hk.qS d UN).1 (by omega) (hk.qS d UN).2 s) ?_;rintro kd h s;have Gv:=s.aC (k:=0) U (bp _ _);have I:=s.aC (k:=2) U (bp _ _);refine zm U (zc U (qq hT Gv I) ?_);rintro v h' ⟨rfl,rfl⟩;refine zh U (aq U U j6) (decide_eq_false (ML IZ)) (zk 2 U (zv (zj U (WP.skip (zr U (zm U (zb U (by exact aL ak) ?_)))))));refine za U (zv ?_);exact fin _ _ ⟨U,U,U,U,U,U,U,aa⟩ ((s.ae [2,1]).del 2)
   .skip;refine zC U cA (decide_eq_false (by omega)) ?_;refine zk 10 U (zv (zj U (WP.skip (zr U (zm U (zb U (by exact aL ak) ?_))))));refine za U (zv ?_);exact fin _ _ ⟨U,U,U,U,U,U,U,aa⟩ s
noncomputable def ckP : Code:=dm [1,1,1,1,1,0,1,0,0,1,0,0,1,0] ((Tryz.f153.body).getD .skip)
theorem UO (hT:W told){k:fo}(hk:ks[i]?=some k)(I:∀c∈bF ks,iQ (l+1) c/\c.length<=225)(hl:l<=60)(xw:i<=1000)
 (s:Sat h (aY x n (l+1) b (bF ks)::.b8 fv lo::S))(hE:Has E [(0,rv),(1,.ptr x 0),(2,fv),(3,hv),(4,mv),(16,.int .i64 (i:Int)),(17,fv),(18,hv)])
 (hq:∀E' h' lv,Has E' [(0,rv),(1,.ptr x 0),(2,fv),(3,hv),(4,mv),(16,.int .i64 (i:Int)),(17,lv),(18,hv)]->Sat h' (.b8 lv (loK lo ks i)::aY x n (l+1) b (bF ks)::.b8 fv lo::S)->Q .normal E' h'): WP ⟨Tryz.prog,told⟩ 138 ckP E h Q:=by
 have hc:=gX hk;refine WP.has hE (zK 3 U ?_);rcases oL i with rfl|h1
 .skip;refine zC U cA (by simp) ?_;refine zv (zj U (WP.skip (hq _ _ fv ⟨U,U,U,U,U,U,U,U,aa⟩ ?_)));have e:loK lo ks 0=lo:=by rw[loK,ay U]
  rw[e];exact((s.ae [1]).dup (aI.b8 _ _)).ae [0,1,0]
 .skip;refine zB U cA (decide_eq_true (by omega)) ?_;refine zk 5 U (zc U (oW hT hc (I _ (aJ hc)).1 (by omega) (I _ (aJ hc)).2 s) ?_);rintro r h s;rw[qp] at s;refine za U (zv (hq _ _ r ⟨U,U,U,U,U,U,U,U,aa⟩ ?_));have e:loK lo ks i=k.key:=by rw[loK,ai (by omega),hk]
  rw[e];exact s
noncomputable def ckH : Code:=dm [1,1,1,1,1,0,1,0,0,1,0,0,1,1,0] ((Tryz.f153.body).getD .skip)
theorem Rr (hT:W told)(hi:i<ks.length)(I:∀c∈bF ks,iQ (l+1) c/\c.length<=225)(hl:l<=60)(xw:ks.length<=1000)
 (s:Sat h (aY x n (l+1) b (bF ks)::yt hv GC::S))(hE:Has E [(0,rv),(1,.ptr x 0),(2,fv),(3,hv),(4,mv),(16,.int .i64 (i:Int)),(17,lv),(18,hv)])
 (hq:∀E' h' uv,Has E' [(0,rv),(1,.ptr x 0),(2,fv),(3,hv),(4,mv),(16,.int .i64 (i:Int)),(17,lv),(18,uv)]->Sat h' (yt uv (cT GC ks i)::aY x n (l+1) b (bF ks)::yt hv GC::S)->Q .normal E' h'): WP ⟨Tryz.prog,told⟩ 138 ckH E h Q:=by
 have s1:=s;obtain⟨bv,cv,us,s⟩:=aU.1 s;have jl:=gT (P:=Tryz.prog) aQ s;rw[dn] at jl;have c9:(i:Int)+1=((i+1:Nat):Int):=by omega
 refine WP.has hE (zK 3 U (zo U (aq (r:=.int .i64 ((i+1:Nat):Int)) U U ((aL ak).trans (by rw[c9]))) ?_));refine zk 2 U (zY s 0 cP gx U (zo U (aD U U U jl) ?_));by_cases cq:i+1<ks.length
 .obtain⟨k2,kW⟩:∃k2,ks[i+1]?=some k2:=⟨_,aF cq⟩;have hc:=gX kW;refine zB U aK (decide_eq_true (by omega)) ?_;refine zk 5 U (zo U (aq (r:=.int .i64 ((i+1:Nat):Int)) U U ((aL ak).trans (by rw[c9]))) ?_);refine zc U (oW hT hc (I _ (aJ hc)).1 (by omega) (I _ (aJ hc)).2 s1) ?_;rintro r h s;rw[qp] at s;refine za U (zv (hq _ _ r ⟨U,U,U,U,U,U,U,U,aa⟩ ?_));have e:cT GC ks i=some k2.key:=by rw[cT,kW]
  rw[e];exact s
 .skip;refine zC U aK (decide_eq_false (by omega)) ?_;refine zv (zj U (WP.skip (hq _ _ hv ⟨U,U,U,U,U,U,U,U,aa⟩ ?_)));have e:cT GC ks i=GC:=by rw[cT,List.getElem?_eq_none_iff.2 (by omega)]
  rw[e];exact((s1.ae [1]).dup (aI.bel _ _)).ae [0,1,0]
end
section
variable {told:cu}
noncomputable def ckB : Code:=dm [1,1,1,1,1,0,1,0,0] ((Tryz.f153.body).getD .skip)
def Y5 (told:cu)(N B:Nat)(rv:V)(A:bA->aE)(pg:bA->Int->List Nat)(F:Nat->List (List Nat)->Prop)(P:Int->List Nat)(l:Nat): Prop :=
 ∀(x n:Nat) (lo:Ky) (hi:Option Ky) (cs:List (List Nat)) (es:List En) (ps:List Nat) (seen:List (Int×Unit)) (fv hv mv:V) (ε:bA) (h:H) (S:List aE),Nv F P l lo hi cs es ps->(∀b,hi=some b->1<=b.length)->(n::ps).Nodup->(∀m∈n::ps,m<N/\lookL (m:Int) seen=none)->EI N B ε->pg ε=P->cs.length<=512 ->
  Sat h (aY x n l (P n) cs::pQ G1 mv seen::A ε::.b8 fv lo::yt hv hi::S) ->
  Call ⟨Tryz.prog,told⟩ 153 [rv,.ptr x 0,fv,hv,mv] h λv h'=>∃seen' ah,v=.int .i64 0/\EI N B ah/\Sm N ε ah/\(∀m:Nat,m∉n::ps->lookL (m:Int) seen'=lookL (m:Int) seen)/\Sat h' (pQ G1 mv seen'::A ah::S)
theorem Rs (hT:WB told)(hR:mE told N B rv A pg)(hN:N<=65536)(hl:l+1<=60)(ih:Y5 told N B rv A pg F P l)(MK:Sep lo hi ks)(fN:ks.length<=512)(CQ:∀c∈bF ks,iQ (l+1) c/\c.length<=225)(GH:∀b,hi=some b->1<=b.length)
 (sZ:∀i k,ks[i]?=some k->∃cs',Nv F P l (loK lo ks i) (cT hi ks i) cs' k.es k.ps/\F l cs'/\bH (P k.pg) 204 0 l cs'): ∀(j i:Nat) (seen:List (Int×Unit)) (ε:bA) (h:H) (E:List (Nat×V)) (Q:Ex->List (Nat×V)->H->Prop),i+j=ks.length ->
  ((ks.drop i).flatMap cL).Nodup->(∀m∈(ks.drop i).flatMap cL,m<N/\lookL (m:Int) seen=none)->EI N B ε->pg ε=P ->
  Sat h (aY x n (l+1) b (bF ks)::.b8 fv lo::yt hv hi::pQ G1 mv seen::A ε::S)->Has E [(0,rv),(1,.ptr x 0),(2,fv),(3,hv),(4,mv),(16,.int .i64 (i:Int))] ->
  (∀E' h' seen' ah,EI N B ah->Sm N ε ah->(∀m:Nat,m∉(ks.drop i).flatMap cL->lookL (m:Int) seen'=lookL (m:Int) seen)->Sat h' (pQ G1 mv seen'::A ah::S)->Q (.exit 2) E' h')->WP ⟨Tryz.prog,told⟩ 138 (.loop ckB) E h Q:=by
 intro j;induction j with
 |zero =>
  intro i seen ε h E Q eO fB I cn eA s hE hq;have s1:=s;obtain⟨bv,cv,us,s⟩:=aU.1 s;have jl:=gT (P:=Tryz.prog) aQ s;rw[dn] at jl;refine WP.loop (WP.has hE (zK 5 U (zY s 0 ew bP U (zB U cA (by simp) ?_))));refine zk 4 U (zY s 0 cP gx U (zo U (aD U U U jl) (zC U aK (decide_eq_false (by omega)) ?_)));exact zk 3 U (WP.exit (hq _ _ seen ε cn (Sm.refl N ε) (λ_ _=>U) s1.drop.drop.drop))
 |succ j ihj =>
  intro i seen ε h E Q eO fB I cn eA s hE hq;obtain⟨k,hk⟩:∃k,ks[i]?=some k:=⟨_,aF (by omega)⟩;obtain⟨cs',acK,_,uI⟩:=sZ i k hk;have hd:(ks.drop i).flatMap cL=cL k++(ks.drop (i+1)).flatMap cL:=by
   obtain⟨hb,hk3⟩:=List.getElem?_eq_some_iff.1 hk;rw[<-hk3,mH hb,eE]
  rw[hd] at fB I hq;obtain⟨afu,yq,Mj⟩:=List.nodup_append.1 fB;have MA:=(I k.pg (fc _ a_)).1;have afv:cs'.length<=512:=by have:=uI.fits;omega
  have hh':∀b,cT hi ks i=some b->1<=b.length:=λb hb=>by
   unfold cT at hb;cases hq:ks[i+1]? with
   |none=>rw[hq] at hb;exact GH b hb
   |some m =>
    rw[hq] at hb;obtain rfl:=bD hb;exact MK.sz (i+1) m hq (by omega)
  have s1:=s;obtain⟨bv,cv,us,s⟩:=aU.1 s;have jl:=gT (P:=Tryz.prog) aQ s;rw[dn] at jl;refine WP.loop (WP.has hE (zK 5 U (zY s 0 ew bP U (zB U cA (by simp) ?_))));refine zk 4 U (zY s 0 cP gx U (zo U (aD U U U jl) (zB U aK (decide_eq_true (by omega)) ?_)));refine zk 5 U (WP.block (zK 8 U (UO hT.w hk CQ (by omega) (by omega) s1 ⟨U,U,U,U,U,U,U,U,aa⟩ λE' h' lv dY s' => ?_)));have s:=s'.ae [1,2];dsimp only[bringA,getA,aM] at s;refine WP.has dY (zw (Rr hT.w (by omega) CQ (by omega) (by omega) s ⟨U,U,U,U,U,U,U,U,aa⟩ λE' h' uv dY s' => ?_));have s:=s'.ae [1,5];dsimp only[bringA,getA,aM] at s;refine WP.has dY ?_;have tj:=gX hk;refine zK 5 U (zc U (s_ hT.w hR cn tj MA hN (by rw[eA];exact uI) acK.ld (by omega) s) ?_);rintro v h ⟨y,c_,rfl,kD,ej,s⟩;have gY:pg c_=P:=by rw[<-eA];funext m;exact hR.same ej m
  rw[eA] at s;have s:=s.ae [0,5,1,3,1,0];dsimp only[bringA,getA,aM] at s;have s:=s.ae [0,6,1,1,1];dsimp only[bringA,getA,aM] at s;refine zk 10 U (zC U aG (U) (zk 10 U (zc U (ih y k.pg (loK lo ks i) (cT hi ks i) cs' k.es k.ps seen lv uv mv c_ _ _ acK hh' afu (λm hm=>I m (fc _ hm)) kD gY afv s) ?_)));rintro v h ⟨ad0,iJ,rfl,oH,j3,iL,s⟩;have Ru:pg iJ=P:=by rw[<-gY];funext m;exact hR.same j3 m
  have s:=s.ae [3,2,2,0,0];dsimp only[bringA,getA,aM] at s;refine za U (zv (zg U (zm U (zh U (aq U U aG) (U) (zv (zj U (WP.skip (zr U (zm U (zb U (by exact aL ak) ?_))))))))));refine za U (zv ?_);refine ihj (i+1) ad0 iJ _ _ Q (by omega) yq (λm hm=>⟨(I m (js _ hm)).1,?_⟩) oH Ru s ⟨U,U,U,U,U,U,aa⟩ (λE' h' seen' ah g1 g2 g3 g4=>hq E' h' seen' ah g1 ((ej.trans j3).trans g2) (λm hm => ?_) g4)
  .rw[iL m λq=>Mj m q m hm U];exact(I m (js _ hm)).2
  .rw[g3 m λq=>hm (js _ q),iL m λq=>hm (fc _ q)]
theorem Jz (hT:WB told)(hR:mE told N B rv A pg)(hN:N<=65536)(hl:l<=60)(ih:∀l',l=l'+1->Y5 told N B rv A pg F P l'): Y5 told N B rv A pg F P l:=by
 intro x n lo hi cs es ps seen fv hv mv ε h S I GH fB u7 cn eA fN s;have Yp:=I.keys;have CQ:=Yp.qS;obtain⟨bv,cv,us,s⟩:=aU.1 s;have s:=s.ae [4];have Lu:gC Tryz.prog h 140 mv (.int .i64 (n:Int)) true=some (.aX [.agg [],.bool false]):=by
  rcases oh (n:=(n:Int)) (λ_ _=>aI.pu _) s GZ b_ JW with⟨_,g2,_⟩|⟨uu,y,g1,_⟩
  .exact g2
  .rw[(u7 n a_).2] at g1;cases g1
 refine Call.of_wp (hT.w.free _ U) Tryz.func153 U U (zK 10 U (zY s 1 iA bP U (zo U (kM U U Lu) (zk 3 U ?_))));refine au.cj s U U U (cm JW) (λGm h s => ?_);refine zS U (s.gZ (j:=0) U X_ U U) ?_;intro h s;have s:=s.drop;refine zk 13 U (zY s 1 iA bP U (zo U (cO U (by rw[Ya];rfl)) ?_));refine au.lJ U U (OpR.mapUpdate U U U U (oB (n:=(n:Int)) (f:=G1) (x:=()) (λ_ _=>aI.pu _) (s.gJ U) GZ b_)) ?_;intro _ h s;have s:=s.ae [1,1,1,1];have IP:∀m:Nat,m≠n->lookL (m:Int) (cD (n:Int) () seen)=lookL (m:Int) seen:=λm hm=>by rw[mU,ai (by omega)]
 refine zk 5 U (zY s 0 ew bP U (zo U (KO (r:=.int .i64 ((min 1 l:Nat):Int)) U U (aex.trans (by rw[show min (1:Int) (l:Int)=((min 1 l:Nat):Int) by omega]))) ?_));refine zk 8 U (WP.block ?_);have s:Sat h (aY x n l (P n) cs::_):=aU.2 ⟨bv,cv,us,s⟩;have s:=s.ae [0,2,2];refine Rq hT Yp hl fN GH (cs.length-min 1 l) (min 1 l) _ _ _ (by omega) (aH _) s ⟨U,U,U,U,U,U,U,aa⟩ (λE' h' hE s' => ?_);have s:=s';refine WP.has hE (zK 5 U (WP.block ?_));have s:=s.ae [0,0,0,0,0];cases l with
 |zero =>
  have s1:=s;obtain⟨bv,cv,us,s⟩:=aU.1 s;refine WP.loop (zK 5 U (zY s 0 ew bP U (zC U cA (by simp) ?_)));exact zk 11 U (WP.exit (zK 4 U (WP.ret ⟨aa,_,U,_,ε,U,cn,Sm.refl N ε,λm hm=>IP m λq=>hm (q ▸ a_),s1.drop.drop.drop⟩)))
 |succ l =>
  have acw:=I;obtain⟨ks,rfl,MK,ID,o_,sZ⟩:=I;rw[dn] at fN;rw[o_] at fB u7;obtain⟨wJ,qu⟩:=List.nodup_cons.1 fB;refine Rs hT hR hN (by omega) (ih l U) MK fN CQ GH sZ ks.length 0 _ ε _ _ _ (by omega) (by rw[ga];exact qu) (λm hm => ?_) cn eA s ⟨U,U,U,U,U,U,aa⟩ (λE' h' seen' ah g1 g2 g3 s' => ?_)
  .rw[ga] at hm;obtain⟨q1,q2⟩:=u7 m (bk _ hm);exact⟨q1,by rw[IP m λq=>wJ (q ▸ hm)];exact q2⟩
  have s:=s';rw[ga] at g3;refine WP.has (F:=[]) aa (zK 4 U (WP.ret ⟨aa,_,U,?_⟩));exact⟨seen',ah,U,g1,g2,λm hm=>by
   rw[o_] at hm;rw[g3 m λq=>hm (bk _ q),IP m λq=>hm (q ▸ a_)],s⟩
theorem afw (I:WB told)(hR:mE told N B rv A pg)(hN:N<=65536): ∀(l:Nat),l<=60->Y5 told N B rv A pg F P l:=by
 intro l;induction l with
 |zero=>exact λh=>Jz I hR hN h λl' e=>by cases e
 |succ l ih=>exact λh=>Jz I hR hN h λl' e=>Nat.succ.inj e ▸ ih (by omega)
theorem UP (hT:WB told)(hR:mE told N B rv A pg)(hN:N<=65536)(hL:L<=60)(hv:Nv F P L [] none cs es ps)(hp:bH (P root) 204 0 L cs)(fB:(root::ps).Nodup)(I:∀m∈root::ps,m<N)(cn:EI N B ε)(eA:pg ε=P)(s:Sat h (A ε::S)):
  Call ⟨Tryz.prog,told⟩ 69 [rv,.int .i64 (root:Int)] h λv h'=>∃ah,v=.int .i64 0/\EI N B ah/\Sm N ε ah/\Sat h' (A ah::S):=by
 refine Call.of_wp (hT.w.free _ U) Tryz.func69 U U (zK 8 U (zc U (z6 (l:=L) (cs:=cs) hT.w hR cn (I root a_) (by rw[eA];exact hp) hv.ld (by omega) s) ?_));rintro v h ⟨x,c_,rfl,kD,ej,s⟩;have gY:pg c_=P:=by rw[<-eA];funext m;exact hR.same ej m
 rw[eA] at s;refine zk 10 U (zC U aG (U) (zk 7 U ?_));refine au.BS s U U U U (λp18 h s => ?_);have s:=ri (f:=G1) s;have s:=s.ug.gJ (φ:=V.aZ=.aZ) U;have s:Sat _ (yt .aZ none::_):=s;have s:=s.ae [3,2,2,1,0];refine zc U (afw hT hR hN L hL x root [] none cs es ps [] .aZ .aZ _ c_ _ _ hv (λb hb=>by cases hb) fB (λm hm=>⟨I m hm,U⟩) kD gY (by have:=hp.fits;omega) s) ?_;rintro v h ⟨seen',iJ,rfl,oH,j3,_,s⟩;exact zk 2 U (WP.ret ⟨aa,_,U,iJ,U,oH,ej.trans j3,s.drop⟩)
end
def TrH (N root:Nat)(R ot:List Nat)(P:Int->List Nat)(es:List En): Prop:=∃M L cs ps Z,fU N R M P/\jA N M ((root::ps)++ot)/\Nv (cM Z) P L [] none cs es ps/\bH (P root) 204 0 L cs/\ps.length<=2*es.length/\L<=60
section
variable {P:Program} {v:V} {cs:List V}
theorem J8 (a:wX (T.get h.tr) 1 v cs)(hc:cs[i]?=some c)(hu:P.underlying t=some (.slice e))(I:bq P e=some 1):
  ∃id off,indexAddrV P t v (.int .i64 (i:Int))=some (.ptr id off)/\∀t',isAggT P t'=some false->loadV P h t' (.ptr id off)=some c:=by
 have hi:=(List.getElem?_eq_some_iff.1 hc).1;obtain⟨id,off,e1,e2⟩:=Wy (i:=i) a (by omega) (by decide) hu I;exact⟨id,off,e1,λt' ht=>e2 0 c t' (by rw[ic,ay (by decide),fq,cH,eF];exact hc) ht⟩
end
section
variable {told:cu} {uv:V} {pl ul:List Nat}
noncomputable def hoO : Code:=dm [1,1,1,1,1,1,0,1,0,0] ((Tryz.f19.body).getD .skip)
noncomputable def hoA : Code:=dm [1,1,1,1,1,1,0,1,0,0,1,0,0,1,0,1,0,0] ((Tryz.f19.body).getD .skip)
noncomputable def hoB : Code:=dm [1,1,1,1,1,1,0,1,0,0,1,0,0,1,1,0,1,0,0] ((Tryz.f19.body).getD .skip)
theorem XJ (hp:pl[i]?=some n)(oo:ul.length<=100000): ∀(j k:Nat) (E:List (Nat×V)) (Q:Ex->List (Nat×V)->H->Prop),k+j=ul.length->Sat h (roS 1 w (cJ pl)::.arr 1 uv (cJ ul)::S) ->
  Has E [(9,w),(13,uv),(14,.int .i64 0),(15,.int .i64 (i:Int)),(16,.bool (decide (n∈ul.take k))),(17,.int .i64 (k:Int))] ->
  (∀E',Has E' [(9,w),(13,uv),(14,.int .i64 0),(15,.int .i64 (i:Int)),(16,.bool (decide (n∈ul)))]->Q (.exit 2) E' h)->WP ⟨Tryz.prog,told⟩ 143 (.loop hoA) E h Q:=by
 intro j
 induction j with
 |zero =>
  intro k E Q hk s hE hq
  have I:=s.fS (P:=Tryz.prog) (j:=1) (n:=ul.length) U (by rw[jz,cH]) (by decide) dF
  obtain rfl:k=ul.length:=hk
  rw[jR] at hE
  refine WP.loop (WP.has hE (zK 5 U (zo U (aD U U U I) (zC U aK (by simp) ?_))))
  exact zk 2 U (WP.exit (hq _ ⟨U,U,U,U,U,aa⟩))
 |succ j ih =>
  intro k E Q hk s hE hq
  have I:=s.fS (P:=Tryz.prog) (j:=1) (n:=ul.length) U (by rw[jz,cH]) (by decide) dF
  obtain⟨u,hu⟩:∃u,ul[k]?=some u:=⟨_,aF (by omega)⟩
  have qx:ul.take (k+1)=ul.take k++[u]:=by rw[nF,hu];rfl
  obtain⟨id,off,e1,e2⟩:=kX (P:=Tryz.prog) s (k:=1) (i:=k) U (lW hu) dF lQ
  obtain⟨tq,qD,e3,e4⟩:=J8 (P:=Tryz.prog) (s.jo (j:=0) U (cU _ _ _)) (lW hp) dF lQ
  by_cases sV:n∈ul.take k
  .rw[dZ sV] at hE
   refine WP.loop (WP.has hE (zK 5 U (zo U (aD U U U I) (zB U aK (by simp;omega) ?_))))
   refine zk 4 U (WP.block (WP.drawn [af,af,af,af,af,af,af,af,af,af,af,af,af] U (by kernel_rfl) (by kernel_rfl) ?_))
   refine zM U (zM U (aB.no (e:=false) U U U U (aB.no (e:=false) U U U U (aB.no (e:=false) U U U U (aB.no (e:=false) U U U U (aB.no (e:=false) U U U U (aB.no (e:=false) U U U U (aB.no (e:=false) U U U U (aB.no (e:=false) U U U U (aB.no (e:=false) U U U U (zO U (oT U U) (zA U ?_))))))))))))
   refine aB.nil ⟨⟨aa,aa,aa,aa,aa,aa,aa,aa,aa,aa,aa,aa,aa,aa⟩,?_⟩
   refine zK 2 U (zb U (by exact aL ak) ?_)
   refine za U (zv ?_)
   exact ih (k+1) _ Q (by omega) s ⟨U,U,U,U,by rw[dZ (by rw[qx];exact fc _ sV)];rfl,U,aa⟩ hq
  .rw[f_ sV] at hE
   have key:∀E',Has E' [(9,w),(13,uv),(14,.int .i64 0),(15,.int .i64 (i:Int)),(16,.bool (decide ((u:Int)=(n:Int)))),(17,.int .i64 ((k+1:Nat):Int))]->WP ⟨Tryz.prog,told⟩ 143 (.loop hoA) E' h Q:=λE' dY=>by
    refine ih (k+1) E' Q (by omega) s ?_ hq
    have e:decide (n∈ul.take (k+1))=decide ((u:Int)=(n:Int)):=by
     rw[qx]
     exact decide_eq_decide.2 ⟨λq=>by
      rcases List.mem_append.1 q with q|q
      .exact absurd q sV
      .rw[List.mem_singleton.1 q],λq=>js _ (by rw[Hi];omega)⟩
    rw[e]
    exact dY
   by_cases hun:u=n
   .subst hun
    refine WP.loop (WP.has hE (zK 5 U (zo U (aD U U U I) (zB U aK (by simp;omega) ?_))))
    refine zk 4 U (WP.block (WP.drawn [af,af,af,af,af,af,af,af,af,af,af,af,af] U (by kernel_rfl) (by kernel_rfl) ?_))
    refine zM U (zM U (zM U (zM U (zO U (bM (r:=.ptr id off) U U e1) (zL U (e2 _ bP) (zM U (zM U (zO U (bM (r:=.ptr tq qD) U U e3) (zL U (e4 _ bP) (aB.xx U U U U (aq U U dK) (by simp) ?_))))))))))
    refine zO U (rU U U) (zA U ?_)
    refine aB.nil ⟨⟨aa,aa,aa,aa,aa,aa,aa,aa,aa,aa,aa,aa,aa,aa⟩,?_⟩
    refine zK 2 U (zb U (by exact aL ak) ?_)
    refine za U (zv ?_)
    exact key _ ⟨U,U,U,U,by rw[dZ U];rfl,U,aa⟩
   .skip
    refine WP.loop (WP.has hE (zK 5 U (zo U (aD U U U I) (zB U aK (by simp;omega) ?_))))
    refine zk 4 U (WP.block (WP.drawn [af,af,af,af,af,af,af,af,af,af,af,af,af] U (by kernel_rfl) (by kernel_rfl) ?_))
    refine zM U (zM U (zM U (zM U (zO U (bM (r:=.ptr id off) U U e1) (zL U (e2 _ bP) (zM U (zM U (zO U (bM (r:=.ptr tq qD) U U e3) (zL U (e4 _ bP) (aB.rW U U U U (aq U U dK) (by simp;omega) ?_))))))))))
    refine zO U (rU U U) (zA U ?_)
    refine aB.nil ⟨⟨aa,aa,aa,aa,aa,aa,aa,aa,aa,aa,aa,aa,aa,aa⟩,?_⟩
    refine zK 2 U (zb U (by exact aL ak) ?_)
    refine za U (zv ?_)
    exact key _ ⟨U,U,U,U,by rw[f_ (by omega)];rfl,U,aa⟩
theorem Rv (fB:pl.Nodup)(hp:pl[i]?=some n)(Iw:pl.length<=100000): ∀(j k:Nat) (E:List (Nat×V)) (Q:Ex->List (Nat×V)->H->Prop),k+j=i->Sat h (roS 1 w (cJ pl)::.arr 1 uv (cJ ul)::S) ->
  Has E [(9,w),(13,uv),(14,.int .i64 0),(15,.int .i64 (i:Int)),(16,.bool true),(18,.int .i64 (k:Int))] ->
  (∀E',Has E' [(9,w),(13,uv),(14,.int .i64 0),(15,.int .i64 (i:Int)),(16,.bool true)]->Q (.exit 4) E' h)->WP ⟨Tryz.prog,told⟩ 143 (.loop hoB) E h Q:=by
 have hi:=(List.getElem?_eq_some_iff.1 hp).1
 intro j
 induction j with
 |zero =>
  intro k E Q hk s hE hq
  obtain rfl:k=i:=hk
  refine WP.loop (WP.has hE (zK 5 U (zC U aK (by simp) ?_)))
  exact zk 2 U (WP.exit (hq _ ⟨U,U,U,U,U,aa⟩))
 |succ j ih =>
  intro k E Q hk s hE hq
  obtain⟨u,hu⟩:∃u,pl[k]?=some u:=⟨_,aF (by omega)⟩
  have hun:u≠n:=λq=>by
   subst q
   obtain⟨a1,a2⟩:=List.getElem?_eq_some_iff.1 hu
   obtain⟨b1,b2⟩:=List.getElem?_eq_some_iff.1 hp
   exact List.pairwise_iff_getElem.1 fB k i a1 b1 (by omega) (a2.trans b2.symm)
  obtain⟨id,off,e1,e2⟩:=J8 (P:=Tryz.prog) (s.jo (j:=0) U (cU _ _ _)) (lW hu) dF lQ
  obtain⟨tq,I,e3,e4⟩:=J8 (P:=Tryz.prog) (s.jo (j:=0) U (cU _ _ _)) (lW hp) dF lQ
  refine WP.loop (WP.has hE (zK 5 U (zB U aK (by simp;omega) ?_)))
  refine zk 4 U (WP.block (WP.drawn [af,af,af,af,af,af,af,af,af,af,af,af,af] U (by kernel_rfl) (by kernel_rfl) ?_))
  refine zM U (zM U (zM U (zM U (zO U (bM (r:=.ptr id off) U U e1) (zL U (e2 _ bP) (zM U (zM U (zO U (bM (r:=.ptr tq I) U U e3) (zL U (e4 _ bP) (aB.xx U U U U (aq U U aG) (by simp;omega) ?_))))))))))
  refine zO U (oT U U) (zA U ?_)
  refine aB.nil ⟨⟨aa,aa,aa,aa,aa,aa,aa,aa,aa,aa,aa,aa,aa,aa⟩,?_⟩
  refine zK 2 U (zb U (by exact aL ak) ?_)
  refine za U (zv ?_)
  exact ih (k+1) _ Q (by omega) s ⟨U,U,U,U,U,U,aa⟩ hq
theorem Rw (fB:pl.Nodup)(Iw:pl.length<=100000)(oo:ul.length<=100000)(WH:∀n∈pl,n∈ul): ∀(j i:Nat) (E:List (Nat×V)) (Q:Ex->List (Nat×V)->H->Prop),i+j=pl.length->Sat h (roS 1 w (cJ pl)::.arr 1 uv (cJ ul)::S) ->
  Has E [(9,w),(13,uv),(14,.int .i64 0),(15,.int .i64 (i:Int))]->(∀E',Has E' [(14,.int .i64 0)]->Q (.exit 0) E' h)->WP ⟨Tryz.prog,told⟩ 143 (.loop hoO) E h Q:=by
 intro j;induction j with
 |zero =>
  intro i E Q hi s I hq;have I6:=zT (P:=Tryz.prog) (n:=pl.length) (s.jo (j:=0) U (cU _ _ _)) (by rw[jz,cH]) (by decide) dF;refine WP.loop (WP.has I (zK 5 U (zo U (aD U U U I6) (zC U aK (by simp;omega) ?_))));exact zk 2 U (WP.exit (hq _ ⟨U,aa⟩))
 |succ j ih =>
  intro i E Q hi s I hq;have I6:=zT (P:=Tryz.prog) (n:=pl.length) (s.jo (j:=0) U (cU _ _ _)) (by rw[jz,cH]) (by decide) dF;obtain⟨n,hn⟩:∃n,pl[i]?=some n:=⟨_,aF (by omega)⟩;have yb:=WH n (aJ hn);refine WP.loop (WP.has I (zK 5 U (zo U (aD U U U I6) (zB U aK (by simp;omega) ?_))));refine zk 4 U (WP.block (zK 9 U (WP.block ?_)));refine XJ hn oo ul.length 0 _ _ (by omega) s ⟨U,U,U,U,U,U,aa⟩ (λE' I => ?_);rw[dZ yb] at I;refine WP.has I (zK 5 U (WP.block ?_));refine Rv fB hn Iw i 0 _ _ (by omega) s ⟨U,U,U,U,U,U,aa⟩ (λE' I => ?_);refine WP.has I (zg U (zm U (zo U (eo U U) (zv (zj U (WP.skip (zr U (zm U (zb U (by exact aL ak) ?_)))))))));refine za U (zv ?_);exact ih (i+1) _ Q (by omega) s ⟨U,U,U,U,aa⟩ hq
end
section
variable {told:cu} {ot:List Nat}
theorem aaJ {f:Nat->Bool}{j:Nat}: j∈z8 f n↔j<n/\f j=true:=by
 unfold z8;rw[List.mem_filter,List.mem_range]
theorem J9 {a b:bA}(hR:mE told N B rv A pg)(hs:Sm N a b)(I:pg a=P): pg b=P:=by rw[<-I];funext m;exact hR.same hs m
theorem MM (hT:WB told)(hR:mE told N B rv A pg)(hN:N<=2999)(ht:TrH N root R ot P es)(hb:∀d∈es,∀x∈d.1,x<256)(hlen:es.length<=500)(cn:EI N B ε)(eA:pg ε=P)(s:Sat h (A ε::.arr 2 lv (dw es)::S)):
  Call ⟨Tryz.prog,told⟩ 19 [rv,.int .i64 (root:Int),lv] h λv h'=>∃ah,v=.bool true/\EI N B ah/\Sm N ε ah/\Sat h' (A ah::.arr 2 lv (dw es)::S):=by
 obtain⟨M,L,cs,ps,Z,gI,sk,hv,hp,hpn,hL⟩:=ht;have hdp:=hv.deep;have fB:(root::ps).Nodup:=(List.nodup_append.1 sk.nd).1;have I:∀m∈root::ps,m<N:=λm hm=>(sk.my m (fc _ hm)).2;have hr:=I root a_;have h2r:=(sk.my root (fc _ a_)).1;have wC:(dw es).length=es.length*2:=eN _;have pW:∀ {h:H} {j:Nat} {S:List aE},Sat h S->getA S j=some (.arr 2 lv (dw es))->lenV Tryz.prog h 28 lv=some (.int .i64 (es.length:Int)):=λs hj=>s.fS (P:=Tryz.prog) hj wC (by decide) jM;refine Call.of_wp (hT.w.free _ U) Tryz.func19 U U (zK 9 U (zo U (aD U U U (pW s (j:=1) U)) (zo U (aq (r:=.int .i64 ((es.length:Int)+1)) U U (aL ak)) ?_)));refine zc U (UG hT hR (by omega) (by omega) hv hp hr (λm hm=>I m (bk _ hm)) hb (by omega) (by omega) (by omega) cn eA s) ?_;rintro v h ⟨ov,c_,rfl,kD,ej,s⟩;have gY:=J9 hR ej eA;have s:=s.ae [1];refine zk 10 U (zc U (UL (F:=cM Z) hT.w hR (by omega) (by omega) hv hp fB I (by omega) kD gY s) ?_);rintro v h ⟨w,iJ,rfl,oH,j3,s⟩;have Ru:=J9 hR j3 gY;have s:=s.ae [1];refine zk 10 U (zc U (UM hT.w hR (by omega) hv hp hr oH Ru s) ?_);rintro v h ⟨kI,rfl,vh,qy,s⟩;have acL:=J9 hR qy Ru;refine zk 10 U (zo U (eo U U) (zk 3 U ?_));have s:=s.ae [2,2];refine zc U (XC hT.w (by omega) s) ?_;rintro v h ⟨rfl,s⟩;refine zo U (eo U U) (zk 3 U (zC U aG (U) (zk 3 U (zC U aG (U) (zk 4 U ?_)))));have s:=s.ae [2];refine zc U (UP (F:=cM Z) hT hR (by omega) (by omega) hv hp fB I vh acL s) ?_;rintro v h ⟨rC,rfl,acj,hs4,s⟩;have afx:=J9 hR hs4 acL;have Iw:(root::ps).length=ps.length+1:=rfl;have I6:=zT (P:=Tryz.prog) (n:=(root::ps).length) (s.jo (j:=3) U (cU _ _ _)) (by rw[jz,cH]) (by decide) dF;obtain⟨id,off,e1,e2⟩:=J8 (P:=Tryz.prog) (i:=0) (s.jo (j:=3) U (cU _ _ _)) (lW (n:=root) U) dF lQ;refine zC U aG (U) (zk 3 U (zo U (aD U U U I6) (zC U aK (decide_eq_false (by omega)) ?_)));refine zk 3 U (zo U (bM (r:=.ptr id off) U U e1) (zl U (e2 _ bP) (zm U (zC U aG (by simp) ?_))));refine zk 3 U (zC U aK (by simp;omega) ?_);refine zk 4 U (zo U (aD U U U I6) (zC U cA (by simp;omega) ?_));refine zk 3 U (zo U (aD U U U I6) (zm U (zo U (aD U U U (pW s (j:=2) U)) (zo U (aq (r:=.int .i64 (2*(es.length:Int))) U U (jf ak)) ?_))));refine zo U (aq (r:=.int .i64 (2*(es.length:Int)+1)) U U (aL ak)) ?_;refine zC U cA (decide_eq_false (by omega)) ?_;refine zk 7 U (zc U (WY hT.w hR acj (by omega) (by rw[afx];exact gI) s) ?_);rintro v h ⟨uv,Mi,rfl,afU,hs5,s⟩;have s:=s.ae [4,0];refine zk 11 U (WP.block ?_);refine Rw fB (by omega) (by have:=Io (f:=bt M) (k:=N);omega) (λn hn=>aaJ.2 ⟨I n hn,by rw[sk.bits n (I n hn)];exact dZ (.inr (fc _ hn))⟩) (root::ps).length 0 _ _ (by omega) s ⟨U,U,U,U,aa⟩ (λE' hE => ?_);refine WP.has hE (zK 3 U (zB U dK (by simp) ?_));exact zk 2 U (WP.ret ⟨aa,_,U,Mi,U,afU,(((ej.trans j3).trans qy).trans hs4).trans hs5,((s.ae [2,3]).del 4 |>.del 3 |>.del 2)⟩)
end
theorem CR (K:Nat): nX λx=>x.1.base=K:=by
 refine⟨λx n h => ?_,λx n b h => ?_⟩
 .unfold cR Dk.jh;grind
 .grind
structure EF (ε:bA): Prop where
 ei:EI 8 24 ε
 ba:ε.2.1.base<=6291600
 pt:cW ε<=393216+ε.2.2.log.length
 lg:ε.2.2.log.length<=1048576
 rm:ε.2.2.room=1048576
section
variable {bj:Nat} {e:Int} {cl:Bool} {K:Nat}
theorem EF.fresh (h:EI 8 5 ε)(I:vi K 1048576 ε)(hK:K<=1048576): EF ε:=by
 have h1:=h.el.size;have h2:=h.cW;exact⟨h.more (by decide),by omega,by omega,cN I.1 hK,I.2⟩
theorem EF.sm (h:EF ε)(he:EI 8 24 ah)(hs:Sm 8 ε ah): EF ah:=by
 have I:=hs.2.1 _ ((qb ε.2.2.log.length ε.2.2.room).QJ 8) ⟨U,U⟩;have h2:=hs.2.1 _ ((CR ε.2.1.base).QJ 8) U;have h3:=hs.2.2;have h4:=h.pt;exact⟨he,by have:=h.ba;have h2:ah.2.1.base=ε.2.1.base:=h2;omega,by have I:ah.2.2.log.length=ε.2.2.log.length:=I.1;omega,by have I:ah.2.2.log.length=ε.2.2.log.length:=I.1;have:=h.lg;omega,by have I:ah.2.2.room=ε.2.2.room:=I.2;rw[I];exact h.rm⟩
theorem EF.done (hr:DnR ε now 1 0 0 0 [] 0 bj e cl ah)(h:EF ε)(hw:NW 8 now):
  (cl=false/\e=7)\/(cl=true/\e=0/\EF ah/\ε.2.2.log.length+13<=ah.2.2.log.length/\∀m,pgA ah m=match lookL m now with|some b=>eV b bj|none=>pgA ε m):=by
 have oI:=hw.len;rcases hr.or7 h.ei (by decide) hw (by decide) (by omega) (by decide) (by decide) (by decide) with hq|⟨a1,a2,k1,k2⟩
 .exact .inl hq
 .have wW:EF ah/\ε.2.2.log.length+13<=ah.2.2.log.length:=by
   have xq:∀n∈gp now,0<=n/\n<(8:Nat):=λn hq=>hw.keys n (r_.1 hq);have qa:(gp now).length<=8:=by rw[gp,(iI _).length_eq,cf];exact oI
   cases hr with
   |arg hh=>cases a1
   |dead _ _ _ hd=>cases a1
   |sQ e c ah _ _ _ _ hc Cj=>cases a1
   |app c I _ _ _ _ hc Cj=>cases a1
   |put c I e kI _ _ _ _ hc ha hp =>
    have hP:=(qb ε.2.2.log.length ε.2.2.room).ch hc ⟨U,U⟩;have hQ:=(CR ε.2.1.base).ch hc U;have hpc:=hc.cW;rcases mg I.2 1 0 0 0 [] c with⟨e,he,yQ,hq⟩|⟨_,ve,hq⟩|⟨_,hb,Iz,dx,ve,hq⟩
    .grind
    .grind
    .have ad1:iD 1 c=true:=Li ⟨by decide,by decide⟩ (hc.fit (λx hx=>jy (hw.good x hx).1) λn hq=>by have:=xq n hq;omega);obtain⟨c1,c2,c3⟩:=hc.ec h.ei.ec h.ei.ok xq;have hi:EI 8 24 I:=⟨hc.qw h.ei.ok,c1,hc.el h.ei.el,cN hc.cW h.ei.cW⟩;obtain⟨b1,_,_⟩:=hi.app (kd:=1) (tx:=0) (pv:=0) (nx:=0) (data:=[]) (c:=c) (by decide) ad1;have Lp:=hp.cW b1.ok;have FC:Am.cW (I.1,(bX I.2 1 0 0 0 [] c).2)=Am.cW I:=by grind[Am.cW]
     rw[FC] at Lp;rw[hq] at hp;have Ca:13<=(gD I.2.1 1 0 0 0 [] c).length:=by
      have d0:=O2 (n:=0) (by decide);rw[gD,wN,gU];simp only[aO,aW,b6,d0];omega
     have I5:=(qb (ε.2.2.log.length+(gD I.2.1 1 0 0 0 [] c).length) ε.2.2.room).pt hp ⟨by grind,hP.2⟩;have ju:=(CR ε.2.1.base).pt hp hQ;have qO:ah.2.2.log.length=ε.2.2.log.length+(gD I.2.1 1 0 0 0 [] c).length:=I5.1;have qP:ah.2.2.room=ε.2.2.room:=I5.2;have hq5:ah.2.1.base=ε.2.1.base:=ju;have af4:ε.2.2.log.length+(gD I.2.1 1 0 0 0 [] c).length<=ε.2.2.room:=by grind
     have e1:=h.pt;have e2:=h.rm;have e3:=h.ba;have e4:=k1.el.log;have e5:ah.2.1.b.length=ah.2.2.log.length:=by rw[e4]
     exact⟨⟨⟨k1.ok,k1.ec,⟨k1.el.log,k1.el.cert,by omega⟩,by omega⟩,by omega,by omega,by omega,by omega⟩,by omega⟩
  exact .inr ⟨a1,a2,wW.1,wW.2,k2⟩
end
section
theorem Fc {f g:α->Nat}: ∀ {ks:List α},(∀k∈ks,f k<=g k)->(ks.map f).sum<=(ks.map g).sum:=by
 intro ks;induction ks with
 |nil=>intro _;simp
 |cons k t I =>
  intro h;have h1:=h k a_;have h2:=I λx hx=>h x (bk _ hx);simp only[gB,qg];omega
theorem Pq {f:α->Nat}{c:Nat}: ∀ {ks:List α},(ks.map λk=>c*f k).sum=c*(ks.map f).sum:=by
 intro ks;induction ks with
 |nil=>simp
 |cons k t I=>simp only[gB,qg,I,Nat.mul_add]
theorem ad2 {c:Nat}: ∀ {ks:List α},(ks.map λ_=>c).sum=ks.length*c:=by
 intro ks;induction ks with
 |nil=>simp
 |cons k t I=>simp only[gB,qg,I,aW,Nat.succ_mul];omega
theorem Nv.lev : ∀ {l:Nat} {lo:Ky} {hi:Option Ky} {cs:List (List Nat)} {es:List En} {ps:List Nat},Nv (cM Z) P l lo hi cs es ps->ps.length<=l*es.length/\(cM Z l cs->1<=es.length):=by
 intro l;induction l with
 |zero =>
  rintro lo hi cs es ps ⟨rfl,_,rfl⟩;refine⟨by simp,λhf => ?_⟩;rw[cM,ay U] at hf;exact List.length_pos_iff.2 λq=>hf (by rw[q];rfl)
 |succ l ih =>
  rintro lo hi cs es ps ⟨ks,rfl,hs,rfl,rfl,hk⟩;have I:∀k∈ks,(cL k).length<=(l+1)*k.es.length/\1<=k.es.length:=λk hm=>by
   obtain⟨i,hi⟩:=List.mem_iff_getElem?.1 hm;obtain⟨cs',a1,a2,_⟩:=hk i k hi;obtain⟨b1,b2⟩:=ih a1;have b2:=b2 a2;refine⟨?_,b2⟩;rw[cL,aW,Nat.succ_mul];omega
  refine⟨?_,λ_ => ?_⟩
  .rw[yD,yD,<-Pq];exact Fc λk hm=>(I k hm).1
  .match ks,hs.ne,I with
   |k::t,_,I =>
    have:=(I k a_).2;rw[eE,aO];omega
theorem Nv.afy (h:Nv (cM Z) P L lo hi cs es ps)(I:2<=cs.length): 2*L<=ps.length:=by
 cases L with
 |zero=>omega
 |succ l =>
  obtain⟨ks,rfl,hs,rfl,rfl,hk⟩:=h;rw[dn] at I;have h1:∀k∈ks,l+1<=(cL k).length:=λk hm=>by
   obtain⟨i,hi⟩:=List.mem_iff_getElem?.1 hm;obtain⟨cs',a1,_,_⟩:=hk i k hi;have:=a1.deep;rw[cL,aW];omega
  have h3:=Fc h1;rw[ad2] at h3;rw[yD];have h4:=nB (l+1) I;omega
theorem aaK : ∀ {es:List En},(∀e∈es,1<=e.1.length)->2*es.length<=tot (es.map eB):=by
 intro es;induction es with
 |nil=>intro _;simp
 |cons e t I =>
  intro h;have h1:=I λx hx=>h x (bk _ hx);have h2:=h e a_;have h3:(eB e).length=1+e.1.length+e.2.length:=by simp[eB];omega
  simp only[tot,gB,qg,aW] at h1 ⊢;omega
theorem Nv.few : ∀ {l:Nat} {lo:Ky} {hi:Option Ky} {cs:List (List Nat)} {es:List En} {ps:List Nat} {b:List Nat},Nv (cM Z) P l lo hi cs es ps->bH b 204 0 l cs->es.length<=81*(1+ps.length):=by
 intro l;induction l with
 |zero =>
  rintro lo hi cs es ps b ⟨rfl,I,rfl⟩ hp;have h1:=hp.fits;have h2:=aaK λe he=>(I.sz e he).1;rw[cf] at h1;simp only[b6];omega
 |succ l ih =>
  rintro lo hi cs es ps b ⟨ks,rfl,hs,rfl,rfl,hk⟩ _;have h1:∀k∈ks,k.es.length<=81*(cL k).length:=λk hm=>by
   obtain⟨i,hi⟩:=List.mem_iff_getElem?.1 hm;obtain⟨cs',a1,_,a3⟩:=hk i k hi;have:=ih a1 a3;rw[cL,aW];omega
  have h2:=Fc h1;rw[Pq] at h2;rw[yD,yD];omega
end
section
variable {A:Nat}
theorem six {M:List Nat}(h:jA 8 M ((root::ps)++[])): ps.length<=5:=by
 have I:=(List.nodup_append.1 h.nd).1;have h2:=Ct (m:=[2,3,4,5,6,7]) I λx hx=>by
  have:=h.my x (fc _ hx);simp only[gd,jQ,mM];omega
 simp only[aW,b6] at h2;omega
theorem qc.h8 (h:qc 8 root R [] Z A P es)(hA:A<1000000000): TrH 8 root R [] P es/\es.length<=486:=by
 obtain⟨M,L,cs,ps,h1,h2,h3,h4,I,_⟩:=h;have h6:=six h2;have h7:=h3.few h4;have h8:=h3.deep;obtain⟨h9,_⟩:=h3.lev;refine⟨⟨M,L,cs,ps,Z,h1,h2,h3,h4,?_,by omega⟩,by omega⟩;have hL:L<=2:=by
  by_cases h0:L=0
  .omega
  .have I:=I.2;unfold lam at I;rw[ai h0] at I;unfold Mb at I;split at I
   .rename_i hc;have:=h3.afy hc;omega
   .omega
 exact cN h9 (nB _ hL)
end
structure CS (R:List Nat)(root:Nat)(ε:bA)(es:List En): Prop where
 ef:EF ε
 tr:∃Z A,A<=486+8*ε.2.2.log.length/\qc 8 root R [] Z A (pgA ε) es
 by_:∀d∈es,∀x∈d.1,x<256
structure TfG (R:List Nat)(root:Nat)(ε:bA)(now:List (Int×List Nat))(es:List En): Prop where
 ef:EF ε
 nw:NW 8 now
 tr:∃Z A,A<=590+8*ε.2.2.log.length/\qc 8 root R [] Z A (pgG now ε) es
 by_:∀d∈es,∀x∈d.1,x<256
theorem MN (hs:Sm 8 ε ah): ah.2.2.log.length=ε.2.2.log.length:=(hs.2.1 _ ((qb ε.2.2.log.length ε.2.2.room).QJ 8) ⟨U,U⟩).1
section
variable {told:cu} {p g:Nat}
theorem CS.sm (h:CS R root ε es)(he:EI 8 24 ah)(hs:Sm 8 ε ah): CS R root ah es:=by
 obtain⟨I,⟨Z,A,h2,h3⟩,h4⟩:=h;have hp:pgA ah=pgA ε:=by funext m;exact hs.1 m
 exact⟨I.sm he hs,⟨Z,A,by rw[MN hs];exact h2,by rw[hp];exact h3⟩,h4⟩
theorem CS.h8 (h:CS R root ε es): TrH 8 root R [] (pgA ε) es/\es.length<=486:=by
 obtain⟨I,⟨Z,A,h2,h3⟩,h4⟩:=h;have:=I.lg;exact h3.h8 (by omega)
theorem UQ (I:W told){aR:Nat}{data:List Nat}(s:Sat h (GA g a p q r data aR now ε::S)): Call ⟨Tryz.prog,told⟩ 20 [.ptr g 0] h λv h'=>v=.aX []/\Sat h' (SA a p q r .cg data aR ε::S):=by
 have s:=cY.1 s;refine(Wa I s).mono ?_;rintro v h' ⟨rfl,s⟩;exact⟨U,cY.2 s.drop⟩
theorem UR (hT:W told)(I:EF ε)(hw:NW 8 now)(s:Sat h (GA g a p q r [] 0 now ε::S)):
  Call ⟨Tryz.prog,told⟩ 18 [.ptr g 0,.agg (qv ((1:Nat):Int) 0 0 0 .aZ .aZ)] h λv h'=>∃(bj:Nat),(v=.aX [.int .u64 (bj:Int),.int .i64 7])\/∃ah,v=.aX [.int .u64 (bj:Int),.int .i64 0]/\EF ah/\ε.2.2.log.length+13<=ah.2.2.log.length/\(∀m,pgA ah m=match lookL m now with|some b=>eV b bj|none=>pgA ε m)/\Sat h' (SA a p q r .cg [] 0 ah::S):=by
 refine(Jq (kd:=1) hT (by decide) I.ei hw s).mono ?_;rintro v h ⟨bj,e,cl,ah,hr,rfl,s⟩;rcases I.done hr hw with⟨rfl,rfl⟩|⟨rfl,rfl,k1,k2,k3⟩
 .exact⟨bj,.inl U⟩
 .exact⟨bj,.inr ⟨ah,U,k1,k2,k3,s.drop⟩⟩
noncomputable def tfO : Code:=dm [1,1,1,1,1,0,1,0,0] ((Tryz.f4.body).getD .skip)
noncomputable def tfB : Code:=dm [1,1,1,1,1,0,1,0,0,1,0,0,1,1] ((Tryz.f4.body).getD .skip)
noncomputable def tfE : Code:=dm [1,1,1,1,1,0,1,0,0,1,0,0,1,1,1,1,1] ((Tryz.f4.body).getD .skip)
theorem US (hT:WT told)(hI:TfG R root ε now es)
 (s:Sat h (GA g a p q r [] 0 now ε::.arr 2 lv (dw es)::.arr 1 lw (cJ [root])::S))(hE:Has E [(0,dv),(3,.ptr a 0),(4,lw),(6,lv),(7,.int .i64 (i:Int)),(9,.ptr g 0)])
 (I:∀E' h',look E' 2=some (.bool true)->Q .ret E' h')
 (hq:∀E' h' ε,CS R root ε es->Has E' [(0,dv),(3,.ptr a 0),(4,lw),(6,lv),(7,.int .i64 (i:Int))]->Sat h' (.arr 2 lv (dw es)::SA a p q r .cg [] 0 ε::.arr 1 lw (cJ [root])::S)->Q .normal E' h'): WP ⟨Tryz.prog,told⟩ 148 tfE E h Q:=by
 have hW:=hT.w;obtain⟨cn,hw,⟨Z,A,hA,ht⟩,Pr⟩:=hI;refine WP.has hE (zK 3 U (zo U (cO U (AT (kd:=1))) (zc U (UR hW cn hw s) ?_)));rintro v h ⟨bj,(rfl|⟨iJ,rfl,q1,q2,q3,s⟩)⟩
 .skip;refine zk 10 U (zB U dK (by decide) ?_);exact zk 6 U (WP.ret (I _ _ U))
 .have Ps:CS R root iJ es:=⟨q1,⟨Z,A,by omega,ht.done hw q3⟩,Pr⟩;obtain⟨h8,hlen⟩:=Ps.h8;obtain⟨id,off,e1,e2⟩:=kX (P:=Tryz.prog) s (k:=2) (i:=0) U (lW (n:=root) U) dF lQ;refine zk 10 U (zC U dK (by decide) ?_);refine zk 6 U (zC U aG (by decide) ?_);refine zk 2 U (zo U (oz U (mki_of zG U)) (zm U (zo U (bM (r:=.ptr id off) U U e1) (zl U (e2 _ bP) (zm U (zc U (MM hT.toWB (WJ hW (by decide)) (by decide) h8 Pr (by omega) q1.ei U s) ?_))))));rintro v h ⟨kI,rfl,vh,qy,s⟩;refine zo U (eo U U) (zp U (zv (zj U (WP.skip ?_))));exact hq _ _ kI (Ps.sm vh qy) ⟨U,U,U,U,U,aa⟩ (s.ae [1])
theorem aaL (hT:WT told){p8:Nat}{D:uO}{kv vv:V}(hI:CS R root ε es)(agw:D.act<=5)(hk:1<=D.k.length/\D.k.length<=96)(hv:D.v.length<=128)
 (s:Sat h (pt p8 (.cells 4 [.int .i64 D.act,.int .i64 D.tree,kv,vv] false)::.b8 kv D.k::.b8 vv D.v::.arr 2 lv (dw es)::SA a p q r .cg [] 0 ε::.arr 1 lw (cJ [root])::S))(hE:Has E [(0,dv),(3,.ptr a 0),(4,lw),(6,lv),(7,.int .i64 (i:Int)),(8,.ptr p8 0)])
 (kO:∀E' h',look E' 2=some (.bool true)->Q .ret E' h')
 (hq:∀ex E' h' lv es ε,ex=.normal\/ex=.exit 1->CS R root ε es->Has E' [(0,dv),(3,.ptr a 0),(4,lw),(6,lv),(7,.int .i64 (i:Int))]->Sat h' (.arr 2 lv (dw es)::SA a p q r .cg [] 0 ε::.arr 1 lw (cJ [root])::S)->Q ex E' h'): WP ⟨Tryz.prog,told⟩ 148 tfB E h Q:=by
 have hW:=hT.w
 obtain⟨h8,hlen⟩:=hI.h8
 have hI0:=hI
 obtain⟨I,⟨Z,A,hA,ht⟩,Pr⟩:=hI
 have jX:=ht.ok
 have hKb:=(s.aC (k:=1) U (bp _ _)).1
 obtain⟨M,L,cs,ps,h1,h2,h3,h4,h5,_⟩:=ht
 have hL:L<=5:=cN h3.deep (six h2)
 have QC:=I.lg
 have s:=s.ae [4]
 refine WP.has hE (zK 3 U (zc U (CN hW s) ?_))
 rintro v h ⟨g,rfl,s⟩
 have s:=s.ae [0,1,1,0,0,0]
 obtain⟨id,off,e1,e2⟩:=kX (P:=Tryz.prog) s (k:=5) (i:=0) U (lW (n:=root) U) dF lQ
 refine zk 6 U (zC U (AF j9) (U) (zk 6 U (zY s 3 Sx bP U ?_)))
 by_cases h3a:D.act<=3
 .skip
  refine zB U tK (decide_eq_true h3a) (zk 3 U (WP.drawn [af,af,af,af,af,af,af,af,af,af,af,af,af,af,af,af] U (by kernel_rfl) (by kernel_rfl) ?_))
  refine zM U (zM U (zO U (bM (r:=.ptr id off) U U e1) (zL U (e2 _ bP) (zF U (yX _ _) (zL U (s.ld (k:=3) U bS U) (zF U (KK _ _) (zL U (s.ld (k:=3) U bS U) (aB.any U U U U (OpR.call U U U U (O_ (now:=[]) (L:=L) (cs:=cs) (ps:=ps) hT.toWI (by decide) (by decide) I.ei (NW.nil 8) h1 h2 h3 h4 (by omega) h5.2 (bp _ _) (bp _ _) hk hv s)) ?_))))))))
  rintro v h ⟨c_,n_,k1,k2,k3,k4,(⟨rfl,_,s⟩|⟨ov,rfl,s,hTn⟩)⟩
  .skip
   refine zM U (zO U (gP U U) (zO U (gP U U) (zO U (gP U U) (zA U (zA U (zA U ?_))))))
   refine aB.nil ⟨⟨aa,aa,aa,aa,aa,aa,aa,aa,aa,aa,aa,aa,aa,aa,aa,aa,aa⟩,?_⟩
   refine zK 4 U (zB U dK (by decide) ?_)
   refine zk 5 U (zc U (UQ hW s) ?_)
   rintro v h ⟨rfl,s⟩
   have hI1:=hI0.sm k1 k2
   obtain⟨h81,_⟩:=hI1.h8
   have s:=s.ae [0,3]
   obtain⟨id,off,e1,e2⟩:=kX (P:=Tryz.prog) s (k:=5) (i:=0) U (lW (n:=root) U) dF lQ
   refine zk 5 U (zo U (oz U (mki_of zG U)) (zm U (zo U (bM (r:=.ptr id off) U U e1) (zl U (e2 _ bP) (zm U (zc U (MM hT.toWB (WJ hW (by decide)) (by decide) h81 Pr (by omega) k1 U s) ?_))))))
   rintro v h ⟨kI,rfl,vh,qy,s⟩
   exact zo U (eo U U) (zk 3 U (WP.exit (hq (.exit 1) _ _ lv es kI (.inr U) (hI1.sm vh qy) ⟨U,U,U,U,U,aa⟩ ((((s.ae [1,0,3]).del 5).del 4).del 3))))
  .skip
   refine zM U (zO U (gP U U) (zO U (gP U U) (zO U (gP U U) (zA U (zA U (zA U ?_))))))
   refine aB.nil ⟨⟨aa,aa,aa,aa,aa,aa,aa,aa,aa,aa,aa,aa,aa,aa,aa,aa,aa⟩,?_⟩
   refine zK 4 U (zC U dK (by decide) ?_)
   refine zk 7 U (zC U aG (U) ?_)
   have s:=(s.del 1).ae [4]
   refine zk 5 U (zY s 4 yX bS U (zo U (cS U (Co (s.aC (k:=2) U (bp _ _)))) (zY s 4 KK bS U (zo U (cS U (Co (s.aC (k:=3) U (bp _ _)))) (zc U (aas hW jX.jZ (by omega) s) ?_)))))
   rintro v h ⟨lv1,rfl,s⟩
   have s:=(((s.ae [1,0,3]).del 5).del 4).del 3
   refine zk 6 U ?_
   refine US hT ⟨I.sm k1 k2,k3,⟨Z,A+104,by rw[MN k2];omega,hTn.o⟩,λd hd => ?_⟩ s ⟨U,U,U,U,U,U,aa⟩ kO λE' h' iJ Ps hE s=>hq .normal E' h' _ _ iJ (.inl U) Ps hE s
   rcases Xu hd with hd|rfl
   .exact Pr d hd
   .exact hKb
 .skip
  refine zC U tK (decide_eq_false h3a) (zk 3 U (WP.drawn [af,af,af,af,af,af,af,af,af,af,af,af,af,af] U (by kernel_rfl) (by kernel_rfl) ?_))
  refine zM U (zM U (zO U (bM (r:=.ptr id off) U U e1) (zL U (e2 _ bP) (zF U (yX _ _) (zL U (s.ld (k:=3) U bS U) (aB.any U U U U (OpR.call U U U U (Xr (now:=[]) (L:=L) (cs:=cs) (ps:=ps) hT.toWB (by decide) (by decide) I.ei (NW.nil 8) h1 h2 h3 h4 (by omega) h5.2 (bp _ _) hk s)) ?_))))))
  rintro v h ⟨c_,n_,ov,z,rfl,k1,k2,k3,k4,s,hTn⟩
  refine zM U (zO U (gP U U) (zO U (gP U U) (zO U (gP U U) (zA U (zA U (zA U ?_))))))
  refine aB.nil ⟨⟨aa,aa,aa,aa,aa,aa,aa,aa,aa,aa,aa,aa,aa,aa,aa⟩,?_⟩
  refine zK 4 U (zC U aG (U) ?_)
  have s:=(s.del 1).ae [4]
  refine zk 5 U (zY s 4 yX bS U (zo U (cS U (Co (s.aC (k:=2) U (bp _ _)))) (zc U (Mp hW jX.nodup (by omega) s) ?_)))
  rintro v h ⟨lv1,rfl,s⟩
  have s:=((((s.ae [2,0,4]).del 6).del 5).del 4).del 3
  refine zk 6 U ?_
  refine US hT ⟨I.sm k1 k2,k3,⟨z::Z,A+104,by rw[MN k2];omega,hTn.o⟩,λd hd=>Pr d (List.mem_filter.1 hd).1⟩ s ⟨U,U,U,U,U,U,aa⟩ kO λE' h' iJ Ps hE s=>hq .normal E' h' _ _ iJ (.inl U) Ps hE s
end
section
variable {told:cu} {p:Nat} {cs:List V} {L:List uO}
theorem afz (hT:WT told)(hL:L.length<=1048576): ∀(d i:Nat) (lv:V) (es:List En) (ε:bA) (h:H) (E:List (Nat×V)) (Q:Ex->List (Nat×V)->H->Prop),i+d=L.length->CS R root ε es ->
  Sat h (.arr 2 lv (dw es)::SA a p q r .cg [] 0 ε::.arr 1 lw (cJ [root])::sW 4 dv cs::sn cs L::S)->Has E [(0,dv),(3,.ptr a 0),(4,lw),(6,lv),(7,.int .i64 (i:Int))] ->
  (∀E' h',look E' 2=some (.bool true)->Q .ret E' h')->(∀E' h',Q (.exit 0) E' h')->WP ⟨Tryz.prog,told⟩ 148 (.loop tfO) E h Q:=by
 intro d;induction d with
 |zero =>
  intro i lv es ε h E Q hi I s hE kO hq;obtain rfl:i=L.length:=hi;have fN:cs.length=L.length*4:=by
   obtain⟨m,r,_,_,h3⟩:=s.at (k:=4) U;exact Pj h3
  refine WP.loop (WP.has hE (zK 5 U (zo U (aD U U U (s.Tp (n:=L.length) (j:=3) U fN (by decide) GR)) ?_)));refine zC U aK (by simp) ?_;exact zk 2 U (WP.exit (hq _ _))
 |succ d ih =>
  intro i lv es ε h E Q hi I s hE kO hq;obtain⟨D,hD⟩:∃D,L[i]?=some D:=⟨_,aF (by omega)⟩;have fN:cs.length=L.length*4:=by
   obtain⟨m,r,_,_,h3⟩:=s.at (k:=4) U;exact Pj h3
  have Uh:=s.Tp (P:=Tryz.prog) (n:=L.length) (j:=3) U fN (by decide) GR;obtain⟨id,off,e1,e2⟩:=s.adI (P:=Tryz.prog) (i:=i) (j:=3) U (by omega) (by decide) GR abx aer;obtain⟨kv,vv,OQ,s⟩:=acD (s.ae [4]) hD;rw[OQ] at e2;have tj:=(s.aC (k:=0) U (bp _ _)).cells;have Ek:=(s.aC (k:=1) U (bp _ _)).cells;have eG:[V.int .i64 D.act,.int .i64 D.tree,kv,vv].all storable=true:=by simp only[l_,mL,tj.2,Ek.2];rfl
  have s:=s.ae [0,0,1,1,1,1,0];dsimp only[aM,bringA,getA] at s;refine WP.loop (WP.has hE (zK 5 U (zo U (aD U U U Uh) (zB U aK (by simp;omega) ?_))));refine zk 4 U (WP.block (zK 4 U (zo U (bM (r:=.ptr id off) U U e1) (zl U e2 ?_))));refine au.cj s U U U (cm aes) (λp8 h s => ?_);dsimp only[V.cells,List.length_cons,List.length_nil,Nat.reduceAdd] at s;refine zS U (s.gZ (j:=0) U abx U eG) ?_;intro h s;dsimp only[setA] at s;refine zk 4 U (zY s 0 Sx bP U ?_);have go:∀(E':List (Nat×V)) (h':H) (lv:V) (es:List En) (ε:bA),CS R root ε es->Has E' [(0,dv),(3,.ptr a 0),(4,lw),(6,lv),(7,.int .i64 ((i+1:Nat):Int))]->Sat h' (.arr 2 lv (dw es)::SA a p q r .cg [] 0 ε::.arr 1 lw (cJ [root])::sW 4 dv cs::sn cs L::S)->WP ⟨Tryz.prog,told⟩ 148 (.loop tfO) E' h' Q:=λE' h' lv es ε I hE s=>ih (i+1) lv es ε h' E' Q (by omega) I s hE kO hq;have s0:Sat h (.arr 2 lv (dw es)::SA a p q r .cg [] 0 ε::.arr 1 lw (cJ [root])::sW 4 dv cs::sn cs L::S):=s.drop.drop.drop;by_cases c1:D.act>5
  .skip;refine zB U cA (decide_eq_true c1) (zk 20 U (WP.exit (zK 2 U (zb U (by exact aL ak) ?_))));refine za U (zv ?_);exact go _ _ lv es ε I ⟨U,U,U,U,U,aa⟩ s0
  refine zC U cA (decide_eq_false c1) (zm U (zY s 0 yX bS U (zo U (aD U U U (bw aP (s.aC (k:=1) U (bp _ _)))) ?_)));by_cases c2:D.k.length<1
  .skip;refine zB U aK (decide_eq_true (by omega)) ?_;refine zk 15 U (WP.exit (zK 2 U (zb U (by exact aL ak) ?_)));refine za U (zv ?_);exact go _ _ lv es ε I ⟨U,U,U,U,U,aa⟩ s0
  refine zC U aK (decide_eq_false (by omega)) ?_;refine zk 2 U (zY s 0 yX bS U (zo U (aD U U U (bw aP (s.aC (k:=1) U (bp _ _)))) ?_));by_cases c3:D.k.length>96
  .skip;refine zB U cA (decide_eq_true (by omega)) ?_;refine zk 9 U (WP.exit (zK 2 U (zb U (by exact aL ak) ?_)));refine za U (zv ?_);exact go _ _ lv es ε I ⟨U,U,U,U,U,aa⟩ s0
  refine zC U cA (decide_eq_false (by omega)) ?_;refine zk 2 U (zY s 0 KK bS U (zo U (aD U U U (bw aP (s.aC (k:=2) U (bp _ _)))) ?_));by_cases c4:D.v.length>128
  .skip;refine zB U cA (decide_eq_true (by omega)) ?_;refine zk 3 U (WP.exit (zK 2 U (zb U (by exact aL ak) ?_)));refine za U (zv ?_);exact go _ _ lv es ε I ⟨U,U,U,U,U,aa⟩ s0
  refine zC U cA (decide_eq_false (by omega)) ?_;refine zk 4 U (aaL hT I (by omega) ⟨by omega,by omega⟩ (by omega) s ⟨U,U,U,U,U,U,aa⟩ kO λex E' h' lv es ε hex I hE s => ?_);rcases hex with rfl|rfl
  .skip;refine WP.has hE (zK 2 U (zb U (by exact aL ak) ?_));refine za U (zv ?_);exact go _ _ lv es ε I ⟨U,U,U,U,U,aa⟩ s
  .skip;refine WP.has hE (zK 2 U (zb U (by exact aL ak) ?_));refine za U (zv ?_);exact go _ _ lv es ε I ⟨U,U,U,U,U,aa⟩ s
theorem XK (hT:WT told)(hL:L.length<=1048576)(s:Sat h (sW 4 dv cs::sn cs L::S)):
  Call ⟨Tryz.prog,told⟩ 4 [dv] h λv h'=>v=.bool true:=by
 refine Call.of_wp (hT.w.free _ U) Tryz.func4 U U (zK 7 U (zc U (Rg hT s) ?_));rintro v h ⟨rfl,s⟩;refine zo U (eo U U) (zk 5 U (zc U (Jx (N:=8) (nt:=1) hT (by decide) (by decide) (by decide) s) ?_));rintro v h ⟨p,a,q,r,lw,rs,M,ε,rfl,Ca,cn,I,sk,eA,⟨K,hK,hd⟩,s⟩;obtain⟨root,rfl⟩:∃z,rs=[z]:=List.length_eq_one_iff.1 Ca;generalize List.replicate 64 0=R at I;have ht:qc 8 root R [] [] 486 (pgA ε) []:=qc.fresh I sk (eA root a_);have s:=(s.ae [1]).mq (k:=2);refine zk 12 U (zo U (eo U U) (zk 12 U (WP.block ?_)));refine afz hT hL L.length 0 .aZ [] ε _ _ _ (by omega) ⟨.fresh cn hd hK,⟨[],486,by omega,ht⟩,by simp⟩ s ⟨U,U,U,U,U,aa⟩ (λE' h' hE=>⟨aa,_,Aq hE,U⟩) (λE' h' => ?_);refine zK 4 U (WP.ret ⟨aa,_,U,?_⟩);rfl
end
end Go.Proofs.YtdonpgpfplgigaaGreat.Am
namespace Go.Proofs.YtdonpgpfplgigaaGreat.TreeFull
open Go.ChangeShapes Go.WideShapes Go.ChangeAt Go.RowKit
theorem own : ownKnob Tryz.prog.godebug=none:=by kernel_rfl
theorem laid : laidOutB Tryz.prog=true:=by kernel_rfl
theorem acM : Tryz.prog.readableRec 22=true:=by kernel_rfl
theorem row : (22:TypeId)<Tryz.prog.types.size:=of_decide_eq_true (by kernel_rfl)
set_option maxRecDepth 100000 in
theorem XL (H:Type)(enc:TypeId×Value→H)(W:World)(base:Nat)(args:Array Value)(ds gs:List (DataW H))(before:List MemPlace)
 (Bz:∀(j:Nat) t v,Tryz.f4.params[j]?=some t→args[j]?=some v→Value.okWide Tryz.prog W .any base t v)
 (hW:DataW.Whole enc Tryz.prog Tryz.f4.params.toList Rows.treeFullSpec.vars false W args.toList ds gs before)(hk:Rows.uptoBulkAll (ds++gs)≤1048576):
  Calls Tryz.prog 4 args W fun e W'=>∃v,e=.returned v∧Rows.treeFullSpec.post enc Tryz.prog Tryz.f4 false true false false W args v W':=by
 have hW':=hW
 obtain⟨p,q,Uc,hV,rfl,wk,fB⟩:=hW
 have hA:DataW.TrodAll enc Tryz.prog W 0 (fun _=>true) true Tryz.f4.params.toList args.toList ds p:=Uc
 rw[Tryz.params4] at hA Bz
 obtain⟨v0,vs0,d0,ds0,p0,q0,JS,rfl,rfl,h0,r0⟩:=trodAll_cons hA
 obtain⟨rfl,rfl,rfl⟩:=trodAll_nil r0
 obtain rfl:args = #[v0]:=by cases args;simp_all
 obtain⟨rfl,rfl⟩:=trodVars_none hV
 obtain⟨fuel,h0⟩:=h0
 have sr:v0.cells.toList=[v0]:=by
  have:=Bz 0 22 v0 rfl rfl
  simp only[Value.okWide,Tryz.underlying22,Cell.okWide,Cell.ok] at this
  split at this<;>first|rfl|exact this.elim
 have h0':=h0
 rw[sr] at h0
 have hb:Rows.uptoBulk d0≤1048576:=by
  have:=Am.xW (l:=([d0]++([]:List (DataW H)))) (d:=d0) (by simp)
  exact Nat.le_trans this hk
 refine(Am.Rj (fun hl s=>Am.XK Am.Xy hl s) h0 hb).mono fun e W' ⟨he,hg,hs,I⟩ => ?_
 subst he
 have cq:∀x∈p0,x.block<W.heap.size:=fun x hx=>hW'.lt x (by simp[hx])
 have FG:DataW.trod enc Tryz.prog W' 0 (fun b=>decide (b<W.heap.size)) true fuel 22 v0.cells.toList=some (d0,p0) :=
  DataW.trod_stays (kids_book laid acM) (book_sized acM) (fun h=>by cases h) ⟨row,book_self _⟩ h0' (fun x hx=>by
   have hl:=cq x hx
   cases x with
   |cell b off =>
    show W'.cell? ⟨b,off,none⟩=W.cell? ⟨b,off,none⟩
    unfold World.cell?
    rw[I b hl]
   |map b=>exact I b hl) (fun x hx=>by simpa using cq x hx)
 exact⟨_,rfl,⟨_,[],_,[],_,[],hW',trodAll_cons_mk (shut_bool Tryz.underlying4 _) trodAll_mk0,trodAll_cons_mk ⟨fuel,FG⟩ trodAll_mk0,rfl,World.keptBut_mono (fun _ f=>f.elim) hg,fun h=>by cases h⟩⟩
set_option maxRecDepth 100000 in
theorem lifted (os:Os)(started:os.Started)(H:Type)(enc:TypeId×Value→H)(F:Stop.Interp):
  ReturnsInHanded {} Tryz.checked os 4 .any ((Rows.OpenSpec.upto Rows.treeFullSpec).pre6 enc Tryz.prog Tryz.f4 Rows.treeFullUptoRow.domain false) (((Rows.OpenSpec.upto Rows.treeFullSpec).at F).post enc Tryz.prog Tryz.f4 false true false false):=by
 refine returnsInHanded_of_cond (C:=Tryz.checked) (s:=Rows.OpenSpec.upto Rows.treeFullSpec) (k:=Rows.uptoSmall) rfl own started (by kernel_rfl) Tryz.func4
  (OpenSpec.witness (enc:=enc) (C:=Tryz.checked) (s:=Rows.OpenSpec.upto Rows.treeFullSpec) (k:=Rows.uptoSmall) rfl false ⟨#[], #[.slice none 0 0],[]⟩ 8 (by kernel_rfl) (by kernel_rfl) (by kernel_rfl)
   (x:=([.nil],[],[])) (by kernel_rfl) rfl (by kernel_rfl)) ?_
 intro W base args ds gs before I hW _ hk _
 exact XL H enc W base args ds gs before I hW (of_decide_eq_true hk)
theorem cF : Rows.treeFullUptoRow.holds Tryz.pinned (Rows.OpenSpec.upto Rows.treeFullSpec) :=
 OpenClaim.holds_of_cond 4 Tryz.f4 rfl rfl rfl rfl rfl rfl rfl ⟨rfl,rfl,rfl,rfl,rfl⟩ rfl rfl rfl rfl rfl (by kernel_rfl) Tryz.func4 (by kernel_rfl)
  (of_decide_eq_true (by kernel_rfl)) (by unfold Func.isWrapper;first|(rw[if_pos (by decide +kernel)];kernel_rfl)|(rw[if_neg (by decide +kernel)];exact⟨rfl,rfl⟩))
  (fun os started H enc _ F=>lifted os started H enc F)
theorem proved : Rows.TreeFullUptoSaid :=
 cF
#print axioms proved
end Go.Proofs.YtdonpgpfplgigaaGreat.TreeFull
