/- AtomTorn: a part of its proof; conditions: its statement's. -/
import Derived.Test.YtconhghphklfjaaGreatT39
namespace Go.Proofs.YtconhghphklfjaaGreat.Am
open Go
theorem ML {ρ:gw}{R:Dk→Prop}(J:∀δ k b,R δ→R (δ.bk k b).2): ∀ {l:List Int} {δ:Dk},R δ→R (againW ρ l δ).2:=by
 intro l
 induction l with
 | nil=>intro δ h; exact h
 | cons k l I =>
  intro δ h
  rw [againW]
  cases lookL k ρ.aq with
  | none=>exact I h
  | some b =>
   simp only
   split
   ·split
    ·exact J _ _ _ h
    ·exact I (J _ _ _ h)
   ·exact I h
theorem Ax {R:Dk→Prop}{ba:Nat}{u r1 r2:List bR}(I:∀δ n,R δ→R (δ.cD n).2)(J:∀δ k b,R δ→R (δ.bk k b).2)(U:∀δ,R δ→R δ.c7.2){δ:Dk}(h:R δ): R (eP δ ba u r1 r2).2:=by
 unfold eP mG
 split
 ·exact I _ _ h
 ·have:=ML (ρ:=redoL (ba+szB r1) r2 gw.none) (l:=aF (redoL (ba+szB r1) r2 gw.none).aq) J (I δ (szB u) h)
  split
  ·exact this
  ·split
   ·exact this
   ·exact U _ this
theorem Dk.Ok.syn {δ:Dk}(h:δ.Ok): δ.c7.2.Ok:=by
 unfold Dk.c7
 split
 ·exact h
 ·split
  ·exact h.die
  ·have I:=h.c9
   refine ⟨I.aD,I.len,I.room,fun e he=>(by cases he),fun i b U => ?_,I.aJ,by show (laidP δ.now δ.aq).length≤_; rw [mO]; exact I.many⟩
   have key:∀ {l:List (Int×List Nat)} {m:List (Option (List Nat))},(∀e∈l,e.2.length=512)→(∀(i:Nat) (b:List Nat),m[i]?=some (some b)→b.length=512)→∀(i:Nat) (b:List Nat),(laidP l m)[i]?=some (some b)→b.length=512:=by
    intro l
    induction l with
    | nil=>intro m _ hm; exact hm
    | cons e l ih =>
     intro m J hm
     exact ih (fun x hx=>J x (bp _ hx)) (K2 hm (J e br))
   exact key h.now h.aq i b U
theorem FX {δ:Dk}{n:Nat}: (δ.cD n).2.dh=δ.dh∧(δ.cD n).2.mark=δ.mark:=by
 have I:(δ.dI n).2.dh=δ.dh∧(δ.dI n).2.mark=δ.mark:=by
  unfold Dk.dI Dk.qO
  split
  ·split
   ·exact ⟨rfl,rfl⟩
   ·split
    ·exact ⟨rfl,rfl⟩
    ·split <;> exact ⟨rfl,rfl⟩
  ·exact ⟨rfl,rfl⟩
 unfold Dk.cD
 split
 ·exact I
 ·split
  ·unfold Dk.cg
   split
   ·exact I
   ·split <;> exact I
  ·exact I
theorem Py {ba:Nat}{u r1 r2:List bR}{δ:Dk}: (eP δ ba u r1 r2).2.mark=δ.mark:=by
 refine Ax (R:=fun x=>x.mark=δ.mark) (fun x n h=>FX.2.trans h) (fun x k b h => ?_) (fun x h => ?_) rfl
 ·unfold Dk.bk
  split
  ·exact h
  ·split
   ·exact h
   ·split <;> exact h
 ·unfold Dk.c7
  split
  ·exact h
  ·split <;> exact h
theorem RQ {ba:Nat}{u r1 r2:List bR}{δ:Dk}(h:δ.Ok): (eP δ ba u r1 r2).2.Ok :=
 Ax (R:=Dk.Ok) (fun _ _ h=>h.cD) (fun _ _ _ h=>h.bk) (fun _ h=>h.syn) h
theorem Pz {ba:Nat}{u r1 r2:List bR}{δ:Dk}(U:δ.aD<0)(I:δ.dh=none): (eP δ ba u r1 r2).2.dh=none:=by
 have J:∀ {x:Dk} {n:Nat},x.aD<0→(x.cD n).2.aD<0:=fun {x n} h=>by
  have I:(x.dI n).2.aD<0:=by
   unfold Dk.dI Dk.qO
   split
   ·split
    ·exact h
    ·split
     ·exact h
     ·split
      ·exact h
      ·show x.c9.aD<0; rw [fP h]; exact h
   ·exact h
  unfold Dk.cD
  split
  ·exact I
  ·split
   ·unfold Dk.cg
    split
    ·exact I
    ·split
     ·exact I
     ·show (x.dI n).2.c9.aD<0; rw [fP I]; exact I
   ·exact I
 refine (Ax (R:=fun x=>x.aD<0∧x.dh=none) (fun x n h=>⟨J h.1,FX.1.trans h.2⟩) (fun x k b h => ?_) (fun x h => ?_) ⟨U,I⟩).2
 ·unfold Dk.bk
  split
  ·exact h
  ·split
   ·exact h
   ·rw [af (by have:=h.1; omega)]
    exact ⟨by show x.c9.aD<0; rw [fP h.1]; exact h.1,h.2⟩
 ·unfold Dk.c7
  split
  ·exact h
  ·rw [af (by have:=h.1; omega)]
   exact ⟨by show x.c9.aD<0; rw [fP h.1]; exact h.1,h.2⟩
theorem EY {δ:Dk}{n:Int}(I:δ.now=[]): δ.at n=imgOf δ n:=by
 rw [Dk.at,I]; rfl
theorem jU.eng {ba aC N B f:Nat}{B0:Int→List Nat}{u r1 r2:List bR}{δ:Dk}(h:jU ba B0 u r1 r2 N δ)(hn:δ.now=[])(hw:δ.waiting=[])(ht:δ.dh=none)(hl:Lv δ)(kV:δ.Ok)(hf:1≤f)(Dz:f≤1024)(K6:1≤B)(hB:B≤1000)(eX:ba+szB u≤B*1048600)(uZ:aC≤1099511627776):
  (Am.eP δ ba u r1 r2).1=0∧EI N B (Pl.fresh f,(ie ba aC u,(Am.eP δ ba u r1 r2).2))∧RS N ba aC δ.mark u B0 (fun _=>none) (Pl.fresh f,(ie ba aC u,(Am.eP δ ba u r1 r2).2)):=by
 have RP:∀r∈r2,r.Ok:=fun r hr=>h.cr.rs r (by rw [bF,h.cr.split]; exact List.mem_append.2 (.inr hr))
 obtain ⟨v1,v2⟩:=hl.eP (base:=ba) (rs:=u) (dr:=r1) RP
 obtain ⟨o1,o2⟩:=h.eP hn hw
 obtain ⟨p1,p2,p3,p4⟩:=o2 v1
 have q1:=RQ (ba:=ba) (u:=u) (r1:=r1) (r2:=r2) kV
 have q2:=Py (ba:=ba) (u:=u) (r1:=r1) (r2:=r2) (δ:=δ)
 have q3:=Pz (ba:=ba) (u:=u) (r1:=r1) (r2:=r2) hl.aD ht
 refine ⟨v1,?_⟩
 generalize (Am.eP δ ba u r1 r2).2=I at *
 have F:=EI.fresh (n:=N) (m:=0) (f:=f) (by have:=q1.many; rw [o1.aq] at this; exact this) (by decide) hf Dz
 have hlen:(logB ba u).length=szB u:=gq
 have abi:szB u≤16777216:=by have:=q1.len; rw [p1,hlen] at this; exact this
 have YX:szB u≤I.aJ:=o1.cr.cert
 have hC:∀n b,¬iu (Pl.fresh f) n b:=fun n b ⟨i,x,hx,_,_,k2,_⟩=>by rw [qN hx] at k2; cases k2
 have Ar:gS (Pl.fresh f).ak≤1*65536:=by
  have:=F.cm
  simp only [Am.cm,Am.fresh] at this
  omega
 have nJ:∀n,pgA (Pl.fresh f,(ie ba aC u,I)) n=imgOf I n:=fun n=>by rw [mT (by rfl)]; exact EY p2
 constructor
 ·refine ⟨⟨⟨F.ok.ok.pl,K0 (by omega) abi uZ,q1⟩,F.ok.pins,F.ok.full⟩,⟨⟨v2.alive,v2.aD,o1.aq,fun k hk => ?_,?_,fun n U h1 => ?_⟩,F.ec.nodup,F.ec.jR,fun i x hx=>.inl ?_,F.ec.oC,F.ec.yA⟩,⟨p1.symm,?_,?_⟩,?_⟩
  ·rw [p2] at hk; cases hk
  ·rw [p2]; exact kG
  ·show dN (I.at n)=0
   rw [EY p2]; exact (p4 n U h1).2
  ·rw [qN hx]; decide
  ·show (logB ba u).length≤I.aJ; omega
  ·show ba+(logB ba u).length≤_; omega
  ·show I.waiting.length+gS (Pl.fresh f).ak≤_
   rw [p3]
   simp only [bY]
   omega
 ·refine ⟨⟨rfl,rfl,rfl,rfl,p1,v2.alive,v2.aD,q2,q3,o1.tail,fun w hw=>(by rw [p3] at hw; cases hw),fun r hr=>h.cr.rs r (by rw [bF]; exact hr)⟩,?_,fun n U h1 => ?_,?_⟩
  ·refine ⟨rfl,rfl,p1,v2.alive,v2.aD,⟨u,[],by rw [bF],hlen⟩,by show (logB ba u).length≤I.aJ; omega,fun n w t t' U hu sJ hr hc => ?_,fun n rec q=>(by cases q),fun n _ wr J=>(by rw [p3] at J; cases J),fun n b hb=>absurd hb (hC n b),fun n rec q=>(by cases q),fun n rec q=>(by cases q),fun n b hb=>(by rw [p2] at hb; cases hb),fun n rec fl q=>(by cases q),fun n rec q=>(by cases q),fun n w U hc => ?_,fun n q=>q.elim⟩
   ·have sJ:(logB ba u).length≤szB t:=sJ
    obtain ⟨w',e1,e2⟩:=wU (a:=u) (b:=[]) (u:=t) (v:=t') (by rw [bF]; exact hu) (by omega)
    obtain ⟨e3,_⟩:=List.append_eq_nil_iff.1 e2.symm
    rw [e3,bF] at e1
    subst e1
    have sE:w=imgOf I n:=by
     rcases hc with hc | ⟨wr,J,_⟩
     ·exact hc
     ·rw [p3] at J; cases J
    rw [sE]
    exact (p4 n U.1 (by have:=U.2; rw [o1.aq] at this; exact this)).1
   ·have sE:w=imgOf I n:=by
     rcases hc with hc | ⟨wr,J,_⟩
     ·exact hc
     ·rw [p3] at J; cases J
    rw [sE]
    by_cases hN:n<(N:Int)
    ·exact (p4 n U hN).2
    ·have:imgOf I n=List.replicate 512 0:=by
      have GX:=o1.aq
      rw [imgOf,pE (by omega)]
     rw [this]; exact xX
  ·rw [nJ]; exact (p4 n U h1).1
  ·have:=h.cr.gd
   rw [bF] at this
   exact this
theorem EZ (c:cn): (kW c).length≤31+c.b.length:=by
 have I:=gE c.aM.toNat
 have J:=gE c.pos.toNat
 have U:=gE c.b.length
 simp only [kW,bC,bl,bY]
 omega
theorem UU {pg:Int}{cV now:List Nat}{i:Nat}{l:List cn}(I:uU pg cV now i l): (l.flatMap kW).length≤32*(now.length-i):=by
 induction I with
 | done i h=>simp
 | skip i l h he I J=>omega
 | take i e l h1 h2 h3 h4 I J =>
  have:=EZ ⟨pg,i,false,(now.take e).drop i⟩
  have U:((now.take e).drop i).length=e-i:=by rw [nW,dP]; omega
  rw [q_,bC]
  simp only [U] at this
  omega
theorem UW {pg:Int}{cV now:List Nat}{c:List cn}(J:FI pg cV now c)(hn:now.length=512): (c.flatMap kW).length≤16384:=by
 obtain ⟨l,U,rfl⟩:=J
 have:=UU U
 by_cases I:l=[]
 ·rw [aj I]
  have:=EZ ⟨pg,0,false,[]⟩
  simp only [q_,List.flatMap_nil,bF]
  simp only [bY] at this
  omega
 ·rw [af I]; omega
theorem jx.enc {N:Nat}{now:List (Int×List Nat)}{l:List Int}{ε ε':aO}{e:Int}{cs:List cn}(J:jx now l ε e cs ε')(hn:NW N now): (cs.flatMap kW).length≤16384*l.length∧cs.length≤512*l.length:=by
 induction J with
 | nil ε=>simp
 | err n l ε e b ε' J he=>simp
 | part n l ε cV b ε' c e cs I J U j5 hc kg ht ih =>
  have:=UW hc (fy (hn.look U).1)
  rw [List.flatMap_append,bC,bC,bl]
  omega
 | whole n l ε cV b ε' e cs I J U j5 ht ih =>
  have:=EZ ⟨n,0,true,b⟩
  have u9:=fy (hn.look U).1
  rw [q_,bC,bl,bl]
  simp only at this
  omega
theorem UX {N:Nat}{now:List (Int×List Nat)}{ε ε':aO}{e:Int}{cs:List cn}{kd:Int}{tx:Nat}{data:List Nat}(J:jx now (aF now) ε e cs ε')(I:NW N now): (dB kd tx 0 0 data cs).length≤64+data.length+16384*N:=by
 have U:=gE tx
 have h2:=gE 0
 have h4:=gE data.length
 have h5:=gE cs.length
 have h6:=(J.enc I).1
 have hl:(aF now).length≤N:=by
  have:=I.len
  rw [aF,(eG _).length_eq,eu]; exact this
 simp only [dB,bC,bl,bY]
 omega
theorem uY.seven {N aK:Nat}{D:jh}{ε ε':aO}{ps ff:List (List Nat)}{e:Int}(ho:uY N D ε ps e ff aK ε')(hN:N≤12)(hd:D.data.length≤65536): (e=0∧((D.act=2∧ff=ps)∨(D.act≠2∧ff=nxW N D.w ps)))∨e=7:=by
 cases ho with
 | drop ε' ha hp hg=>exact .inl ⟨rfl,.inl ⟨ha,rfl⟩⟩
 | done Bl ε' aK ha hp hg hw hi hd=>exact .inl ⟨rfl,.inr ⟨ha,rfl⟩⟩
 | fail Bl ε' aK e ha hp hg hw hi hr he =>
  refine .inr (he.resolve_right fun h2 => ?_)
  subst h2
  obtain ⟨B,hB,hi⟩:=hi
  have J:∀n∈aF (nowW N D.w []),0≤n∧n<N:=fun n U=>hw.keys n (gh.1 U)
  generalize I:(2:Int)=e at hr
  generalize kg:false=cl at hr
  cases hr with
  | arg hh=>cases I
  | dead _ _ _ hd=>cases I
  | mD e c ε' _ _ _ _ hc he=>exact he (hc.ec hi.ec hi.ok J).2.2
  | app c MJ _ _ _ _ hc he =>
   have uq:=UX (kd:=rR D.cX) (tx:=Cf D.cX) (data:=D.data) hc hw
   rcases ju MJ.2 (rR D.cX) (Cf D.cX) 0 0 D.data c with ⟨e,_,sQ,U⟩ | ⟨_,hf,U⟩ | ⟨_,hb,yQ,jq,hf,U⟩
   ·rw [U] at I
    rcases sQ with ⟨rfl,_⟩ | ⟨_,hb⟩ | ⟨rfl,_⟩ | ⟨rfl,_⟩
    ·cases I
    ·omega
    ·cases I
    ·cases I
   ·rw [U] at I; cases I
   ·rw [U] at I; cases I
  | put c Bl e MJ _ _ _ _ hc ha hp=>cases kg
theorem kY.all {R:LD→Prop}(h:kY R): ∀ {l:List Int} {ε:aO},R ε.2→R (writeAllF l ε).2.2:=by
 intro l
 induction l with
 | nil=>intro ε I; exact I
 | cons n l U =>
  intro ε I
  have J:R (dJ ε n).2.2:=by
   unfold dJ
   split
   ·exact I
   ·exact h.out I
  rw [writeAllF]
  split
  ·exact J
  ·exact U J
section
variable {N M:Nat} {ε ε':aO} {x:LD}
end
theorem LR.sync {ba aC:Nat}{mk:List Nat}{rs:List bR}{x:LD}(h:LR ba aC mk rs x): LR ba aC mk rs (x.1,x.2.sync) :=
 ⟨h.base,h.b,h.bu,h.check,h.log,h.alive,h.aD,h.mark,h.dh,h.tail,fun w hw=>(by cases hw),h.rs⟩
theorem RS.clean {N B ba aC:Nat}{mk:List Nat}{rs:List bR}{B0:Int→List Nat}{g:Int→Option Nat}{ε:aO}(h:RS N ba aC mk rs B0 g ε)(I:EI N B ε): RS N ba aC mk rs B0 (fun _=>none) (er ε).2:=by
 refine ⟨?_,RI.US h.ri I.ec h.st,fun n h0 J=>by rw [(O8 I.ec).2.2 n h0]; exact h.st n h0 J,h.gd⟩
 have w1:=(nP I.ec (vA ε)).1
 have U:=(lD ba aC mk rs).all (l:=aF ε.1.aE) h.lr
 have e:cH (writeAllF (aF ε.1.aE) ε).2.1 (writeAllF (aF ε.1.aE) ε).2.2.2=(0,{ (writeAllF (aF ε.1.aE) ε).2.1 with aN:=(writeAllF (aF ε.1.aE) ε).2.1.aN.filter fun e=>e.2.2 },(writeAllF (aF ε.1.aE) ε).2.2.2.sync):=by
  have es:(writeAllF (aF ε.1.aE) ε).2.2.2.c7=(0,(writeAllF (aF ε.1.aE) ε).2.2.2.sync):=by
   have J:=U.alive
   have h2:=U.aD
   generalize (writeAllF (aF ε.1.aE) ε).2.2.2=δ at J h2
   rw [Dk.c7,af (by rw [J]; decide),af (by omega),fP h2]
  rw [cH,es,af (by simp)]
 rw [er,af (by rw [I.ec.dk.alive]; decide),af (by rw [w1]; decide),e]
 exact U.sync
theorem RR {a b:List Nat}(h:kj a b)(ha:dN a=0)(hb:dN b=0): j6 a=j6 b:=by
 have hz:bT (List.replicate 512 0)=false:=by decide +kernel
 have key:∀ {x y:List Nat},kj x y→x=List.replicate 512 0→dN y=0→y=List.replicate 512 0:=fun {x y} J hx hy=>by
  refine AB fun U => ?_
  have hg:=J.good
  rw [hx,hz] at hg
  rw [dN,af U,aj hg.symm] at hy
  cases hy
 by_cases I:a=List.replicate 512 0
 ·rw [I,key h I hb]
 ·have h2:b≠List.replicate 512 0:=fun q=>I (key h.symm q ha)
  rw [j6,j6,af (by rintro (q | q); exact q h.1; exact I q),af (by rintro (q | q); exact q h.2.1; exact h2 q),h.2.2]
theorem kZ.alk {N B J:Nat}{ε ε':aO}{ps:List (List Nat)}(h:kZ ε ps)(U:ps.length=N)(h1:EI N B ε)(h2:EI N J ε')(ha:∀n,0≤n→n<(N:Int)→kj (pgA ε' n) (pgA ε n)): kZ ε' ps:=fun n w I=>by
 have bV:n<N:=by rw [←U]; exact (List.getElem?_eq_some_iff.1 I).1
 rw [←h n w I]
 exact RR (ha n (by omega) (by omega)) (h2.ec.aC (by omega) (by omega)) (h1.ec.aC (by omega) (by omega))
theorem RT (π:Pl): ∀(l:List Int) (m:Nat),(∀n∈l,vM π l m≤cL π n 0)∧(vM π l m=m∨∃n∈l,vM π l m=cL π n 0):=by
 intro l
 induction l with
 | nil=>intro m; exact ⟨fun n I=>(by cases I),.inl rfl⟩
 | cons x l U =>
  intro m
  obtain ⟨h1,J⟩:=U (min m (cL π x 0))
  have h3:=ES π l (min m (cL π x 0))
  refine ⟨fun n I => ?_,?_⟩
  ·show vM π l (min m (cL π x 0))≤_
   rcases List.mem_cons.1 I with rfl | I
   ·omega
   ·exact h1 n I
  ·show vM π l (min m (cL π x 0))=m∨∃n∈x::l,vM π l (min m (cL π x 0))=cL π n 0
   rcases J with J | ⟨n,I,J⟩
   ·rcases Nat.le_total m (cL π x 0) with h4 | h4
    ·exact .inl (by omega)
    ·exact .inr ⟨x,br,by omega⟩
   ·exact .inr ⟨n,bp _ I,J⟩
theorem UY : ∀ {l:List bR} {a s:Nat},s∈gC a l→∃c1 r c2,l=c1++r::c2∧s=a+szB c1:=by
 intro l
 induction l with
 | nil=>intro a s h; simp [gC] at h
 | cons r l I =>
  intro a s h
  rcases List.mem_cons.1 h with rfl | h
  ·exact ⟨[],r,l,rfl,rfl⟩
  ·obtain ⟨c1,J,c2,e,hs⟩:=I h
   exact ⟨r::c1,J,c2,by rw [e]; rfl,by rw [hs,szB]; omega⟩
theorem UZ {μ:Lg}{ba:Nat}{c1 c2:List bR}(I:μ.base=ba)(hs:μ.bu=gC 0 (c1++c2)): vL μ (ba+szB c1)=gC 0 c2:=by
 have J:(gC 0 c1).filter (fun s=>decide (ba+szB c1≤ba+s))=[]:=List.filter_eq_nil_iff.2 fun s hs=>by
  have:=(vy.2 s hs).2
  simp only [dZ]
  omega
 have U:(gC (0+szB c1) c2).filter (fun s=>decide (ba+szB c1≤ba+s))=gC (0+szB c1) c2:=List.filter_eq_self.2 fun s hs=>by
  have:=(vy.2 s hs).1
  simp only [dZ]
  omega
 have h3:∀(l:List bR) (a b:Nat),(gC (a+b) l).map (fun s=>s-b)=gC a l:=by
  intro l
  induction l with
  | nil=>intro a b; rfl
  | cons r l ih =>
   intro a b
   simp only [gC,bI]
   rw [show a+b+r.len=(a+r.len)+b by omega,ih]
   congr 1; omega
 rw [vL,hs,I,x_,List.filter_append,J,U,cW,show ba+szB c1-ba=szB c1 by omega]
 exact h3 c2 0 (szB c1)
theorem BQ {u v rs:List bR}{rc:bR}(h:rs++[rc]=u++v)(I:szB rs<szB u): u=rs++[rc]:=by
 rcases tB v with rfl | ⟨v',z,rfl⟩
 ·rw [bF] at h; exact h.symm
 ·rw [List.concat_eq_append,←bH] at h
  have:=(m7 h rfl).1
  rw [this,fS] at I
  omega
section
variable {N ba:Nat} {B0:Int→List Nat} {c1 c2:List bR} {g:Int→Option Nat} {C:Int→List Nat→Prop} {d:List (Int×(Nat×Bool))} {x y:LD}
theorem RI.abj (h:RI ba oA B0 (c1++c2) g C d x)(I:∀n rec,g n=some rec→ba+szB c1≤rec)(hf:x.1.forced=szB (c1++c2))
 (m1:y.1.base=ba+szB c1)(m2:y.1.b=logB (ba+szB c1) c2)(m3:y.1.forced=szB c2)(e1:y.2.log=logB (ba+szB c1) c2)(e2:y.2.dead=x.2.dead)(e3:y.2.aD=x.2.aD)(e4:szB c2≤y.2.aJ)(e5:y.2.waiting=x.2.waiting)(e6:y.2.aq=x.2.aq)(e7:y.2.now=x.2.now):
  RI (ba+szB c1) oA (eA c1 B0) c2 g C d y:=by
 have eX:szB (c1++c2)=szB c1+szB c2:=fS
 have uA:∀n w,qQ y.2 n w→qQ x.2 n w:=fun n w J=>by
  unfold qQ imgOf at J ⊢
  rw [e5,e6] at J; exact J
 have sU:∀n,yC y.2 n→yC x.2 n:=fun n J=>by
  unfold yC at J ⊢
  rw [e6] at J; exact J
 have key:∀ {t t':List bR} {r:bR} {rec:Nat},c1++c2=t++r::t'→rec=ba+szB t→ba+szB c1≤rec→∃t2,t=c1++t2∧c2=t2++r::t':=fun {t t' r rec} U hr hl=>wU U (by omega)
 refine ⟨m1,m2,e1,by rw [e2]; exact h.alive,by rw [e3]; exact h.aD,⟨c2,[],by rw [bF],m3⟩,by rw [m3]; exact e4,fun n w t t' h0 U sJ hr hc => ?_,fun n rec hn => ?_,fun n hn wr qU => ?_,fun n b hb => ?_,fun n rec hn => ?_,h.ft,fun n b hb => ?_,h.sV,h.BN,fun n w h0 hc=>h.ck n w h0 (uA n w hc),fun n q=>q.elim⟩
 ·have:=h.mI n w (c1++t) t' (sU n h0) (by rw [U,bH]) (by rw [hf,eX,fS]; omega) (fun rec q=>by have:=hr rec q; rw [fS]; omega) (uA n w hc)
  rwa [ng] at this
 ·obtain ⟨t,r,t',h1,h2,h3⟩:=h.aN n rec hn
  obtain ⟨t2,rfl,h4⟩:=key h1 h2 (I n rec hn)
  exact ⟨t2,r,t',h4,by rw [h2,fS]; omega,h3⟩
 ·rw [e5] at qU; exact h.clean n hn wr qU
 ·obtain ⟨rec,t,r,t',q1,q2,q3,q4,q5⟩:=h.Aw n b hb
  obtain ⟨t2,rfl,h4⟩:=key q2 rfl (by have:=I n rec (h.sV n rec true q1); omega)
  rw [fS] at q3 q4 q5
  refine ⟨rec,t2,r,t',q1,h4,by omega,by omega,fun hp t1 r1 t3 U ki => ?_⟩
  have:=q5 hp (c1++t1) r1 t3 (by rw [U,bH]) ki
  rw [fS] at this; omega
 ·obtain ⟨q1,q2⟩:=h.flag n rec hn
  refine ⟨by omega,fun hp t r t' U ki => ?_⟩
  have:=q2 hp (c1++t) r t' (by rw [U,bH]) ki
  rw [fS] at this; omega
 ·rw [e7] at hb
  rw [e5]; exact h.now n b hb
end
theorem RS.ckG {N B ba aC XC eE lo:Nat}{mk:List Nat}{rs:List bR}{B0:Int→List Nat}{g:Int→Option Nat}{ε ε':aO}{data eo cP:List Nat}{e:Int}(h:RS N ba aC mk rs B0 g ε)(nt:EI N B ε)(hB:B≤1000)(Tc:1≤ba)
 (hr:Ii ε lo data eo XC e ε' cP eE): (e≠0∧cP=eo∧eE=XC∧RS N ba aC mk rs B0 g ε'∧ε'.2.1.forced=ε.2.1.forced) ∨
   (e=0∧cP=data∧∃b Td r1 B1,1≤b∧RS N b eE (eV b eE) Td B1 g ε'∧sK b eE data Td r1 ε'.2.1.forced g):=by
 obtain ⟨i1,i2,i3⟩:=nt.Rt hB hr
 have eX:=nt.el.size
 cases hr with
 | WW hb=>exact .inl ⟨by decide,rfl,rfl,h,rfl⟩
 | dead _ hd=>rw [nt.ec.dk.alive] at hd; cases hd
 | go e y cP eE yw hd hc =>
  have yy:RI ba oA B0 rs g (iu ε.1) ε.1.aN ε.2:=h.ri
  have hlen:(logB ba rs).length=szB rs:=gq
  have uq:ε.2.1.b.length=szB rs:=by rw [h.lr.b,hlen]
  have r9:=h.lr.base
  have uM:∃r1 r2,rs=r1++r2∧fZ ε=ba+szB r1∧∀n rec,g n=some rec→ba+szB r1≤rec:=by
   obtain ⟨l1,l2⟩:=RT ε.1 (aF ε.1.aN) (ε.2.1.base+ε.2.1.b.length)
   have mz:∀n rec,g n=some rec→fZ ε≤rec:=fun n rec hn=>by
    rcases yy.BN n rec hn with q | ⟨fl,q⟩
    ·exact q.elim
    ·have:=l1 n (gh.2 (by
      refine AB fun hq => ?_
      rw [fD.2 hq] at q; cases q))
     rw [cL,q] at this; exact this
   rcases l2 with l2 | ⟨n,hn,l2⟩
   ·have l2:fZ ε=ba+szB rs:=by rw [fZ,l2,r9,uq]
    exact ⟨rs,[],by rw [bF],l2,fun n rec q=>by rw [←l2]; exact mz n rec q⟩
   ·have l2:fZ ε=cL ε.1 n 0:=l2
    cases hq:lookL n ε.1.aN with
    | none=>exact absurd (gh.1 hn) (fD.1 hq)
    | some z =>
     obtain ⟨rec,fl⟩:=z
     obtain ⟨t,r,t',q1,q2,_⟩:=yy.aN n rec (yy.sV n rec fl hq)
     have l3:fZ ε=ba+szB t:=by rw [l2,cL,hq]; exact q2
     exact ⟨t,r::t',q1,l3,fun n rec q=>by rw [←l3]; exact mz n rec q⟩
  obtain ⟨r1,r2,ya,FL,mz⟩:=uM
  have abZ:szB r1≤szB rs:=by rw [ya]; exact sI
  have hw:=cR 8 (fZ ε)
  rcases ju ε.2 8 0 0 0 (le 8 (fZ ε)++data) [] with ⟨e1,H7,sQ,hq⟩ | ⟨_,hf,hq⟩ | ⟨_,hb,yQ,sJ,hf,hq⟩
  ·have hq:m4 ε data=((0,e1),ε.2):=hq
   cases hc with
   | app he=>rw [hq]; exact .inl ⟨H7,rfl,rfl,h,rfl⟩
   | force h0=>rw [hq] at h0; exact absurd h0 H7
   | check h0=>rw [hq] at h0; exact absurd h0 H7
   | cut t h0=>rw [hq] at h0; exact absurd h0 H7
   | cX h0=>rw [hq] at h0; exact absurd h0 H7
  ·have:=nt.ec.dk.aD; omega
  rw [fP nt.ec.dk.aD,r9,uq] at hq
  have wP:m4 ε data=((ba+szB rs,0),(ε.2.1.app (dy ε.2.1 8 0 0 0 (le 8 (fZ ε)++data) []),{ ε.2.2 with log:=ε.2.2.log++dy ε.2.1 8 0 0 0 (le 8 (fZ ε)++data) [] })):=hq
  have SF:(m4 ε data).1.2=0:=by rw [wP]
  obtain ⟨rc,rok,k1,k2,k3,k4,k5,k6,k7,IM,k8,k9⟩:=h.lr.app (kd:=8) (tx:=0) (data:=le 8 (fZ ε)++data) (c:=[]) (by decide) (by decide) (by decide) SF
  have IM:LR ba aC mk (rs++[rc]) (m4 ε data).2:=IM
  have E7:∀n,¬u7 rc n:=fun n ⟨c,hc,_⟩=>by rw [k6] at hc; cases hc
  have abk:RI ba oA B0 (rs++[rc]) g (iu ε.1) ε.1.aN (m4 ε data).2:=by
   have:=yy.app (r:=rc) (fun n _ hq=>absurd hq (E7 n)) (μ:=(m4 ε data).2.1) (δ:=(m4 ε data).2.2) (by rw [wP]; rfl) IM.b (by rw [wP]; rfl) IM.log (by rw [wP]) (by rw [wP]) (by rw [wP]) (by rw [wP]) (by rw [wP]) (by rw [wP]) (p:=fun _=>False) (fun n=>⟨False.elim,E7 n⟩)
   refine Eq.mp (congrArg (fun g'=>RI ba oA B0 (rs++[rc]) g' (iu ε.1) ε.1.aN (m4 ε data).2) (funext fun n => ?_)) this
   cases g n with
   | none=>exact af id
   | some r=>rfl
  have hl8:=si rc
  have yO:szB (rs++[rc])=szB rs+rc.len:=by rw [fS]; simp [szB]
  have n1:(m4 ε data).1.1=ba+szB rs:=by rw [wP]
  obtain ⟨U,ji,J,Dz,w1,w2,w3⟩:=abk.force (ba+szB rs) (by omega)
  have hF:lR (m4 ε data)=(0,U):=by rw [lR,n1]; exact ji
  have I:LR ba aC mk (rs++[rc]) U:=by
   have:=(lD ba aC mk (rs++[rc])).force _ (ba+szB rs) IM
   rw [ji] at this; exact this
  obtain ⟨u,v,hu,O5⟩:=J.forced
  have XD:u=rs++[rc]:=BQ hu (by omega)
  have qF:U.1.forced=szB (rs++[rc]):=by rw [O5,XD]
  have pR:=I.base
  have YX:=J.cert
  have YY:U.1.b.length=szB (rs++[rc]):=by rw [I.b,gq]
  have Iv:∀c n,({ U.1 with check:=c }:Lg).hasB n=true↔∃s∈gC 0 (rs++[rc]),ba+s=n:=fun c n=>by
   rw [Lg.hasB,←I.bu]
   show ((U.1.bu.any fun s=>decide (U.1.base+s=n))=true)↔_
   rw [pR,rf]
   simp
  have Bi:∃s∈gC 0 (rs++[rc]),ba+s=ba+szB rs:=⟨szB rs,by rw [x_]; simp [gC],rfl⟩
  have hm:U.2.qG (eV ba (ba+szB rs))=(0,{ U.2 with mark:=eV ba (ba+szB rs) }):=by
   rw [Dk.qG,af (by rw [I.alive]; decide),af (by rw [nH]; decide),af (by have:=I.aD; omega),fP I.aD]
  have hC:gG (m4 ε data)=(0,({ U.1 with check:=ba+szB rs },{ U.2 with mark:=eV ba (ba+szB rs) })):=by
   rw [gG,hF,n1,jd,af (not_not_intro ⟨(Iv U.1.check _).2 Bi,by rw [pR]; exact Dz⟩),pR,hm,af (by simp)]
  have LX:∀n,eA (rs++[rc]) B0 n=eA rs B0 n:=fun n=>by rw [ng]; simp only [eA,D7,List.foldl_nil,k6,iM]
  have nq:BP (rs++[rc]) B0:=h.gd.app (fun c hc=>by rw [k6] at hc; cases hc) (fun n hn=>absurd hn (E7 n))
  have abl:sK ba (ba+szB rs) data (rs++[rc]) r1 (szB (rs++[rc])) g:=by
   refine ⟨mz,.inr ⟨r2,rc,[],by rw [ya],by rw [ya],by omega,k1,?_,?_,?_,by rw [←ya,yO]; exact aI _⟩⟩
   ·rw [k5,bC,cR]; omega
   ·rw [k5,nX (cR 8 _)]
   ·rw [k5,jX (cR 8 _),qL,FL,gJ (by show ba+szB r1<18446744073709551616; omega)]; omega
  cases hc with
  | app he=>exact absurd SF he
  | force _ he=>rw [hF] at he; exact absurd rfl he
  | check _ _ he=>rw [hC] at he; exact absurd rfl he
  | cX _ _ _ hx =>
   rw [hC] at i2
   refine .inr ⟨rfl,rfl,?_⟩
   rw [hC,n1]
   refine ⟨ba,rs++[rc],r1,B0,Tc,⟨⟨pR,I.b,I.bu,rfl,I.log,I.alive,I.aD,rfl,I.dh,I.tail,I.wait,I.rs⟩,?_,fun n h0 h1 => ?_,nq⟩,by show sK _ _ _ _ _ U.1.forced _; rw [qF]; exact abl⟩
   ·exact ⟨J.base,J.b,J.log,J.alive,J.aD,J.forced,J.cert,J.mI,J.aN,J.clean,J.Aw,J.flag,J.ft,J.now,J.sV,J.BN,J.ck,J.K4⟩
   ·rw [i2,LX]; exact h.st n h0 h1
  | cut t _ _ _ ht MM hx =>
   rw [hC] at ht MM
   have hkl:uX ε lo≤fZ ε:=by unfold uX; split <;> omega
   have MM:U.1.base<t:=MM
   have Wu:∃s∈gC 0 (rs++[rc]),ba+s=t∧ba+s≤fZ ε:=by
    rcases ht with ⟨h1,h2⟩ | ⟨h1,h2⟩ | h1
    ·have h2:U.1.base+U.1.b.length≤uX ε lo:=h2
     omega
    ·obtain ⟨s,q1,q2⟩:=(Iv _ _).1 h1
     exact ⟨s,q1,q2,by omega⟩
    ·have h1:t=U.1.base:=h1
     omega
   obtain ⟨s,hs,rfl,lK⟩:=Wu
   obtain ⟨c1,rr,c2',yt,rfl⟩:=UY hs
   rw [dV] at *
   obtain ⟨w,yS,sE⟩:∃w,r1=c1++w∧rr::c2'=w++(r2++[rc]):=wU (by rw [←yt,ya,bH]) (by omega)
   generalize sQ:rr::c2'=c2 at yt sE
   have acJ:szB (c1++c2)=szB c1+szB c2:=fS
   have jD:(logB ba (c1++c2)).drop (szB c1)=logB (ba+szB c1) c2:=by rw [u6,nX gq]
   rw [yt] at qF YY J I nq
   have EX:ir (gG (m4 ε data)).2 (ba+szB c1)=(0,(({ U.1 with check:=ba+szB rs }:Lg).cut (ba+szB c1),{ U.2 with log:=U.2.log.drop (szB c1),aJ:=U.2.aJ-szB c1,mark:=eV (ba+szB c1) (ba+szB rs) })):=by
    have e1:({ U.2 with mark:=eV ba (ba+szB rs) }:Dk).nI ((ba+szB c1-U.1.base:Nat):Int) (eV (ba+szB c1) (ba+szB rs))=(0,{ U.2 with log:=U.2.log.drop (szB c1),aJ:=U.2.aJ-szB c1,mark:=eV (ba+szB c1) (ba+szB rs) }):=by
     have hz:((ba+szB c1-U.1.base:Nat):Int)=((szB c1:Nat):Int):=by omega
     have Ds:({ U.2 with mark:=eV ba (ba+szB rs) }:Dk).c9={ U.2 with mark:=eV ba (ba+szB rs) }:=fP I.aD
     rw [hz,Dk.nI,af (by show ¬U.2.dead=true; rw [I.alive]; decide),af (not_not_intro ⟨by omega,by show ((szB c1:Nat):Int)≤(U.2.aJ:Int); omega,by rw [nH]; decide⟩),af (by show ¬U.2.aD=0; have:=I.aD; omega),Ds,cQ]
    rw [hC,ir,af,e1,af (by simp)]
    rintro (⟨_,q⟩ | q | ⟨_,q⟩)
    ·have:=(Iv (ba+szB rs) (ba+szB c1)).2 ⟨szB c1,hs,rfl⟩
     rw [this] at q; cases q
    ·have q:U.1.base+U.1.forced<ba+szB c1:=q
     omega
    ·have q:ba+szB rs<ba+szB c1:=q
     omega
   rw [EX] at i2
   refine .inr ⟨by rw [EX],rfl,?_⟩
   rw [EX,n1]
   have abm:∀n,eA c2 (eA c1 B0) n=eA rs B0 n:=fun n=>by rw [←ng,←yt,LX]
   refine ⟨ba+szB c1,c2,w,eA c1 B0,by omega,⟨⟨rfl,?_,UZ pR I.bu,rfl,?_,I.alive,I.aD,rfl,I.dh,I.tail,I.wait,fun r hr=>I.rs r (vR _ hr)⟩,?_,fun n h0 h1 => ?_,⟨Pu (fun r hr=>h.gd.lt r ?_) h.gd.Ta,fun r hr=>nq.lt r (vR _ hr),fun t t' n ht ⟨r,hr,hq⟩ => ?_⟩⟩,?_⟩
   ·show U.1.b.drop (ba+szB c1-U.1.base)=_
    rw [I.b,pR,DQ,jD]
   ·show U.2.log.drop (szB c1)=_
    rw [I.log,jD]
   ·refine RI.abj J (fun n rec q=>by have:=mz n rec q; rw [yS,fS] at this; omega) qF rfl ?_ ?_ ?_ rfl rfl ?_ rfl rfl rfl
    ·show U.1.b.drop (ba+szB c1-U.1.base)=_
     rw [I.b,pR,DQ,jD]
    ·show U.1.forced-(ba+szB c1-U.1.base)=szB c2
     omega
    ·show U.2.log.drop (szB c1)=_
     rw [I.log,jD]
    ·show szB c2≤U.2.aJ-szB c1
     omega
   ·rw [i2,abm]; exact h.st n h0 h1
   ·rw [ya,yS]; exact AE _ (AE _ hr)
   ·rw [←ng]
    exact nq.gd (c1++t) t' n (by rw [ht,bH]) ⟨r,vR _ hr,hq⟩
   ·have hF2:(({ U.1 with check:=ba+szB rs }:Lg).cut (ba+szB c1)).forced=szB c2:=by
     show U.1.forced-(ba+szB c1-U.1.base)=szB c2
     omega
    show sK _ _ _ _ _ (({ U.1 with check:=ba+szB rs }:Lg).cut (ba+szB c1)).forced _
    rw [hF2]
    refine ⟨fun n rec q=>by have:=mz n rec q; rw [yS,fS] at this; omega,.inr ⟨r2,rc,[],by rw [sE,bH],?_,by omega,k1,?_,?_,?_,?_⟩⟩
    ·rw [ya,yS]; simp only [fS]; omega
    ·rw [k5,bC,cR]; omega
    ·rw [k5,nX (cR 8 _)]
    ·rw [k5,jX (cR 8 _),qL,FL,gJ (by show ba+szB r1<18446744073709551616; omega),yS,fS]; omega
    ·rw [sE]; simp only [fS,szB]; omega
def Dk.live (δ:Dk): Dk:={ δ with aD := -1 }
def iS (x:LD): LD:=(x.1,x.2.live)
def dO (ε:aO): aO:=(ε.1,iS ε.2)
structure XE (δ Gb:Dk)(tn:Option Wr): Prop where
 log:Gb.log=δ.log
 cert:Gb.aJ=δ.aJ
 wait:Gb.waiting=δ.waiting
 aq:Gb.aq=δ.aq
 mark:Gb.mark=δ.mark
 dh:Gb.dh=tn
 tail:Gb.tail=δ.tail
theorem IN {x:LD}{n:Nat}(I:x.2.dead=false): aT x n=(9,(x.1,x.2.die)) ∨
  ((aT x n).1=(aT (iS x) n).1∧(aT x n).2.2.dead=false∧iS (aT x n).2=(aT (iS x) n).2):=by
 have hl:(iS x).2.cg=(0,{ x.2.live with aJ:=x.2.log.length }):=by
  rw [Dk.cg,af (by show ¬x.2.dead=true; rw [I]; decide),af (by show ¬(-1:Int)=0; decide)]; rfl
 by_cases J:n<x.1.base+x.1.forced
 ·have U:aT x n=(0,x):=by rw [aT,aj J]
  have e2:aT (iS x) n=(0,iS x):=by rw [aT,aj (show n<(iS x).1.base+(iS x).1.forced from J)]
  rw [U,e2]; exact .inr ⟨rfl,I,rfl⟩
 ·have e2:aT (iS x) n=(0,({ x.1 with forced:=x.1.b.length },{ x.2.live with aJ:=x.2.log.length })):=by
   rw [aT,af (show ¬n<(iS x).1.base+(iS x).1.forced from J),hl,af (by simp)]; rfl
  by_cases hf:x.2.aD=0
  ·left
   have:x.2.cg=(9,x.2.die):=by rw [Dk.cg,af (by rw [I]; decide),aj hf]
   rw [aT,af J,this,aj (by simp)]
  ·right
   have:x.2.cg=(0,{ x.2.c9 with aJ:=x.2.log.length }):=by rw [Dk.cg,af (by rw [I]; decide),af hf]
   have U:aT x n=(0,({ x.1 with forced:=x.1.b.length },{ x.2.c9 with aJ:=x.2.log.length })):=by rw [aT,af J,this,af (by simp)]
   rw [U,e2]; exact ⟨rfl,I,rfl⟩
theorem JT {δ:Dk}{n:Int}{b:List Nat}(I:δ.dead=false): δ.bk n b=(9,{ δ.die with dh:=some (n.toNat,b) }) ∨
  ((δ.bk n b).1=(δ.live.bk n b).1∧(δ.bk n b).2.dead=false∧(δ.bk n b).2.live=(δ.live.bk n b).2):=by
 by_cases J:¬(0≤n∧n<δ.aq.length∧b.length=512)
 ·have U:δ.bk n b=(1,δ):=by rw [Dk.bk,af (by rw [I]; decide),aj J]
  have e2:δ.live.bk n b=(1,δ.live):=by rw [Dk.bk,af (by show ¬δ.dead=true; rw [I]; decide),aj (show ¬(0≤n∧n<δ.live.aq.length∧b.length=512) from J)]
  rw [U,e2]; exact .inr ⟨rfl,I,rfl⟩
 ·have e2:δ.live.bk n b=(0,δ.live.wr n b):=by rw [Dk.bk,af (by show ¬δ.dead=true; rw [I]; decide),af (show ¬¬(0≤n∧n<δ.live.aq.length∧b.length=512) from J),af (by show ¬(-1:Int)=0; decide)]
  by_cases hf:δ.aD=0
  ·exact .inl (by rw [Dk.bk,af (by rw [I]; decide),af J,aj hf])
  ·have U:δ.bk n b=(0,δ.wr n b):=by rw [Dk.bk,af (by rw [I]; decide),af J,af hf]
   rw [U,e2]; exact .inr ⟨rfl,I,rfl⟩
theorem PA {ε:aO}{i:Nat}(ha:ε.2.2.dead=false):
  ((outF ε i).1=(outF (dO ε) i).1∧(outF ε i).2.2.2.dead=false∧dO (outF ε i).2=(outF (dO ε) i).2) ∨
  (∃f,ε.1.ak[i]?=some f∧0≤f.aM∧f.changed=true∧(outF ε i).1=9∧(outF ε i).2.2.2.dead=true∧(XE ε.2.2.live (outF ε i).2.2.2 ε.2.2.dh∨XE (aT (iS ε.2) (dY f.b 4 8)).2.2 (outF ε i).2.2.2 (some (f.aM.toNat,f.b)))):=by
 unfold outF
 show _∨_
 have Va:(dO ε).1=ε.1:=rfl
 rw [Va]
 cases hf:ε.1.ak[i]? with
 | none=>exact .inl ⟨rfl,ha,rfl⟩
 | some f =>
  simp only
  by_cases I:f.aM<0∨f.changed=false
  ·rw [aj I,aj I]; exact .inl ⟨rfl,ha,rfl⟩
  ·rw [af I,af I]
   by_cases hg:bT f.b=false
   ·rw [aj hg,aj hg]; exact .inl ⟨rfl,ha,rfl⟩
   ·rw [af hg,af hg]
    have J:0≤f.aM:=by omega
    have U:f.changed=true:=by cases hq:f.changed <;> simp [hq] at I ⊢
    have kx:(dO ε).2=iS ε.2:=rfl
    rw [kx]
    rcases IN (n:=dY f.b 4 8) ha with h1 | ⟨h1,h2,h3⟩
    ·rw [h1,aj (by simp)]
     exact .inr ⟨f,rfl,J,U,rfl,rfl,.inl ⟨rfl,rfl,rfl,rfl,rfl,rfl,rfl⟩⟩
    ·rw [←h1]
     by_cases hz:(aT ε.2 (dY f.b 4 8)).1≠0
     ·rw [aj hz,aj hz]
      exact .inl ⟨rfl,h2,by rw [←h3]; rfl⟩
     ·rw [af hz,af hz,←h3]
      rcases JT (n:=f.aM) (b:=f.b) h2 with w1 | ⟨w1,w2,w3⟩
      ·rw [w1,aj (by simp)]
       refine .inr ⟨f,rfl,J,U,rfl,rfl,.inr ?_⟩
       rw [←h3]
       exact ⟨rfl,rfl,rfl,rfl,rfl,rfl,rfl⟩
      ·have w3:(((aT ε.2 (dY f.b 4 8)).2.2.bk f.aM f.b).2).live=((iS (aT ε.2 (dY f.b 4 8)).2).2.bk f.aM f.b).2:=w3
       have w1:((aT ε.2 (dY f.b 4 8)).2.2.bk f.aM f.b).1=((iS (aT ε.2 (dY f.b 4 8)).2).2.bk f.aM f.b).1:=w1
       rw [←w1,←w3]
       by_cases hy:((aT ε.2 (dY f.b 4 8)).2.2.bk f.aM f.b).1≠0
       ·rw [aj hy,aj hy]; exact .inl ⟨rfl,w2,rfl⟩
       ·rw [af hy,af hy]; exact .inl ⟨rfl,w2,rfl⟩
structure BR (N ba aC:Nat)(mk:List Nat)(rs:List bR)(B0:Int→List Nat)(g:Int→Option Nat)(F:Nat)(δ:Dk): Prop where
 ex:∃C d x tn,RI ba oA B0 rs g C d x∧LR ba aC mk rs x∧F≤x.1.forced∧x.2.aq.length=N∧XE x.2 δ tn∧∀w,tn=some w→w.1<N∧w.2.length=512∧∃rec,g w.1=some rec∧rec<ba+x.1.forced
section
variable {N ba aC:Nat} {mk data:List Nat} {rs r1:List bR} {B0:Int→List Nat} {g:Int→Option Nat} {ε:aO}
theorem MN {x:LD}{n:Nat}(h:x.1.forced≤x.1.b.length): x.1.forced≤(aT x n).2.1.forced:=by
 unfold aT
 split
 ·exact aI _
 ·split
  ·exact aI _
  ·exact h
theorem kC (F:Nat): kY fun x=>F≤x.1.forced∧x.1.forced≤x.1.b.length:=by
 refine ⟨fun x n h => ?_,fun x n b h=>h⟩
 unfold aT
 split
 ·exact h
 ·split
  ·exact h
  ·exact ⟨cy h.1 h.2,aI _⟩
theorem U0 {i:Nat}{f:Fm}(I:vw (RI ba oA B0 rs g) (dO ε))(hl:LR ba aC mk rs (iS ε.2))(he:EC N (dO ε))(ha:ε.2.2.dead=false):
  ((outF ε i).1=(outF (dO ε) i).1∧(outF ε i).2.2.2.dead=false∧dO (outF ε i).2=(outF (dO ε) i).2)∨((outF ε i).1=9∧(outF ε i).2.2.2.dead=true∧BR N ba aC mk rs B0 g ε.2.1.forced (outF ε i).2.2.2):=by
 have I:=jT.1 I
 have I:RI ba oA B0 rs g (iu ε.1) ε.1.aN (iS ε.2):=I
 have htn:ε.2.2.dh=none:=hl.dh
 rcases PA (i:=i) ha with h | ⟨f,hf,h0,hc,h1,h1d,J⟩
 ·exact .inl h
 ·refine .inr ⟨h1,h1d,?_⟩
  have hN:(iS ε.2).2.aq.length=N:=he.dk.aq
  rcases J with J | J
  ·rw [htn] at J
   exact ⟨_,_,iS ε.2,none,I,hl,aI _,hN,J,fun w hw=>(by cases hw)⟩
  ·obtain ⟨rec,t0,r0,Xv,g1,g2,g3,g4,g5⟩:=I.Aw f.aM f.b ⟨i,f,hf,rfl,h0,hc,rfl⟩
   have U:=(he.back i f hf).resolve_left (by omega)
   obtain ⟨x',ji,h',bV,w1,w2,w3⟩:=I.force (dY f.b 4 8) (by rw [g3,g2]; have:=wT (t:=t0) (r:=r0) (t':=Xv); omega)
   have hlr:=(lD ba aC mk rs).force _ (dY f.b 4 8) hl
   have hle:=MN (x:=iS ε.2) (n:=dY f.b 4 8) (by rw [I.len]; exact I.le)
   rw [ji] at J hlr hle
   refine ⟨_,_,x',_,h',hlr,hle,by rw [w2]; exact hN,J,fun w hw => ?_⟩
   have hw:=bx hw
   subst hw
   have MM:=U.lt
   refine ⟨by show f.aM.toNat<N; omega,fy (U.mD hc),rec,?_,by omega⟩
   show g ((f.aM.toNat:Nat):Int)=some rec
   rw [Int.toNat_of_nonneg h0]
   exact I.sV _ _ _ g1
theorem IP : ∀ {l:List Int} {ε:aO},(∀n∈l,(lookL n ε.1.aE).isSome=true)→vw (RI ba oA B0 rs g) (dO ε)→LR ba aC mk rs (iS ε.2)→EC N (dO ε)→ε.2.2.dead=false→∀ {F:Nat},F≤ε.2.1.forced →
  ((writeAllF l ε).1=0∧(writeAllF l ε).2.2.2.dead=false∧dO (writeAllF l ε).2=(writeAllF l (dO ε)).2)∨((writeAllF l ε).1≠0∧(writeAllF l ε).2.2.2.dead=true∧BR N ba aC mk rs B0 g F (writeAllF l ε).2.2.2):=by
 intro l
 induction l with
 | nil=>intro ε _ _ _ _ U F _; exact .inl ⟨rfl,U,rfl⟩
 | cons n l ih =>
  intro ε hk J hl he U F hF
  obtain ⟨i,hi⟩:=Option.isSome_iff_exists.1 (hk n br)
  obtain ⟨h0,j,f,rfl,hf,hp⟩:=he.jR n i hi
  have e1:dJ ε n=outF ε j:=by rw [dJ,hi]; rfl
  have e2:dJ (dO ε) n=outF (dO ε) j:=by
   rw [dJ,show lookL n (dO ε).1.aE=some (j:Int) from hi]; rfl
  obtain ⟨o1,o2,o3,o4,_⟩:=he.out hf
  rcases U0 (f:=f) (i:=j) J hl he U with ⟨q1,q2,I⟩ | ⟨q1,q1d,q2⟩
  ·have hz:¬(outF ε j).1≠0:=by rw [q1,o1]; simp
   rw [writeAllF,e1,af hz,writeAllF,e2,af (by rw [o1]; simp),←I]
   have hw:(outF ε j).2.1.aE=ε.1.aE:=by
    have:=iZ (fun x:aO=>x.1.aE) I
    exact this.trans o4
   have oz:vw (RI ba oA B0 rs g) (dO (outF ε j).2):=by rw [I]; exact (RI.oD N).out he hf J
   have kx:LR ba aC mk rs (iS (outF ε j).2.2):=by
    have:=(lD ba aC mk rs).out (ε:=dO ε) (i:=j) hl
    rw [←I] at this; exact this
   have hle:ε.2.1.forced≤(outF ε j).2.2.1.forced:=by
    have h5:=(kC ε.2.1.forced).out (ε:=dO ε) (i:=j) ⟨aI _,by have:=(jT.1 J).len; have h6:=(jT.1 J).le; rw [this]; exact h6⟩
    rw [←I] at h5; exact h5.1
   exact ih (fun m hm=>by rw [hw]; exact hk m (bp _ hm)) oz kx (by rw [I]; exact o2) q2 (cy hF hle)
  ·right
   have hd:BR N ba aC mk rs B0 g F (outF ε j).2.2.2:=by
    obtain ⟨C,d,x,tn,k1,k2,k3,k4⟩:=q2.ex
    exact ⟨C,d,x,tn,k1,k2,cy hF k3,k4⟩
   have q9:(outF ε j).1≠0:=by rw [q1]; decide
   rw [writeAllF,e1,aj q9]
   exact ⟨q9,q1d,hd⟩
theorem BR.cr {F:Nat}{δ:Dk}(h:BR N ba aC mk rs B0 g F δ)(nq:BP rs B0)(hc:sK ba aC data rs r1 F g)(kg:δ.aJ≤δ.log.length):
  ∃u v r2,rs=u++v∧F≤szB u∧MD ba aC u data r1 r2∧IK ba B0 u v r1 r2 δ:=by
 obtain ⟨C,d,x,tn,hv,hl,hF,hN,U,ht⟩:=h.ex
 obtain ⟨u,v,hu,hf⟩:=hv.forced
 obtain ⟨r2,DF⟩:=hc.at hu (by rw [←hf]; exact hF)
 have sU:∀ {t t' a b:List bR} {r:bR} {rec n},u++t++t'=a++r::b→rec=ba+szB a→g n=some rec→szB a<szB (u++t)→r∈r2++t:=fun {t t' a b r rec n} k1 k2 I eX=>by
  have uM:=hc.low n rec I
  obtain ⟨w1,e1,e2⟩:=wU (a:=a) (b:=r::b) (u:=u++t) (v:=t') k1.symm (AO eX)
  cases w1 with
  | nil=>rw [bF] at e1; rw [e1] at eX; omega
  | cons y w1 =>
   injection e2 with e2 e3
   subst e2
   obtain ⟨w2,e4,e5⟩:=wU (a:=r1) (b:=r2++t) (u:=a) (v:=r::w1) (by rw [←e1,DF.1,bH]) (by omega)
   rw [e5]; simp
 refine ⟨u,v,r2,hu,by rw [←hf]; exact hF,DF,DF.1,by rw [←hu]; exact hl.rs,⟨[],by rw [U.tail,hl.tail,U.log,hl.log,hu],.inl (by decide)⟩,by rw [←hf,U.cert]; exact hv.cert,kg,by rw [←hu]; exact nq,fun n w t t' h0 ht' hw J => ?_,fun w hq => ?_⟩
 ·have h0:yC x.2 n:=by unfold yC at h0 ⊢; rw [←U.aq]; exact h0
  have J:qQ x.2 n w:=by unfold qQ imgOf at J ⊢; rw [U.aq,U.wait] at J; exact J
  refine ⟨hv.mI n w (u++t) t' h0 (by rw [hu,ht',bH]) (by rw [hf]; exact sI) (fun rec I => ?_) J,hv.ck n w h0.1 J⟩
  refine AB fun bV => ?_
  obtain ⟨a,r,b,k1,k2,k3⟩:=hv.aN n rec I
  exact hw ⟨r,sU (t:=t) (t':=t') (by rw [←k1,hu,ht',bH]) k2 I (by omega),k3⟩
 ·obtain ⟨_,_,rec,q1,q2⟩:=ht w (by rw [←U.dh]; exact hq)
  obtain ⟨a,r,b,k1,k2,k3⟩:=hv.aN w.1 rec q1
  have:=sU (t:=[]) (t':=v) (by rw [bF,←hu]; exact k1) k2 q1 (by rw [bF]; omega)
  rw [bF] at this
  exact ⟨r,this,k3⟩
theorem EI.dO {B:Nat}(h:EI N B ε): EI N B (Am.dO ε):=by
 have k:=h.ok.ok.dk
 refine ⟨⟨⟨h.ok.ok.pl,h.ok.ok.lg,⟨by show (-1:Int)<4294967296; decide,k.len,k.room,k.now,k.aq,k.aJ,k.many⟩⟩,h.ok.pins,h.ok.full⟩,⟨⟨h.ec.dk.alive,by show (-1:Int)<0; decide,h.ec.dk.aq,h.ec.dk.keys,h.ec.dk.nodup,h.ec.dk.good⟩,h.ec.nodup,h.ec.jR,fun i f I => ?_,h.ec.oC,h.ec.yA⟩,⟨h.el.log,h.el.cert,h.el.size⟩,h.cm⟩
 rcases h.ec.back i f I with q | q
 ·exact .inl q
 ·exact .inr ⟨q.lt,q.here,q.aC,q.same,q.mD⟩
theorem RS.dO (h:RS N ba aC mk rs B0 g ε): RS N ba aC mk rs B0 g (Am.dO ε):=by
 have q:=jT.1 h.ri
 have l:=h.lr
 exact ⟨⟨l.base,l.b,l.bu,l.check,l.log,l.alive,by show (-1:Int)<0; decide,l.mark,l.dh,l.tail,l.wait,l.rs⟩,
  ⟨q.base,q.b,q.log,q.alive,by show (-1:Int)<0; decide,q.forced,q.cert,q.mI,q.aN,q.clean,q.Aw,q.flag,q.ft,q.now,q.sV,q.BN,q.ck,q.K4⟩,h.st,h.gd⟩
theorem RS.DH {B:Nat}(h:RS N ba aC mk rs B0 g ε)(nt:EI N B ε)(k:Int)(w:Int×aO)(hw:w=writeAllF (aF ε.1.aE) (ε.1,(ε.2.1,{ ε.2.2 with aD:=k }))):
  ∃g',(∀n rec,g' n=some rec→g n=some rec)∧BR N ba aC mk rs B0 g' ε.2.1.forced (cH w.2.1 w.2.2.2).2.2∧(w.1≠0→w.2.2.2.dead=true):=by
 have hE:=nt.dO
 have hR:=h.dO
 have hk:=vA ε
 have key:=IP (l:=aF ε.1.aE) (ε:=(ε.1,(ε.2.1,{ ε.2.2 with aD:=k }))) (N:=N) hk hR.ri hR.lr hE.ec h.lr.alive (aI _)
 rw [←hw] at key
 rcases key with ⟨q1,q2,J⟩ | ⟨q1,yQ,q2⟩
 ·have J:Am.dO w.2=(writeAllF (aF ε.1.aE) (Am.dO ε)).2:=J
  obtain ⟨w1,w2,w3⟩:=nP hE.ec hk
  have yy:=(vN (RI.oD N) hE.ec hk hR.ri).1
  have U:=(lD ba aC mk rs).all (l:=aF ε.1.aE) hR.lr
  have qF:=((kC ε.2.1.forced).all (l:=aF ε.1.aE) (ε:=Am.dO ε) ⟨aI _,by have q:=jT.1 hR.ri; have h6:=q.len; have h7:=q.le; rw [h6]; exact h7⟩).1
  have kg:=hR.clean hE
  have ecl:(er (Am.dO ε)).2.2=((writeAllF (aF ε.1.aE) (Am.dO ε)).2.2.1,(writeAllF (aF ε.1.aE) (Am.dO ε)).2.2.2.sync):=by
   have hs:(writeAllF (aF ε.1.aE) (Am.dO ε)).2.2.2.c7=(0,(writeAllF (aF ε.1.aE) (Am.dO ε)).2.2.2.sync):=by
    rw [Dk.c7,af (by rw [w2.dk.alive]; decide),af (by have:=w2.dk.aD; omega),fP w2.dk.aD]
   have hkk:aF (Am.dO ε).1.aE=aF ε.1.aE:=rfl
   rw [er,af (by rw [hE.ec.dk.alive]; decide),hkk,af (by rw [w1]; decide),cH,hs,af (by simp)]
  generalize (writeAllF (aF ε.1.aE) (Am.dO ε)).2=I at J yy U qF ecl w2
  have f1:w.2.2.2.log=I.2.2.log:=(show (Am.dO w.2).2.2.log=I.2.2.log by rw [J])
  have f2:w.2.2.2.aJ=I.2.2.aJ:=(show (Am.dO w.2).2.2.aJ=I.2.2.aJ by rw [J])
  have f3:w.2.2.2.waiting=I.2.2.waiting:=(show (Am.dO w.2).2.2.waiting=I.2.2.waiting by rw [J])
  have f4:w.2.2.2.aq=I.2.2.aq:=(show (Am.dO w.2).2.2.aq=I.2.2.aq by rw [J])
  have f5:w.2.2.2.mark=I.2.2.mark:=(show (Am.dO w.2).2.2.mark=I.2.2.mark by rw [J])
  have f6:w.2.2.2.dh=I.2.2.dh:=(show (Am.dO w.2).2.2.dh=I.2.2.dh by rw [J])
  have f7:w.2.2.2.tail=I.2.2.tail:=(show (Am.dO w.2).2.2.tail=I.2.2.tail by rw [J])
  have f8:w.2.2.2.now=I.2.2.now:=(show (Am.dO w.2).2.2.now=I.2.2.now by rw [J])
  by_cases hf:w.2.2.2.aD=0
  ·have es:w.2.2.2.c7=(9,w.2.2.2.die):=by rw [Dk.c7,af (by rw [q2]; decide),aj hf]
   rw [cH,es,aj (by simp)]
   exact ⟨g,fun _ _ q=>q,⟨_,_,I.2,none,jT.1 yy,U,qF,w2.dk.aq,⟨f1,f2,f3,f4,f5,f6.trans U.dh,f7⟩,fun w hw=>(by cases hw)⟩,fun q=>absurd q1 q⟩
  ·have es:w.2.2.2.c7=(0,w.2.2.2.c9.sync):=by rw [Dk.c7,af (by rw [q2]; decide),af hf]
   rw [cH,es,af (by simp)]
   have c1:=jT.1 kg.ri
   have c2:=kg.lr
   rw [ecl] at c1 c2
   refine ⟨fun _=>none,fun n rec q=>(by cases q),⟨_,_,(I.2.1,I.2.2.sync),none,c1,c2,qF,?_,⟨f1,f2,rfl,?_,f5,f6.trans U.dh,f7⟩,fun w hw=>(by cases hw)⟩,fun q=>absurd q1 q⟩
   ·show (laidP I.2.2.now I.2.2.aq).length=N
    rw [mO]; exact w2.dk.aq
   ·show laidP w.2.2.2.now w.2.2.2.aq=laidP I.2.2.now I.2.2.aq
    rw [f4,f8]
 ·have es:w.2.2.2.c7=(9,w.2.2.2):=by rw [Dk.c7,aj yQ]
  rw [cH,es,aj (by simp)]
  exact ⟨g,fun _ _ q=>q,q2,fun _=>yQ⟩
end
theorem MO {π:Pl}{δ:Dk}(h:δ.dead=true): (cH π δ).2.2=δ:=by
 rw [cH,Dk.c7,aj h,aj (by simp)]
theorem MP {ε:aO}(I:ε.2.2.dead=false)(J:(writeAllF (aF ε.1.aE) ε).1≠0→(writeAllF (aF ε.1.aE) ε).2.2.2.dead=true): (er ε).2.2.2=(cH (writeAllF (aF ε.1.aE) ε).2.1 (writeAllF (aF ε.1.aE) ε).2.2.2).2.2:=by
 rw [er,af (by rw [I]; decide)]
 by_cases h:(writeAllF (aF ε.1.aE) ε).1≠0
 ·rw [aj h,MO (J h)]
 ·rw [af h]
theorem PB : kY fun x=>∀e∈x.2.now,0≤e.1∧e.1<x.2.aq.length:=by
 refine ⟨fun x n h => ?_,fun x n b h => ?_⟩
 ·unfold aT Dk.cg
  split
  ·exact h
  ·split
   ·exact h
   ·split
    ·exact h
    ·split <;> first | exact h | exact h
 ·unfold Dk.bk
  split
  ·exact h
  ·split
   ·exact h
   ·rename_i I
    have I:=Classical.not_not.1 I
    split
    ·exact h
    ·intro e he
     rcases xV he with rfl | he
     ·exact ⟨I.1,I.2.1⟩
     ·exact h e he
theorem IQ {π:Pl}{δ:Dk}(h:δ.Ok): (cH π δ).2.2.Ok∧(cH π δ).2.2.waiting.length≤δ.waiting.length:=by
 have e:(cH π δ).2.2=δ.c7.2:=by unfold cH; split <;> rfl
 rw [e]
 refine ⟨h.syn,?_⟩
 unfold Dk.c7
 split
 ·exact aI _
 ·split
  ·exact aI _
  ·exact eM _
theorem EI.DH {N B:Nat}{ε:aO}(h:EI N B ε)(hB:B≤1000){k:Int}(hk:k<4294967296)(w:Int×aO)(hw:w=writeAllF (aF ε.1.aE) (ε.1,(ε.2.1,{ ε.2.2 with aD:=k }))):
  oB (ε.1,(ε.2.1,{ ε.2.2 with aD:=k }))∧w.2.2.2.Ok∧(∀e∈w.2.2.2.now,0≤e.1∧e.1<w.2.2.2.aq.length)∧w.2.2.2.waiting.length≤268435456:=by
 have q:=h.ok.ok.dk
 have J:gW (ε.1,(ε.2.1,{ ε.2.2 with aD:=k })):=⟨⟨h.ok.ok.pl,h.ok.ok.lg,⟨hk,q.len,q.room,q.now,q.aq,q.aJ,q.many⟩⟩,h.ok.pins,h.ok.full⟩
 have I:EL (B*1048600) (ε.2.1,{ ε.2.2 with aD:=k }):=⟨h.el.log,h.el.cert,h.el.size⟩
 obtain ⟨k1,k2,k3⟩:=wR (l:=aF ε.1.aE) (ε:=(ε.1,(ε.2.1,{ ε.2.2 with aD:=k }))) I J
 have U:=PB.all (l:=aF ε.1.aE) (ε:=(ε.1,(ε.2.1,{ ε.2.2 with aD:=k }))) (fun e he=>by show 0≤e.1∧e.1<(ε.2.2.aq.length:Int); rw [h.ec.dk.aq]; exact h.ec.dk.keys _ (iV he))
 rw [←hw] at k2 k3 U
 have hp:Am.cm (ε.1,(ε.2.1,{ ε.2.2 with aD:=k }))=Am.cm ε:=rfl
 have Ar:=h.cm
 have KC:=lX (ε:=w.2)
 exact ⟨J.ok,k2.ok.dk,U,by omega⟩
end Go.Proofs.YtconhghphklfjaaGreat.Am
