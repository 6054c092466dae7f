/- AtomSame: a part of its proof; conditions: its statement's. -/
import Derived.Test.YtconhghphklfjaaGreatS39
import Derived.Test.YtconhghphklfjaaGreatS38
set_option linter.defProp false
namespace Go.Proofs.YtconhghphklfjaaGreat.Am
open Go
def uE:=@Tryz.underlying56
def Ig:=@Tryz.func7
theorem L9 {ρ:fW}{R:Dk→Prop}(J:∀δ k b,R δ→R (δ.bJ k b).2): ∀ {l:List Int} {δ:Dk},R δ→R (againW ρ l δ).2:=by
 intro l
 induction l with
 | nil=>intro δ h; exact h
 | cons k l I =>
  intro δ h
  rw [againW]
  cases lookL k ρ.aq with
  | none=>exact I h
  | some b =>
   simp only
   split
   ·split
    ·exact J _ _ _ h
    ·exact I (J _ _ _ h)
   ·exact I h
theorem zH {R:Dk→Prop}{ba:Nat}{u r1 r2:List cg}(I:∀δ n,R δ→R (δ.cA n).2)(J:∀δ k b,R δ→R (δ.bJ k b).2)(U:∀δ,R δ→R δ.dQ.2){δ:Dk}(h:R δ): R (eL δ ba u r1 r2).2:=by
 unfold eL mj
 split
 ·exact I _ _ h
 ·have:=L9 (ρ:=redoL (ba+szB r1) r2 fW.none) (l:=aJ (redoL (ba+szB r1) r2 fW.none).aq) J (I δ (szB u) h)
  split
  ·exact this
  ·split
   ·exact this
   ·exact U _ this
theorem Dk.Ok.syn {δ:Dk}(h:δ.Ok): δ.dQ.2.Ok:=by
 unfold Dk.dQ
 split
 ·exact h
 ·split
  ·exact h.die
  ·have I:=h.c_
   refine ⟨I.aI,I.len,I.room,fun e he=>(by cases he),fun i b U => ?_,I.aR,by show (laidP δ.now δ.aq).length≤_; rw [nt]; exact I.many⟩
   have key:∀ {l:List (Int×List Nat)} {m:List (Option (List Nat))},(∀e∈l,e.2.length=512)→(∀(i:Nat) (b:List Nat),m[i]?=some (some b)→b.length=512)→∀(i:Nat) (b:List Nat),(laidP l m)[i]?=some (some b)→b.length=512:=by
    intro l
    induction l with
    | nil=>intro m _ hm; exact hm
    | cons e l ih =>
     intro m J hm
     exact ih (fun x hx=>J x (bl _ hx)) (Kx hm (J e bp))
   exact key h.now h.aq i b U
theorem Fk {δ:Dk}{n:Nat}: (δ.cA n).2.eH=δ.eH∧(δ.cA n).2.mark=δ.mark:=by
 have I:(δ.dz n).2.eH=δ.eH∧(δ.dz n).2.mark=δ.mark:=by
  unfold Dk.dz Dk.qu
  split
  ·split
   ·exact ⟨rfl,rfl⟩
   ·split
    ·exact ⟨rfl,rfl⟩
    ·split <;> exact ⟨rfl,rfl⟩
  ·exact ⟨rfl,rfl⟩
 unfold Dk.cA
 split
 ·exact I
 ·split
  ·unfold Dk.cG
   split
   ·exact I
   ·split <;> exact I
  ·exact I
theorem OS {ba:Nat}{u r1 r2:List cg}{δ:Dk}: (eL δ ba u r1 r2).2.mark=δ.mark:=by
 refine zH (R:=fun x=>x.mark=δ.mark) (fun x n h=>Fk.2.trans h) (fun x k b h => ?_) (fun x h => ?_) rfl
 ·unfold Dk.bJ
  split
  ·exact h
  ·split
   ·exact h
   ·split <;> exact h
 ·unfold Dk.dQ
  split
  ·exact h
  ·split <;> exact h
theorem Q1 {ba:Nat}{u r1 r2:List cg}{δ:Dk}(h:δ.Ok): (eL δ ba u r1 r2).2.Ok :=
 zH (R:=Dk.Ok) (fun _ _ h=>h.cA) (fun _ _ _ h=>h.bJ) (fun _ h=>h.syn) h
theorem OT {ba:Nat}{u r1 r2:List cg}{δ:Dk}(U:δ.aI<0)(I:δ.eH=none): (eL δ ba u r1 r2).2.eH=none:=by
 have J:∀ {x:Dk} {n:Nat},x.aI<0→(x.cA n).2.aI<0:=fun {x n} h=>by
  have I:(x.dz n).2.aI<0:=by
   unfold Dk.dz Dk.qu
   split
   ·split
    ·exact h
    ·split
     ·exact h
     ·split
      ·exact h
      ·show x.c_.aI<0; rw [gI h]; exact h
   ·exact h
  unfold Dk.cA
  split
  ·exact I
  ·split
   ·unfold Dk.cG
    split
    ·exact I
    ·split
     ·exact I
     ·show (x.dz n).2.c_.aI<0; rw [gI I]; exact I
   ·exact I
 refine (zH (R:=fun x=>x.aI<0∧x.eH=none) (fun x n h=>⟨J h.1,Fk.1.trans h.2⟩) (fun x k b h => ?_) (fun x h => ?_) ⟨U,I⟩).2
 ·unfold Dk.bJ
  split
  ·exact h
  ·split
   ·exact h
   ·rw [af (by have:=h.1; omega)]
    exact ⟨by show x.c_.aI<0; rw [gI h.1]; exact h.1,h.2⟩
 ·unfold Dk.dQ
  split
  ·exact h
  ·rw [af (by have:=h.1; omega)]
   exact ⟨by show x.c_.aI<0; rw [gI h.1]; exact h.1,h.2⟩
theorem Eg {δ:Dk}{n:Int}(I:δ.now=[]): δ.at n=imgOf δ n:=by
 rw [Dk.at,I]; rfl
theorem jE.eng {ba aD N B f:Nat}{B0:Int→List Nat}{u r1 r2:List cg}{δ:Dk}(h:jE ba B0 u r1 r2 N δ)(hn:δ.now=[])(hw:δ.waiting=[])(ht:δ.eH=none)(hl:Lv δ)(mQ:δ.Ok)(hf:1≤f)(Kr:f≤1024)(KB:1≤B)(hB:B≤1000)(fc:ba+szB u≤B*1048600)(L2:aD≤1099511627776):
  (Am.eL δ ba u r1 r2).1=0∧EI N B (Pl.fresh f,(iD ba aD u,(Am.eL δ ba u r1 r2).2))∧RS N ba aD δ.mark u B0 (fun _=>none) (Pl.fresh f,(iD ba aD u,(Am.eL δ ba u r1 r2).2)):=by
 have Ie:∀r∈r2,r.Ok:=fun r hr=>h.cr.rs r (by rw [bT,h.cr.split]; exact List.mem_append.2 (.inr hr))
 obtain ⟨v1,v2⟩:=hl.eL (base:=ba) (rs:=u) (dg:=r1) Ie
 obtain ⟨o1,o2⟩:=h.eL hn hw
 obtain ⟨p1,p2,p3,p4⟩:=o2 v1
 have q1:=Q1 (ba:=ba) (u:=u) (r1:=r1) (r2:=r2) mQ
 have q2:=OS (ba:=ba) (u:=u) (r1:=r1) (r2:=r2) (δ:=δ)
 have q3:=OT (ba:=ba) (u:=u) (r1:=r1) (r2:=r2) hl.aI ht
 refine ⟨v1,?_⟩
 generalize (Am.eL δ ba u r1 r2).2=I at *
 have F:=EI.fresh (n:=N) (m:=0) (f:=f) (by have:=q1.many; rw [o1.aq] at this; exact this) (by decide) hf Kr
 have hlen:(logB ba u).length=szB u:=ie
 have aaj:szB u≤16777216:=by have:=q1.len; rw [p1,hlen] at this; exact this
 have aaS:szB u≤I.aR:=o1.cr.cert
 have hC:∀n b,¬iV (Pl.fresh f) n b:=fun n b ⟨i,x,hx,_,_,k2,_⟩=>by rw [qt hx] at k2; cases k2
 have zy:gF (Pl.fresh f).ak≤1*65536:=by
  have:=F.cu
  simp only [Am.cu,Am.fresh] at this
  omega
 have mC:∀n,pgA (Pl.fresh f,(iD ba aD u,I)) n=imgOf I n:=fun n=>by rw [mI (by rfl)]; exact Eg p2
 constructor
 ·refine ⟨⟨⟨F.ok.ok.pl,Kv (by omega) aaj L2,q1⟩,F.ok.pins,F.ok.full⟩,⟨⟨v2.alive,v2.aI,o1.aq,fun k hk => ?_,?_,fun n U h1 => ?_⟩,F.ec.nodup,F.ec.j6,fun i x hx=>.inl ?_,F.ec.rq,F.ec.zu⟩,⟨p1.symm,?_,?_⟩,?_⟩
  ·rw [p2] at hk; cases hk
  ·rw [p2]; exact ki
  ·show dI (I.at n)=0
   rw [Eg p2]; exact (p4 n U h1).2
  ·rw [qt hx]; decide
  ·show (logB ba u).length≤I.aR; omega
  ·show ba+(logB ba u).length≤_; omega
  ·show I.waiting.length+gF (Pl.fresh f).ak≤_
   rw [p3]
   simp only [bY]
   omega
 ·refine ⟨⟨rfl,rfl,rfl,rfl,p1,v2.alive,v2.aI,q2,q3,o1.tail,fun w hw=>(by rw [p3] at hw; cases hw),fun r hr=>h.cr.rs r (by rw [bT]; exact hr)⟩,?_,fun n U h1 => ?_,?_⟩
  ·refine ⟨rfl,rfl,p1,v2.alive,v2.aI,⟨u,[],by rw [bT],hlen⟩,by show (logB ba u).length≤I.aR; omega,fun n w t t' U hu uC hr hc => ?_,fun n rec q=>(by cases q),fun n _ wr J=>(by rw [p3] at J; cases J),fun n b hb=>absurd hb (hC n b),fun n rec q=>(by cases q),fun n rec q=>(by cases q),fun n b hb=>(by rw [p2] at hb; cases hb),fun n rec fl q=>(by cases q),fun n rec q=>(by cases q),fun n w U hc => ?_,fun n q=>q.elim⟩
   ·have uC:(logB ba u).length≤szB t:=uC
    obtain ⟨w',e1,e2⟩:=C4 (a:=u) (b:=[]) (u:=t) (v:=t') (by rw [bT]; exact hu) (by omega)
    obtain ⟨e3,_⟩:=List.append_eq_nil_iff.1 e2.symm
    rw [e3,bT] at e1
    subst e1
    have Bb:w=imgOf I n:=by
     rcases hc with hc | ⟨wr,J,_⟩
     ·exact hc
     ·rw [p3] at J; cases J
    rw [Bb]
    exact (p4 n U.1 (by have:=U.2; rw [o1.aq] at this; exact this)).1
   ·have Bb:w=imgOf I n:=by
     rcases hc with hc | ⟨wr,J,_⟩
     ·exact hc
     ·rw [p3] at J; cases J
    rw [Bb]
    by_cases hN:n<(N:Int)
    ·exact (p4 n U hN).2
    ·have:imgOf I n=List.replicate 512 0:=by
      have Et:=o1.aq
      rw [imgOf,oS (by omega)]
     rw [this]; exact xp
  ·rw [mC]; exact (p4 n U h1).1
  ·have:=h.cr.gd
   rw [bT] at this
   exact this
theorem Eh (c:cm): (kG c).length≤31+c.b.length:=by
 have I:=gj c.aK.toNat
 have J:=gj c.pos.toNat
 have U:=gj c.b.length
 simp only [kG,bC,bj,bY]
 omega
theorem TY {pg:Int}{cP now:List Nat}{i:Nat}{l:List cm}(I:uw pg cP now i l): (l.flatMap kG).length≤32*(now.length-i):=by
 induction I with
 | done i h=>simp
 | skip i l h he I J=>omega
 | take i e l h1 h2 h3 h4 I J =>
  have:=Eh ⟨pg,i,false,(now.take e).drop i⟩
  have U:((now.take e).drop i).length=e-i:=by rw [nF,dJ]; omega
  rw [qF,bC]
  simp only [U] at this
  omega
theorem TZ {pg:Int}{cP now:List Nat}{c:List cm}(J:E4 pg cP now c)(hn:now.length=512): (c.flatMap kG).length≤16384:=by
 obtain ⟨l,U,rfl⟩:=J
 have:=TY U
 by_cases I:l=[]
 ·rw [aj I]
  have:=Eh ⟨pg,0,false,[]⟩
  simp only [qF,List.flatMap_nil,bT]
  simp only [bY] at this
  omega
 ·rw [af I]; omega
theorem jh.enc {N:Nat}{now:List (Int×List Nat)}{l:List Int}{ε ε':aM}{e:Int}{cs:List cm}(J:jh now l ε e cs ε')(hn:NW N now): (cs.flatMap kG).length≤16384*l.length∧cs.length≤512*l.length:=by
 induction J with
 | nil ε=>simp
 | err n l ε e b ε' J he=>simp
 | part n l ε cP b ε' c e cs I J U jM hc lK ht ih =>
  have:=TZ hc (fq (hn.look U).1)
  rw [List.flatMap_append,bC,bC,bj]
  omega
 | whole n l ε cP b ε' e cs I J U jM ht ih =>
  have:=Eh ⟨n,0,true,b⟩
  have xA:=fq (hn.look U).1
  rw [qF,bC,bj,bj]
  simp only at this
  omega
theorem T0 {N:Nat}{now:List (Int×List Nat)}{ε ε':aM}{e:Int}{cs:List cm}{kd:Int}{tx:Nat}{data:List Nat}(J:jh now (aJ now) ε e cs ε')(I:NW N now): (dm kd tx 0 0 data cs).length≤64+data.length+16384*N:=by
 have U:=gj tx
 have h2:=gj 0
 have h4:=gj data.length
 have h5:=gj cs.length
 have h6:=(J.enc I).1
 have hl:(aJ now).length≤N:=by
  have:=I.len
  rw [aJ,(er _).length_eq,d_]; exact this
 simp only [dm,bC,bj,bY]
 omega
theorem r6 (M:Nat): kL fun x=>x.2.room=M:=by
 refine ⟨fun x n h => ?_,fun x n b h => ?_⟩
 ·unfold bB Dk.cG
  split
  ·exact h
  ·split
   ·exact h
   ·split
    ·exact h
    ·split <;> first | exact h | exact h
 ·unfold Dk.bJ
  split
  ·exact h
  ·split
   ·exact h
   ·split <;> exact h
theorem qA.data {N M aF:Nat}{D:iC}{ε ε':aM}{ps U:List (List Nat)}(ho:qA N D ε ps 0 U aF ε')(hr:ε.2.2.room=M): (D.act=2∧U=ps∧aF=0)∨(D.act≠2∧U=nxW N D.w ps∧D.data.length≤M):=by
 generalize hz:(0:Int)=e at ho
 cases ho with
 | drop ε' ha hp hg=>exact .inl ⟨ha,rfl,rfl⟩
 | fail v8 ε' aF e ha hp hg hw hi hr he=>omega
 | done v8 ε' aF ha hp hg hw hi hd =>
  refine .inr ⟨ha,rfl,?_⟩
  have uA:v8.2.2.room=M:=hp _ ((r6 M).qq N) hr
  generalize I:true=cl at hd
  generalize ER:(0:Int)=e2 at hd
  cases hd with
  | arg hh=>cases I
  | dead _ _ _ hd=>cases I
  | mB e c ε' _ _ _ _ hc he=>cases I
  | app c v8 _ _ _ _ hc he=>cases I
  | put c OO e Z8 _ _ _ _ hc J XX =>
   have AX:OO.2.2.room=M:=(r6 M).ch hc uA
   rcases jf OO.2 (oO D.cS) (xo D.cS) 0 0 D.data c with ⟨e,he,_,hq⟩ | ⟨_,hf,hq⟩ | ⟨_,hb,En,iE,hf,hq⟩
   ·rw [hq] at J; exact absurd J he
   ·rw [hq] at J; cases J
   ·have h1:=(C1 (kd:=oO D.cS) (tx:=xo D.cS) (pv:=0) (nx:=0) (data:=D.data) (aP:=c)).1
    rw [dr,oK] at iE
    omega
theorem qA.seven {N aF:Nat}{D:iC}{ε ε':aM}{ps J:List (List Nat)}{e:Int}(ho:qA N D ε ps e J aF ε')(hN:N≤12)(hd:D.data.length≤65536): (e=0∧((D.act=2∧J=ps)∨(D.act≠2∧J=nxW N D.w ps)))∨e=7:=by
 cases ho with
 | drop ε' ha hp hg=>exact .inl ⟨rfl,.inl ⟨ha,rfl⟩⟩
 | done v8 ε' aF ha hp hg hw hi hd=>exact .inl ⟨rfl,.inr ⟨ha,rfl⟩⟩
 | fail v8 ε' aF e ha hp hg hw hi hr he =>
  refine .inr (he.resolve_right fun h2 => ?_)
  subst h2
  obtain ⟨B,hB,hi⟩:=hi
  have U:∀n∈aJ (nowW N D.w []),0≤n∧n<N:=fun n hq=>hw.keys n (gN.1 hq)
  generalize I:(2:Int)=e at hr
  generalize lK:false=cl at hr
  cases hr with
  | arg hh=>cases I
  | dead _ _ _ hd=>cases I
  | mB e c ε' _ _ _ _ hc he=>exact he (hc.ec hi.ec hi.ok U).2.2
  | app c OO _ _ _ _ hc he =>
   have xD:=T0 (kd:=oO D.cS) (tx:=xo D.cS) (data:=D.data) hc hw
   rcases jf OO.2 (oO D.cS) (xo D.cS) 0 0 D.data c with ⟨e,_,uH,hq⟩ | ⟨_,hf,hq⟩ | ⟨_,hb,En,iE,hf,hq⟩
   ·rw [hq] at I
    rcases uH with ⟨rfl,_⟩ | ⟨_,hb⟩ | ⟨rfl,_⟩ | ⟨rfl,_⟩
    ·cases I
    ·omega
    ·cases I
    ·cases I
   ·rw [hq] at I; cases I
   ·rw [hq] at I; cases I
  | put c v8 e OO _ _ _ _ hc ha hp=>cases lK
theorem kL.all {R:LD→Prop}(h:kL R): ∀ {l:List Int} {ε:aM},R ε.2→R (writeAllF l ε).2.2:=by
 intro l
 induction l with
 | nil=>intro ε I; exact I
 | cons n l U =>
  intro ε I
  have J:R (ee ε n).2.2:=by
   unfold ee
   split
   ·exact I
   ·exact h.out I
  rw [writeAllF]
  split
  ·exact J
  ·exact U J
section
variable {N M:Nat} {ε ε':aM} {x:LD}
theorem r_ {kd:Int}{tx pv nx:Nat}{data:List Nat}{c:List cm}: (bn x kd tx pv nx data c).2.2.room=x.2.room:=by
 rcases jf x kd tx pv nx data c with ⟨e,_,_,I⟩ | ⟨_,_,I⟩ | ⟨_,_,_,_,_,I⟩ <;> rw [I] <;> rfl
theorem zI {n:Nat}: (bB x n).2.2.room=x.2.room:=(r6 x.2.room).force x n rfl
theorem Ih {n:Nat}: (iz x n).2.2.room=x.2.room:=by
 have h:(x.2.qj (gE x.1.base n)).2.room=x.2.room:=by
  unfold Dk.qj
  split
  ·rfl
  ·split
   ·rfl
   ·split <;> rfl
 unfold iz
 split
 ·rfl
 ·split <;> exact h
theorem L_ {n:Nat}: (hG x n).2.2.room=x.2.room:=by
 have h:(x.2.nm ((n-x.1.base:Nat):Int) (gE n x.1.check)).2.room=x.2.room:=by
  unfold Dk.nm
  split
  ·rfl
  ·split
   ·rfl
   ·split <;> rfl
 unfold hG
 split
 ·rfl
 ·split <;> exact h
theorem Bf {π:Pl}{δ:Dk}: (dK π δ).2.2.room=δ.room:=by
 have h:δ.dQ.2.room=δ.room:=by
  unfold Dk.dQ
  split
  ·rfl
  ·split <;> rfl
 unfold dK
 split <;> exact h
theorem CS.room {y:(Nat×Int)×LD}{kp aD J:Nat}{data dX I:List Nat}{e:Int}{z:LD}(hc:CS y kp data dX aD e z I J)(h1:y.2.2.room=M): z.2.room=M:=by
 have h2:(lz y).2.2.room=M:=by rw [lz,zI]; exact h1
 have U:(gH y).2.2.room=M:=by rw [gH,Ih]; exact h2
 cases hc with
 | app _=>exact h1
 | force _ _=>exact h2
 | check _ _ _=>exact U
 | cut t _ _ _ _ _ _=>rw [L_]; exact U
 | cS _ _ _ _=>exact U
theorem E6.room {lo aD J:Nat}{data dX I:List Nat}{e:Int}(U:E6 ε lo data dX aD e ε' I J)(h:ε.2.2.room=M): ε'.2.2.room=M:=by
 cases U with
 | VV _=>exact h
 | dead _ _=>exact h
 | go e y I J _ _ hc=>exact hc.room (by rw [uU,r_]; exact h)
theorem rV.room {now:List (Int×List Nat)}{kd tx pv nx pQ aF:Nat}{data:List Nat}{e:Int}{cl:Bool}(U:rV ε now kd tx pv nx data pQ aF e cl ε')(h:ε.2.2.room=M): ε'.2.2.room=M:=by
 have pr:=r6 M
 cases U with
 | arg _=>exact h
 | dead _ _ _ _=>exact h
 | mB e c ε' _ _ _ _ I _=>exact pr.ch I h
 | app c J _ _ _ _ I _=>exact r_.trans (pr.ch I h)
 | put c J e OO _ _ _ _ I _ hp=>exact pr.pt hp (r_.trans (pr.ch I h))
theorem zC.room {D:iC}{ps U:List (List Nat)}{data I:List Nat}{aD J aF:Nat}{e:Int}(hr:zC N D ε ps data aD e U aF ε' I J)(h:ε.2.2.room=M): ε'.2.2.room=M:=by
 have pr:=r6 M
 cases hr with
 | Sa e U aF ε' _ ho =>
  cases ho with
  | drop ε' ha hp hg=>exact hp _ (pr.qq N) h
  | fail v8 ε' aF e ha hp hg hw hi hd he=>exact hd.room (hp _ (pr.qq N) h)
  | done v8 ε' aF ha hp hg hw hi hd=>exact hd.room (hp _ (pr.qq N) h)
 | ck e lo ε' I J _ _ hc=>exact hc.room h
 | all _=>exact pr.all h
 | sync _=>exact Bf.trans h
 | clean _ =>
  unfold fH
  split
  ·exact h
  ·have h2:=pr.all (l:=aJ ε.1.aH) h
   split
   ·exact h2
   ·exact Bf.trans h2
 | force _=>exact zI.trans h
end
theorem LR.sync {ba aD:Nat}{mk:List Nat}{rs:List cg}{x:LD}(h:LR ba aD mk rs x): LR ba aD mk rs (x.1,x.2.sync) :=
 ⟨h.base,h.b,h.bw,h.check,h.log,h.alive,h.aI,h.mark,h.eH,h.tail,fun w hw=>(by cases hw),h.rs⟩
theorem RS.clean {N B ba aD:Nat}{mk:List Nat}{rs:List cg}{B0:Int→List Nat}{g:Int→Option Nat}{ε:aM}(h:RS N ba aD mk rs B0 g ε)(I:EI N B ε): RS N ba aD mk rs B0 (fun _=>none) (fH ε).2:=by
 refine ⟨?_,RI.TW h.ri I.ec h.st,fun n h0 J=>by rw [(On I.ec).2.2 n h0]; exact h.st n h0 J,h.gd⟩
 have w1:=(qp I.ec (Fj ε)).1
 have U:=(tE ba aD mk rs).all (l:=aJ ε.1.aH) h.lr
 have e:dK (writeAllF (aJ ε.1.aH) ε).2.1 (writeAllF (aJ ε.1.aH) ε).2.2.2=(0,{ (writeAllF (aJ ε.1.aH) ε).2.1 with aQ:=(writeAllF (aJ ε.1.aH) ε).2.1.aQ.filter fun e=>e.2.2 },(writeAllF (aJ ε.1.aH) ε).2.2.2.sync):=by
  have es:(writeAllF (aJ ε.1.aH) ε).2.2.2.dQ=(0,(writeAllF (aJ ε.1.aH) ε).2.2.2.sync):=by
   have J:=U.alive
   have h2:=U.aI
   generalize (writeAllF (aJ ε.1.aH) ε).2.2.2=δ at J h2
   rw [Dk.dQ,af (by rw [J]; decide),af (by omega),gI h2]
  rw [dK,es,af (by simp)]
 rw [fH,af (by rw [I.ec.dk.alive]; decide),af (by rw [w1]; decide),e]
 exact U.sync
theorem Q2 {a b:List Nat}(h:jP a b)(ha:dI a=0)(hb:dI b=0): jO a=jO b:=by
 have hz:bU (List.replicate 512 0)=false:=by decide +kernel
 have key:∀ {x y:List Nat},jP x y→x=List.replicate 512 0→dI y=0→y=List.replicate 512 0:=fun {x y} J hx hy=>by
  refine Db fun U => ?_
  have hg:=J.good
  rw [hx,hz] at hg
  rw [dI,af U,aj hg.symm] at hy
  cases hy
 by_cases I:a=List.replicate 512 0
 ·rw [I,key h I hb]
 ·have h2:b≠List.replicate 512 0:=fun q=>I (key h.symm q ha)
  rw [jO,jO,af (by rintro (q | q); exact q h.1; exact I q),af (by rintro (q | q); exact q h.2.1; exact h2 q),h.2.2]
theorem kK.alk {N B J:Nat}{ε ε':aM}{ps:List (List Nat)}(h:kK ε ps)(U:ps.length=N)(h1:EI N B ε)(h2:EI N J ε')(ha:∀n,0≤n→n<(N:Int)→jP (pgA ε' n) (pgA ε n)): kK ε' ps:=fun n w I=>by
 have bX:n<N:=by rw [←U]; exact (List.getElem?_eq_some_iff.1 I).1
 rw [←h n w I]
 exact Q2 (ha n (by omega) (by omega)) (h2.ec.aD (by omega) (by omega)) (h1.ec.aD (by omega) (by omega))
theorem RS.Wu {N B f ba aD:Nat}{mk data:List Nat}{rs r1:List cg}{B0:Int→List Nat}{ε:aM}(h:RS N ba aD mk rs B0 (fun _=>none) ε)(I:EI N B ε)(KB:1≤B)(hB:B≤1000)(hc:Sj ba aD data rs r1 ε.2.1.forced (fun _=>none))(U:aD≤1099511627776)(OB:mk.length≤64)(c:List Nat)(hf:1≤f)(Kr:f≤1024):
  ∃u r2 j,(fA ε.2.2 c).log=logB ba u++j∧ru j∧(∀r∈u,r.Ok)∧BF ba aD u data r1 r2∧ba+(fA ε.2.2 c).log.length≤1099511627776∧(eL (fA ε.2.2 c) ba u r1 r2).1=0 ∧
   EI N B (Pl.fresh f,(iD ba aD u,(eL (fA ε.2.2 c) ba u r1 r2).2))∧RS N ba aD mk u B0 (fun _=>none) (Pl.fresh f,(iD ba aD u,(eL (fA ε.2.2 c) ba u r1 r2).2)) ∧
   ∀n,0≤n→n<(N:Int)→jP (pgA (Pl.fresh f,(iD ba aD u,(eL (fA ε.2.2 c) ba u r1 r2).2)) n) (pgA ε n):=by
 have Y8:=I.ok.ok.dk
 have zy:=I.cu
 have J6:=mH (ε:=ε)
 have hv:=uD.1 h.ri
 obtain ⟨u,v,r2,hu,hf0,OK,AT⟩:=h.cr hc Y8
 obtain ⟨t,t',ot,aak⟩:=AT.XF c
 have aal:=h.lr.cr Y8 (by omega) OB
 obtain ⟨F9,Et⟩:=HY (c:=c) aal
 have JL:jE ba B0 (u++t) r1 (r2++t) N (fA ε.2.2 c):=⟨aak,rfl,by rw [Et]; exact I.ec.dk.aq,fun k hk=>(by cases hk),ki,fun n b hb=>(by cases hb)⟩
 obtain ⟨j,e1,e2⟩:=JL.Wt
 have hlen:(fA ε.2.2 c).log.length≤16777216:=F9.ok.len
 have Y6:szB (u++t)≤szB rs:=by rw [hu,ot,←bP]; exact rZ
 have fc:=I.el.size
 rw [h.lr.base,h.lr.b,ie] at fc
 obtain ⟨o1,o2,o3⟩:=JL.eng (aD:=aD) (B:=B) (f:=f) rfl rfl rfl QU F9.ok hf Kr KB hB (by omega) U
 have J:(fA ε.2.2 c).mark=mk:=h.lr.mark
 rw [J] at o3
 refine ⟨u++t,r2++t,j,e1,e2,o3.lr.rs,OK.more,by omega,o1,o2,o3,fun n h0 h1 => ?_⟩
 have uR:Fi ε.2.2 n:=⟨h0,by rw [I.ec.dk.aq]; exact h1⟩
 have a1:=hv.mJ n (imgOf ε.2.2 n) (u++t) t' uR (by rw [hu,ot,bP]) (by rw [hf0]; exact rZ) (fun rec q=>(by cases q)) (.inl rfl)
 have a2:=hv.mJ n (imgOf ε.2.2 n) rs [] uR (by rw [bT]) hv.le (fun rec q=>(by cases q)) (.inl rfl)
 exact (((o3.st n h0 h1).symm.trans a1).trans a2.symm).trans (h.st n h0 h1)
theorem Sat.OU {P:Program}{h:H}{S:List ax}{k j:Nat}{v:V}{cs:List V}{t e:TypeId}{i:Nat}(s:Sat h S)(hj:getA S j=some (j7 k v cs))(hi:i*k+k≤cs.length)(hk:1≤k)(hu:P.underlying t=some (.slice e))(I:bF P e=some k)(ha:cj P e=some true):
  ∃id off,indexAddrV P t v (.int .i64 (i:Int))=some (.ptr id off)∧loadV P h e (.ptr id off)=some (.agg ((cs.drop (i*k)).take k))∧∀m c t',((cs.drop (i*k)).take k)[m]?=some c→cj P t'=some false→loadV P h t' (.ptr id (off+m))=some c:=by
 rcases s.rowAt hj with ⟨_,rfl⟩ | ⟨id,len,cap,rfl,hl,U⟩
 ·simp at hi; omega
 ·refine ⟨id,i*k,?_,RM ha I U rfl hi,fun m c t' J ht=>JO ht U ?_⟩
  ·simp only [indexAddrV,hu,I,cQ]
   have:i<len:=by
    have h4:i*k+k=(i+1)*k:=by rw [ir,vB]
    rw [h4,hl] at hi
    exact Dn (Da hi hk)
   rw [show (decide ((0:Int)≤(i:Int))&&decide ((i:Int)<(len:Int)))=true by simp; omega,ah]
   simp
  ·rw [lS] at J
   split at J
   ·rw [jG] at J; rw [fM]; exact J
   ·cases J
section
variable {told:dF} {h:H} {S:List ax} {X:ax} {r q p a:Nat} {lv cv:V} {L:List iC} {cs:List V} {c:List Nat}
end
theorem qA.pair {N l1 l2:Nat}{D:iC}{ε ε' η I:aM}{ps J U:List (List Nat)}{e:Int}(h1:qA N D ε ps 0 J l1 ε')(hr:ε.2.2.room=65536)(h2:qA N D η ps e U l2 I)(hN:N≤12): e=7∨(e=0∧U=J):=by
 rcases h1.data hr with ⟨ha,rfl,_⟩ | ⟨ha,rfl,hd⟩
 ·cases h2 with
  | drop I _ _ _=>exact .inr ⟨rfl,rfl⟩
  | fail _ _ _ _ hb=>exact absurd ha hb
  | done _ _ _ hb=>exact absurd ha hb
 ·rcases h2.seven hN hd with ⟨rfl,⟨hb,_⟩ | ⟨_,rfl⟩⟩ | rfl
  ·exact absurd hb ha
  ·exact .inr ⟨rfl,rfl⟩
  ·exact .inl rfl
theorem Ii {N aF:Nat}{D:iC}{U I:aM}{ps J:List (List Nat)}{e:Int}{B0:Int→List Nat}(h:∃rs g,RS N 1 0 [] rs B0 g U)(ho:qA N D U ps e J aF I): ∃rs g,RS N 1 0 [] rs B0 g I:=by
 obtain ⟨rs,g,hr⟩:=h
 rcases ho.rs hr with ⟨_,_,q⟩ | ⟨r0,g',_,_,_,_,q,_⟩
 ·exact ⟨_,_,q⟩
 ·exact ⟨_,_,q⟩
theorem RS.fresh {n m f:Nat}: RS n 1 0 [] [] (fun _=>List.replicate 512 0) (fun _=>none) (Am.fresh n m f):=by
 have hi:∀k,imgOf (Dk.fresh n m) k=List.replicate 512 0:=fun k=>by rw [←Eg (δ:=Dk.fresh n m) rfl]; exact BB k
 have hC:∀n b,¬iV (Pl.fresh f) n b:=fun n b ⟨i,x,hx,_,_,k2,_⟩=>by rw [qt hx] at k2; cases k2
 have hc:∀k w,xx (Dk.fresh n m) k w→w=List.replicate 512 0:=fun k w h=>by
  rcases h with h | ⟨wr,I,_⟩
  ·rw [h,hi]
  ·cases I
 refine ⟨⟨rfl,rfl,rfl,rfl,rfl,rfl,by show (-1:Int)<0; decide,rfl,rfl,rfl,fun w hw=>(by cases hw),fun r U=>(by cases U)⟩,?_,fun k _ _=>by rw [Fb]; exact jP.refl ff,⟨fun k x hx=>by rw [qC hx]; decide,fun r U=>(by cases U),fun t t' k ht ⟨r,U,_⟩ => ?_⟩⟩
 ·refine ⟨rfl,rfl,rfl,rfl,by show (-1:Int)<0; decide,⟨[],[],rfl,rfl⟩,aL _,fun k w t t' h0 ht uC U J => ?_,fun k rec q=>(by cases q),fun k _ wr I=>(by cases I),fun k b hb=>absurd hb (hC k b),fun k rec q=>(by cases q),fun k rec q=>(by cases q),fun k b hb=>(by cases hb),fun k rec fl q=>(by cases q),fun k rec q=>(by cases q),fun k w h0 J => ?_,fun k q=>q.elim⟩
  ·obtain ⟨rfl,_⟩:=List.append_eq_nil_iff.1 ht.symm
   rw [hc k w J]
   exact jP.refl ff
  ·rw [hc k w J]; exact xp
 ·obtain ⟨rfl,_⟩:=List.append_eq_nil_iff.1 ht.symm
  cases U
section
variable {told:dF} {h:H} {S:List ax} {X:ax} {r q p a r2 q2 p2 a2:Nat} {lv:V} {L:List iC} {cs:List V}
noncomputable def asL : Code:=cJ [1,1,1,1,1,1,1,1,0,1,0,0] ((Tryz.f7.body).getD .skip)
theorem Ma (hT:W4 told)(hL:L.length≤200)(hD:∀D∈L,D.data.length≤1048576∧D.w.length≤1048576∧∀x∈D.w,x.2.length≤1048576): ∀(j i:Nat) (ε η:aM) (ps:List (List Nat)) (pv bv:V) (data:List Nat) (aD:Nat) (h:H) (E:List (Nat×V)) (Q:Ex→List (Nat×V)→H→Prop),i+j=L.length →
  EI 12 (1+2*i) ε→EI 12 (1+2*i) η→(∃rs g,RS 12 1 0 [] rs (fun _=>List.replicate 512 0) g η)→ε.2.2.room=65536→ps.length=12→kK ε ps→kK η ps→data.length≤1048576 →
  Sat h (cx a p q r .cD data aD::bZ r p q ε.1::bf q p ε.2.1::aC p ε.2.2::.arr 1 pv (eo ps)::cx a2 p2 q2 r2 .cD [] 0::bZ r2 p2 q2 η.1::bf q2 p2 η.2.1::aC p2 η.2.2::.arr 1 bv (eo ps)::j7 4 lv cs::jW cs L::S) →
  Has E [(0,lv),(4,.ptr a 0),(5,.ptr p2 0),(6,.ptr a2 0),(7,pv),(8,bv),(9,.int .i64 (i:Int))] →
  (∀E' h',look E' 2=some (.bool true)→Q .ret E' h') →
  (∀ε' Ij ji m8 CA I jD E' h',EI 12 401 ε'→EI 12 401 Ij→(∃rs g,RS 12 1 0 [] rs (fun _=>List.replicate 512 0) g Ij)→ji.length=12→kK ε' ji→kK Ij ji→Has E' [(4,.ptr a 0),(5,.ptr p2 0),(6,.ptr a2 0),(8,CA)] →
   Sat h' (cx a p q r .cD I jD::bZ r p q ε'.1::bf q p ε'.2.1::aC p ε'.2.2::.arr 1 m8 (eo ji)::cx a2 p2 q2 r2 .cD [] 0::bZ r2 p2 q2 Ij.1::bf q2 p2 Ij.2.1::aC p2 Ij.2.2::.arr 1 CA (eo ji)::S)→Q (.exit 0) E' h') →
  WP ⟨Tryz.prog,told⟩ 149 (.loop asL) E h Q:=by
 have hW:=hT.w.w.w
 intro j
 induction j with
 | zero =>
  intro i ε η ps pv bv data aD h E Q hi rf Mb mu rB hN hp vZ hd s hE U hx
  have hlen:=zD s (k:=11) rfl
  refine WP.loop (WP.has hE (zK 5 rfl (zo rfl (a_ rfl rfl rfl (s.zB (n:=L.length) (j:=10) rfl hlen (by decide) uE)) ?_)))
  refine zh rfl (ag rfl rfl bx) (by simp <;> omega) ?_
  exact zk 2 rfl (WP.exit (hx ε η ps _ _ _ _ _ _ (rf.more (by omega)) (Mb.more (by omega)) mu hN hp vZ ⟨rfl,rfl,rfl,rfl,aa⟩ ((s.del 11).del 10)))
 | succ j ih =>
  intro i ε η ps pv bv data aD h E Q hi rf Mb mu rB hN hp vZ hd s hE U hx
  have hlen:=zD s (k:=11) rfl
  have Fa:L[i]?=some (L[i]'(by omega)):=bg _
  generalize (L[i]'(by omega))=D at Fa
  have Wv:=hD D (bq Fa)
  obtain ⟨wv,dv,c1,s⟩:=TP (s.ae [11]) Fa
  dsimp only [aU,bringA] at s
  have s:=s.dup (aE.nX _ _ _)
  have s:=s.ae [3,3,3,3,3,1,0,1,1,1,1,1,1,0]
  dsimp only [bringA,getA,aU] at s
  obtain ⟨id,off,g1,g2,g3⟩:=s.OU (P:=Tryz.prog) (i:=i) (j:=12) rfl (by omega) (by decide) uE Vd Ve
  rw [c1] at g2 g3
  refine WP.loop (WP.has hE (zK 5 rfl (zo rfl (a_ rfl rfl rfl (s.zB (n:=L.length) (j:=12) rfl hlen (by decide) uE)) ?_)))
  refine zt rfl (ag rfl rfl bx) (by simp <;> omega) ?_
  refine zk 4 rfl (WP.block (zK 6 rfl (zo rfl (dG (r:=.ptr id off) rfl rfl g1) (zl rfl g2 (zc rfl (Kq hT.w.w (D:=D) (B:=1+2*i) (by omega) rf hN hp hd Wv s) ?_)))))
  rintro v h ⟨e,ji,m8,aF,ε',I,jD,h0,he,i1,i2,i3,i4,rfl,s⟩
  have J:=h0.room rB
  have hk:((3≤D.act∧D.act≤7)∧ji=ps)∨(¬(3≤D.act∧D.act≤7)∧qA 12 D ε ps e ji aF ε'):=by
   cases h0 with
   | Sa _ _ _ _ hn ho=>exact .inr ⟨hn,ho⟩
   | ck _ _ _ _ _ h=>exact .inl ⟨by omega,rfl⟩
   | all h=>exact .inl ⟨by omega,rfl⟩
   | sync h=>exact .inl ⟨by omega,rfl⟩
   | clean h=>exact .inl ⟨by omega,rfl⟩
   | force h=>exact .inl ⟨by omega,rfl⟩
  refine zk 14 rfl (zh rfl (dA rfl rfl) (rfl) (zk 2 rfl (zh rfl (ag rfl rfl bR) (by simp; exact he) ?_)))
  obtain ⟨id,off,g1,g2,g3⟩:=s.OU (P:=Tryz.prog) (i:=i) (j:=11) rfl (by omega) (by decide) uE Vd Ve
  rw [c1] at g2 g3
  refine zk 13 rfl (zo rfl (dG (r:=.ptr id off) rfl rfl g1) (zf rfl (yz _ _) (zl rfl (g3 0 _ _ rfl c7) ?_)))
  rcases hk with ⟨ha,rfl⟩ | ⟨ha,ho⟩
  ·skip
   refine zh rfl (ag rfl rfl Bl) (by simp; omega) ?_
   refine zk 3 rfl (zo rfl (dG (r:=.ptr id off) rfl rfl g1) (zf rfl (yz _ _) (zl rfl (g3 0 _ _ rfl c7) (zh rfl (ag rfl rfl dR) (by simp; omega) ?_))))
   refine zk 13 rfl (zv (zj rfl (WP.skip (zr rfl (zm rfl (zb rfl (by exact bO (aT (by omega) (by omega))) ?_))))))
   refine za rfl (zv ?_)
   exact ih (i+1) ε' η ji m8 bv I jD _ _ Q (by omega) (i1.more (by omega)) (Mb.more (by omega)) mu J i2 i3 vZ i4 ((s.ae [0,0,0,0,0,1,1,1,1,1,1,1]).del 12) ⟨rfl,rfl,rfl,rfl,rfl,rfl,rfl,aa⟩ U hx
  ·have R5:e=0∨((e=7∨e=2)∧ji=ps):=by
    cases ho with
    | drop=>exact .inl rfl
    | fail _ _ _ _ _ _ _ _ _ _ hh=>exact .inr ⟨hh,rfl⟩
    | done=>exact .inl rfl
   by_cases h2:D.act≤2
   ·skip
    refine zt rfl (ag rfl rfl Bl) (by simp; exact h2) ?_
    refine zk 10 rfl ?_
    rcases R5 with rfl | ⟨he7,rfl⟩
    ·skip
     refine zt rfl (ag rfl rfl bR) (by decide) ?_
     refine zk 17 rfl ?_
     have s:=s.ae [6,6,6,6,6,5,0,0,0,0,0,0,0]
     dsimp only [bringA,getA,aU] at s
     refine zo rfl (dG (r:=.ptr id off) rfl rfl g1) (zl rfl g2 (zc rfl (HX hT.w.w (D:=D) ha (B:=1+2*i) (by omega) Mb hN vZ (by simp) Wv s) ?_))
     rintro v h ⟨f,qs,CA,aam,Ij,nZ,j1,j2,j3,rfl,s⟩
     have Q3:=Ii mu nZ
     rcases ho.pair rB nZ (by decide) with rfl | ⟨rfl,rfl⟩
     ·skip
      refine zk 14 rfl (zh rfl (dA rfl rfl) (rfl) (zk 2 rfl (zh rfl (ag rfl rfl bR) (by decide) ?_)))
      refine zk 3 rfl (zt rfl (ag rfl rfl bR) (by decide) ?_)
      refine zk 6 rfl (zt rfl (ag rfl rfl bR) (by decide) ?_)
      exact zk 2 rfl (WP.ret (U _ _ rfl))
     ·skip
      refine zk 14 rfl (zh rfl (dA rfl rfl) (rfl) (zk 2 rfl (zh rfl (ag rfl rfl bR) (by decide) ?_)))
      refine zk 3 rfl (zh rfl (ag rfl rfl bR) (by decide) ?_)
      refine zp rfl (zv (zj rfl (WP.skip (zr rfl (zk 2 rfl (zv (zr rfl (zm rfl (zb rfl (by exact bO (aT (by omega) (by omega))) ?_)))))))))
      refine za rfl (zv ?_)
      exact ih (i+1) ε' Ij qs m8 CA I jD _ _ Q (by omega) (i1.more (by omega)) (j1.more (by omega)) Q3 J i2 i3 j3 i4 (s.ae [5,5,5,5,5,0,0,0,0,0,0,0]) ⟨rfl,rfl,rfl,rfl,rfl,rfl,rfl,aa⟩ U hx
    ·skip
     refine zh rfl (ag rfl rfl bR) (by simp; omega) ?_
     refine zk 2 rfl (zh rfl (ag rfl rfl bR) (by simp; omega) ?_)
     refine zk 3 rfl (zh rfl (ag rfl rfl bR) (by simp; omega) ?_)
     refine zk 2 rfl (zv (zj rfl (WP.skip (zr rfl (zm rfl (zb rfl (by exact bO (aT (by omega) (by omega))) ?_))))))
     refine za rfl (zv ?_)
     exact ih (i+1) ε' η ji m8 bv I jD _ _ Q (by omega) (i1.more (by omega)) (Mb.more (by omega)) mu J i2 i3 vZ i4 ((s.ae [0,0,0,0,0,1,1,1,1,1,1,1]).del 12) ⟨rfl,rfl,rfl,rfl,rfl,rfl,rfl,aa⟩ U hx
   ·skip
    refine zh rfl (ag rfl rfl Bl) (by simp; omega) ?_
    refine zk 3 rfl (zo rfl (dG (r:=.ptr id off) rfl rfl g1) (zf rfl (yz _ _) (zl rfl (g3 0 _ _ rfl c7) (zt rfl (ag rfl rfl dR) (by simp; omega) ?_))))
    refine zk 3 rfl ?_
    rcases R5 with rfl | ⟨he7,rfl⟩
    ·skip
     refine zt rfl (ag rfl rfl bR) (by decide) ?_
     refine zk 17 rfl ?_
     have s:=s.ae [6,6,6,6,6,5,0,0,0,0,0,0,0]
     dsimp only [bringA,getA,aU] at s
     refine zo rfl (dG (r:=.ptr id off) rfl rfl g1) (zl rfl g2 (zc rfl (HX hT.w.w (D:=D) ha (B:=1+2*i) (by omega) Mb hN vZ (by simp) Wv s) ?_))
     rintro v h ⟨f,qs,CA,aam,Ij,nZ,j1,j2,j3,rfl,s⟩
     have Q3:=Ii mu nZ
     rcases ho.pair rB nZ (by decide) with rfl | ⟨rfl,rfl⟩
     ·skip
      refine zk 14 rfl (zh rfl (dA rfl rfl) (rfl) (zk 2 rfl (zh rfl (ag rfl rfl bR) (by decide) ?_)))
      refine zk 3 rfl (zt rfl (ag rfl rfl bR) (by decide) ?_)
      refine zk 6 rfl (zt rfl (ag rfl rfl bR) (by decide) ?_)
      exact zk 2 rfl (WP.ret (U _ _ rfl))
     ·skip
      refine zk 14 rfl (zh rfl (dA rfl rfl) (rfl) (zk 2 rfl (zh rfl (ag rfl rfl bR) (by decide) ?_)))
      refine zk 3 rfl (zh rfl (ag rfl rfl bR) (by decide) ?_)
      refine zp rfl (zv (zj rfl (WP.skip (zr rfl (zk 2 rfl (zv (zr rfl (zm rfl (zb rfl (by exact bO (aT (by omega) (by omega))) ?_)))))))))
      refine za rfl (zv ?_)
      exact ih (i+1) ε' Ij qs m8 CA I jD _ _ Q (by omega) (i1.more (by omega)) (j1.more (by omega)) Q3 J i2 i3 j3 i4 (s.ae [5,5,5,5,5,0,0,0,0,0,0,0]) ⟨rfl,rfl,rfl,rfl,rfl,rfl,rfl,aa⟩ U hx
    ·skip
     refine zh rfl (ag rfl rfl bR) (by simp; omega) ?_
     refine zk 2 rfl (zh rfl (ag rfl rfl bR) (by simp; omega) ?_)
     refine zk 3 rfl (zh rfl (ag rfl rfl bR) (by simp; omega) ?_)
     refine zk 2 rfl (zv (zj rfl (WP.skip (zr rfl (zm rfl (zb rfl (by exact bO (aT (by omega) (by omega))) ?_))))))
     refine za rfl (zv ?_)
     exact ih (i+1) ε' η ji m8 bv I jD _ _ Q (by omega) (i1.more (by omega)) (Mb.more (by omega)) mu J i2 i3 vZ i4 ((s.ae [0,0,0,0,0,1,1,1,1,1,1,1]).del 12) ⟨rfl,rfl,rfl,rfl,rfl,rfl,rfl,aa⟩ U hx
theorem Q4 (hT:W4 told)(hD:∀D∈L,D.data.length≤1048576∧D.w.length≤1048576∧∀x∈D.w,x.2.length≤1048576)(hLn:L.length≤1048576)(s:Sat h (j7 4 lv cs::jW cs L::S)):
  Call ⟨Tryz.prog,told⟩ 7 [lv] h fun v h'=>v=.bool true:=by
 have U:=hT.w.w.w
 have hlen:=zD s (k:=1) rfl
 refine Call.of_wp (U.free _ rfl) Ig rfl rfl (zK 7 rfl (zc rfl (QF hT.w s) ?_))
 rintro v h' ⟨rfl,rfl⟩
 refine zh rfl (dA rfl rfl) (rfl) (zk 7 rfl (zo rfl (a_ rfl rfl rfl (s.zB (n:=L.length) (j:=0) rfl hlen (by decide) uE)) ?_))
 by_cases hL:200<L.length
 ·skip
  refine zt rfl (ag rfl rfl dR) (by simp; omega) ?_
  refine zk 6 rfl (WP.ret ⟨aa,_,rfl,?_⟩)
  trivial
 ·skip
  refine zh rfl (ag rfl rfl dR) (by simp; omega) ?_
  refine zk 5 rfl (zc rfl (CP (n:=12) (m:=65536) (f:=10) U s (by decide) (by decide) (by decide) (by decide) (by decide)) ?_)
  rintro v h ⟨p,a,q,r,rfl,s⟩
  refine zk 8 rfl (zc rfl (CP (n:=12) (m:=65536) (f:=64) U s (by decide) (by decide) (by decide) (by decide) (by decide)) ?_)
  rintro v h ⟨p2,a2,q2,r2,rfl,s⟩
  refine zk 10 rfl (zh rfl (ag rfl rfl (CJ y8)) (rfl) (zk 2 rfl (zh rfl (ag rfl rfl (CJ y8)) (rfl) ?_)))
  obtain ⟨i1,lp,jL,sn⟩:=HQ
  obtain ⟨pv,h1,e3,s1⟩:=rP (P:=Tryz.prog) s oz lp RA jL (by omega) rfl (by decide) (by decide) (n:=12) (c:=12) (by decide) (by decide)
  refine zk 6 rfl (aB.any rfl rfl rfl (OpR.of (R:=fun v h'=>v=pv∧h'=h1) (pZ rfl rfl e3) ⟨rfl,rfl⟩) ?_)
  rintro v h ⟨rfl,rfl⟩
  have s:Sat h (.arr 1 v (eo (List.replicate 12 []))::_):=s1
  obtain ⟨bv,h2,e4,s2⟩:=rP (P:=Tryz.prog) s oz lp RA jL (by omega) rfl (by decide) (by decide) (n:=12) (c:=12) (by decide) (by decide)
  refine zk 4 rfl (aB.any rfl rfl rfl (OpR.of (R:=fun v h'=>v=bv∧h'=h2) (pZ rfl rfl e4) ⟨rfl,rfl⟩) ?_)
  rintro v2 h ⟨rfl,rfl⟩
  have s:Sat h (.arr 1 v2 (eo (List.replicate 12 []))::_):=s2
  refine zk 7 rfl (WP.block ?_)
  refine Ma hT (cs:=cs) (by omega) hD L.length 0 (fresh 12 65536 10) (fresh 12 65536 64) (List.replicate 12 []) _ _ _ _ _ _ _ (by omega) (EI.fresh (by decide) (by decide) (by decide) (by decide)) (EI.fresh (by decide) (by decide) (by decide) (by decide)) ⟨_,_,RS.fresh⟩ rfl rfl kK.fresh kK.fresh (fh _) (s.ae [6,6,6,6,1,1,1,1,1,0,0,0]) ⟨rfl,rfl,rfl,rfl,rfl,rfl,rfl,aa⟩ (fun E' h' hr=>⟨aa,_,oF hr,rfl⟩) (fun ε' Ij ji m8 CA jN jD E' h' rf Mb mu hN hp vZ hE s' => ?_)
  have s:=s'
  refine WP.has hE (zK 5 rfl (zc rfl (Ef U hN (by decide) (by omega) rf hp (s.ae [0,0,0,0,5,0,0,0,0,0])) ?_))
  rintro v h ⟨rfl,ox,j1,j2,s⟩
  refine zh rfl (dA rfl rfl) (rfl) (zk 3 rfl (zc rfl (Ef U hN (by decide) (by omega) Mb vZ (s.ae [6,6,6,6,4,0,0,0,0,0])) ?_))
  rintro v h ⟨rfl,I,k1,k2,s⟩
  refine zh rfl (dA rfl rfl) (rfl) (zk 3 rfl ?_)
  obtain ⟨rs,g,mu⟩:=mu
  have Ie:=mu.pre k2.2 k2.1
  obtain ⟨w1,w2,w3⟩:=k1.clean
  obtain ⟨v1,v2,v3⟩:=k1.writeAll
  have zy:=k1.cu
  have J6:=mH (ε:=I)
  obtain ⟨y1,y2⟩:=k1.aH
  have wQ:∀n∈I.1.aH.map (·.1),(Lit.int .i64 n).wf=true:=fun n hn=>wf_i64 (y1 n hn).1 (by have:=(y1 n hn).2; omega)
  refine zc rfl (HC hT.w.w s k1.ok.ok (by omega) (by omega) wQ v2.ok.ok.dk (fun e he=>by rw [v2.ec.dk.aq]; exact v2.ec.dk.keys _ (iX he))) ?_
  rintro v h ⟨rfl,s⟩
  rw [w1]
  refine zh rfl (ag rfl rfl aX) (by decide) ?_
  have J:=Ie.clean k1
  have Y9:kK (fH I).2 ji:=(vZ.of fun m _=>k2.1 m).of w3
  generalize (fH I).2=θ at s w2 J Y9
  have aaT:=w2.cu
  have abq:=mH (ε:=θ)
  have AT:=J.lr.cr w2.ok.ok.dk (by omega) (by decide)
  obtain ⟨F9,Et⟩:=HY (c:=[]) AT
  have XG:(fA θ.2.2 []).mark=[]:=J.lr.mark
  obtain ⟨u,r2,jj,z1,z2,z3,z4,z5,z6,z7,z8,z9⟩:=J.Wu (f:=9) (B:=401) (data:=[]) (r1:=[]) w2 (by decide) (by decide) ⟨fun n rec q=>(by cases q),.inl ⟨rfl,rfl,rfl⟩⟩ (by decide) (by decide) [] (by decide) (by decide)
  have s:=s.vQ
  have s:=s.ae [4,0]
  refine zk 7 rfl (zc rfl (QH (c:=[]) U s (bI _ _) AT) ?_)
  rintro v h ⟨q4,rfl,s⟩
  refine zc rfl (QT (n:=9) (base:=1) (aD:=0) (rs:=u) (dg:=[]) (fL:=r2) (data:=[]) hT (by decide) (by decide) s F9 rfl (.inl ⟨XG,rfl,rfl⟩) z5 (by decide) z1 z3 z2 z4) ?_
  rintro v h (⟨h0,_⟩ | ⟨_,a5,q5,r5,rfl,s⟩)
  ·exact absurd z6 h0
  refine zk 9 rfl (zt rfl (ag rfl rfl bR) (rfl) (zk 2 rfl (zt rfl (ag rfl rfl (R4 y8)) (rfl) (zk 4 rfl (zc rfl (Ef (N:=12) (B:=401) (ε:=(Pl.fresh 9,(iD 1 0 u,(eL (fA θ.2.2 []) 1 u [] r2).2))) U hN (by decide) (by decide) z7 (kK.alk Y9 hN w2 z7 z9) (s.ae [0,0,0,0,5])) ?_)))))
  rintro v h ⟨rfl,Z8,_,_,s⟩
  refine zk 3 rfl (WP.ret ⟨aa,_,rfl,?_⟩)
  rfl
end
end Go.Proofs.YtconhghphklfjaaGreat.Am
