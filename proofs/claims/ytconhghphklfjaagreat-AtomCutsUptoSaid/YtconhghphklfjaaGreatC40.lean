/- AtomCuts: a part of its proof; conditions: its statement's. -/
import Derived.Test.YtconhghphklfjaaGreatC39
import Derived.Test.YtconhghphklfjaaGreatC38
namespace Go.Proofs.YtconhghphklfjaaGreat.Am
open Go
theorem Mo {ρ:gh}{R:Dk→Prop}(J:∀δ k b,R δ→R (δ.bI k b).2): ∀ {l:List Int} {δ:Dk},R δ→R (againW ρ l δ).2:=by
 intro l
 induction l with
 | nil=>intro δ h; exact h
 | cons k l I =>
  intro δ h
  rw [againW]
  cases lookL k ρ.aq with
  | none=>exact I h
  | some b =>
   simp only
   split
   ·split
    ·exact J _ _ _ h
    ·exact I (J _ _ _ h)
   ·exact I h
theorem zY {R:Dk→Prop}{ba:Nat}{u r1 r2:List bW}(I:∀δ n,R δ→R (δ.cA n).2)(J:∀δ k b,R δ→R (δ.bI k b).2)(U:∀δ,R δ→R δ.dL.2){δ:Dk}(h:R δ): R (eP δ ba u r1 r2).2:=by
 unfold eP mh
 split
 ·exact I _ _ h
 ·have:=Mo (ρ:=redoL (ba+szB r1) r2 gh.none) (l:=aJ (redoL (ba+szB r1) r2 gh.none).aq) J (I δ (szB u) h)
  split
  ·exact this
  ·split
   ·exact this
   ·exact U _ this
theorem Dk.Ok.syn {δ:Dk}(h:δ.Ok): δ.dL.2.Ok:=by
 unfold Dk.dL
 split
 ·exact h
 ·split
  ·exact h.die
  ·have I:=h.c_
   refine ⟨I.aF,I.len,I.room,fun e he=>(by cases he),fun i b U => ?_,I.aL,by show (laidP δ.now δ.aq).length≤_; rw [nC]; exact I.many⟩
   have key:∀ {l:List (Int×List Nat)} {m:List (Option (List Nat))},(∀e∈l,e.2.length=512)→(∀(i:Nat) (b:List Nat),m[i]?=some (some b)→b.length=512)→∀(i:Nat) (b:List Nat),(laidP l m)[i]?=some (some b)→b.length=512:=by
    intro l
    induction l with
    | nil=>intro m _ hm; exact hm
    | cons e l ih =>
     intro m J hm
     exact ih (fun x hx=>J x (bl _ hx)) (KM hm (J e bn))
   exact key h.now h.aq i b U
theorem FG {δ:Dk}{n:Nat}: (δ.cA n).2.eG=δ.eG∧(δ.cA n).2.mark=δ.mark:=by
 have I:(δ.dB n).2.eG=δ.eG∧(δ.dB n).2.mark=δ.mark:=by
  unfold Dk.dB Dk.qD
  split
  ·split
   ·exact ⟨rfl,rfl⟩
   ·split
    ·exact ⟨rfl,rfl⟩
    ·split <;> exact ⟨rfl,rfl⟩
  ·exact ⟨rfl,rfl⟩
 unfold Dk.cA
 split
 ·exact I
 ·split
  ·unfold Dk.cE
   split
   ·exact I
   ·split <;> exact I
  ·exact I
theorem Pd {ba:Nat}{u r1 r2:List bW}{δ:Dk}: (eP δ ba u r1 r2).2.mark=δ.mark:=by
 refine zY (R:=fun x=>x.mark=δ.mark) (fun x n h=>FG.2.trans h) (fun x k b h => ?_) (fun x h => ?_) rfl
 ·unfold Dk.bI
  split
  ·exact h
  ·split
   ·exact h
   ·split <;> exact h
 ·unfold Dk.dL
  split
  ·exact h
  ·split <;> exact h
theorem Ru {ba:Nat}{u r1 r2:List bW}{δ:Dk}(h:δ.Ok): (eP δ ba u r1 r2).2.Ok :=
 zY (R:=Dk.Ok) (fun _ _ h=>h.cA) (fun _ _ _ h=>h.bI) (fun _ h=>h.syn) h
theorem Pe {ba:Nat}{u r1 r2:List bW}{δ:Dk}(U:δ.aF<0)(I:δ.eG=none): (eP δ ba u r1 r2).2.eG=none:=by
 have J:∀ {x:Dk} {n:Nat},x.aF<0→(x.cA n).2.aF<0:=fun {x n} h=>by
  have I:(x.dB n).2.aF<0:=by
   unfold Dk.dB Dk.qD
   split
   ·split
    ·exact h
    ·split
     ·exact h
     ·split
      ·exact h
      ·show x.c_.aF<0; rw [fU h]; exact h
   ·exact h
  unfold Dk.cA
  split
  ·exact I
  ·split
   ·unfold Dk.cE
    split
    ·exact I
    ·split
     ·exact I
     ·show (x.dB n).2.c_.aF<0; rw [fU I]; exact I
   ·exact I
 refine (zY (R:=fun x=>x.aF<0∧x.eG=none) (fun x n h=>⟨J h.1,FG.1.trans h.2⟩) (fun x k b h => ?_) (fun x h => ?_) ⟨U,I⟩).2
 ·unfold Dk.bI
  split
  ·exact h
  ·split
   ·exact h
   ·rw [af (by have:=h.1; omega)]
    exact ⟨by show x.c_.aF<0; rw [fU h.1]; exact h.1,h.2⟩
 ·unfold Dk.dL
  split
  ·exact h
  ·rw [af (by have:=h.1; omega)]
   exact ⟨by show x.c_.aF<0; rw [fU h.1]; exact h.1,h.2⟩
theorem EH {δ:Dk}{n:Int}(I:δ.now=[]): δ.at n=imgOf δ n:=by
 rw [Dk.at,I]; rfl
theorem jM.eng {ba aC N B f:Nat}{B0:Int→List Nat}{u r1 r2:List bW}{δ:Dk}(h:jM ba B0 u r1 r2 N δ)(hn:δ.now=[])(hw:δ.waiting=[])(ht:δ.eG=none)(hl:Lv δ)(lB:δ.Ok)(hf:1≤f)(Fz:f≤1024)(KP:1≤B)(hB:B≤1000)(eO:ba+szB u≤B*1048600)(Mg:aC≤1099511627776):
  (Am.eP δ ba u r1 r2).1=0∧EI N B (Pl.fresh f,(iG ba aC u,(Am.eP δ ba u r1 r2).2))∧RS N ba aC δ.mark u B0 (fun _=>none) (Pl.fresh f,(iG ba aC u,(Am.eP δ ba u r1 r2).2)):=by
 have Rt:∀r∈r2,r.Ok:=fun r hr=>h.cr.rs r (by rw [bR,h.cr.split]; exact List.mem_append.2 (.inr hr))
 obtain ⟨v1,v2⟩:=hl.eP (base:=ba) (rs:=u) (dm:=r1) Rt
 obtain ⟨o1,o2⟩:=h.eP hn hw
 obtain ⟨p1,p2,p3,p4⟩:=o2 v1
 have q1:=Ru (ba:=ba) (u:=u) (r1:=r1) (r2:=r2) lB
 have q2:=Pd (ba:=ba) (u:=u) (r1:=r1) (r2:=r2) (δ:=δ)
 have q3:=Pe (ba:=ba) (u:=u) (r1:=r1) (r2:=r2) hl.aF ht
 refine ⟨v1,?_⟩
 generalize (Am.eP δ ba u r1 r2).2=I at *
 have F:=EI.fresh (n:=N) (m:=0) (f:=f) (by have:=q1.many; rw [o1.aq] at this; exact this) (by decide) hf Fz
 have hlen:(logB ba u).length=szB u:=fO
 have aaU:szB u≤16777216:=by have:=q1.len; rw [p1,hlen] at this; exact this
 have SQ:szB u≤I.aL:=o1.cr.cert
 have hC:∀n b,¬hO (Pl.fresh f) n b:=fun n b ⟨i,x,hx,_,_,k2,_⟩=>by rw [qC hx] at k2; cases k2
 have xG:gK (Pl.fresh f).ak≤1*65536:=by
  have:=F.ct
  simp only [Am.ct,Am.fresh] at this
  omega
 have mC:∀n,pgA (Pl.fresh f,(iG ba aC u,I)) n=imgOf I n:=fun n=>by rw [mM (by rfl)]; exact EH p2
 constructor
 ·refine ⟨⟨⟨F.ok.ok.pl,KK (by omega) aaU Mg,q1⟩,F.ok.pins,F.ok.full⟩,⟨⟨v2.alive,v2.aF,o1.aq,fun k hk => ?_,?_,fun n U h1 => ?_⟩,F.ec.nodup,F.ec.j9,fun i x hx=>.inl ?_,F.ec.oR,F.ec.zR⟩,⟨p1.symm,?_,?_⟩,?_⟩
  ·rw [p2] at hk; cases hk
  ·rw [p2]; exact kq
  ·show dA (I.at n)=0
   rw [EH p2]; exact (p4 n U h1).2
  ·rw [qC hx]; decide
  ·show (logB ba u).length≤I.aL; omega
  ·show ba+(logB ba u).length≤_; omega
  ·show I.waiting.length+gK (Pl.fresh f).ak≤_
   rw [p3]
   simp only [bY]
   omega
 ·refine ⟨⟨rfl,rfl,rfl,rfl,p1,v2.alive,v2.aF,q2,q3,o1.tail,fun w hw=>(by rw [p3] at hw; cases hw),fun r hr=>h.cr.rs r (by rw [bR]; exact hr)⟩,?_,fun n U h1 => ?_,?_⟩
  ·refine ⟨rfl,rfl,p1,v2.alive,v2.aF,⟨u,[],by rw [bR],hlen⟩,by show (logB ba u).length≤I.aL; omega,fun n w t t' U hu qK hr hc => ?_,fun n rec q=>(by cases q),fun n _ wr J=>(by rw [p3] at J; cases J),fun n b hb=>absurd hb (hC n b),fun n rec q=>(by cases q),fun n rec q=>(by cases q),fun n b hb=>(by rw [p2] at hb; cases hb),fun n rec fl q=>(by cases q),fun n rec q=>(by cases q),fun n w U hc => ?_,fun n q=>q.elim⟩
   ·have qK:(logB ba u).length≤szB t:=qK
    obtain ⟨w',e1,e2⟩:=Dr (a:=u) (b:=[]) (u:=t) (v:=t') (by rw [bR]; exact hu) (by omega)
    obtain ⟨e3,_⟩:=List.append_eq_nil_iff.1 e2.symm
    rw [e3,bR] at e1
    subst e1
    have Br:w=imgOf I n:=by
     rcases hc with hc | ⟨wr,J,_⟩
     ·exact hc
     ·rw [p3] at J; cases J
    rw [Br]
    exact (p4 n U.1 (by have:=U.2; rw [o1.aq] at this; exact this)).1
   ·have Br:w=imgOf I n:=by
     rcases hc with hc | ⟨wr,J,_⟩
     ·exact hc
     ·rw [p3] at J; cases J
    rw [Br]
    by_cases hN:n<(N:Int)
    ·exact (p4 n U hN).2
    ·have:imgOf I n=List.replicate 512 0:=by
      have EU:=o1.aq
      rw [imgOf,oW (by omega)]
     rw [this]; exact xH
  ·rw [mC]; exact (p4 n U h1).1
  ·have:=h.cr.gd
   rw [bR] at this
   exact this
theorem pZ (M:Nat): kM fun x=>x.2.room=M:=by
 refine ⟨fun x n h => ?_,fun x n b h => ?_⟩
 ·unfold bC Dk.cE
  split
  ·exact h
  ·split
   ·exact h
   ·split
    ·exact h
    ·split <;> first | exact h | exact h
 ·unfold Dk.bI
  split
  ·exact h
  ·split
   ·exact h
   ·split <;> exact h
theorem kM.all {R:LD→Prop}(h:kM R): ∀ {l:List Int} {ε:aM},R ε.2→R (writeAllF l ε).2.2:=by
 intro l
 induction l with
 | nil=>intro ε I; exact I
 | cons n l U =>
  intro ε I
  have J:R (eo ε n).2.2:=by
   unfold eo
   split
   ·exact I
   ·exact h.out I
  rw [writeAllF]
  split
  ·exact J
  ·exact U J
section
variable {N M:Nat} {ε ε':aM} {x:LD}
theorem sH {kd:Int}{tx pv nx:Nat}{data:List Nat}{c:List cj}: (bp x kd tx pv nx data c).2.2.room=x.2.room:=by
 rcases iD x kd tx pv nx data c with ⟨e,_,_,I⟩ | ⟨_,_,I⟩ | ⟨_,_,_,_,_,I⟩ <;> rw [I] <;> rfl
theorem IA {n:Nat}: (bC x n).2.2.room=x.2.room:=(pZ x.2.room).force x n rfl
theorem IB {n:Nat}: (gU x n).2.2.room=x.2.room:=by
 have h:(x.2.nW (ew x.1.base n)).2.room=x.2.room:=by
  unfold Dk.nW
  split
  ·rfl
  ·split
   ·rfl
   ·split <;> rfl
 unfold gU
 split
 ·rfl
 ·split <;> exact h
theorem Mp {n:Nat}: (gL x n).2.2.room=x.2.room:=by
 have h:(x.2.mI ((n-x.1.base:Nat):Int) (ew n x.1.check)).2.room=x.2.room:=by
  unfold Dk.mI
  split
  ·rfl
  ·split
   ·rfl
   ·split <;> rfl
 unfold gL
 split
 ·rfl
 ·split <;> exact h
theorem De.room {y:(Nat×Int)×LD}{kp aC J:Nat}{data dF I:List Nat}{e:Int}{z:LD}(hc:De y kp data dF aC e z I J)(h1:y.2.2.room=M): z.2.room=M:=by
 have h2:(kN y).2.2.room=M:=by rw [kN,IA]; exact h1
 have U:(gv y).2.2.room=M:=by rw [gv,IB]; exact h2
 cases hc with
 | app _=>exact h1
 | force _ _=>exact h2
 | check _ _ _=>exact U
 | cut t _ _ _ _ _ _=>rw [Mp]; exact U
 | cG _ _ _ _=>exact U
theorem Bp.room {lo aC J:Nat}{data dF I:List Nat}{e:Int}(U:Bp ε lo data dF aC e ε' I J)(h:ε.2.2.room=M): ε'.2.2.room=M:=by
 cases U with
 | OB _=>exact h
 | dead _ _=>exact h
 | go e y I J _ _ hc=>exact hc.room (by rw [mE,sH]; exact h)
theorem sq.room {now:List (Int×List Nat)}{kd tx pv nx pW aI:Nat}{data:List Nat}{e:Int}{cl:Bool}(U:sq ε now kd tx pv nx data pW aI e cl ε')(h:ε.2.2.room=M): ε'.2.2.room=M:=by
 have pr:=pZ M
 cases U with
 | arg _=>exact h
 | dead _ _ _ _=>exact h
 | mB e c ε' _ _ _ _ I _=>exact pr.ch I h
 | app c J _ _ _ _ I _=>exact sH.trans (pr.ch I h)
 | put c J e Yi _ _ _ _ I _ hp=>exact pr.pt hp (sH.trans (pr.ch I h))
end
theorem LR.sync {ba aC:Nat}{mk:List Nat}{rs:List bW}{x:LD}(h:LR ba aC mk rs x): LR ba aC mk rs (x.1,x.2.sync) :=
 ⟨h.base,h.b,h.bq,h.check,h.log,h.alive,h.aF,h.mark,h.eG,h.tail,fun w hw=>(by cases hw),h.rs⟩
theorem RS.clean {N B ba aC:Nat}{mk:List Nat}{rs:List bW}{B0:Int→List Nat}{g:Int→Option Nat}{ε:aM}(h:RS N ba aC mk rs B0 g ε)(I:EI N B ε): RS N ba aC mk rs B0 (fun _=>none) (fD ε).2:=by
 refine ⟨?_,RI.Us h.ri I.ec h.st,fun n h0 J=>by rw [(OL I.ec).2.2 n h0]; exact h.st n h0 J,h.gd⟩
 have w1:=(qA I.ec (FF ε)).1
 have U:=(rH ba aC mk rs).all (l:=aJ ε.1.aH) h.lr
 have e:dP (writeAllF (aJ ε.1.aH) ε).2.1 (writeAllF (aJ ε.1.aH) ε).2.2.2=(0,{ (writeAllF (aJ ε.1.aH) ε).2.1 with aN:=(writeAllF (aJ ε.1.aH) ε).2.1.aN.filter fun e=>e.2.2 },(writeAllF (aJ ε.1.aH) ε).2.2.2.sync):=by
  have es:(writeAllF (aJ ε.1.aH) ε).2.2.2.dL=(0,(writeAllF (aJ ε.1.aH) ε).2.2.2.sync):=by
   have J:=U.alive
   have h2:=U.aF
   generalize (writeAllF (aJ ε.1.aH) ε).2.2.2=δ at J h2
   rw [Dk.dL,af (by rw [J]; decide),af (by omega),fU h2]
  rw [dP,es,af (by simp)]
 rw [fD,af (by rw [I.ec.dk.alive]; decide),af (by rw [w1]; decide),e]
 exact U.sync
theorem Rv {a b:List Nat}(h:js a b)(ha:dA a=0)(hb:dA b=0): jQ a=jQ b:=by
 have hz:bU (List.replicate 512 0)=false:=by decide +kernel
 have key:∀ {x y:List Nat},js x y→x=List.replicate 512 0→dA y=0→y=List.replicate 512 0:=fun {x y} J hx hy=>by
  refine DB fun U => ?_
  have hg:=J.good
  rw [hx,hz] at hg
  rw [dA,af U,aj hg.symm] at hy
  cases hy
 by_cases I:a=List.replicate 512 0
 ·rw [I,key h I hb]
 ·have h2:b≠List.replicate 512 0:=fun q=>I (key h.symm q ha)
  rw [jQ,jQ,af (by rintro (q | q); exact q h.1; exact I q),af (by rintro (q | q); exact q h.2.1; exact h2 q),h.2.2]
theorem lP.alk {N B J:Nat}{ε ε':aM}{ps:List (List Nat)}(h:lP ε ps)(U:ps.length=N)(h1:EI N B ε)(h2:EI N J ε')(ha:∀n,0≤n→n<(N:Int)→js (pgA ε' n) (pgA ε n)): lP ε' ps:=fun n w I=>by
 have bS:n<N:=by rw [←U]; exact (List.getElem?_eq_some_iff.1 I).1
 rw [←h n w I]
 exact Rv (ha n (by omega) (by omega)) (h2.ec.aC (by omega) (by omega)) (h1.ec.aC (by omega) (by omega))
theorem RS.W7 {N B f ba aC:Nat}{mk data:List Nat}{rs r1:List bW}{B0:Int→List Nat}{ε:aM}(h:RS N ba aC mk rs B0 (fun _=>none) ε)(I:EI N B ε)(KP:1≤B)(hB:B≤1000)(hc:O_ ba aC data rs r1 ε.2.1.forced (fun _=>none))(U:aC≤1099511627776)(OW:mk.length≤64)(c:List Nat)(hf:1≤f)(Fz:f≤1024):
  ∃u r2 j,(fE ε.2.2 c).log=logB ba u++j∧rF j∧(∀r∈u,r.Ok)∧BX ba aC u data r1 r2∧ba+(fE ε.2.2 c).log.length≤1099511627776∧(eP (fE ε.2.2 c) ba u r1 r2).1=0 ∧
   EI N B (Pl.fresh f,(iG ba aC u,(eP (fE ε.2.2 c) ba u r1 r2).2))∧RS N ba aC mk u B0 (fun _=>none) (Pl.fresh f,(iG ba aC u,(eP (fE ε.2.2 c) ba u r1 r2).2)) ∧
   ∀n,0≤n→n<(N:Int)→js (pgA (Pl.fresh f,(iG ba aC u,(eP (fE ε.2.2 c) ba u r1 r2).2)) n) (pgA ε n):=by
 have ZL:=I.ok.ok.dk
 have xG:=I.ct
 have Hy:=mL (ε:=ε)
 have hv:=uV.1 h.ri
 obtain ⟨u,v,r2,hu,hf0,wF,A6⟩:=h.cr hc ZL
 obtain ⟨t,t',ng,aaV⟩:=A6.Yj c
 have aaW:=h.lr.cr ZL (by omega) OW
 obtain ⟨Gs,EU⟩:=Iq (c:=c) aaW
 have J2:jM ba B0 (u++t) r1 (r2++t) N (fE ε.2.2 c):=⟨aaV,rfl,by rw [EU]; exact I.ec.dk.aq,fun k hk=>(by cases hk),kq,fun n b hb=>(by cases hb)⟩
 obtain ⟨j,e1,e2⟩:=J2.W6
 have hlen:(fE ε.2.2 c).log.length≤16777216:=Gs.ok.len
 have ZJ:szB (u++t)≤szB rs:=by rw [hu,ng,←bN]; exact sA
 have eO:=I.el.size
 rw [h.lr.base,h.lr.b,fO] at eO
 obtain ⟨o1,o2,o3⟩:=J2.eng (aC:=aC) (B:=B) (f:=f) rfl rfl rfl Rm Gs.ok hf Fz KP hB (by omega) U
 have J:(fE ε.2.2 c).mark=mk:=h.lr.mark
 rw [J] at o3
 refine ⟨u++t,r2++t,j,e1,e2,o3.lr.rs,wF.more,by omega,o1,o2,o3,fun n h0 h1 => ?_⟩
 have vh:Bw ε.2.2 n:=⟨h0,by rw [I.ec.dk.aq]; exact h1⟩
 have a1:=hv.mo n (imgOf ε.2.2 n) (u++t) t' vh (by rw [hu,ng,bN]) (by rw [hf0]; exact sA) (fun rec q=>(by cases q)) (.inl rfl)
 have a2:=hv.mo n (imgOf ε.2.2 n) rs [] vh (by rw [bR]) hv.le (fun rec q=>(by cases q)) (.inl rfl)
 exact (((o3.st n h0 h1).symm.trans a1).trans a2.symm).trans (h.st n h0 h1)
theorem uW {n:Nat}(h:n<128): (digits 9 n).length=1:=by
 show (if n<128 then [n] else (n%128+128)::digits 8 (n/128)).length=1
 rw [aj h]; rfl
theorem xL {n:Nat}(h:n<16384): (digits 9 n).length≤2:=by
 show (if n<128 then [n] else (n%128+128)::(if n/128<128 then [n/128] else (n/128%128+128)::digits 7 (n/128/128))).length≤2
 split
 ·exact mY 1
 ·rw [aj (by omega)]; exact aK 2
theorem xM {c:cj}(I:c.aO.toNat<128)(J:c.pos.toNat<16384)(U:c.b.length<16384): (kK c).length≤6+c.b.length:=by
 have e1:=uW I
 have e2:=xL J
 have e3:=xL U
 simp only [kK,bA,bj,bY]
 omega
theorem Uu {pg:Int}{cR now:List Nat}{i:Nat}{l:List cj}(J:uP pg cR now i l)(hn:now.length=512)(hp:pg.toNat<128): ∀j,(∀k,i≤k→k<j→cR[k]?=now[k]?)→j≤520→(l.flatMap kK).length≤520-max i j:=by
 induction J with
 | done i h=>intro j _ _; simp
 | skip i l h he J U =>
  intro j hj I
  have:=U j (fun k h1 h2=>hj k (by omega) h2) I
  omega
 | take i e l h1 h2 h3 h4 J U =>
  intro j hj I
  have Cl:j≤i:=tE fun bS=>h3 (hj i (aK _) bS)
  have h5:=U (e+8) h4 (by omega)
  have hl:((now.take e).drop i).length=e-i:=by rw [nL,dI]; omega
  have h6:=xM (c:=⟨pg,i,false,(now.take e).drop i⟩) hp (by show (i:Int).toNat<_; omega) (by show ((now.take e).drop i).length<_; omega)
  rw [qP,bA]
  simp only [hl] at h6
  omega
theorem Uv {pg:Int}{cR now:List Nat}{c:List cj}(U:Fs pg cR now c)(hn:now.length=512)(I:pg.toNat<128): (c.flatMap kK).length≤518:=by
 obtain ⟨l,hl,rfl⟩:=U
 have:=Uu hl hn I 0 (fun k _ h=>absurd h (by omega)) (by omega)
 by_cases J:l=[]
 ·rw [aj J]
  have h6:=xM (c:=⟨pg,0,false,[]⟩) I (show (0:Int).toNat<16384 by decide) (show ([]:List Nat).length<16384 by decide)
  simp only [qP,DT,bR]
  simp only [bY] at h6
  omega
 ·rw [af J]; omega
theorem jr.len {N:Nat}{now:List (Int×List Nat)}{l:List Int}{ε ε':aM}{e:Int}{cs:List cj}(U:jr now l ε e cs ε')(hn:NW N now): (∀n∈l,n.toNat<128)→(cs.flatMap kK).length≤518*l.length:=by
 induction U with
 | nil ε=>intro _; simp
 | err n l ε e b ε' U he=>intro _; simp
 | part n l ε cR b ε' c e cs I U hb iY hc jY ht ih =>
  intro J
  have h1:=Uv hc (fA (hn.look hb).1) (J n bn)
  have h2:=ih fun m hm=>J m (bl _ hm)
  rw [List.flatMap_append,bA,bj]
  omega
 | whole n l ε cR b ε' e cs I U hb iY ht ih =>
  intro J
  have xP:=fA (hn.look hb).1
  have h1:=xM (c:=⟨n,0,true,b⟩) (J n bn) (show (0:Int).toNat<16384 by decide) (by show b.length<_; omega)
  have h2:=ih fun m hm=>J m (bl _ hm)
  rw [qP,bA,bj]
  simp only at h1
  omega
theorem IC {now:List (Int×List Nat)}{ε ε':aM}{e:Int}{cs:List cj}{kd:Int}{tx:Nat}(J:jr now (aJ now) ε e cs ε')(I:NW 12 now)(U:tx<16384): (cY kd tx 0 0 [] cs).length≤6232:=by
 have h1:=xL U
 have h2:=uW (n:=0) (by decide)
 have h4:=uW (n:=([]:List Nat).length) (by decide)
 have h5:=m7 cs.length
 have h6:=J.len I fun n hm=>by have:=I.keys n (gx.1 hm); omega
 have hl:(aJ now).length≤12:=by
  have:=I.len
  rw [aJ,(eB _).length_eq,en]; exact this
 simp only [cY,bA,bj,bY] at h4 ⊢
 omega
theorem rI (K:Nat): kM fun x=>x.2.log.length=K:=by
 refine ⟨fun x n h => ?_,fun x n b h => ?_⟩
 ·unfold bC Dk.cE
  split
  ·exact h
  ·split
   ·exact h
   ·split
    ·exact h
    ·split <;> first | exact h | exact h
 ·unfold Dk.bI
  split
  ·exact h
  ·split
   ·exact h
   ·split <;> exact h
theorem vp.fits {aI K M:Nat}{D:jb}{ε ε':aM}{ps mT:List (List Nat)}{e:Int}(ho:vp 12 D ε ps e mT aI ε')(ha:D.act≠2)(hd:D.data=[])(hK:ε.2.2.log.length=K)(hM:ε.2.2.room=M)(hf:K+6240≤M):
  e=0∧mT=nxW 12 D.w ps∧ε'.2.2.log.length≤K+6240:=by
 have Fh:vF D.cG<16384:=by have:=EG (k:=D.cG); omega
 cases ho with
 | drop ε' hb hp hg=>exact absurd hb ha
 | fail J ε' aI e _ hp hg hw hi hr he =>
  exfalso
  obtain ⟨B,hB,hi⟩:=hi
  have tf:∀n∈aJ (nowW 12 D.w []),0≤n∧n<(12:Nat):=fun n U=>hw.keys n (gx.1 U)
  have W8:J.2.2.log.length=K:=hp _ ((rI K).od 12) hK
  have hM1:J.2.2.room=M:=hp _ ((pZ M).od 12) hM
  rw [hd] at hr
  generalize jY:false=cl at hr
  cases hr with
  | arg hh=>omega
  | dead _ _ _ hd=>omega
  | mB e c ε' _ _ _ _ hc SA=>exact SA (hc.ec hi.ec hi.ok tf).2.2
  | app c I _ _ _ _ hc SA =>
   have sK:=IC (kd:=nG D.cG) hc hw Fh
   have ZM:I.2.2.log.length=K:=(rI K).ch hc W8
   have hM2:I.2.2.room=M:=(pZ M).ch hc hM1
   rcases iD I.2 (nG D.cG) (vF D.cG) 0 0 [] c with ⟨e,_,sM,U⟩ | ⟨_,hf,U⟩ | ⟨_,hb,B8,iH,hf,U⟩
   ·rw [U] at he
    rcases sM with ⟨rfl,_⟩ | ⟨_,hb⟩ | ⟨rfl,_⟩ | ⟨rfl,hb⟩
    ·rcases he with he | he <;> cases he
    ·omega
    ·rcases he with he | he <;> cases he
    ·rw [cN,mH] at hb; omega
   ·rw [U] at he; rcases he with he | he <;> cases he
   ·rw [U] at he; rcases he with he | he <;> cases he
  | put c J e I _ _ _ _ hc ha hp=>cases jY
 | done J ε' aI _ hp hg hw hi hr =>
  refine ⟨rfl,rfl,?_⟩
  have W8:J.2.2.log.length=K:=hp _ ((rI K).od 12) hK
  rw [hd] at hr
  generalize jY:true=cl at hr
  generalize hz:(0:Int)=e at hr
  cases hr with
  | arg hh=>cases jY
  | dead _ _ _ hd=>cases jY
  | mB e c ε' _ _ _ _ hc he=>cases jY
  | app c J _ _ _ _ hc he=>cases jY
  | put c I e ε3 _ _ _ _ hc Kc JU =>
   have sK:=IC (kd:=nG D.cG) hc hw Fh
   have ZM:I.2.2.log.length=K:=(rI K).ch hc W8
   rcases iD I.2 (nG D.cG) (vF D.cG) 0 0 [] c with ⟨e,he,_,U⟩ | ⟨_,hf,U⟩ | ⟨_,hb,B8,iH,hf,U⟩
   ·rw [U] at Kc; exact absurd Kc he
   ·rw [U] at Kc; cases Kc
   ·rw [U] at JU
    have h1:=(rI (K+(cN I.2.1 (nG D.cG) (vF D.cG) 0 0 [] c).length)).pt JU (by show (I.2.2.log++_).length=_; rw [bA,ZM])
    have h2:(cN I.2.1 (nG D.cG) (vF D.cG) 0 0 [] c).length≤6240:=by rw [cN,mH]; omega
    have h1:ε'.2.2.log.length=K+_:=h1
    omega
theorem Mq {u v rs:List bW}{rc:bW}(h:rs++[rc]=u++v)(I:szB rs<szB u): u=rs++[rc]:=by
 rcases tv v with rfl | ⟨v',z,rfl⟩
 ·rw [bR] at h; exact h.symm
 ·rw [List.concat_eq_append,←bN] at h
  have:=(mW h rfl).1
  rw [this,rG] at I
  omega
theorem Uw {a:Nat}{data:List Nat}(U:data.length≤4096): (cY 8 0 0 0 (le 8 a++data) []).length≤4111:=by
 have h2:=uW (n:=0) (by decide)
 have I:=uW (n:=([]:List cj).length) (by decide)
 have hw:=cX 8 a
 have J:=xL (n:=(le 8 a++data).length) (by rw [bA]; omega)
 simp only [cY,bA,bj,bY,DT] at I J ⊢
 omega
structure Pf (N a:Nat)(data:List Nat)(ε:aM): Prop where
 pos:1≤a
 ex:∃rc B1,RS N a a (ew a a) [rc] B1 (fun _=>none) ε∧O_ a a data [rc] [] ε.2.1.forced (fun _=>none)
 len:ε.2.2.log.length≤4119
theorem RS.single {N a:Nat}{data:List Nat}{B1:Int→List Nat}{rc:bW}{ε:aM}{C:Int→List Nat→Prop}{x:LD}(hC:C=hO ε.1)(hd:ε.1.aN=[])(he:ε.2=x)(ha:1≤a)(ha2:a<18446744073709551616)
 (I:LR a a (ew a a) [rc] x)(hf:x.1.forced=rc.len)(hc:x.1.forced≤x.2.aL)(hk:rc.kd=8)(U:rc.data=le 8 a++data)(jZ:rc.aR=[])(hlen:rc.len≤4119)
 (rW:∀n w,Bw x.2 n→sF x.2 n w→js (B1 n) w)(J:∀n,∀wr∈x.2.waiting,((wr.1:Nat):Int)≠n)(Mr:∀n b,¬C n b)(mK:∀n b,lookL n x.2.now=some b→∃wr∈x.2.waiting,((wr.1:Nat):Int)=n∧wr.2=b)
 (wF:∀n w,0≤n→sF x.2 n w→dA w=0)(fW:Iw N [rc] B1 ε)(bS:∀n,∀y∈B1 n,y<256): Pf N a data ε:=by
 subst hC he
 have eO:szB [rc]=rc.len:=by simp [szB]
 have uZ:∀n,d_ [rc] B1 n=B1 n:=fun n=>by simp only [d_,Ag,List.foldl_nil,jZ,ir]
 have Sl:∀r∈[rc],∀n,¬sG r n:=fun r hr n ⟨c,h1,_⟩=>by rw [List.mem_singleton.1 hr,jZ] at h1; cases h1
 refine ⟨ha,⟨rc,B1,⟨I,?_,fW,⟨bS,fun r hr c Bc => ?_,fun t t' n ht ⟨r,hr,h1⟩ => ?_⟩⟩,⟨fun n rec q=>(by cases q),.inr ⟨[],rc,[],rfl,rfl,by omega,hk,?_,?_,?_,?_⟩⟩⟩,?_⟩
 ·refine ⟨I.base,I.b,I.log,I.alive,I.aF,⟨[rc],[],rfl,by rw [eO]; exact hf⟩,hc,fun n w t t' h0 ht qK hr ql => ?_,fun n rec q=>(by cases q),fun n _=>J n,fun n b hb=>absurd hb (Mr n b),fun n rec q=>(by rw [hd] at q; cases q),fun n rec q=>(by rw [hd] at q; cases q),mK,fun n rec fl q=>(by rw [hd] at q; cases q),fun n rec q=>(by cases q),wF,fun n q=>q.elim⟩
  have:t=[rc]:=by
   cases t with
   | nil=>have:=rV rc; simp [szB] at qK; omega
   | cons y t=>cases t with
    | nil=>injection ht with h1 _; rw [h1]
    | cons z t=>injection ht with _ h2; cases h2
  rw [this,uZ]; exact rW n w h0 ql
 ·rw [List.mem_singleton.1 hr,jZ] at Bc; cases Bc
 ·exact absurd h1 (Sl r (by rw [ht]; exact DF _ hr) n)
 ·rw [U,bA,cX]; omega
 ·rw [U,pz (cX 8 a)]
 ·rw [U,ko (cX 8 a),sr,gT (by exact ha2)]; simp [szB]
 ·rw [hf]; simp [szB]
 ·rw [I.log,fO,eO]; exact hlen
theorem Pg {μ:Lg}{ba:Nat}{rs:List bW}{rc:bW}(I:μ.base=ba)(hs:μ.bq=jL 0 (rs++[rc])): vE μ (ba+szB rs)=jL 0 [rc]:=by
 have J:(jL 0 rs).filter (fun s=>decide (ba+szB rs≤ba+s))=[]:=List.filter_eq_nil_iff.2 fun s hs=>by
  have:=(zW.2 s hs).2
  simp only [ej]
  omega
 rw [vE,hs,I,xK,List.filter_append,J]
 simp [jL]
theorem RS.zT {N B ba aC aaX j_:Nat}{mk:List Nat}{rs:List bW}{B0:Int→List Nat}{ε ε':aM}{data dF iN:List Nat}{e:Int}(h:RS N ba aC mk rs B0 (fun _=>none) ε)(oc:EI N B ε)(hB:B≤1000)(W5:1≤ba)(qu:data.length≤4096)(iH:ε.2.2.log.length+4119≤ε.2.2.room)
 (hr:Bp ε 0 data dF aaX e ε' iN j_): e=0∧iN=data∧Pf N j_ data ε':=by
 obtain ⟨i1,i2,i3⟩:=oc.zT hB hr
 have eO:=oc.el.size
 cases hr with
 | OB hb=>omega
 | dead _ hd=>rw [oc.ec.dk.alive] at hd; cases hd
 | go e y iN j_ _ hd hc =>
  have Sx:RI ba yf B0 rs (fun _=>none) (hO ε.1) ε.1.aN ε.2:=h.ri
  have Ds:ε.1.aN=[]:=by
   cases hq:ε.1.aN with
   | nil=>rfl
   | cons x l =>
    have:=Sx.Bx x.1 x.2.1 x.2.2 (by rw [hq]; simp [lookL])
    cases this
  have hlen:(logB ba rs).length=szB rs:=fO
  have sK:ε.2.1.b.length=szB rs:=by rw [h.lr.b,hlen]
  have C7:ε.2.2.log.length=szB rs:=by rw [h.lr.log,hlen]
  have sE:gR ε=ba+szB rs:=by rw [gR,Ds,h.lr.base,sK]; rfl
  have WE:wD ε 0=ba+szB rs:=by rw [wD,aj rfl,sE]
  have SG:=Uw (a:=gR ε) qu
  have hw:=cX 8 (gR ε)
  have rS:=h.lr.base
  have ha:(mE ε data).1.2=0∧mE ε data=((ba+szB rs,0),(ε.2.1.app (cN ε.2.1 8 0 0 0 (le 8 (gR ε)++data) []),{ ε.2.2 with log:=ε.2.2.log++cN ε.2.1 8 0 0 0 (le 8 (gR ε)++data) [] })):=by
   rcases iD ε.2 8 0 0 0 (le 8 (gR ε)++data) [] with ⟨e,he,sM,hq⟩ | ⟨_,hf,hq⟩ | ⟨_,hb,B8,qK,hf,hq⟩
   ·exfalso
    rcases sM with ⟨_,hb⟩ | ⟨_,hb⟩ | ⟨_,hb⟩ | ⟨_,hb⟩
    ·exact absurd hb (by decide)
    ·omega
    ·rw [hd] at hb; cases hb
    ·rw [cN,mH] at hb; omega
   ·have:=oc.ec.dk.aF; omega
   ·rw [fU oc.ec.dk.aF,rS,sK] at hq
    exact ⟨by rw [mE,hq],hq⟩
  obtain ⟨Sd,yc⟩:=ha
  obtain ⟨rc,rok,k1,k2,k3,k4,k5,k6,k7,ID,k8,k9⟩:=h.lr.app (kd:=8) (tx:=0) (data:=le 8 (gR ε)++data) (c:=[]) (by decide) (by decide) (by decide) Sd
  have ID:LR ba aC mk (rs++[rc]) (mE ε data).2:=ID
  have Gr:∀n,¬sG rc n:=fun n ⟨c,hc,_⟩=>by rw [k6] at hc; cases hc
  have aaY:RI ba (fun _=>False) B0 (rs++[rc]) (fun _=>none) (hO ε.1) ε.1.aN (mE ε data).2:=by
   have:=Sx.app (r:=rc) (fun n _ hq=>absurd hq (Gr n)) (μ:=(mE ε data).2.1) (δ:=(mE ε data).2.2) (by rw [yc]; rfl) ID.b (by rw [yc]; rfl) ID.log (by rw [yc]) (by rw [yc]) (by rw [yc]) (by rw [yc]) (by rw [yc]) (by rw [yc]) (p:=fun _=>False) (fun n=>⟨False.elim,Gr n⟩)
   have this:RI ba (fun _=>False) B0 (rs++[rc]) (fun _=>if False then some (ba+szB rs) else none) (hO ε.1) ε.1.aN (mE ε data).2:=this
   rwa [show (fun _:Int=>if False then some (ba+szB rs) else none)=(fun _=>none) from funext fun _=>if_neg id] at this
  have hl8:=rV rc
  have uZ:szB (rs++[rc])=szB rs+rc.len:=by rw [rG]; simp [szB]
  have n1:(mE ε data).1.1=ba+szB rs:=by rw [yc]
  obtain ⟨J,kP,U,Fz,w1,w2,w3⟩:=aaY.force (ba+szB rs) (by omega)
  have hF:kN (mE ε data)=(0,J):=by rw [kN,n1]; exact kP
  have I:LR ba aC mk (rs++[rc]) J:=by
   have:=(rH ba aC mk (rs++[rc])).force _ (ba+szB rs) ID
   rw [kP] at this; exact this
  obtain ⟨u,v,hu,WD⟩:=U.forced
  have hua:u=rs++[rc]:=Mq hu (by omega)
  have Bg:J.1.forced=szB rs+rc.len:=by rw [WD,hua,uZ]
  have qg:=I.base
  have SQ:=U.cert
  have abA:J.1.b.length=szB rs+rc.len:=by rw [I.b,fO,uZ]
  have aa_:J.2.log.length=szB rs+rc.len:=by rw [I.log,fO,uZ]
  have EF:∀c,({ J.1 with check:=c }:Lg).hasB (ba+szB rs)=true:=fun c=>by
   rw [Lg.hasB]
   show (J.1.bq.any fun s=>decide (J.1.base+s=ba+szB rs))=true
   rw [I.bq,qg,xK,List.any_append]
   simp [jL]
  have hm:J.2.nW (ew ba (ba+szB rs))=(0,{ J.2 with mark:=ew ba (ba+szB rs) }):=by
   rw [Dk.nW,af (by rw [I.alive]; decide),af (by rw [mA]; decide),af (by have:=I.aF; omega),fU I.aF]
  have hC:gv (mE ε data)=(0,({ J.1 with check:=ba+szB rs },{ J.2 with mark:=ew ba (ba+szB rs) })):=by
   rw [gv,hF,n1,gU,af (not_not_intro ⟨EF J.1.check,by rw [qg]; exact Fz⟩),qg,hm,af (by simp)]
  have Yk:logB ba (rs++[rc])=logB ba rs++logB (ba+szB rs) [rc]:=uU
  have j8:(logB ba (rs++[rc])).drop (szB rs)=logB (ba+szB rs) [rc]:=by rw [Yk,pz hlen]
  have G4:∀n,d_ (rs++[rc]) B0 n=d_ rs B0 n:=fun n=>by rw [pY]; simp only [d_,Ag,List.foldl_nil,k6,ir]
  have W9:rc.len≤4119:=by
   have e1:rc.bd=cY 8 0 0 0 (le 8 (gR ε)++data) []:=by rw [bW.bd,k1,k2,k3,k4,k5,k6]; rfl
   rw [bW.len,e1]; omega
  have iY:rc.data=le 8 (ba+szB rs)++data:=by rw [k5,sE]
  have Mr:∀n b,¬hO ε.1 n b:=fun n b hb=>by
   obtain ⟨_,_,_,_,hq,_⟩:=U.FE n b hb
   rw [Ds] at hq; cases hq
  have rW:∀n w,Bw J.2 n→sF J.2 n w→js (d_ rs B0 n) w:=fun n w h0 ql=>by
   have:=U.mo n w (rs++[rc]) [] h0 (by simp) (by omega) (fun rec q=>by cases q) ql
   rwa [G4] at this
  have W_:∀r∈[rc],r.Ok:=fun r hr=>by rw [List.mem_singleton.1 hr]; exact rok
  cases hc with
  | app he=>exact absurd Sd he
  | force _ he=>rw [hF] at he; exact absurd rfl he
  | check _ _ he=>rw [hC] at he; exact absurd rfl he
  | cut t _ _ _ ht ab7 hx =>
   rw [hC,WE] at hx
   have V2:t=ba+szB rs:=hx (EF _) (by show ba+szB rs<J.1.base+J.1.b.length; omega)
   subst V2
   have Ij:gL (gv (mE ε data)).2 (ba+szB rs)=(0,(({ J.1 with check:=ba+szB rs }:Lg).cut (ba+szB rs),{ J.2 with log:=J.2.log.drop (szB rs),aL:=J.2.aL-szB rs,mark:=ew (ba+szB rs) (ba+szB rs) })):=by
    have e1:({ J.2 with mark:=ew ba (ba+szB rs) }:Dk).mI ((ba+szB rs-J.1.base:Nat):Int) (ew (ba+szB rs) (ba+szB rs))=(0,{ J.2 with log:=J.2.log.drop (szB rs),aL:=J.2.aL-szB rs,mark:=ew (ba+szB rs) (ba+szB rs) }):=by
     have hz:((ba+szB rs-J.1.base:Nat):Int)=((szB rs:Nat):Int):=by omega
     have Da:({ J.2 with mark:=ew ba (ba+szB rs) }:Dk).c_={ J.2 with mark:=ew ba (ba+szB rs) }:=fU I.aF
     rw [hz,Dk.mI,af (by show ¬J.2.dead=true; rw [I.alive]; decide),af (not_not_intro ⟨by omega,by show ((szB rs:Nat):Int)≤(J.2.aL:Int); omega,by rw [mA]; decide⟩),af (by show ¬J.2.aF=0; have:=I.aF; omega),Da,cP]
    rw [hC,gL,af,e1,af (by simp)]
    rintro (⟨_,q⟩ | q | ⟨_,q⟩)
    ·rw [EF] at q; cases q
    ·have q:J.1.base+J.1.forced<ba+szB rs:=q
     omega
    ·have q:ba+szB rs<ba+szB rs:=q
     omega
   rw [Ij] at i2
   rw [Ij,n1]
   refine ⟨rfl,rfl,RS.single (B1:=d_ rs B0) (rc:=rc) rfl Ds rfl (by omega) (by omega) ⟨rfl,?_,Pg qg I.bq,rfl,?_,I.alive,I.aF,rfl,I.eG,I.tail,I.wait,W_⟩ ?_ ?_ k1 iY k6 W9 rW (fun n=>U.clean n rfl) Mr U.now U.ck (fun n h0 h1 => ?_) (O9 h.gd.lt h.gd.O8)⟩
   ·show J.1.b.drop (ba+szB rs-J.1.base)=_
    rw [I.b,qg,Nat.add_sub_cancel_left,j8]
   ·show J.2.log.drop (szB rs)=_
    rw [I.log,j8]
   ·show J.1.forced-(ba+szB rs-J.1.base)=rc.len
    omega
   ·show J.1.forced-(ba+szB rs-J.1.base)≤J.2.aL-szB rs
    omega
   ·rw [i2]
    have:=h.st n h0 h1
    rw [←G4] at this
    have e2:d_ [rc] (d_ rs B0) n=d_ (rs++[rc]) B0 n:=by rw [pY]
    rw [e2]; exact this
  | cG _ _ _ hx =>
   rw [hC,WE] at hx
   have hz:szB rs=0:=by
    have:=hx (EF _) (by show ba+szB rs<J.1.base+J.1.b.length; omega)
    have this:ba+szB rs≤J.1.base:=this
    omega
   have qH:rs=[]:=by
    cases rs with
    | nil=>rfl
    | cons r l=>have:=rV r; simp only [szB] at hz; omega
   subst qH
   have ez:ba+szB []=ba:=rfl
   rw [hC] at i2
   rw [hC,n1]
   refine ⟨rfl,rfl,RS.single (B1:=B0) (rc:=rc) rfl Ds rfl (by omega) (by omega) ⟨qg,?_,?_,rfl,?_,I.alive,I.aF,rfl,I.eG,I.tail,I.wait,W_⟩ ?_ SQ k1 iY k6 W9 rW (fun n=>U.clean n rfl) Mr U.now U.ck (fun n h0 h1 => ?_) h.gd.O8⟩
   ·exact I.b
   ·exact I.bq
   ·exact I.log
   ·show J.1.forced=rc.len
    omega
   ·rw [i2]
    have:=h.st n h0 h1
    rw [←G4] at this
    exact this
theorem RS.Xa {n m f:Nat}: RS n 1 0 [] [] (fun _=>List.replicate 512 0) (fun _=>none) (Am.fresh n m f):=by
 have hi:∀k,imgOf (Dk.fresh n m) k=List.replicate 512 0:=fun k=>by rw [←EH (δ:=Dk.fresh n m) rfl]; exact BT k
 have hC:∀n b,¬hO (Pl.fresh f) n b:=fun n b ⟨i,x,hx,_,_,k2,_⟩=>by rw [qC hx] at k2; cases k2
 have hc:∀k w,sF (Dk.fresh n m) k w→w=List.replicate 512 0:=fun k w h=>by
  rcases h with h | ⟨wr,I,_⟩
  ·rw [h,hi]
  ·cases I
 refine ⟨⟨rfl,rfl,rfl,rfl,rfl,rfl,by show (-1:Int)<0; decide,rfl,rfl,rfl,fun w hw=>(by cases hw),fun r U=>(by cases U)⟩,?_,fun k _ _=>by rw [Fy]; exact js.refl fo,⟨fun k x hx=>by rw [qM hx]; decide,fun r U=>(by cases U),fun t t' k ht ⟨r,U,_⟩ => ?_⟩⟩
 ·refine ⟨rfl,rfl,rfl,rfl,by show (-1:Int)<0; decide,⟨[],[],rfl,rfl⟩,aK _,fun k w t t' h0 ht qK U J => ?_,fun k rec q=>(by cases q),fun k _ wr I=>(by cases I),fun k b hb=>absurd hb (hC k b),fun k rec q=>(by cases q),fun k rec q=>(by cases q),fun k b hb=>(by cases hb),fun k rec fl q=>(by cases q),fun k rec q=>(by cases q),fun k w h0 J => ?_,fun k q=>q.elim⟩
  ·obtain ⟨rfl,_⟩:=List.append_eq_nil_iff.1 ht.symm
   rw [hc k w J]
   exact js.refl fo
  ·rw [hc k w J]; exact xH
 ·obtain ⟨rfl,_⟩:=List.append_eq_nil_iff.1 ht.symm
  cases U
theorem Sat.Xb {P:Program}{h:H}{S:List ax}{k j:Nat}{v:V}{cs:List V}{t e:TypeId}{i:Nat}(s:Sat h S)(hj:getA S j=some (ja k v cs))(hi:i*k+k≤cs.length)(hk:1≤k)(hu:P.underlying t=some (.slice e))(I:bG P e=some k)(ha:cg P e=some true):
  ∃id off,indexAddrV P t v (.int .i64 (i:Int))=some (.ptr id off)∧loadV P h e (.ptr id off)=some (.agg ((cs.drop (i*k)).take k))∧∀m c t',((cs.drop (i*k)).take k)[m]?=some c→cg P t'=some false→loadV P h t' (.ptr id (off+m))=some c:=by
 rcases s.rowAt hj with ⟨_,rfl⟩ | ⟨id,len,cap,rfl,hl,U⟩
 ·simp at hi; omega
 ·refine ⟨id,i*k,?_,Se ha I U rfl hi,fun m c t' J ht=>J5 ht U ?_⟩
  ·simp only [indexAddrV,hu,I,cP]
   have:i<len:=by
    have h4:i*k+k=(i+1)*k:=by rw [iz,vT]
    rw [h4,hl] at hi
    exact DO (Dz hi hk)
   rw [show (decide ((0:Int)≤(i:Int))&&decide ((i:Int)<(len:Int)))=true by simp; omega,ag]
   simp
  ·rw [lU] at J
   split at J
   ·rw [jO] at J; rw [fR]; exact J
   ·cases J
section
variable {told:dH} {h:H} {S:List ax} {X:ax} {r q p a:Nat} {lv cv:V} {L:List jb} {cs:List V} {c:List Nat}
end
end Go.Proofs.YtconhghphklfjaaGreat.Am
