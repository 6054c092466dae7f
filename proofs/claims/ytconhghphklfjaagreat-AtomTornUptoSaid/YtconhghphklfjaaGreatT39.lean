/- AtomTorn: a part of its proof; conditions: its statement's. -/
import Derived.Test.YtconhghphklfjaaGreatT38
namespace Go.Proofs.YtconhghphklfjaaGreat.Am
open Go
theorem Pr {n:Int}: ∀ {l:List cn} {σ:Int→List Nat},(∀c∈l,c.aM≠n)→iM l σ n=σ n:=by
 intro l
 induction l with
 | nil=>intro σ _; rfl
 | cons c l J =>
  intro σ I
  show iM l (jv c σ) n=σ n
  rw [J fun c U=>I c (bp _ U),jv,af (fun q=>I c br q.symm)]
theorem IJ {n:Int}: ∀ {l:List bR} {σ:Int→List Nat},(∀r∈l,¬u7 r n)→eA l σ n=σ n:=by
 intro l
 induction l with
 | nil=>intro σ _; rfl
 | cons r l J =>
  intro σ I
  show eA l (iM r.aR σ) n=σ n
  rw [J fun r U=>I r (bp _ U),Pr fun c hc q=>I r br ⟨c,hc,q⟩]
def syG (d:List (Int×(Nat×Bool)))(n:Int): Option Nat:=match lookL n d with
 | some (rec,true)=>some rec
 | _=>none
section
variable {N ba:Nat} {B0:Int→List Nat} {rs:List bR} {g:Int→Option Nat} {ε ε':aO}
theorem RI.Ps (h:vw (RI ba (fun _=>False) B0 rs g) ε)(he:EC N ε){n:Int}(J:0≤n): ((∃b,lookL n ε.2.2.now=some b∧imgOf ε.2.2.sync n=b)∨(lookL n ε.2.2.now=none∧imgOf ε.2.2.sync n=imgOf ε.2.2 n))∧imgOf ε.2.2.sync n=ε.2.2.at n:=by
 have e:imgOf ε.2.2.sync n=ε.2.2.at n:=by
  rw [imgOf,Dk.at,show ε.2.2.sync.aq=laidP ε.2.2.now ε.2.2.aq from rfl,laidP_get he.dk.aq he.dk.nodup he.dk.keys J]
  cases I:lookL n ε.2.2.now with
  | some b=>rfl
  | none=>rfl
 refine ⟨?_,e⟩
 cases I:lookL n ε.2.2.now with
 | some b=>exact .inl ⟨b,rfl,by rw [e,Dk.at,I]⟩
 | none=>exact .inr ⟨rfl,by rw [e,Dk.at,I]; rfl⟩
theorem RI.sync (h:vw (RI ba (fun _=>False) B0 rs g) ε)(he:EC N ε)(gF:∀n,0≤n→n<(N:Int)→kj (eA rs B0 n) (pgA ε n)):
  cH ε.1 ε.2.2=(0,{ ε.1 with aN:=ε.1.aN.filter fun e=>e.2.2 },ε.2.2.sync)∧vw (RI ba (fun _=>False) B0 rs (syG ε.1.aN)) ({ ε.1 with aN:=ε.1.aN.filter fun e=>e.2.2 },(ε.2.1,ε.2.2.sync)):=by
 have h:=jT.1 h
 have es:ε.2.2.c7=(0,ε.2.2.sync):=by rw [Dk.c7,af (by rw [he.dk.alive]; decide),af (by have:=he.dk.aD; omega),fP he.dk.aD]
 have hC:∀d,iu ⟨ε.1.ak,ε.1.aE,d,ε.1.hand⟩=iu ε.1:=fun d=>rfl
 have hd:∀n,lookL n (ε.1.aN.filter fun e=>e.2.2)=match lookL n ε.1.aN with | some (rec,true)=>some (rec,true) | _=>none:=fun n=>lookL_filter he.yA
 have j5:∀ {n rec fl},lookL n (ε.1.aN.filter fun e=>e.2.2)=some (rec,fl)→fl=true∧lookL n ε.1.aN=some (rec,true):=fun {n rec fl} J=>by
  rw [hd] at J
  split at J
  ·rename_i iG
   injection J with J
   injection J with h1 h2
   rw [iG,h1]
   exact ⟨h2.symm,rfl⟩
  ·cases J
 have Pt:∀ {n rec},syG ε.1.aN n=some rec→lookL n ε.1.aN=some (rec,true):=fun {n rec} J=>by
  unfold syG at J
  split at J
  ·rename_i iG
   rw [iG,bx J]
  ·cases J
 refine ⟨by rw [cH,es,af (by simp)],?_⟩
 refine ⟨h.base,h.b,h.log,h.alive,h.aD,h.forced,h.cert,fun n w t t' U ht sJ hr hc => ?_,fun n rec hn=>h.aN n rec (h.sV n rec _ (Pt hn)),fun n _ wr qU=>(by cases qU),fun n b hb => ?_,fun n rec hn => ?_,fun n rec hn => ?_,fun n b hb=>(by cases hb),fun n rec fl hn => ?_,fun n rec hn=>.inr ⟨true,?_⟩,fun n w U hc => ?_,fun n q=>q.elim⟩
 ·have sU:yC ε.2.2 n:=⟨U.1,by have:=U.2; rw [show ε.2.2.sync.aq=laidP ε.2.2.now ε.2.2.aq from rfl,mO] at this; exact this⟩
  have U:=U.1
  obtain ⟨k1,k2⟩:=RI.Ps h he U
  have hw:w=imgOf ε.2.2.sync n:=by
   rcases hc with hc | ⟨wr,qU,_⟩
   ·exact hc
   ·cases qU
  have hold:(∀rec,g n=some rec→ba+szB t≤rec)→kj (eA t B0 n) w:=fun I=>by
   refine h.mI n w t t' sU ht sJ I ?_
   rcases k1 with ⟨b,q1,q2⟩ | ⟨q1,q2⟩
   ·obtain ⟨wr,m1,m2,m3⟩:=h.now n b q1
    exact .inr ⟨wr,m1,m2,by rw [hw,q2,m3]⟩
   ·exact .inl (by rw [hw,q2])
  cases J:lookL n ε.1.aN with
  | none =>
   refine hold fun rec I => ?_
   rcases h.BN n rec I with q | ⟨fl,q⟩
   ·exact q.elim
   ·rw [J] at q; cases q
  | some x =>
   obtain ⟨rec,fl⟩:=x
   cases fl with
   | true =>
    refine hold fun MI I => ?_
    have:g n=some rec:=h.sV n rec _ J
    rw [this] at I
    refine hr MI ?_
    rw [←bx I]
    simp only [syG,J]
   | false =>
    have hN:=he.oC n (fC J |> iV (f:=(·.1)))
    have nJ:pgA ε n=ε.2.2.at n:=by
     rcases he.cases n with ⟨j,f,q1,q2,q3,q4,q5,q6⟩ | ⟨q1,q2⟩
     ·rw [q6]
      cases hcg:f.changed with
      | false=>rw [q5.same hcg,q3]
      | true =>
       obtain ⟨MI,_,_,_,m,_⟩:=h.Aw n f.b ⟨j,f,q2,q3,U,hcg,rfl⟩
       rw [J] at m
       injection m with m
       injection m with _ m
       cases m
     ·exact q2
    have hS:eA rs B0 n=eA t B0 n:=by
     rw [ht,ng]
     refine IJ fun r hr ki => ?_
     obtain ⟨a,b,rfl⟩:=List.append_of_mem hr
     have:=(h.flag n rec J).2 (fun q=>q) (t++a) r b (by rw [ht]; simp) ki
     have:=sI (u:=t) (v:=a)
     have sJ:ε.2.1.forced≤szB t:=sJ
     omega
    rw [←hS,hw,k2,←nJ]
    exact gF n U hN.2
 ·obtain ⟨rec,t,r,t',m1,m2⟩:=h.Aw n b hb
  exact ⟨rec,t,r,t',by show lookL n (ε.1.aN.filter _)=_; rw [hd,m1],m2⟩
 ·exact absurd (j5 hn).1 (by decide)
 ·exact h.ft n rec (j5 hn).2
 ·obtain ⟨rfl,q⟩:=j5 hn
  simp only [syG,q]
 ·show lookL n (ε.1.aN.filter _)=_
  rw [hd,Pt hn]
 ·rcases hc with hc | ⟨wr,qU,_⟩
  ·rcases (RI.Ps h he U).1 with ⟨b,q1,q2⟩ | ⟨q1,q2⟩
   ·obtain ⟨wr,m1,m2,m3⟩:=h.now n b q1
    exact h.ck n w U (.inr ⟨wr,m1,m2,by rw [hc,m3]; exact q2⟩)
   ·exact h.ck n w U (.inl (hc.trans q2))
  ·cases qU
theorem UR {i:Nat}{f:Fm}(h:EC N ε)(hf:ε.1.ak[i]?=some f)(h0:0≤f.aM){n:Int}{b:List Nat}(hc:iu (outF ε i).2.1 n b): iu ε.1 n b∧n≠f.aM:=by
 obtain ⟨o1,o2,o3,o4,gg,o5,o6,o7⟩:=h.out hf
 have qF:=(h.back i f hf).resolve_left (by omega)
 obtain ⟨j,y,I,k1,k0,k2,k3⟩:=hc
 have U:n≠f.aM:=by
  intro q
  have hyo:=(o2.back j y I).resolve_left (by omega)
  have h1:=hyo.here
  rw [k1,q,o4,qF.here] at h1
  have:i=j:=by have:=bx h1; omega
  subst this
  rw [o5] at I
  have:=bx I
  subst this
  rw [o7 (by omega)] at k2
  cases k2
 refine ⟨?_,U⟩
 unfold outF at I
 rw [hf] at I
 simp only at I
 have fin:∀ {m:List Fm} {x:Fm},m=ε.1.ak∨m=ε.1.ak.set i x→x.aM=f.aM→m[j]?=some y→iu ε.1 n b:=fun hm hx J=>by
  rcases hm with rfl | rfl
  ·exact ⟨j,y,J,k1,k0,k2,k3⟩
  ·rcases nO hf J with ⟨rfl,rfl⟩ | ⟨_,J⟩
   ·exact absurd (k1.symm.trans hx) U
   ·exact ⟨j,y,J,k1,k0,k2,k3⟩
 split at I
 ·exact fin (x:=f) (.inl rfl) rfl I
 ·split at I
  ·exact fin (x:=f) (.inl rfl) rfl I
  ·split at I
   ·exact fin (x:=f) (.inl rfl) rfl I
   ·split at I
    ·exact fin (x:=f) (.inl rfl) rfl I
    ·exact fin (x:={ f with changed:=false }) (.inr rfl) rfl I
theorem vN {P:VP}(hP:j7 N P): ∀ {l:List Int} {ε:aO},EC N ε→(∀n∈l,(lookL n ε.1.aE).isSome=true)→vw P ε→vw P (writeAllF l ε).2∧∀n b,iu (writeAllF l ε).2.1 n b→iu ε.1 n b∧n∉l:=by
 intro l
 induction l with
 | nil=>intro ε h _ I; exact ⟨I,fun n b q=>⟨q,by simp⟩⟩
 | cons n l ih =>
  intro ε h hl I
  have h1:=hl n br
  cases J:lookL n ε.1.aE with
  | none=>rw [J] at h1; cases h1
  | some i =>
   obtain ⟨sP,j,f,rfl,U,hp⟩:=h.jR n i J
   obtain ⟨k1,k2,k3,k4,_⟩:=h.out U
   have e:dJ ε n=outF ε j:=by rw [dJ,J]; simp only [cQ]
   rw [writeAllF,e,af (by rw [k1]; decide)]
   obtain ⟨i1,i2⟩:=ih k2 (fun m hm=>by rw [k4]; exact hl m (bp _ hm)) (hP.out h U I)
   refine ⟨i1,fun m b hm => ?_⟩
   obtain ⟨q1,q2⟩:=i2 m b hm
   obtain ⟨q3,q4⟩:=UR h U (by omega) q1
   exact ⟨q3,by simp only [fo,pP]; exact ⟨by rw [←hp]; exact q4,q2⟩⟩
theorem vA (ε:aO): ∀n∈aF ε.1.aE,(lookL n ε.1.aE).isSome=true:=fun n I=>by
 cases J:lookL n ε.1.aE with
 | some _=>rfl
 | none=>exact absurd (gh.1 I) (fD.1 J)
theorem RI.US (h:vw (RI ba (fun _=>False) B0 rs g) ε)(he:EC N ε)(I:∀n,0≤n→n<(N:Int)→kj (eA rs B0 n) (pgA ε n)): vw (RI ba (fun _=>False) B0 rs (fun _=>none)) (er ε).2:=by
 have hk:=vA ε
 obtain ⟨w1,w2,w3⟩:=nP he hk
 obtain ⟨a1,a2⟩:=vN (RI.oD N) he hk h
 obtain ⟨s1,s2⟩:=RI.sync a1 w2 (fun n h0 h1=>by rw [w3]; exact I n h0 h1)
 have e:(er ε).2=({ (writeAllF (aF ε.1.aE) ε).2.1 with aN:=(writeAllF (aF ε.1.aE) ε).2.1.aN.filter fun e=>e.2.2 },((writeAllF (aF ε.1.aE) ε).2.2.1,(writeAllF (aF ε.1.aE) ε).2.2.2.sync)):=by
  rw [er,af (by rw [he.dk.alive]; decide),af (by rw [w1]; decide),s1]
 have J:∀n b,¬iu (writeAllF (aF ε.1.aE) ε).2.1 n b:=fun n b hc=>by
  obtain ⟨q1,q2⟩:=a2 n b hc
  obtain ⟨j,f,hf,k1,k0,k2,k3⟩:=q1
  have U:=(he.back j f hf).resolve_left (by omega)
  rw [←k1] at q2
  refine q2 (gh.2 ?_)
  have:=U.here
  exact fC this |> iV (f:=(·.1))
 have hg:syG (writeAllF (aF ε.1.aE) ε).2.1.aN=fun _=>none:=by
  funext n
  unfold syG
  split
  ·rename_i rec hq
   obtain ⟨b,hb⟩:=(jT.1 a1).ft n rec hq
   exact absurd hb (J n b)
  ·rfl
 rw [hg] at s2
 rw [e]; exact s2
end
theorem RL {pg:Int}{cV now:List Nat}{i:Nat}{l:List cn}(J:uU pg cV now i l): ∀c∈l,c.aM=pg:=by
 induction J with
 | done i h=>intro c I; cases I
 | skip i l h he J U=>exact U
 | take i e l h1 h2 _ _ J U =>
  intro c I
  rcases List.mem_cons.1 I with rfl | I
  ·rfl
  ·exact U c I
theorem RM {pg:Int}{cV now:List Nat}{c:List cn}(J:FI pg cV now c): (∀x∈c,x.aM=pg)∧c≠[]:=by
 obtain ⟨l,U,rfl⟩:=J
 by_cases I:l=[]
 ·rw [aj I]
  exact ⟨fun x hx=>by rw [List.mem_singleton.1 hx],by simp⟩
 ·rw [af I]
  exact ⟨RL U,I⟩
theorem Xx {pg:Int}{cV now:List Nat}{i:Nat}{l:List cn}(J:uU pg cV now i l)(hn:∀x∈now,x<256): ∀c∈l,∀x∈c.b,x<256:=by
 induction J with
 | done i h=>intro c I; cases I
 | skip i l h he J U=>exact U
 | take i e l h1 h2 _ _ J U =>
  intro c I
  rcases List.mem_cons.1 I with rfl | I
  ·exact fun x hx=>hn x (gH (iC hx))
  ·exact U c I
theorem Xy {pg:Int}{cV now:List Nat}{c:List cn}(U:FI pg cV now c)(hn:∀x∈now,x<256): ∀x∈c,∀y∈x.b,y<256:=by
 obtain ⟨l,hl,rfl⟩:=U
 by_cases I:l=[]
 ·rw [aj I]
  intro x hx y J
  rw [List.mem_singleton.1 hx] at J
  cases J
 ·rw [af I]
  exact Xx hl hn
theorem jx.lt {N:Nat}{now:List (Int×List Nat)}{l:List Int}{ε ε':aO}{e:Int}{cs:List cn}(hr:jx now l ε e cs ε')(hn:NW N now): ∀c∈cs,∀x∈c.b,x<256:=by
 induction hr with
 | nil ε=>intro c J; cases J
 | err n l ε e b ε' hr he=>intro c J; cases J
 | part n l ε cV b ε' c e cs U hr hb j5 J kg ht ih =>
  intro x I
  rcases List.mem_append.1 I with I | I
  ·exact Xy J (hn.look hb).2 x I
  ·exact ih x I
 | whole n l ε cV b ε' e cs U hr hb j5 ht ih =>
  intro x I
  rcases List.mem_cons.1 I with rfl | I
  ·exact (hn.look hb).2
  ·exact ih x I
structure BP (rs:List bR)(B0:Int→List Nat): Prop where
 Ta:∀n,∀x∈B0 n,x<256
 lt:∀r∈rs,∀c∈r.aR,∀x∈c.b,x<256
 gd:∀t t' n,rs=t++t'→(∃r∈t,u7 r n)→bT (eA t B0 n)=true
theorem UT : ∀ {cs:List cn} {σ:Int→List Nat},(∀c∈cs,∀x∈c.b,x<256)→(∀n,∀x∈σ n,x<256)→∀n,∀x∈iM cs σ n,x<256:=by
 intro cs
 induction cs with
 | nil=>intro σ _ h; exact h
 | cons c cs J =>
  intro σ I h
  refine J (σ:=jv c σ) (fun x U=>I x (bp _ U)) fun n => ?_
  rw [jv]
  split
  ·split
   ·exact I c br
   ·exact zH (h n) (I c br)
  ·exact h n
theorem Pu : ∀ {rs:List bR} {σ:Int→List Nat},(∀r∈rs,∀c∈r.aR,∀x∈c.b,x<256)→(∀n,∀x∈σ n,x<256)→∀n,∀x∈eA rs σ n,x<256:=by
 intro rs
 induction rs with
 | nil=>intro σ _ h; exact h
 | cons r rs J=>intro σ I h; exact J (σ:=iM r.aR σ) (fun x U=>I x (bp _ U)) (UT (I r br) h)
theorem BP.app {rs:List bR}{B0:Int→List Nat}{r:bR}(h:BP rs B0)(h1:∀c∈r.aR,∀x∈c.b,x<256)(h2:∀n,u7 r n→bT (eA (rs++[r]) B0 n)=true): BP (rs++[r]) B0:=by
 refine ⟨h.Ta,fun x I => ?_,fun t t' n ht hc => ?_⟩
 ·rcases List.mem_append.1 I with I | I
  ·exact h.lt x I
  ·rw [List.mem_singleton.1 I]; exact h1
 ·rcases tB t' with rfl | ⟨U,z,rfl⟩
  ·rw [bF] at ht
   subst ht
   by_cases hq:u7 r n
   ·exact h2 n hq
   ·obtain ⟨x,I,J⟩:=hc
    rcases List.mem_append.1 I with I | I
    ·rw [ng]
     have:eA [r] (eA rs B0) n=eA rs B0 n:=IJ fun y hy=>by rw [List.mem_singleton.1 hy]; exact hq
     rw [this]
     exact h.gd rs [] n (by rw [bF]) ⟨x,I,J⟩
    ·rw [List.mem_singleton.1 I] at J; exact absurd J hq
  ·have BO:rs++[r]=(t++U)++[z]:=by rw [ht]; simp
   exact h.gd t U n (m7 BO rfl).1 hc
def K5 (N:Nat)(rs:List bR)(B0:Int→List Nat)(ε:aO): Prop:=∀n,0≤n→n<(N:Int)→kj (eA rs B0 n) (pgA ε n)
abbrev oA : Int→Prop:=fun _=>False
section
variable {N ba:Nat} {B0:Int→List Nat} {rs:List bR} {g:Int→Option Nat} {ε ε':aO} {now:List (Int×List Nat)}
theorem jx.st {l:List Int}{e:Int}{cs:List cn}(hr:jx now l ε e cs ε'): ∀ {σ:Int→List Nat},EC N ε→gW ε→NW N now→l.Nodup→(∀n∈l,0≤n∧n<N)→vw (RI ba oA B0 rs g) ε→(∀n∈l,kj (σ n) (pgA ε n)) →
  (∀n∈l,∀b,lookL n now=some b→kj (iM cs σ n) b)∧(∀n,n∉l→iM cs σ n=σ n)∧(∀n,(∃c∈cs,c.aM=n)↔n∈l)∧∀n∈l,g n=none→Av cs n:=by
 induction hr with
 | nil ε=>intro σ _ _ _ _ _ _ _; exact ⟨fun n U=>(by cases U),fun _ _=>rfl,fun n=>⟨fun ⟨c,hc,_⟩=>(by cases hc),fun U=>(by cases U)⟩,fun n U=>(by cases U)⟩
 | err n l ε e b ε' hr he =>
  intro σ h h3 U hd hl
  have:=hl n br
  exact absurd ((hr.ec h h3.pins).2.2.1 this.1 this.2).1 he
 | part n l ε cV b ε' c e cs qg hr hb j5 hc kg ht ih =>
  intro σ h h3 U hd hl hv I_
  obtain ⟨d1,d2⟩:=List.nodup_cons.1 hd
  have oR:=hl n br
  obtain ⟨k1,k2,k3,_⟩:=hr.ec h h3.pins
  have hw:=(k3 oR.1 oR.2).2
  have uh:vw (RI ba oA B0 rs g) ε':=(RI.oD N).rd hr h hv
  obtain ⟨q1,q2⟩:=Xu hc (fy (U.look hb).1) (σ:=σ) (by rw [hw]; exact I_ n br)
  obtain ⟨p1,p2⟩:=RM hc
  obtain ⟨i1,i2,i3,i4⟩:=ih (σ:=iM c σ) k1 (hr.lp h3) U d2 (fun m hm=>hl m (bp _ hm)) uh (fun m hm=>by
   rw [q2 m (fun q=>d1 (by rw [←q]; exact hm)),k2]
   exact I_ m (bp _ hm))
  refine ⟨fun m hm b' J => ?_,fun m hm => ?_,fun m => ?_,fun m hm hg => ?_⟩
  ·rw [IF]
   rcases List.mem_cons.1 hm with rfl | hm
   ·rw [hb] at J
    rw [←bx J,i2 m d1]; exact q1
   ·exact i1 m hm b' J
  ·simp only [fo,pP] at hm
   rw [IF,i2 m hm.2,q2 m hm.1]
  ·constructor
   ·rintro ⟨x,I,rfl⟩
    rcases List.mem_append.1 I with I | I
    ·rw [p1 x I]; exact br
    ·exact bp _ ((i3 _).1 ⟨x,I,rfl⟩)
   ·intro hm
    rcases List.mem_cons.1 hm with rfl | hm
    ·obtain ⟨x,I⟩:=List.exists_mem_of_ne_nil _ p2
     exact ⟨x,List.mem_append.2 (.inl I),p1 x I⟩
    ·obtain ⟨x,I,e⟩:=(i3 m).2 hm
     exact ⟨x,List.mem_append.2 (.inr I),e⟩
  ·rcases List.mem_cons.1 hm with rfl | hm
   ·exfalso
    cases hq:lookL m ε'.1.aN with
    | none=>rw [hq] at j5; cases j5
    | some y =>
     obtain ⟨rec,fl⟩:=y
     have:=(jT.1 uh).sV m rec fl hq
     rw [hg] at this
     cases this
   ·obtain ⟨x,I,e⟩:=i4 m hm hg
    exact ⟨x,List.mem_append.2 (.inr I),e⟩
 | whole n l ε cV b ε' e cs qg hr hb j5 ht ih =>
  intro σ h h3 U hd hl hv I_
  obtain ⟨d1,d2⟩:=List.nodup_cons.1 hd
  have oR:=hl n br
  obtain ⟨k1,k2,k3,_⟩:=hr.ec h h3.pins
  have uh:vw (RI ba oA B0 rs g) ε':=(RI.oD N).rd hr h hv
  have q2:∀m,m≠n→jv ⟨n,0,true,b⟩ σ m=σ m:=fun m hm=>by rw [jv,af hm]
  have q1:jv ⟨n,0,true,b⟩ σ n=b:=by rw [jv,aj rfl,aj rfl]
  obtain ⟨i1,i2,i3,i4⟩:=ih (σ:=jv ⟨n,0,true,b⟩ σ) k1 (hr.lp h3) U d2 (fun m hm=>hl m (bp _ hm)) uh (fun m hm=>by
   rw [q2 m (fun q=>d1 (by rw [←q]; exact hm)),k2]
   exact I_ m (bp _ hm))
  refine ⟨fun m hm b' J => ?_,fun m hm => ?_,fun m => ?_,fun m hm hg => ?_⟩
  ·show kj (iM cs (jv _ σ) m) b'
   rcases List.mem_cons.1 hm with rfl | hm
   ·rw [hb] at J
    rw [←bx J,i2 m d1,q1]; exact kj.refl (fy (U.look hb).1)
   ·exact i1 m hm b' J
  ·simp only [fo,pP] at hm
   show iM cs (jv _ σ) m=σ m
   rw [i2 m hm.2,q2 m hm.1]
  ·constructor
   ·rintro ⟨x,I,rfl⟩
    rcases List.mem_cons.1 I with rfl | I
    ·exact br
    ·exact bp _ ((i3 _).1 ⟨x,I,rfl⟩)
   ·intro hm
    rcases List.mem_cons.1 hm with rfl | hm
    ·exact ⟨_,br,rfl⟩
    ·obtain ⟨x,I,e⟩:=(i3 m).2 hm
     exact ⟨x,bp _ I,e⟩
  ·rcases List.mem_cons.1 hm with rfl | hm
   ·exact ⟨_,br,rfl,rfl⟩
   ·obtain ⟨x,I,e⟩:=i4 m hm hg
    exact ⟨x,bp _ I,e⟩
theorem sD.ri {B aC kd tx aK:Nat}{mk:List Nat}{data:List Nat}(hr:sD ε now kd tx 0 0 data 0 aK 0 true ε')(h:EI N B ε)(hB:B≤1000)(hn:NW N now)(hl:LR ba aC mk rs ε.2)(h1:1≤kd)(h2:kd≤7)(ht:tx<65536)
 (hv:vw (RI ba oA B0 rs g) ε)(gF:K5 N rs B0 ε)(nq:BP rs B0): ∃(r:bR) (g':Int→Option Nat),r.Ok∧r.kd=kd∧r.tx=tx∧r.pv=0∧r.nx=0∧r.data=data∧aK=ba+szB rs∧LR ba aC mk (rs++[r]) ε'.2∧vw (RI ba oA B0 (rs++[r]) g') ε'∧K5 N (rs++[r]) B0 ε'∧BP (rs++[r]) B0 ∧
   (∀n rec,g' n=some rec→g n=some rec∨rec=ba+szB rs)∧∃I,jx now (aF now) ε 0 r.aR I:=by
 have J:∀n∈aF now,0≤n∧n<N:=fun n U=>hn.keys n (gh.1 U)
 have hN:=h.many
 have jq:∀ {c:List cn} {ε':aO} {e:Int},jx now (aF now) ε e c ε'→dU kd c=true:=fun hc=>by
  refine Ib ⟨by omega,by omega⟩ (hc.fit (fun x hx=>fy (hn.good x hx).1) fun n U => ?_)
  have:=J n U
  omega
 have nk:(aF now).Nodup:=(eG _).nodup_iff.2 hn.nodup
 have YV:=(h.done hB hn (by omega) (by omega) hr).resolve_left (by rintro ⟨q,_⟩; cases q)
 generalize hz:(0:Int)=e at hr
 generalize kg:true=cl at hr
 cases hr with
 | arg hh=>cases kg
 | dead _ _ _ hd=>cases kg
 | mD e c ε' _ _ _ _ hc he=>cases kg
 | app c I _ _ _ _ hc he=>cases kg
 | put c I e MJ _ _ _ _ hc ha hp =>
  subst hz
  obtain ⟨c1,c2,c3⟩:=hc.ec h.ec h.ok J
  have hi:EI N B I:=⟨hc.lp h.ok,c1,hc.el h.el,cy hc.cm h.cm⟩
  have wL:=(lD ba aC mk rs).ch hc hl
  obtain ⟨r,k1,k2,k3,k4,k5,k6,k7,k8,k9,Tb,_⟩:=wL.app h1 (jq hc) ht ha
  obtain ⟨a1,a2,a3⟩:=hi.app (kd:=kd) (tx:=tx) (pv:=0) (nx:=0) (data:=data) (c:=c) hB (jq hc)
  have a3:=a3.resolve_right (by rw [ha]; rintro (q | ⟨q,_⟩) <;> cases q)
  obtain ⟨_,a4⟩:=a3
  have uN:vw (RI ba oA B0 rs g) I:=(RI.oD N).ch hc h.ec h.ok hv
  obtain ⟨s1,s2,s3,s4⟩:=hc.st (σ:=eA rs B0) h.ec h.ok hn nk J hv (fun n hm=>by have:=J n hm; exact gF n this.1 this.2)
  subst k7
  have acI:(bq I.2 kd tx 0 0 data r.aR).1.1=ba+szB rs:=k8
  have eX:=hi.el.size
  have yc:=wL.b
  have Tc:=wL.base
  have bV:ba+szB rs<18446744073709551616:=by
   have:(logB ba rs).length=szB rs:=gq
   rw [yc,Tc,this] at eX
   omega
  have ki:∀n,n∈aF now↔u7 r n:=fun n=>(s3 n).symm
  have oz:=RI.app (jT.1 uN) (r:=r) (fun n hg U=>s4 n ((ki n).2 U) hg) (μ:=(bq I.2 kd tx 0 0 data r.aR).2.1) (δ:=(bq I.2 kd tx 0 0 data r.aR).2.2)
   (by rw [k9.base,Tc]) k9.b (by rw [a4]; rfl) k9.log (by rw [a4]) (by rw [a4]) (by rw [a4]) (by rw [a4]) (by rw [a4]) (by rw [a4]) ki
  have O1:vw (RI ba (fun n=>n∈aF now) B0 (rs++[r]) (fun n=>match g n with | some rec=>some rec | none=>if n∈aF now then some (ba+szB rs) else none)) (I.1,(bq I.2 kd tx 0 0 data r.aR).2):=oz
  have hv4:=hp.ri a1.ec a1.ok hn J nk (fun n hm=>hm) ⟨rs,r,rfl,k8⟩ (by rw [k8]; exact bV) O1
  have e0:(fun m:Int=>m∈aF now∧m∉aF now)=oA:=funext fun m=>propext ⟨fun q=>q.2 q.1,fun q=>q.elim⟩
  rw [e0] at hv4
  refine ⟨r,_,k1,k2,k3,k4,k5,k6,by rw [aj rfl]; exact k8,(lD ba aC mk _).pt hp k9,hv4,fun n h0 HA => ?_,nq.app (hc.lt hn) (fun n U => ?_),fun n rec U => ?_,I,hc⟩
  ·rw [YV.2.2.2 n,ng]
   show kj (iM r.aR (eA rs B0) n) _
   cases U:lookL n now with
   | some b =>
    have hm:n∈aF now:=gh.2 ((fC U) |> iV (f:=(·.1)))
    exact (s1 n hm b U).trans (IG (fy (hn.look U).1)).symm
   | none =>
    have hm:n∉aF now:=fun q=>fD.1 U (gh.1 q)
    rw [s2 n hm]
    exact gF n h0 HA
  ·have hm:=(ki n).2 U
   cases hb:lookL n now with
   | none=>exact absurd (gh.1 hm) (fD.1 hb)
   | some b =>
    rw [ng]
    show bT (iM r.aR (eA rs B0) n)=true
    rw [(s1 n hm b hb).good]; exact (hn.look hb).1
  ·cases hg:g n with
   | some MI=>rw [hg] at U; exact .inl U
   | none =>
    rw [hg] at U
    simp only at U
    split at U
    ·exact .inr (bx U).symm
    ·cases U
theorem sD.ri0 {B aC kd tx aK:Nat}{mk:List Nat}{data:List Nat}{e:Int}(hr:sD ε now kd tx 0 0 data 0 aK e false ε')(h:EI N B ε)(hB:B≤1000)(hn:NW N now)(hl:LR ba aC mk rs ε.2)(h1:1≤kd)(h2:kd≤7)
 (hv:vw (RI ba oA B0 rs g) ε)(gF:K5 N rs B0 ε): LR ba aC mk rs ε'.2∧vw (RI ba oA B0 rs g) ε'∧K5 N rs B0 ε':=by
 have xz:∀n∈aF now,0≤n∧n<N:=fun n hq=>hn.keys n (gh.1 hq)
 have J:=(h.done hB hn (by omega) (by omega) hr).resolve_right (by rintro ⟨q,_⟩; cases q)
 have I:K5 N rs B0 ε':=fun n h0 h1=>by rw [J.2.2.2 n]; exact gF n h0 h1
 generalize kg:false=cl at hr
 cases hr with
 | arg hh=>exact ⟨hl,hv,I⟩
 | dead _ _ _ hd=>exact ⟨hl,hv,I⟩
 | mD e c ε' _ _ _ _ hc he=>exact ⟨(lD ba aC mk rs).ch hc hl,(RI.oD N).ch hc h.ec h.ok hv,I⟩
 | app c U _ _ _ _ hc he =>
  have wL:=(lD ba aC mk rs).ch hc hl
  have uN:vw (RI ba oA B0 rs g) U:=(RI.oD N).ch hc h.ec h.ok hv
  rcases ju U.2 kd tx 0 0 data c with ⟨e,he,_,hq⟩ | ⟨_,hf,_⟩ | ⟨_,hb,hd,jq,hf,hq⟩
  ·rw [hq] at I ⊢; exact ⟨wL,uN,I⟩
  ·have:=wL.aD; omega
  ·rw [hq] at he; exact absurd rfl he
 | put c U e MJ _ _ _ _ hc ha hp=>cases kg
end
structure RS (N ba aC:Nat)(mk:List Nat)(rs:List bR)(B0:Int→List Nat)(g:Int→Option Nat)(ε:aO): Prop where
 lr:LR ba aC mk rs ε.2
 ri:vw (RI ba oA B0 rs g) ε
 st:K5 N rs B0 ε
 gd:BP rs B0
theorem RS.pre {N ba aC:Nat}{mk:List Nat}{rs:List bR}{B0:Int→List Nat}{g:Int→Option Nat}{ε ε':aO}(h:RS N ba aC mk rs B0 g ε)(I:∀P:VP,j7 N P→vw P ε→vw P ε')(J:∀m,pgA ε' m=pgA ε m): RS N ba aC mk rs B0 g ε' :=
 ⟨I _ ((lD ba aC mk rs).oD N) h.lr,I _ (RI.oD N) h.ri,fun n a b=>by rw [J]; exact h.st n a b,h.gd⟩
theorem uY.rs {N ba aC aK:Nat}{mk:List Nat}{rs:List bR}{B0:Int→List Nat}{g:Int→Option Nat}{D:jh}{ε ε':aO}{ps ff:List (List Nat)}{e:Int}(ho:uY N D ε ps e ff aK ε')(h:RS N ba aC mk rs B0 g ε):
  (aK=0∧ff=ps∧RS N ba aC mk rs B0 g ε')∨∃(r0:bR) (g':Int→Option Nat),e=0∧ff=nxW N D.w ps∧r0.kd=rR D.cX∧aK=ba+szB rs∧RS N ba aC mk (rs++[r0]) B0 g' ε'∧∀n rec,g' n=some rec→g n=some rec∨rec=ba+szB rs:=by
 have KU:=EV (k:=D.cX)
 have Kx:=EW (k:=D.cX)
 cases ho with
 | drop ε' ha J U=>exact .inl ⟨rfl,rfl,h.pre J U⟩
 | fail Bl ε' aK e ha J U hw hi hr he =>
  obtain ⟨B,hB,hi⟩:=hi
  have I:=h.pre J U
  obtain ⟨k1,k2,k3⟩:=hr.ri0 hi (by omega) hw I.lr (by omega) (by omega) I.ri I.st
  exact .inl ⟨rfl,rfl,k1,k2,k3,h.gd⟩
 | done Bl ε' aK ha J U hw hi hr =>
  obtain ⟨B,hB,hi⟩:=hi
  have I:=h.pre J U
  obtain ⟨r,g',k1,k2,k3,k4,k5,k6,k7,k8,k9,Tb,Xz,XA,_⟩:=hr.ri hi (by omega) hw I.lr (by omega) (by omega) (by omega) I.ri I.st I.gd
  exact .inr ⟨r,g',rfl,rfl,k2,k7,⟨k8,k9,Tb,Xz⟩,XA⟩
theorem wU {a b u v:List bR}(h:a++b=u++v)(hs:szB a≤szB u): ∃w,u=a++w∧b=w++v:=by
 rcases List.append_eq_append_iff.1 h with ⟨w,I,J⟩ | ⟨w,I,J⟩
 ·exact ⟨w,I,J⟩
 ·cases w with
  | nil=>rw [bF] at I; subst I; exact ⟨[],by rw [bF],by rw [J]; rfl⟩
  | cons x w =>
   have:=wT (t:=u) (r:=x) (t':=w)
   rw [←I] at this
   omega
structure sK (ba aC:Nat)(data:List Nat)(rs r1:List bR)(F:Nat)(g:Int→Option Nat): Prop where
 low:∀n rec,g n=some rec→ba+szB r1≤rec
 pt:(aC=0∧data=[]∧r1=[])∨∃A1 rc B,rs=(r1++A1)++rc::B∧aC=ba+szB (r1++A1)∧aC≠0∧rc.kd=8∧8≤rc.data.length∧data=rc.data.drop 8∧max ba (leN (rc.data.take 8))=ba+szB r1∧szB (r1++A1)+rc.len≤F
section
variable {ba aC F:Nat} {data:List Nat} {rs r1:List bR} {g:Int→Option Nat}
theorem sK.app (h:sK ba aC data rs r1 F g){r:bR}{I:Int→Option Nat}{J:Nat}(hg:∀n rec,I n=some rec→g n=some rec∨rec=ba+szB rs)(hF:F≤J): sK ba aC data (rs++[r]) r1 J I:=by
 have oR:szB r1≤szB rs:=by
  rcases h.pt with ⟨_,_,k⟩ | ⟨U,rc,B,k,_⟩
  ·rw [k]; simp [szB]
  ·rw [k,bH]; exact sI
 refine ⟨fun n rec hn => ?_,?_⟩
 ·rcases hg n rec hn with q | q
  ·exact h.low n rec q
  ·omega
 ·rcases h.pt with k | ⟨U,rc,B,k1,k2,k3,k4,k5,k6,k7,k8⟩
  ·exact .inl k
  ·exact .inr ⟨U,rc,B++[r],by rw [k1]; simp,k2,k3,k4,k5,k6,k7,cy k8 hF⟩
theorem sK.more (h:sK ba aC data rs r1 F g){I:Int→Option Nat}{J:Nat}(U:∀n rec,I n=some rec→g n=some rec)(hF:F≤J): sK ba aC data rs r1 J I:=by
 refine ⟨fun n rec hn=>h.low n rec (U n rec hn),?_⟩
 rcases h.pt with k | ⟨A1,rc,B,k1,k2,k3,k4,k5,k6,k7,k8⟩
 ·exact .inl k
 ·exact .inr ⟨A1,rc,B,k1,k2,k3,k4,k5,k6,k7,cy k8 hF⟩
theorem sK.at (h:sK ba aC data rs r1 F g){u v:List bR}(hu:rs=u++v)(hF:F≤szB u): ∃r2,MD ba aC u data r1 r2:=by
 rcases h.pt with ⟨k1,k2,I⟩ | ⟨J,rc,B,k1,k2,I,U,k5,k6,k7,k8⟩
 ·exact ⟨u,by rw [I]; rfl,.inl ⟨k1,k2,I⟩⟩
 ·obtain ⟨w,hw,_⟩:=wU (a:=(r1++J)++[rc]) (b:=B) (u:=u) (v:=v) (by rw [←hu,k1]; simp) (by rw [fS]; simp only [szB]; omega)
  exact ⟨J++rc::w,by rw [hw]; simp,.inr ⟨r1++J,rc,w,by rw [hw]; simp,k2,I,U,k5,k6,k7⟩⟩
end
structure IK (ba:Nat)(B0:Int→List Nat)(u v r1 r2:List bR)(δ:Dk): Prop where
 split:u=r1++r2
 rs:∀r∈u++v,r.Ok
 log:∃j,δ.log++δ.tail=logB ba (u++v)++j∧rS j
 cert:szB u≤δ.aJ
 len:δ.aJ≤δ.log.length
 gd:BP (u++v) B0
 mI:∀n w t t',yC δ n→v=t++t'→¬sH (r2++t) n→qQ δ n w→kj (eA (u++t) B0 n) w∧dN w=0
 dh:∀w,δ.dh=some w→sH r2 w.1
def vO (P:List (Option (List Nat)))(n:Int): List Nat:=match P[n.toNat]? with
 | some (some b)=>b
 | _=>List.replicate 512 0
theorem IL {P:List (Option (List Nat))}{k:Nat}{b:List Nat}{n:Int}(U:0≤n): vO (P.set k (some b)) n=vO P n∨(((k:Nat):Int)=n∧vO (P.set k (some b)) n=b):=by
 unfold vO
 rw [tF]
 by_cases I:k=n.toNat
 ·rw [aj I]
  by_cases J:k<P.length
  ·rw [aj J]; exact .inr ⟨by omega,rfl⟩
  ·rw [af J,←I,pE (by omega)]; exact .inl rfl
 ·rw [af I]; exact .inl rfl
theorem RN {c:List Nat}{n:Int}(I:0≤n): ∀ {W:List Wr} {i:Nat} {P:List (Option (List Nat))},vO (layW c i W P) n=vO P n∨∃wr∈W,((wr.1:Nat):Int)=n∧vO (layW c i W P) n=wr.2:=by
 intro W
 induction W with
 | nil=>intro i P; exact .inl rfl
 | cons w W J =>
  intro i P
  rw [layW]
  rcases J (i:=i+1) (P:=if c.getD i 0%2=0 then P.set w.1 (some w.2) else P) with h | ⟨wr,U,h2,h3⟩
  ·rw [h]
   split
   ·rcases IL (P:=P) (k:=w.1) (b:=w.2) I with q | ⟨q1,q2⟩
    ·exact .inl q
    ·exact .inr ⟨w,br,q1,q2⟩
   ·exact .inl rfl
  ·exact .inr ⟨wr,bp _ U,h2,h3⟩
theorem Pv {c:List Nat}{n:Int}{k:Nat}(I:0≤n){P:List (Option (List Nat))}{o:Option Wr}: vO (tornP c k P o) n=vO P n∨∃w,o=some w∧((w.1:Nat):Int)=n:=by
 cases o with
 | none=>exact .inl rfl
 | some w =>
  rw [tornP]
  rcases IL (P:=P) (k:=w.1) (b:=dg (dg (List.replicate 512 0) 0 ((P.getD w.1 none).getD [])) 0 (w.2.take (c.getD k 0/2%5*128))) I with q | ⟨J,_⟩
  ·exact .inl q
  ·exact .inr ⟨w,rfl,J⟩
theorem Pw {j:List Nat}{k:Nat}(h:rS j): rS (j.take k):=by
 by_cases J:k<8
 ·left; rw [dP]; omega
 ·rcases h with h | h
  ·left; rw [dP]; omega
  ·by_cases I:(j.take k).length<8
   ·exact .inl I
   ·right
    rw [tK,pM (by omega),dP]
    omega
theorem RO {rs:List bR}{n K:Nat}{j:List Nat}(I:∀r∈rs,r.Ok)(U:rS j): ∃dr fQ J,rs=dr++fQ∧(logB n rs++j).take K=logB n dr++J∧rS J:=by
 by_cases hK:K≤(logB n rs).length
 ·rw [pq hK]
  exact UP rs n K I
 ·refine ⟨rs,[],j.take (K-(logB n rs).length),by rw [bF],?_,Pw U⟩
  rw [tI,fR (by omega)]
theorem MK {a b t:List Nat}{c K:Nat}(h:c≤a.length): a.take c++(a.drop c++t).take K=(a++t).take (c+K):=by
 rw [tI,tI,List.take_add,nW,bH]
 congr 3; omega
section
variable {ba:Nat} {B0:Int→List Nat} {u v r1 r2:List bR} {δ:Dk}
theorem IK.YW (h:IK ba B0 u v r1 r2 δ)(c:List Nat): ∃t t',v=t++t'∧IK ba B0 (u++t) [] r1 (r2++t) (eU δ c):=by
 obtain ⟨j,hl,hj⟩:=h.log
 have Ao:(eU δ c).log=(δ.log++δ.tail).take (δ.aJ+k_ δ c):=MK (b:=[]) h.len
 have hlu:(logB ba u).length=szB u:=gq
 have hcu:=h.cert
 obtain ⟨t,t',j',e1,e2,e3⟩:=RO (rs:=v) (n:=ba+szB u) (K:=δ.aJ+k_ δ c-szB u) (j:=j) (fun r I=>h.rs r (List.mem_append.2 (.inr I))) hj
 have J:(eU δ c).log=logB ba (u++t)++j':=by
  rw [Ao,hl,u6,bH,tI,fR (by omega),hlu,e2,u6,bH]
 refine ⟨t,t',e1,by rw [h.split,bH],fun r I => ?_,⟨j',by rw [bF]; show (eU δ c).log++[]=_; rw [bF,J],e3⟩,?_,aI _,?_,fun n w a b h0 U hw uA => ?_,fun w hq=>(by cases hq)⟩
 ·rw [bF] at I
  refine h.rs r ?_
  rw [e1]
  rcases List.mem_append.1 I with I | I
  ·exact List.mem_append.2 (.inl I)
  ·exact List.mem_append.2 (.inr (List.mem_append.2 (.inl I)))
 ·show szB (u++t)≤(eU δ c).log.length
  rw [J,bC,gq]; omega
 ·refine ⟨h.gd.Ta,fun r I => ?_,fun a b n U ki=>h.gd.gd a (b++t') n ?_ ki⟩
  ·rw [bF] at I
   refine h.gd.lt r ?_
   rw [e1,←bH]
   exact List.mem_append.2 (.inl I)
  ·rw [bF] at U
   rw [e1,←bH,U,bH]
 ·have hlen:(eU δ c).aq.length=δ.aq.length:=by
   show (tornP c _ _ δ.dh).length=_
   cases δ.dh with
   | none=>exact uc
   | some w=>rw [tornP,dD,uc]
  have sU:yC δ n:=⟨h0.1,by rw [←hlen]; exact h0.2⟩
  have h0:=h0.1
  obtain ⟨rfl,rfl⟩:=List.append_eq_nil_iff.1 U.symm
  rw [bF] at hw ⊢
  have sE:w=vO (tornP c δ.waiting.length (layW c 0 δ.waiting δ.aq) δ.dh) n:=by
   rcases uA with uA | ⟨wr,qU,_⟩
   ·exact uA
   ·cases qU
  have DG:qQ δ n w:=by
   rcases Pv (c:=c) (k:=δ.waiting.length) h0 (P:=layW c 0 δ.waiting δ.aq) (o:=δ.dh) with q | ⟨wt,q1,q2⟩
   ·rw [q] at sE
    rcases RN (c:=c) h0 (W:=δ.waiting) (i:=0) (P:=δ.aq) with q | ⟨wr,k1,k2,k3⟩
    ·exact .inl (sE.trans q)
    ·exact .inr ⟨wr,k1,k2,sE.trans k3⟩
   ·exfalso
    obtain ⟨r,I,hc⟩:=h.dh wt q1
    rw [q2] at hc
    exact hw ⟨r,List.mem_append.2 (.inl I),hc⟩
  exact h.mI n w t t' sU e1 hw DG
end
structure jU (ba:Nat)(B0:Int→List Nat)(u r1 r2:List bR)(N:Nat)(δ:Dk): Prop where
 cr:IK ba B0 u [] r1 r2 δ
 tail:δ.tail=[]
 aq:δ.aq.length=N
 keys:∀k:Int,k∈δ.now.map (·.1)→0≤k∧k<N
 nodup:(δ.now.map (·.1)).Nodup
 nw:∀n b,lookL n δ.now=some b→sH r2 n
section
variable {ba N:Nat} {B0:Int→List Nat} {u r1 r2:List bR} {δ:Dk}
theorem jU.die (h:jU ba B0 u r1 r2 N δ): jU ba B0 u r1 r2 N δ.die :=
 ⟨⟨h.cr.split,h.cr.rs,h.cr.log,h.cr.cert,h.cr.len,h.cr.gd,h.cr.mI,h.cr.dh⟩,h.tail,h.aq,h.keys,h.nodup,h.nw⟩
theorem jU.c9 (h:jU ba B0 u r1 r2 N δ): jU ba B0 u r1 r2 N δ.c9 :=
 ⟨⟨h.cr.split,h.cr.rs,h.cr.log,h.cr.cert,h.cr.len,h.cr.gd,h.cr.mI,h.cr.dh⟩,h.tail,h.aq,h.keys,h.nodup,h.nw⟩
theorem jU.XB (h:jU ba B0 u r1 r2 N δ): ∃j,δ.log=logB ba u++j∧rS j:=by
 obtain ⟨j,I,J⟩:=h.cr.log
 rw [h.tail,bF,bF] at I
 exact ⟨j,I,J⟩
theorem jU.dI (h:jU ba B0 u r1 r2 N δ): jU ba B0 u r1 r2 N (δ.dI (szB u)).2∧((δ.dI (szB u)).1=0→(δ.dI (szB u)).2.log=logB ba u):=by
 obtain ⟨j,I,U⟩:=h.XB
 have J:(logB ba u).length=szB u:=gq
 have hlen:δ.log.length=szB u+j.length:=by rw [I,bC,J]
 unfold Dk.dI
 split
 ·unfold Dk.qO
  split
  ·exact ⟨h,fun q=>(by cases q)⟩
  ·rw [af (by omega)]
   split
   ·exact ⟨h.die,fun q=>(by cases q)⟩
   ·have e:δ.log.take (szB u)=logB ba u:=by rw [I,←J,jX rfl]
    refine ⟨⟨⟨h.cr.split,h.cr.rs,⟨[],?_,.inl (by decide)⟩,aI _,?_,h.cr.gd,h.cr.mI,h.cr.dh⟩,h.tail,h.aq,h.keys,h.nodup,h.nw⟩,fun _=>e⟩
    ·show δ.log.take (szB u)++δ.tail=_
     rw [e,h.tail,bF,bF,bF]
    ·show szB u≤(δ.log.take (szB u)).length
     rw [e,J]; exact aI _
 ·refine ⟨h,fun _ => ?_⟩
  have:j=[]:=List.length_eq_zero_iff.1 (by omega)
  rw [I,this,bF]
theorem jU.cg (h:jU ba B0 u r1 r2 N δ): jU ba B0 u r1 r2 N δ.cg.2:=by
 unfold Dk.cg
 split
 ·exact h
 ·split
  ·exact h.die
  ·have:=h.cr.len
   have:=h.cr.cert
   exact ⟨⟨h.cr.split,h.cr.rs,h.cr.log,by show szB u≤δ.log.length; omega,aI _,h.cr.gd,h.cr.mI,h.cr.dh⟩,h.tail,h.aq,h.keys,h.nodup,h.nw⟩
theorem jU.cD (h:jU ba B0 u r1 r2 N δ): jU ba B0 u r1 r2 N (δ.cD (szB u)).2∧((δ.cD (szB u)).1=0→(δ.cD (szB u)).2.log=logB ba u):=by
 obtain ⟨t1,t2⟩:=h.dI
 unfold Dk.cD
 split
 ·exact ⟨t1,fun q=>absurd q (by assumption)⟩
 ·rename_i I
  have t2:=t2 (Classical.not_not.1 I)
  split
  ·refine ⟨t1.cg,fun _ => ?_⟩
   have:(δ.dI (szB u)).2.cg.2.log=(δ.dI (szB u)).2.log:=by
    unfold Dk.cg
    split
    ·rfl
    ·split <;> rfl
   rw [this,t2]
  ·exact ⟨t1,fun _=>t2⟩
theorem jU.bk (h:jU ba B0 u r1 r2 N δ){k:Int}{b:List Nat}(hk:sH r2 k): jU ba B0 u r1 r2 N (δ.bk k b).2∧((δ.bk k b).1=0→0≤k∧k<N∧∀n,lookL n (δ.bk k b).2.now=if k=n then some b else lookL n δ.now):=by
 unfold Dk.bk
 split
 ·exact ⟨h,fun q=>(by cases q)⟩
 ·split
  ·exact ⟨h,fun q=>(by cases q)⟩
  ·rename_i U
   have U:=Classical.not_not.1 U
   have hN:=h.aq
   split
   ·refine ⟨⟨⟨h.cr.split,h.cr.rs,h.cr.log,h.cr.cert,h.cr.len,h.cr.gd,h.cr.mI,fun w hw => ?_⟩,h.tail,h.aq,h.keys,h.nodup,h.nw⟩,fun q=>(by cases q)⟩
    have:w=(k.toNat,b):=(bx hw).symm
    subst this
    rw [show ((k.toNat:Nat):Int)=k by omega]; exact hk
   ·refine ⟨⟨⟨h.cr.split,h.cr.rs,h.cr.log,h.cr.cert,h.cr.len,h.cr.gd,fun n w t t' h0 ht hw uA => ?_,h.cr.dh⟩,h.tail,h.aq,fun x hx => ?_,iQ h.nodup,fun n c J => ?_⟩,fun _=>⟨U.1,by omega,fun n=>gY _⟩⟩
    ·refine h.cr.mI n w t t' h0 ht hw ?_
     rcases uA with hq | ⟨wr,I,q1,q2⟩
     ·exact .inl hq
     ·rcases List.mem_append.1 I with I | I
      ·exact .inr ⟨wr,I,q1,q2⟩
      ·exfalso
       rw [List.mem_singleton.1 I] at q1
       obtain ⟨r,oR,yX⟩:=hk
       simp only at q1
       exact hw ⟨r,List.mem_append.2 (.inl oR),by rw [←q1,show ((k.toNat:Nat):Int)=k by omega]; exact yX⟩
    ·rcases oY.1 hx with rfl | hx
     ·exact ⟨U.1,by omega⟩
     ·exact h.keys x hx
    ·have J:lookL n (cN k b δ.now)=some c:=J
     rw [gY] at J
     by_cases hq:k=n
     ·rw [←hq]; exact hk
     ·rw [af hq] at J; exact h.nw n c J
theorem jU.Ps (h:jU ba B0 u r1 r2 N δ){n:Int}(I:0≤n): imgOf δ.sync n=match lookL n δ.now with | some b=>b | none=>imgOf δ n:=by
 rw [imgOf,show δ.sync.aq=laidP δ.now δ.aq from rfl,laidP_get h.aq h.nodup h.keys I]
 cases J:lookL n δ.now with
 | some b=>rfl
 | none=>rfl
theorem jU.c7 (h:jU ba B0 u r1 r2 N δ): jU ba B0 u r1 r2 N δ.c7.2:=by
 unfold Dk.c7
 split
 ·exact h
 ·split
  ·exact h.die
  ·refine ⟨⟨h.cr.split,h.cr.rs,h.cr.log,h.cr.cert,h.cr.len,h.cr.gd,fun n w t t' I ht hw J => ?_,h.cr.dh⟩,h.tail,?_,fun k hk=>(by cases hk),kG,fun n b hb=>(by cases hb)⟩
   ·have U:yC δ n:=⟨I.1,by have:=I.2; rw [show δ.c9.sync.aq=laidP δ.now δ.aq from rfl,mO] at this; exact this⟩
    have I:=I.1
    refine h.cr.mI n w t t' U ht hw (.inl ?_)
    have hq:w=imgOf δ.c9.sync n:=by
     rcases J with hq | ⟨wr,qU,_⟩
     ·exact hq
     ·cases qU
    rw [hq,h.c9.Ps I]
    cases hl:lookL n δ.c9.now with
    | none=>rfl
    | some b =>
     obtain ⟨r,oR,yX⟩:=h.nw n b hl
     exact absurd ⟨r,List.mem_append.2 (.inl oR),yX⟩ hw
   ·show (laidP δ.now δ.aq).length=N
    rw [mO]; exact h.aq
theorem jU.again {ρ:gw}: ∀ {l:List Int} {δ:Dk},l.Nodup→(∀k∈l,∀b,lookL k ρ.aq=some b→sH r2 k)→jU ba B0 u r1 r2 N δ→jU ba B0 u r1 r2 N (againW ρ l δ).2 ∧
  ((againW ρ l δ).1=0→(∀n,n∈l→∀b,lookL n ρ.aq=some b→bT b=true→n<N→lookL n (againW ρ l δ).2.now=some (cO b (ox ρ n)))∧(∀n,n∉l→lookL n (againW ρ l δ).2.now=lookL n δ.now)):=by
 intro l
 induction l with
 | nil=>intro δ _ _ h; exact ⟨h,fun _=>⟨fun n I=>(by cases I),fun _ _=>rfl⟩⟩
 | cons k l ih =>
  intro δ nk hl h
  obtain ⟨d1,d2⟩:=List.nodup_cons.1 nk
  have yl:∀x∈l,∀b,lookL x ρ.aq=some b→sH r2 x:=fun x hx=>hl x (bp _ hx)
  rw [againW]
  cases hq:lookL k ρ.aq with
  | none =>
   obtain ⟨i1,i2⟩:=ih d2 yl h
   refine ⟨i1,fun h0 => ?_⟩
   obtain ⟨j1,j2⟩:=i2 h0
   refine ⟨fun n I b J hg U => ?_,fun n I=>j2 n (fun q=>I (bp _ q))⟩
   rcases List.mem_cons.1 I with rfl | I
   ·rw [hq] at J; cases J
   ·exact j1 n I b J hg U
  | some b =>
   simp only
   have hN:=h.aq
   split
   ·rename_i hg
    obtain ⟨w1,w2⟩:=h.bk (k:=k) (b:=cO b (ox ρ k)) (hl k br b hq)
    split
    ·exact ⟨w1,fun q=>absurd q (by assumption)⟩
    ·rename_i gy
     obtain ⟨x1,x2,x3⟩:=w2 (Classical.not_not.1 gy)
     obtain ⟨i1,i2⟩:=ih d2 yl w1
     refine ⟨i1,fun h0 => ?_⟩
     obtain ⟨j1,j2⟩:=i2 h0
     refine ⟨fun n I b' J Px U => ?_,fun n I => ?_⟩
     ·rcases List.mem_cons.1 I with rfl | I
      ·rw [hq] at J
       rw [j2 n d1,x3,aj rfl,bx J]
      ·exact j1 n I b' J Px U
     ·simp only [fo,pP] at I
      rw [j2 n I.2,x3,af (fun q=>I.1 q.symm)]
   ·rename_i hg
    obtain ⟨i1,i2⟩:=ih d2 yl h
    refine ⟨i1,fun h0 => ?_⟩
    obtain ⟨j1,j2⟩:=i2 h0
    refine ⟨fun n I b' J Px U => ?_,fun n I=>j2 n (fun q=>I (bp _ q))⟩
    rcases List.mem_cons.1 I with rfl | I
    ·rw [hq] at J
     rw [←bx J] at Px
     exact absurd ⟨Px,by omega⟩ hg
    ·exact j1 n I b' J Px U
theorem jU.eP (h:jU ba B0 u r1 r2 N δ)(hn:δ.now=[])(hw:δ.waiting=[]): jU ba B0 u r1 r2 N (eP δ ba u r1 r2).2∧((eP δ ba u r1 r2).1=0 →
  (eP δ ba u r1 r2).2.log=logB ba u∧(eP δ ba u r1 r2).2.now=[]∧(eP δ ba u r1 r2).2.waiting=[] ∧
  ∀n,0≤n→n<(N:Int)→kj (eA u B0 n) (imgOf (eP δ ba u r1 r2).2 n)∧dN (imgOf (eP δ ba u r1 r2).2 n)=0):=by
 have I:=UQ r2 (ba+szB r1) (eA r1 B0)
 have hS:eA r2 (eA r1 B0)=eA u B0:=by rw [h.cr.split,ng]
 rw [hS] at I
 have RP:∀r∈r2,r.Ok:=fun r hr=>h.cr.rs r (by rw [bF,h.cr.split]; exact List.mem_append.2 (.inr hr))
 have kV:(redoL (ba+szB r1) r2 gw.none).Ok:=Ci Bh RP
 obtain ⟨o1,o2⟩:=h.cD
 obtain ⟨f1,f2,f3⟩:=DE (δ:=δ) (n:=szB u)
 unfold Am.eP
 split
 ·exact ⟨o1,fun q=>absurd q (by assumption)⟩
 ·rename_i h0
  have o2:=o2 (Classical.not_not.1 h0)
  generalize hρ:redoL (ba+szB r1) r2 gw.none=ρ at I kV ⊢
  have nk:(aF ρ.aq).Nodup:=(eG _).nodup_iff.2 kV.dup
  obtain ⟨a1,a2⟩:=o1.again (ρ:=ρ) nk (fun k _ b hb=>(I.some k b hb).2)
  have J:∀ {l:List Int} {δ:Dk},(againW ρ l δ).2.log=δ.log:=by
   intro l
   induction l with
   | nil=>intro δ; rfl
   | cons k l ih =>
    intro δ
    have NY:∀b,(δ.bk k b).2.log=δ.log:=fun b=>by
     unfold Dk.bk
     split
     ·rfl
     ·split
      ·rfl
      ·split <;> rfl
    rw [againW]
    cases lookL k ρ.aq with
    | none=>exact ih
    | some b =>
     simp only
     split
     ·split
      ·exact NY _
      ·rw [ih,NY]
     ·exact ih
  have fin:∀U,jU ba B0 u r1 r2 N U→(againW ρ (aF ρ.aq) (δ.cD (szB u)).2).1=0→(∀n,0≤n→imgOf U n=match lookL n (againW ρ (aF ρ.aq) (δ.cD (szB u)).2).2.now with | some b=>b | none=>imgOf (againW ρ (aF ρ.aq) (δ.cD (szB u)).2).2 n) →
    ∀n,0≤n→n<(N:Int)→kj (eA u B0 n) (imgOf U n)∧dN (imgOf U n)=0:=fun U h1 hz hi n sP HA=>by
   obtain ⟨b1,b2⟩:=a2 hz
   rw [hi n sP]
   cases hl:lookL n ρ.aq with
   | some b =>
    obtain ⟨e1,e2⟩:=I.some n b hl
    obtain ⟨r,oR,c,yj,sQ,_⟩:=e2
    have hg:bT b=true:=by
     rw [e1]
     exact h.cr.gd.gd u [] n (by simp) ⟨r,by rw [h.cr.split]; exact List.mem_append.2 (.inr oR),c,yj,sQ⟩
    have hb:∀x∈b,x<256:=by
     rw [e1]
     exact Pu (fun r hr=>h.cr.gd.lt r (by rw [bF]; exact hr)) h.cr.gd.Ta n
    have xh:n∈aF ρ.aq:=gh.2 ((fC hl) |> iV (f:=(·.1)))
    rw [b1 n xh b hl hg HA]
    simp only
    rw [←e1]
    exact ⟨(IG (fy hg)).symm,(Aq hg hb).1⟩
   | none =>
    have hnw:=I.none n hl
    have nM:lookL n (againW ρ (aF ρ.aq) (δ.cD (szB u)).2).2.now=none:=by
     cases hq:lookL n (againW ρ (aF ρ.aq) (δ.cD (szB u)).2).2.now with
     | none=>rfl
     | some b=>exact absurd (a1.nw n b hq) hnw
    rw [nM]
    simp only
    have:=a1.cr.mI n _ [] [] ⟨sP,by rw [a1.aq]; exact HA⟩ rfl (by rw [bF]; exact hnw) (.inl rfl)
    rw [bF] at this
    exact this
  unfold mG
  split
  ·exact ⟨a1,fun q=>absurd q (by assumption)⟩
  ·rename_i hz
   have hz:=Classical.not_not.1 hz
   split
   ·rename_i hp
    have ek:aF ρ.aq=[]:=by rw [hp]; rfl
    have e:againW ρ (aF ρ.aq) (δ.cD (szB u)).2=(0,(δ.cD (szB u)).2):=by rw [ek]; rfl
    refine ⟨a1,fun _=>⟨by rw [J,o2],by rw [e]; show (δ.cD (szB u)).2.now=[]; rw [f2,hn],by rw [e]; show (δ.cD (szB u)).2.waiting=[]; rw [f1,hw],fin _ a1 hz fun n sP => ?_⟩⟩
    rw [e]
    show _=match lookL n (δ.cD (szB u)).2.now with | some b=>b | none=>_
    rw [f2,hn]
    rfl
   ·refine ⟨a1.c7,fun hs => ?_⟩
    have es:(againW ρ (aF ρ.aq) (δ.cD (szB u)).2).2.c7=(0,(againW ρ (aF ρ.aq) (δ.cD (szB u)).2).2.c9.sync):=by
     unfold Dk.c7 at hs ⊢
     split
     ·rename_i hd; rw [aj hd] at hs; cases hs
     ·rename_i hd
      rw [af hd] at hs
      split
      ·rename_i hf; rw [aj hf] at hs; cases hs
      ·rfl
    have Pt:=a1.c7
    rw [es] at Pt ⊢
    refine ⟨by show (againW ρ (aF ρ.aq) (δ.cD (szB u)).2).2.log=_; rw [J,o2],rfl,rfl,fin _ Pt hz fun n sP => ?_⟩
    rw [a1.c9.Ps sP]
    rfl
end
end Go.Proofs.YtconhghphklfjaaGreat.Am
