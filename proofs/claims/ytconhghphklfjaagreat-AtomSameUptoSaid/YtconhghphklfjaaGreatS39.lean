/- AtomSame: a part of its proof; conditions: its statement's. -/
import Derived.Test.YtconhghphklfjaaGreatS38
namespace Go.Proofs.YtconhghphklfjaaGreat.Am
open Go
theorem OL {n:Int}: ∀ {l:List cm} {σ:Int→List Nat},(∀c∈l,c.aK≠n)→iK l σ n=σ n:=by
 intro l
 induction l with
 | nil=>intro σ _; rfl
 | cons c l J =>
  intro σ I
  show iK l (jg c σ) n=σ n
  rw [J fun c U=>I c (bl _ U),jg,af (fun q=>I c bp q.symm)]
theorem H_ {n:Int}: ∀ {l:List cg} {σ:Int→List Nat},(∀r∈l,¬vg r n)→eU l σ n=σ n:=by
 intro l
 induction l with
 | nil=>intro σ _; rfl
 | cons r l J =>
  intro σ I
  show eU l (iK r.aP σ) n=σ n
  rw [J fun r U=>I r (bl _ U),OL fun c hc q=>I r bp ⟨c,hc,q⟩]
def syG (d:List (Int×(Nat×Bool)))(n:Int): Option Nat:=match lookL n d with
 | some (rec,true)=>some rec
 | _=>none
section
variable {N ba:Nat} {B0:Int→List Nat} {rs:List cg} {g:Int→Option Nat} {ε ε':aM}
theorem RI.OM (h:vw (RI ba (fun _=>False) B0 rs g) ε)(he:EC N ε){n:Int}(J:0≤n): ((∃b,lookL n ε.2.2.now=some b∧imgOf ε.2.2.sync n=b)∨(lookL n ε.2.2.now=none∧imgOf ε.2.2.sync n=imgOf ε.2.2 n))∧imgOf ε.2.2.sync n=ε.2.2.at n:=by
 have e:imgOf ε.2.2.sync n=ε.2.2.at n:=by
  rw [imgOf,Dk.at,show ε.2.2.sync.aq=laidP ε.2.2.now ε.2.2.aq from rfl,laidP_get he.dk.aq he.dk.nodup he.dk.keys J]
  cases I:lookL n ε.2.2.now with
  | some b=>rfl
  | none=>rfl
 refine ⟨?_,e⟩
 cases I:lookL n ε.2.2.now with
 | some b=>exact .inl ⟨b,rfl,by rw [e,Dk.at,I]⟩
 | none=>exact .inr ⟨rfl,by rw [e,Dk.at,I]; rfl⟩
theorem RI.sync (h:vw (RI ba (fun _=>False) B0 rs g) ε)(he:EC N ε)(gn:∀n,0≤n→n<(N:Int)→jP (eU rs B0 n) (pgA ε n)):
  dK ε.1 ε.2.2=(0,{ ε.1 with aQ:=ε.1.aQ.filter fun e=>e.2.2 },ε.2.2.sync)∧vw (RI ba (fun _=>False) B0 rs (syG ε.1.aQ)) ({ ε.1 with aQ:=ε.1.aQ.filter fun e=>e.2.2 },(ε.2.1,ε.2.2.sync)):=by
 have h:=uD.1 h
 have es:ε.2.2.dQ=(0,ε.2.2.sync):=by rw [Dk.dQ,af (by rw [he.dk.alive]; decide),af (by have:=he.dk.aI; omega),gI he.dk.aI]
 have hC:∀d,iV ⟨ε.1.ak,ε.1.aH,d,ε.1.hand⟩=iV ε.1:=fun d=>rfl
 have hd:∀n,lookL n (ε.1.aQ.filter fun e=>e.2.2)=match lookL n ε.1.aQ with | some (rec,true)=>some (rec,true) | _=>none:=fun n=>lookL_filter he.zu
 have jM:∀ {n rec fl},lookL n (ε.1.aQ.filter fun e=>e.2.2)=some (rec,fl)→fl=true∧lookL n ε.1.aQ=some (rec,true):=fun {n rec fl} J=>by
  rw [hd] at J
  split at J
  ·rename_i iw
   injection J with J
   injection J with h1 h2
   rw [iw,h1]
   exact ⟨h2.symm,rfl⟩
  ·cases J
 have ON:∀ {n rec},syG ε.1.aQ n=some rec→lookL n ε.1.aQ=some (rec,true):=fun {n rec} J=>by
  unfold syG at J
  split at J
  ·rename_i iw
   rw [iw,bt J]
  ·cases J
 refine ⟨by rw [dK,es,af (by simp)],?_⟩
 refine ⟨h.base,h.b,h.log,h.alive,h.aI,h.forced,h.cert,fun n w t t' U ht uC hr hc => ?_,fun n rec hn=>h.aQ n rec (h.C2 n rec _ (ON hn)),fun n _ wr uc=>(by cases uc),fun n b hb => ?_,fun n rec hn => ?_,fun n rec hn => ?_,fun n b hb=>(by cases hb),fun n rec fl hn => ?_,fun n rec hn=>.inr ⟨true,?_⟩,fun n w U hc => ?_,fun n q=>q.elim⟩
 ·have uR:Fi ε.2.2 n:=⟨U.1,by have:=U.2; rw [show ε.2.2.sync.aq=laidP ε.2.2.now ε.2.2.aq from rfl,nt] at this; exact this⟩
  have U:=U.1
  obtain ⟨k1,k2⟩:=RI.OM h he U
  have hw:w=imgOf ε.2.2.sync n:=by
   rcases hc with hc | ⟨wr,uc,_⟩
   ·exact hc
   ·cases uc
  have hold:(∀rec,g n=some rec→ba+szB t≤rec)→jP (eU t B0 n) w:=fun I=>by
   refine h.mJ n w t t' uR ht uC I ?_
   rcases k1 with ⟨b,q1,q2⟩ | ⟨q1,q2⟩
   ·obtain ⟨wr,m1,m2,m3⟩:=h.now n b q1
    exact .inr ⟨wr,m1,m2,by rw [hw,q2,m3]⟩
   ·exact .inl (by rw [hw,q2])
  cases J:lookL n ε.1.aQ with
  | none =>
   refine hold fun rec I => ?_
   rcases h.Kz n rec I with q | ⟨fl,q⟩
   ·exact q.elim
   ·rw [J] at q; cases q
  | some x =>
   obtain ⟨rec,fl⟩:=x
   cases fl with
   | true =>
    refine hold fun L7 I => ?_
    have:g n=some rec:=h.C2 n rec _ J
    rw [this] at I
    refine hr L7 ?_
    rw [←bt I]
    simp only [syG,J]
   | false =>
    have hN:=he.rq n (fe J |> iX (f:=(·.1)))
    have mC:pgA ε n=ε.2.2.at n:=by
     rcases he.cases n with ⟨j,f,q1,q2,q3,q4,q5,q6⟩ | ⟨q1,q2⟩
     ·rw [q6]
      cases Y2:f.changed with
      | false=>rw [q5.same Y2,q3]
      | true =>
       obtain ⟨L7,_,_,_,m,_⟩:=h.H7 n f.b ⟨j,f,q2,q3,U,Y2,rfl⟩
       rw [J] at m
       injection m with m
       injection m with _ m
       cases m
     ·exact q2
    have hS:eU rs B0 n=eU t B0 n:=by
     rw [ht,tF]
     refine H_ fun r hr me => ?_
     obtain ⟨a,b,rfl⟩:=List.append_of_mem hr
     have:=(h.flag n rec J).2 (fun q=>q) (t++a) r b (by rw [ht]; simp) me
     have:=rZ (u:=t) (v:=a)
     have uC:ε.2.1.forced≤szB t:=uC
     omega
    rw [←hS,hw,k2,←mC]
    exact gn n U hN.2
 ·obtain ⟨rec,t,r,t',m1,m2⟩:=h.H7 n b hb
  exact ⟨rec,t,r,t',by show lookL n (ε.1.aQ.filter _)=_; rw [hd,m1],m2⟩
 ·exact absurd (jM hn).1 (by decide)
 ·exact h.ft n rec (jM hn).2
 ·obtain ⟨rfl,q⟩:=jM hn
  simp only [syG,q]
 ·show lookL n (ε.1.aQ.filter _)=_
  rw [hd,ON hn]
 ·rcases hc with hc | ⟨wr,uc,_⟩
  ·rcases (RI.OM h he U).1 with ⟨b,q1,q2⟩ | ⟨q1,q2⟩
   ·obtain ⟨wr,m1,m2,m3⟩:=h.now n b q1
    exact h.ck n w U (.inr ⟨wr,m1,m2,by rw [hc,m3]; exact q2⟩)
   ·exact h.ck n w U (.inl (hc.trans q2))
  ·cases uc
theorem TV {i:Nat}{f:Fm}(h:EC N ε)(hf:ε.1.ak[i]?=some f)(h0:0≤f.aK){n:Int}{b:List Nat}(hc:iV (outF ε i).2.1 n b): iV ε.1 n b∧n≠f.aK:=by
 obtain ⟨o1,o2,o3,o4,gg,o5,o6,o7⟩:=h.out hf
 have Cy:=(h.back i f hf).resolve_left (by omega)
 obtain ⟨j,y,I,k1,k0,k2,k3⟩:=hc
 have U:n≠f.aK:=by
  intro q
  have hyo:=(o2.back j y I).resolve_left (by omega)
  have h1:=hyo.here
  rw [k1,q,o4,Cy.here] at h1
  have:i=j:=by have:=bt h1; omega
  subst this
  rw [o5] at I
  have:=bt I
  subst this
  rw [o7 (by omega)] at k2
  cases k2
 refine ⟨?_,U⟩
 unfold outF at I
 rw [hf] at I
 simp only at I
 have fin:∀ {m:List Fm} {x:Fm},m=ε.1.ak∨m=ε.1.ak.set i x→x.aK=f.aK→m[j]?=some y→iV ε.1 n b:=fun hm hx J=>by
  rcases hm with rfl | rfl
  ·exact ⟨j,y,J,k1,k0,k2,k3⟩
  ·rcases nA hf J with ⟨rfl,rfl⟩ | ⟨_,J⟩
   ·exact absurd (k1.symm.trans hx) U
   ·exact ⟨j,y,J,k1,k0,k2,k3⟩
 split at I
 ·exact fin (x:=f) (.inl rfl) rfl I
 ·split at I
  ·exact fin (x:=f) (.inl rfl) rfl I
  ·split at I
   ·exact fin (x:=f) (.inl rfl) rfl I
   ·split at I
    ·exact fin (x:=f) (.inl rfl) rfl I
    ·exact fin (x:={ f with changed:=false }) (.inr rfl) rfl I
theorem Jr {P:VP}(hP:jR N P): ∀ {l:List Int} {ε:aM},EC N ε→(∀n∈l,(lookL n ε.1.aH).isSome=true)→vw P ε→vw P (writeAllF l ε).2∧∀n b,iV (writeAllF l ε).2.1 n b→iV ε.1 n b∧n∉l:=by
 intro l
 induction l with
 | nil=>intro ε h _ I; exact ⟨I,fun n b q=>⟨q,by simp⟩⟩
 | cons n l ih =>
  intro ε h hl I
  have h1:=hl n bp
  cases J:lookL n ε.1.aH with
  | none=>rw [J] at h1; cases h1
  | some i =>
   obtain ⟨sj,j,f,rfl,U,hp⟩:=h.j6 n i J
   obtain ⟨k1,k2,k3,k4,_⟩:=h.out U
   have e:ee ε n=outF ε j:=by rw [ee,J]; simp only [cQ]
   rw [writeAllF,e,af (by rw [k1]; decide)]
   obtain ⟨i1,i2⟩:=ih k2 (fun m hm=>by rw [k4]; exact hl m (bl _ hm)) (hP.out h U I)
   refine ⟨i1,fun m b hm => ?_⟩
   obtain ⟨q1,q2⟩:=i2 m b hm
   obtain ⟨q3,q4⟩:=TV h U (by omega) q1
   exact ⟨q3,by simp only [eX,pn]; exact ⟨by rw [←hp]; exact q4,q2⟩⟩
theorem Fj (ε:aM): ∀n∈aJ ε.1.aH,(lookL n ε.1.aH).isSome=true:=fun n I=>by
 cases J:lookL n ε.1.aH with
 | some _=>rfl
 | none=>exact absurd (gN.1 I) (fU.1 J)
theorem RI.TW (h:vw (RI ba (fun _=>False) B0 rs g) ε)(he:EC N ε)(I:∀n,0≤n→n<(N:Int)→jP (eU rs B0 n) (pgA ε n)): vw (RI ba (fun _=>False) B0 rs (fun _=>none)) (fH ε).2:=by
 have hk:=Fj ε
 obtain ⟨w1,w2,w3⟩:=qp he hk
 obtain ⟨a1,a2⟩:=Jr (RI.qq N) he hk h
 obtain ⟨s1,s2⟩:=RI.sync a1 w2 (fun n h0 h1=>by rw [w3]; exact I n h0 h1)
 have e:(fH ε).2=({ (writeAllF (aJ ε.1.aH) ε).2.1 with aQ:=(writeAllF (aJ ε.1.aH) ε).2.1.aQ.filter fun e=>e.2.2 },((writeAllF (aJ ε.1.aH) ε).2.2.1,(writeAllF (aJ ε.1.aH) ε).2.2.2.sync)):=by
  rw [fH,af (by rw [he.dk.alive]; decide),af (by rw [w1]; decide),s1]
 have J:∀n b,¬iV (writeAllF (aJ ε.1.aH) ε).2.1 n b:=fun n b hc=>by
  obtain ⟨q1,q2⟩:=a2 n b hc
  obtain ⟨j,f,hf,k1,k0,k2,k3⟩:=q1
  have U:=(he.back j f hf).resolve_left (by omega)
  rw [←k1] at q2
  refine q2 (gN.2 ?_)
  have:=U.here
  exact fe this |> iX (f:=(·.1))
 have hg:syG (writeAllF (aJ ε.1.aH) ε).2.1.aQ=fun _=>none:=by
  funext n
  unfold syG
  split
  ·rename_i rec hq
   obtain ⟨b,hb⟩:=(uD.1 a1).ft n rec hq
   exact absurd hb (J n b)
  ·rfl
 rw [hg] at s2
 rw [e]; exact s2
end
theorem QX {pg:Int}{cP now:List Nat}{i:Nat}{l:List cm}(J:uw pg cP now i l): ∀c∈l,c.aK=pg:=by
 induction J with
 | done i h=>intro c I; cases I
 | skip i l h he J U=>exact U
 | take i e l h1 h2 _ _ J U =>
  intro c I
  rcases List.mem_cons.1 I with rfl | I
  ·rfl
  ·exact U c I
theorem QY {pg:Int}{cP now:List Nat}{c:List cm}(J:E4 pg cP now c): (∀x∈c,x.aK=pg)∧c≠[]:=by
 obtain ⟨l,U,rfl⟩:=J
 by_cases I:l=[]
 ·rw [aj I]
  exact ⟨fun x hx=>by rw [List.mem_singleton.1 hx],by simp⟩
 ·rw [af I]
  exact ⟨QX U,I⟩
theorem Wo {pg:Int}{cP now:List Nat}{i:Nat}{l:List cm}(J:uw pg cP now i l)(hn:∀x∈now,x<256): ∀c∈l,∀x∈c.b,x<256:=by
 induction J with
 | done i h=>intro c I; cases I
 | skip i l h he J U=>exact U
 | take i e l h1 h2 _ _ J U =>
  intro c I
  rcases List.mem_cons.1 I with rfl | I
  ·exact fun x hx=>hn x (gr (ij hx))
  ·exact U c I
theorem Wp {pg:Int}{cP now:List Nat}{c:List cm}(U:E4 pg cP now c)(hn:∀x∈now,x<256): ∀x∈c,∀y∈x.b,y<256:=by
 obtain ⟨l,hl,rfl⟩:=U
 by_cases I:l=[]
 ·rw [aj I]
  intro x hx y J
  rw [List.mem_singleton.1 hx] at J
  cases J
 ·rw [af I]
  exact Wo hl hn
theorem jh.lt {N:Nat}{now:List (Int×List Nat)}{l:List Int}{ε ε':aM}{e:Int}{cs:List cm}(hr:jh now l ε e cs ε')(hn:NW N now): ∀c∈cs,∀x∈c.b,x<256:=by
 induction hr with
 | nil ε=>intro c J; cases J
 | err n l ε e b ε' hr he=>intro c J; cases J
 | part n l ε cP b ε' c e cs U hr hb jM J lK ht ih =>
  intro x I
  rcases List.mem_append.1 I with I | I
  ·exact Wp J (hn.look hb).2 x I
  ·exact ih x I
 | whole n l ε cP b ε' e cs U hr hb jM ht ih =>
  intro x I
  rcases List.mem_cons.1 I with rfl | I
  ·exact (hn.look hb).2
  ·exact ih x I
structure Ia (rs:List cg)(B0:Int→List Nat): Prop where
 Wq:∀n,∀x∈B0 n,x<256
 lt:∀r∈rs,∀c∈r.aP,∀x∈c.b,x<256
 gd:∀t t' n,rs=t++t'→(∃r∈t,vg r n)→bU (eU t B0 n)=true
theorem TX : ∀ {cs:List cm} {σ:Int→List Nat},(∀c∈cs,∀x∈c.b,x<256)→(∀n,∀x∈σ n,x<256)→∀n,∀x∈iK cs σ n,x<256:=by
 intro cs
 induction cs with
 | nil=>intro σ _ h; exact h
 | cons c cs J =>
  intro σ I h
  refine J (σ:=jg c σ) (fun x U=>I x (bl _ U)) fun n => ?_
  rw [jg]
  split
  ·split
   ·exact I c bp
   ·exact yB (h n) (I c bp)
  ·exact h n
theorem Ws : ∀ {rs:List cg} {σ:Int→List Nat},(∀r∈rs,∀c∈r.aP,∀x∈c.b,x<256)→(∀n,∀x∈σ n,x<256)→∀n,∀x∈eU rs σ n,x<256:=by
 intro rs
 induction rs with
 | nil=>intro σ _ h; exact h
 | cons r rs J=>intro σ I h; exact J (σ:=iK r.aP σ) (fun x U=>I x (bl _ U)) (TX (I r bp) h)
theorem Ia.app {rs:List cg}{B0:Int→List Nat}{r:cg}(h:Ia rs B0)(h1:∀c∈r.aP,∀x∈c.b,x<256)(h2:∀n,vg r n→bU (eU (rs++[r]) B0 n)=true): Ia (rs++[r]) B0:=by
 refine ⟨h.Wq,fun x I => ?_,fun t t' n ht hc => ?_⟩
 ·rcases List.mem_append.1 I with I | I
  ·exact h.lt x I
  ·rw [List.mem_singleton.1 I]; exact h1
 ·rcases vl t' with rfl | ⟨U,z,rfl⟩
  ·rw [bT] at ht
   subst ht
   by_cases hq:vg r n
   ·exact h2 n hq
   ·obtain ⟨x,I,J⟩:=hc
    rcases List.mem_append.1 I with I | I
    ·rw [tF]
     have:eU [r] (eU rs B0) n=eU rs B0 n:=H_ fun y hy=>by rw [List.mem_singleton.1 hy]; exact hq
     rw [this]
     exact h.gd rs [] n (by rw [bT]) ⟨x,I,J⟩
    ·rw [List.mem_singleton.1 I] at J; exact absurd J hq
  ·have H9:rs++[r]=(t++U)++[z]:=by rw [ht]; simp
   exact h.gd t U n (nG H9 rfl).1 hc
def KA (N:Nat)(rs:List cg)(B0:Int→List Nat)(ε:aM): Prop:=∀n,0≤n→n<(N:Int)→jP (eU rs B0 n) (pgA ε n)
abbrev zG : Int→Prop:=fun _=>False
section
variable {N ba:Nat} {B0:Int→List Nat} {rs:List cg} {g:Int→Option Nat} {ε ε':aM} {now:List (Int×List Nat)}
theorem jh.st {l:List Int}{e:Int}{cs:List cm}(hr:jh now l ε e cs ε'): ∀ {σ:Int→List Nat},EC N ε→gZ ε→NW N now→l.Nodup→(∀n∈l,0≤n∧n<N)→vw (RI ba zG B0 rs g) ε→(∀n∈l,jP (σ n) (pgA ε n)) →
  (∀n∈l,∀b,lookL n now=some b→jP (iK cs σ n) b)∧(∀n,n∉l→iK cs σ n=σ n)∧(∀n,(∃c∈cs,c.aK=n)↔n∈l)∧∀n∈l,g n=none→zE cs n:=by
 induction hr with
 | nil ε=>intro σ _ _ _ _ _ _ _; exact ⟨fun n U=>(by cases U),fun _ _=>rfl,fun n=>⟨fun ⟨c,hc,_⟩=>(by cases hc),fun U=>(by cases U)⟩,fun n U=>(by cases U)⟩
 | err n l ε e b ε' hr he =>
  intro σ h h3 U hd hl
  have:=hl n bp
  exact absurd ((hr.ec h h3.pins).2.2.1 this.1 this.2).1 he
 | part n l ε cP b ε' c e cs ox hr hb jM hc lK ht ih =>
  intro σ h h3 U hd hl hv IE
  obtain ⟨d1,d2⟩:=List.nodup_cons.1 hd
  have uA:=hl n bp
  obtain ⟨k1,k2,k3,_⟩:=hr.ec h h3.pins
  have hw:=(k3 uA.1 uA.2).2
  have tJ:vw (RI ba zG B0 rs g) ε':=(RI.qq N).rd hr h hv
  obtain ⟨q1,q2⟩:=Wn hc (fq (U.look hb).1) (σ:=σ) (by rw [hw]; exact IE n bp)
  obtain ⟨p1,p2⟩:=QY hc
  obtain ⟨i1,i2,i3,i4⟩:=ih (σ:=iK c σ) k1 (hr.kJ h3) U d2 (fun m hm=>hl m (bl _ hm)) tJ (fun m hm=>by
   rw [q2 m (fun q=>d1 (by rw [←q]; exact hm)),k2]
   exact IE m (bl _ hm))
  refine ⟨fun m hm b' J => ?_,fun m hm => ?_,fun m => ?_,fun m hm hg => ?_⟩
  ·rw [HZ]
   rcases List.mem_cons.1 hm with rfl | hm
   ·rw [hb] at J
    rw [←bt J,i2 m d1]; exact q1
   ·exact i1 m hm b' J
  ·simp only [eX,pn] at hm
   rw [HZ,i2 m hm.2,q2 m hm.1]
  ·constructor
   ·rintro ⟨x,I,rfl⟩
    rcases List.mem_append.1 I with I | I
    ·rw [p1 x I]; exact bp
    ·exact bl _ ((i3 _).1 ⟨x,I,rfl⟩)
   ·intro hm
    rcases List.mem_cons.1 hm with rfl | hm
    ·obtain ⟨x,I⟩:=List.exists_mem_of_ne_nil _ p2
     exact ⟨x,List.mem_append.2 (.inl I),p1 x I⟩
    ·obtain ⟨x,I,e⟩:=(i3 m).2 hm
     exact ⟨x,List.mem_append.2 (.inr I),e⟩
  ·rcases List.mem_cons.1 hm with rfl | hm
   ·exfalso
    cases hq:lookL m ε'.1.aQ with
    | none=>rw [hq] at jM; cases jM
    | some y =>
     obtain ⟨rec,fl⟩:=y
     have:=(uD.1 tJ).C2 m rec fl hq
     rw [hg] at this
     cases this
   ·obtain ⟨x,I,e⟩:=i4 m hm hg
    exact ⟨x,List.mem_append.2 (.inr I),e⟩
 | whole n l ε cP b ε' e cs ox hr hb jM ht ih =>
  intro σ h h3 U hd hl hv IE
  obtain ⟨d1,d2⟩:=List.nodup_cons.1 hd
  have uA:=hl n bp
  obtain ⟨k1,k2,k3,_⟩:=hr.ec h h3.pins
  have tJ:vw (RI ba zG B0 rs g) ε':=(RI.qq N).rd hr h hv
  have q2:∀m,m≠n→jg ⟨n,0,true,b⟩ σ m=σ m:=fun m hm=>by rw [jg,af hm]
  have q1:jg ⟨n,0,true,b⟩ σ n=b:=by rw [jg,aj rfl,aj rfl]
  obtain ⟨i1,i2,i3,i4⟩:=ih (σ:=jg ⟨n,0,true,b⟩ σ) k1 (hr.kJ h3) U d2 (fun m hm=>hl m (bl _ hm)) tJ (fun m hm=>by
   rw [q2 m (fun q=>d1 (by rw [←q]; exact hm)),k2]
   exact IE m (bl _ hm))
  refine ⟨fun m hm b' J => ?_,fun m hm => ?_,fun m => ?_,fun m hm hg => ?_⟩
  ·show jP (iK cs (jg _ σ) m) b'
   rcases List.mem_cons.1 hm with rfl | hm
   ·rw [hb] at J
    rw [←bt J,i2 m d1,q1]; exact jP.refl (fq (U.look hb).1)
   ·exact i1 m hm b' J
  ·simp only [eX,pn] at hm
   show iK cs (jg _ σ) m=σ m
   rw [i2 m hm.2,q2 m hm.1]
  ·constructor
   ·rintro ⟨x,I,rfl⟩
    rcases List.mem_cons.1 I with rfl | I
    ·exact bp
    ·exact bl _ ((i3 _).1 ⟨x,I,rfl⟩)
   ·intro hm
    rcases List.mem_cons.1 hm with rfl | hm
    ·exact ⟨_,bp,rfl⟩
    ·obtain ⟨x,I,e⟩:=(i3 m).2 hm
     exact ⟨x,bl _ I,e⟩
  ·rcases List.mem_cons.1 hm with rfl | hm
   ·exact ⟨_,bp,rfl,rfl⟩
   ·obtain ⟨x,I,e⟩:=i4 m hm hg
    exact ⟨x,bl _ I,e⟩
theorem rV.ri {B aD kd tx aF:Nat}{mk:List Nat}{data:List Nat}(hr:rV ε now kd tx 0 0 data 0 aF 0 true ε')(h:EI N B ε)(hB:B≤1000)(hn:NW N now)(hl:LR ba aD mk rs ε.2)(h1:1≤kd)(h2:kd≤7)(ht:tx<65536)
 (hv:vw (RI ba zG B0 rs g) ε)(gn:KA N rs B0 ε)(uj:Ia rs B0): ∃(r:cg) (g':Int→Option Nat),r.Ok∧r.kd=kd∧r.tx=tx∧r.pv=0∧r.nx=0∧r.data=data∧aF=ba+szB rs∧LR ba aD mk (rs++[r]) ε'.2∧vw (RI ba zG B0 (rs++[r]) g') ε'∧KA N (rs++[r]) B0 ε'∧Ia (rs++[r]) B0 ∧
   (∀n rec,g' n=some rec→g n=some rec∨rec=ba+szB rs)∧∃I,jh now (aJ now) ε 0 r.aP I:=by
 have J:∀n∈aJ now,0≤n∧n<N:=fun n U=>hn.keys n (gN.1 U)
 have hN:=h.many
 have iE:∀ {c:List cm} {ε':aM} {e:Int},jh now (aJ now) ε e c ε'→dM kd c=true:=fun hc=>by
  refine Hw ⟨by omega,by omega⟩ (hc.fit (fun x hx=>fq (hn.good x hx).1) fun n U => ?_)
  have:=J n U
  omega
 have m5:(aJ now).Nodup:=(er _).nodup_iff.2 hn.nodup
 have XE:=(h.done hB hn (by omega) (by omega) hr).resolve_left (by rintro ⟨q,_⟩; cases q)
 generalize hz:(0:Int)=e at hr
 generalize lK:true=cl at hr
 cases hr with
 | arg hh=>cases lK
 | dead _ _ _ hd=>cases lK
 | mB e c ε' _ _ _ _ hc he=>cases lK
 | app c I _ _ _ _ hc he=>cases lK
 | put c I e OO _ _ _ _ hc ha hp =>
  subst hz
  obtain ⟨c1,c2,c3⟩:=hc.ec h.ec h.ok J
  have hi:EI N B I:=⟨hc.kJ h.ok,c1,hc.el h.el,cI hc.cu h.cu⟩
  have vV:=(tE ba aD mk rs).ch hc hl
  obtain ⟨r,k1,k2,k3,k4,k5,k6,k7,k8,k9,Y3,_⟩:=vV.app h1 (iE hc) ht ha
  obtain ⟨a1,a2,a3⟩:=hi.app (kd:=kd) (tx:=tx) (pv:=0) (nx:=0) (data:=data) (c:=c) hB (iE hc)
  have a3:=a3.resolve_right (by rw [ha]; rintro (q | ⟨q,_⟩) <;> cases q)
  obtain ⟨_,a4⟩:=a3
  have uk:vw (RI ba zG B0 rs g) I:=(RI.qq N).ch hc h.ec h.ok hv
  obtain ⟨s1,s2,s3,s4⟩:=hc.st (σ:=eU rs B0) h.ec h.ok hn m5 J hv (fun n hm=>by have:=J n hm; exact gn n this.1 this.2)
  subst k7
  have abp:(bn I.2 kd tx 0 0 data r.aP).1.1=ba+szB rs:=k8
  have fc:=hi.el.size
  have xz:=vV.b
  have Y4:=vV.base
  have bX:ba+szB rs<18446744073709551616:=by
   have:(logB ba rs).length=szB rs:=ie
   rw [xz,Y4,this] at fc
   omega
  have me:∀n,n∈aJ now↔vg r n:=fun n=>(s3 n).symm
  have ot:=RI.app (uD.1 uk) (r:=r) (fun n hg U=>s4 n ((me n).2 U) hg) (μ:=(bn I.2 kd tx 0 0 data r.aP).2.1) (δ:=(bn I.2 kd tx 0 0 data r.aP).2.2)
   (by rw [k9.base,Y4]) k9.b (by rw [a4]; rfl) k9.log (by rw [a4]) (by rw [a4]) (by rw [a4]) (by rw [a4]) (by rw [a4]) (by rw [a4]) me
  have Oh:vw (RI ba (fun n=>n∈aJ now) B0 (rs++[r]) (fun n=>match g n with | some rec=>some rec | none=>if n∈aJ now then some (ba+szB rs) else none)) (I.1,(bn I.2 kd tx 0 0 data r.aP).2):=ot
  have Y5:=hp.ri a1.ec a1.ok hn J m5 (fun n hm=>hm) ⟨rs,r,rfl,k8⟩ (by rw [k8]; exact bX) Oh
  have e0:(fun m:Int=>m∈aJ now∧m∉aJ now)=zG:=funext fun m=>propext ⟨fun q=>q.2 q.1,fun q=>q.elim⟩
  rw [e0] at Y5
  refine ⟨r,_,k1,k2,k3,k4,k5,k6,by rw [aj rfl]; exact k8,(tE ba aD mk _).pt hp k9,Y5,fun n h0 GV => ?_,uj.app (hc.lt hn) (fun n U => ?_),fun n rec U => ?_,I,hc⟩
  ·rw [XE.2.2.2 n,tF]
   show jP (iK r.aP (eU rs B0) n) _
   cases U:lookL n now with
   | some b =>
    have hm:n∈aJ now:=gN.2 ((fe U) |> iX (f:=(·.1)))
    exact (s1 n hm b U).trans (H6 (fq (hn.look U).1)).symm
   | none =>
    have hm:n∉aJ now:=fun q=>fU.1 U (gN.1 q)
    rw [s2 n hm]
    exact gn n h0 GV
  ·have hm:=(me n).2 U
   cases hb:lookL n now with
   | none=>exact absurd (gN.1 hm) (fU.1 hb)
   | some b =>
    rw [tF]
    show bU (iK r.aP (eU rs B0) n)=true
    rw [(s1 n hm b hb).good]; exact (hn.look hb).1
  ·cases hg:g n with
   | some L7=>rw [hg] at U; exact .inl U
   | none =>
    rw [hg] at U
    simp only at U
    split at U
    ·exact .inr (bt U).symm
    ·cases U
theorem rV.ri0 {B aD kd tx aF:Nat}{mk:List Nat}{data:List Nat}{e:Int}(hr:rV ε now kd tx 0 0 data 0 aF e false ε')(h:EI N B ε)(hB:B≤1000)(hn:NW N now)(hl:LR ba aD mk rs ε.2)(h1:1≤kd)(h2:kd≤7)
 (hv:vw (RI ba zG B0 rs g) ε)(gn:KA N rs B0 ε): LR ba aD mk rs ε'.2∧vw (RI ba zG B0 rs g) ε'∧KA N rs B0 ε':=by
 have wQ:∀n∈aJ now,0≤n∧n<N:=fun n hq=>hn.keys n (gN.1 hq)
 have J:=(h.done hB hn (by omega) (by omega) hr).resolve_right (by rintro ⟨q,_⟩; cases q)
 have I:KA N rs B0 ε':=fun n h0 h1=>by rw [J.2.2.2 n]; exact gn n h0 h1
 generalize lK:false=cl at hr
 cases hr with
 | arg hh=>exact ⟨hl,hv,I⟩
 | dead _ _ _ hd=>exact ⟨hl,hv,I⟩
 | mB e c ε' _ _ _ _ hc he=>exact ⟨(tE ba aD mk rs).ch hc hl,(RI.qq N).ch hc h.ec h.ok hv,I⟩
 | app c U _ _ _ _ hc he =>
  have vV:=(tE ba aD mk rs).ch hc hl
  have uk:vw (RI ba zG B0 rs g) U:=(RI.qq N).ch hc h.ec h.ok hv
  rcases jf U.2 kd tx 0 0 data c with ⟨e,he,_,hq⟩ | ⟨_,hf,_⟩ | ⟨_,hb,hd,iE,hf,hq⟩
  ·rw [hq] at I ⊢; exact ⟨vV,uk,I⟩
  ·have:=vV.aI; omega
  ·rw [hq] at he; exact absurd rfl he
 | put c U e OO _ _ _ _ hc ha hp=>cases lK
end
structure RS (N ba aD:Nat)(mk:List Nat)(rs:List cg)(B0:Int→List Nat)(g:Int→Option Nat)(ε:aM): Prop where
 lr:LR ba aD mk rs ε.2
 ri:vw (RI ba zG B0 rs g) ε
 st:KA N rs B0 ε
 gd:Ia rs B0
theorem RS.pre {N ba aD:Nat}{mk:List Nat}{rs:List cg}{B0:Int→List Nat}{g:Int→Option Nat}{ε ε':aM}(h:RS N ba aD mk rs B0 g ε)(I:∀P:VP,jR N P→vw P ε→vw P ε')(J:∀m,pgA ε' m=pgA ε m): RS N ba aD mk rs B0 g ε' :=
 ⟨I _ ((tE ba aD mk rs).qq N) h.lr,I _ (RI.qq N) h.ri,fun n a b=>by rw [J]; exact h.st n a b,h.gd⟩
theorem qA.rs {N ba aD aF:Nat}{mk:List Nat}{rs:List cg}{B0:Int→List Nat}{g:Int→Option Nat}{D:iC}{ε ε':aM}{ps J:List (List Nat)}{e:Int}(ho:qA N D ε ps e J aF ε')(h:RS N ba aD mk rs B0 g ε):
  (aF=0∧J=ps∧RS N ba aD mk rs B0 g ε')∨∃(r0:cg) (g':Int→Option Nat),e=0∧J=nxW N D.w ps∧r0.kd=oO D.cS∧aF=ba+szB rs∧RS N ba aD mk (rs++[r0]) B0 g' ε'∧∀n rec,g' n=some rec→g n=some rec∨rec=ba+szB rs:=by
 have Oy:=Kn (k:=D.cS)
 have NC:=Ko (k:=D.cS)
 cases ho with
 | drop ε' ha U hg=>exact .inl ⟨rfl,rfl,h.pre U hg⟩
 | fail v8 ε' aF e ha U hg hw hi hr he =>
  obtain ⟨B,hB,hi⟩:=hi
  have I:=h.pre U hg
  obtain ⟨k1,k2,k3⟩:=hr.ri0 hi (by omega) hw I.lr (by omega) (by omega) I.ri I.st
  exact .inl ⟨rfl,rfl,k1,k2,k3,h.gd⟩
 | done v8 ε' aF ha U hg hw hi hr =>
  obtain ⟨B,hB,hi⟩:=hi
  have I:=h.pre U hg
  obtain ⟨r,g',k1,k2,k3,k4,k5,k6,k7,k8,k9,Y3,k11,k12,_⟩:=hr.ri hi (by omega) hw I.lr (by omega) (by omega) (by omega) I.ri I.st I.gd
  exact .inr ⟨r,g',rfl,rfl,k2,k7,⟨k8,k9,Y3,k11⟩,k12⟩
theorem C4 {a b u v:List cg}(h:a++b=u++v)(hs:szB a≤szB u): ∃w,u=a++w∧b=w++v:=by
 rcases List.append_eq_append_iff.1 h with ⟨w,I,J⟩ | ⟨w,I,J⟩
 ·exact ⟨w,I,J⟩
 ·cases w with
  | nil=>rw [bT] at I; subst I; exact ⟨[],by rw [bT],by rw [J]; rfl⟩
  | cons x w =>
   have:=AG (t:=u) (r:=x) (t':=w)
   rw [←I] at this
   omega
structure Sj (ba aD:Nat)(data:List Nat)(rs r1:List cg)(F:Nat)(g:Int→Option Nat): Prop where
 low:∀n rec,g n=some rec→ba+szB r1≤rec
 pt:(aD=0∧data=[]∧r1=[])∨∃A1 rc B,rs=(r1++A1)++rc::B∧aD=ba+szB (r1++A1)∧aD≠0∧rc.kd=8∧8≤rc.data.length∧data=rc.data.drop 8∧max ba (leN (rc.data.take 8))=ba+szB r1∧szB (r1++A1)+rc.len≤F
section
variable {ba aD F:Nat} {data:List Nat} {rs r1:List cg} {g:Int→Option Nat}
theorem Sj.at (h:Sj ba aD data rs r1 F g){u v:List cg}(hu:rs=u++v)(hF:F≤szB u): ∃r2,BF ba aD u data r1 r2:=by
 rcases h.pt with ⟨k1,k2,I⟩ | ⟨J,rc,B,k1,k2,I,U,k5,k6,k7,k8⟩
 ·exact ⟨u,by rw [I]; rfl,.inl ⟨k1,k2,I⟩⟩
 ·obtain ⟨w,hw,_⟩:=C4 (a:=(r1++J)++[rc]) (b:=B) (u:=u) (v:=v) (by rw [←hu,k1]; simp) (by rw [v_]; simp only [szB]; omega)
  exact ⟨J++rc::w,by rw [hw]; simp,.inr ⟨r1++J,rc,w,by rw [hw]; simp,k2,I,U,k5,k6,k7⟩⟩
theorem BF.more {u v r2:List cg}(h:BF ba aD u data r1 r2): BF ba aD (u++v) data r1 (r2++v):=by
 obtain ⟨I,J⟩:=h
 refine ⟨by rw [I,bP],?_⟩
 rcases J with k | ⟨A,rc,B,k1,k2⟩
 ·exact .inl k
 ·exact .inr ⟨A,rc,B++v,by rw [k1]; simp,k2⟩
end
structure Ib (ba:Nat)(B0:Int→List Nat)(u v r1 r2:List cg)(δ:Dk): Prop where
 split:u=r1++r2
 rs:∀r∈u++v,r.Ok
 log:∃j,δ.log++δ.tail=logB ba (u++v)++j∧ru j
 cert:szB u≤δ.aR
 len:δ.aR≤δ.log.length
 gd:Ia (u++v) B0
 mJ:∀n w t t',Fi δ n→v=t++t'→¬rY (r2++t) n→xx δ n w→jP (eU (u++t) B0 n) w∧dI w=0
 eH:∀w,δ.eH=some w→rY r2 w.1
theorem RS.cr {N ba aD:Nat}{mk data:List Nat}{rs r1:List cg}{B0:Int→List Nat}{g:Int→Option Nat}{ε:aM}(h:RS N ba aD mk rs B0 g ε)(hc:Sj ba aD data rs r1 ε.2.1.forced g)(mQ:ε.2.2.Ok):
  ∃u v r2,rs=u++v∧ε.2.1.forced=szB u∧BF ba aD u data r1 r2∧Ib ba B0 u v r1 r2 ε.2.2:=by
 have U:=uD.1 h.ri
 obtain ⟨u,v,hu,hf⟩:=U.forced
 obtain ⟨r2,J⟩:=hc.at hu (by rw [hf]; exact aL _)
 refine ⟨u,v,r2,hu,hf,J,J.1,by rw [←hu]; exact h.lr.rs,⟨[],by rw [h.lr.tail,h.lr.log,hu],.inl (by decide)⟩,by rw [←hf]; exact U.cert,mQ.aR,by rw [←hu]; exact h.gd,fun n w t t' h0 ht hw tV => ?_,fun w hq=>by rw [h.lr.eH] at hq; cases hq⟩
 refine ⟨U.mJ n w (u++t) t' h0 (by rw [hu,ht,bP]) (by rw [hf]; exact rZ) (fun rec I => ?_) tV,U.ck n w h0.1 tV⟩
 refine Db fun bX => ?_
 obtain ⟨a,r,b,k1,k2,k3⟩:=U.aQ n rec I
 have wU:=hc.low n rec I
 have fc:szB a<szB (u++t):=by omega
 obtain ⟨w1,e1,e2⟩:=C4 (a:=a) (b:=r::b) (u:=u++t) (v:=t') (by rw [←k1,hu,ht,bP]) (z_ fc)
 cases w1 with
 | nil=>rw [bT] at e1; rw [e1] at fc; omega
 | cons y w1 =>
  injection e2 with e2 e3
  subst e2
  obtain ⟨w2,e4,e5⟩:=C4 (a:=r1) (b:=r2++t) (u:=a) (v:=r::w1) (by rw [←e1,J.1,bP]) (by omega)
  exact hw ⟨r,by rw [e5]; simp,k3⟩
def vh (P:List (Option (List Nat)))(n:Int): List Nat:=match P[n.toNat]? with
 | some (some b)=>b
 | _=>List.replicate 512 0
theorem Ic {P:List (Option (List Nat))}{k:Nat}{b:List Nat}{n:Int}(U:0≤n): vh (P.set k (some b)) n=vh P n∨(((k:Nat):Int)=n∧vh (P.set k (some b)) n=b):=by
 unfold vh
 rw [sO]
 by_cases I:k=n.toNat
 ·rw [aj I]
  by_cases J:k<P.length
  ·rw [aj J]; exact .inr ⟨by omega,rfl⟩
  ·rw [af J,←I,oS (by omega)]; exact .inl rfl
 ·rw [af I]; exact .inl rfl
theorem QZ {c:List Nat}{n:Int}(I:0≤n): ∀ {W:List Wr} {i:Nat} {P:List (Option (List Nat))},vh (layW c i W P) n=vh P n∨∃wr∈W,((wr.1:Nat):Int)=n∧vh (layW c i W P) n=wr.2:=by
 intro W
 induction W with
 | nil=>intro i P; exact .inl rfl
 | cons w W J =>
  intro i P
  rw [layW]
  rcases J (i:=i+1) (P:=if c.getD i 0%2=0 then P.set w.1 (some w.2) else P) with h | ⟨wr,U,h2,h3⟩
  ·rw [h]
   split
   ·rcases Ic (P:=P) (k:=w.1) (b:=w.2) I with q | ⟨q1,q2⟩
    ·exact .inl q
    ·exact .inr ⟨w,bp,q1,q2⟩
   ·exact .inl rfl
  ·exact .inr ⟨wr,bl _ U,h2,h3⟩
theorem OP {c:List Nat}{n:Int}{k:Nat}(I:0≤n){P:List (Option (List Nat))}{o:Option Wr}: vh (tornP c k P o) n=vh P n∨∃w,o=some w∧((w.1:Nat):Int)=n:=by
 cases o with
 | none=>exact .inl rfl
 | some w =>
  rw [tornP]
  rcases Ic (P:=P) (k:=w.1) (b:=cZ (cZ (List.replicate 512 0) 0 ((P.getD w.1 none).getD [])) 0 (w.2.take (c.getD k 0/2%5*128))) I with q | ⟨J,_⟩
  ·exact .inl q
  ·exact .inr ⟨w,rfl,J⟩
theorem OQ {j:List Nat}{k:Nat}(h:ru j): ru (j.take k):=by
 by_cases J:k<8
 ·left; rw [dJ]; omega
 ·rcases h with h | h
  ·left; rw [dJ]; omega
  ·by_cases I:(j.take k).length<8
   ·exact .inl I
   ·right
    rw [sW,o8 (by omega),dJ]
    omega
theorem Q0 {rs:List cg}{n K:Nat}{j:List Nat}(I:∀r∈rs,r.Ok)(U:ru j): ∃dg fL J,rs=dg++fL∧(logB n rs++j).take K=logB n dg++J∧ru J:=by
 by_cases hK:K≤(logB n rs).length
 ·rw [oQ hK]
  exact TT rs n K I
 ·refine ⟨rs,[],j.take (K-(logB n rs).length),by rw [bT],?_,OQ U⟩
  rw [sS,fI (by omega)]
theorem L8 {a b t:List Nat}{c K:Nat}(h:c≤a.length): a.take c++(a.drop c++t).take K=(a++t).take (c+K):=by
 rw [sS,sS,List.take_add,nF,bP]
 congr 3; omega
section
variable {ba:Nat} {B0:Int→List Nat} {u v r1 r2:List cg} {δ:Dk}
theorem Ib.XF (h:Ib ba B0 u v r1 r2 δ)(c:List Nat): ∃t t',v=t++t'∧Ib ba B0 (u++t) [] r1 (r2++t) (fA δ c):=by
 obtain ⟨j,hl,hj⟩:=h.log
 have y7:(fA δ c).log=(δ.log++δ.tail).take (δ.aR+kI δ c):=L8 (b:=[]) h.len
 have Y6:(logB ba u).length=szB u:=ie
 have hcu:=h.cert
 obtain ⟨t,t',j',e1,e2,e3⟩:=Q0 (rs:=v) (n:=ba+szB u) (K:=δ.aR+kI δ c-szB u) (j:=j) (fun r I=>h.rs r (List.mem_append.2 (.inr I))) hj
 have J:(fA δ c).log=logB ba (u++t)++j':=by
  rw [y7,hl,xw,bP,sS,fI (by omega),Y6,e2,xw,bP]
 refine ⟨t,t',e1,by rw [h.split,bP],fun r I => ?_,⟨j',by rw [bT]; show (fA δ c).log++[]=_; rw [bT,J],e3⟩,?_,aL _,?_,fun n w a b h0 U hw tV => ?_,fun w hq=>(by cases hq)⟩
 ·rw [bT] at I
  refine h.rs r ?_
  rw [e1]
  rcases List.mem_append.1 I with I | I
  ·exact List.mem_append.2 (.inl I)
  ·exact List.mem_append.2 (.inr (List.mem_append.2 (.inl I)))
 ·show szB (u++t)≤(fA δ c).log.length
  rw [J,bC,ie]; omega
 ·refine ⟨h.gd.Wq,fun r I => ?_,fun a b n U me=>h.gd.gd a (b++t') n ?_ me⟩
  ·rw [bT] at I
   refine h.gd.lt r ?_
   rw [e1,←bP]
   exact List.mem_append.2 (.inl I)
  ·rw [bT] at U
   rw [e1,←bP,U,bP]
 ·have hlen:(fA δ c).aq.length=δ.aq.length:=by
   show (tornP c _ _ δ.eH).length=_
   cases δ.eH with
   | none=>exact tD
   | some w=>rw [tornP,dn,tD]
  have uR:Fi δ n:=⟨h0.1,by rw [←hlen]; exact h0.2⟩
  have h0:=h0.1
  obtain ⟨rfl,rfl⟩:=List.append_eq_nil_iff.1 U.symm
  rw [bT] at hw ⊢
  have Bb:w=vh (tornP c δ.waiting.length (layW c 0 δ.waiting δ.aq) δ.eH) n:=by
   rcases tV with tV | ⟨wr,uc,_⟩
   ·exact tV
   ·cases uc
  have C3:xx δ n w:=by
   rcases OP (c:=c) (k:=δ.waiting.length) h0 (P:=layW c 0 δ.waiting δ.aq) (o:=δ.eH) with q | ⟨wt,q1,q2⟩
   ·rw [q] at Bb
    rcases QZ (c:=c) h0 (W:=δ.waiting) (i:=0) (P:=δ.aq) with q | ⟨wr,k1,k2,k3⟩
    ·exact .inl (Bb.trans q)
    ·exact .inr ⟨wr,k1,k2,Bb.trans k3⟩
   ·exfalso
    obtain ⟨r,I,hc⟩:=h.eH wt q1
    rw [q2] at hc
    exact hw ⟨r,List.mem_append.2 (.inl I),hc⟩
  exact h.mJ n w t t' uR e1 hw C3
end
structure jE (ba:Nat)(B0:Int→List Nat)(u r1 r2:List cg)(N:Nat)(δ:Dk): Prop where
 cr:Ib ba B0 u [] r1 r2 δ
 tail:δ.tail=[]
 aq:δ.aq.length=N
 keys:∀k:Int,k∈δ.now.map (·.1)→0≤k∧k<N
 nodup:(δ.now.map (·.1)).Nodup
 nw:∀n b,lookL n δ.now=some b→rY r2 n
section
variable {ba N:Nat} {B0:Int→List Nat} {u r1 r2:List cg} {δ:Dk}
theorem jE.die (h:jE ba B0 u r1 r2 N δ): jE ba B0 u r1 r2 N δ.die :=
 ⟨⟨h.cr.split,h.cr.rs,h.cr.log,h.cr.cert,h.cr.len,h.cr.gd,h.cr.mJ,h.cr.eH⟩,h.tail,h.aq,h.keys,h.nodup,h.nw⟩
theorem jE.c_ (h:jE ba B0 u r1 r2 N δ): jE ba B0 u r1 r2 N δ.c_ :=
 ⟨⟨h.cr.split,h.cr.rs,h.cr.log,h.cr.cert,h.cr.len,h.cr.gd,h.cr.mJ,h.cr.eH⟩,h.tail,h.aq,h.keys,h.nodup,h.nw⟩
theorem jE.Wt (h:jE ba B0 u r1 r2 N δ): ∃j,δ.log=logB ba u++j∧ru j:=by
 obtain ⟨j,I,J⟩:=h.cr.log
 rw [h.tail,bT,bT] at I
 exact ⟨j,I,J⟩
theorem jE.dz (h:jE ba B0 u r1 r2 N δ): jE ba B0 u r1 r2 N (δ.dz (szB u)).2∧((δ.dz (szB u)).1=0→(δ.dz (szB u)).2.log=logB ba u):=by
 obtain ⟨j,I,U⟩:=h.Wt
 have J:(logB ba u).length=szB u:=ie
 have hlen:δ.log.length=szB u+j.length:=by rw [I,bC,J]
 unfold Dk.dz
 split
 ·unfold Dk.qu
  split
  ·exact ⟨h,fun q=>(by cases q)⟩
  ·rw [af (by omega)]
   split
   ·exact ⟨h.die,fun q=>(by cases q)⟩
   ·have e:δ.log.take (szB u)=logB ba u:=by rw [I,←J,kN rfl]
    refine ⟨⟨⟨h.cr.split,h.cr.rs,⟨[],?_,.inl (by decide)⟩,aL _,?_,h.cr.gd,h.cr.mJ,h.cr.eH⟩,h.tail,h.aq,h.keys,h.nodup,h.nw⟩,fun _=>e⟩
    ·show δ.log.take (szB u)++δ.tail=_
     rw [e,h.tail,bT,bT,bT]
    ·show szB u≤(δ.log.take (szB u)).length
     rw [e,J]; exact aL _
 ·refine ⟨h,fun _ => ?_⟩
  have:j=[]:=List.length_eq_zero_iff.1 (by omega)
  rw [I,this,bT]
theorem jE.cG (h:jE ba B0 u r1 r2 N δ): jE ba B0 u r1 r2 N δ.cG.2:=by
 unfold Dk.cG
 split
 ·exact h
 ·split
  ·exact h.die
  ·have:=h.cr.len
   have:=h.cr.cert
   exact ⟨⟨h.cr.split,h.cr.rs,h.cr.log,by show szB u≤δ.log.length; omega,aL _,h.cr.gd,h.cr.mJ,h.cr.eH⟩,h.tail,h.aq,h.keys,h.nodup,h.nw⟩
theorem jE.cA (h:jE ba B0 u r1 r2 N δ): jE ba B0 u r1 r2 N (δ.cA (szB u)).2∧((δ.cA (szB u)).1=0→(δ.cA (szB u)).2.log=logB ba u):=by
 obtain ⟨t1,t2⟩:=h.dz
 unfold Dk.cA
 split
 ·exact ⟨t1,fun q=>absurd q (by assumption)⟩
 ·rename_i I
  have t2:=t2 (Classical.not_not.1 I)
  split
  ·refine ⟨t1.cG,fun _ => ?_⟩
   have:(δ.dz (szB u)).2.cG.2.log=(δ.dz (szB u)).2.log:=by
    unfold Dk.cG
    split
    ·rfl
    ·split <;> rfl
   rw [this,t2]
  ·exact ⟨t1,fun _=>t2⟩
theorem jE.bJ (h:jE ba B0 u r1 r2 N δ){k:Int}{b:List Nat}(hk:rY r2 k): jE ba B0 u r1 r2 N (δ.bJ k b).2∧((δ.bJ k b).1=0→0≤k∧k<N∧∀n,lookL n (δ.bJ k b).2.now=if k=n then some b else lookL n δ.now):=by
 unfold Dk.bJ
 split
 ·exact ⟨h,fun q=>(by cases q)⟩
 ·split
  ·exact ⟨h,fun q=>(by cases q)⟩
  ·rename_i U
   have U:=Classical.not_not.1 U
   have hN:=h.aq
   split
   ·refine ⟨⟨⟨h.cr.split,h.cr.rs,h.cr.log,h.cr.cert,h.cr.len,h.cr.gd,h.cr.mJ,fun w hw => ?_⟩,h.tail,h.aq,h.keys,h.nodup,h.nw⟩,fun q=>(by cases q)⟩
    have:w=(k.toNat,b):=(bt hw).symm
    subst this
    rw [show ((k.toNat:Nat):Int)=k by omega]; exact hk
   ·refine ⟨⟨⟨h.cr.split,h.cr.rs,h.cr.log,h.cr.cert,h.cr.len,h.cr.gd,fun n w t t' h0 ht hw tV => ?_,h.cr.eH⟩,h.tail,h.aq,fun x hx => ?_,iI h.nodup,fun n c J => ?_⟩,fun _=>⟨U.1,by omega,fun n=>gM _⟩⟩
    ·refine h.cr.mJ n w t t' h0 ht hw ?_
     rcases tV with hq | ⟨wr,I,q1,q2⟩
     ·exact .inl hq
     ·rcases List.mem_append.1 I with I | I
      ·exact .inr ⟨wr,I,q1,q2⟩
      ·exfalso
       rw [List.mem_singleton.1 I] at q1
       obtain ⟨r,uA,AX⟩:=hk
       simp only at q1
       exact hw ⟨r,List.mem_append.2 (.inl uA),by rw [←q1,show ((k.toNat:Nat):Int)=k by omega]; exact AX⟩
    ·rcases oH.1 hx with rfl | hx
     ·exact ⟨U.1,by omega⟩
     ·exact h.keys x hx
    ·have J:lookL n (cK k b δ.now)=some c:=J
     rw [gM] at J
     by_cases hq:k=n
     ·rw [←hq]; exact hk
     ·rw [af hq] at J; exact h.nw n c J
theorem jE.OM (h:jE ba B0 u r1 r2 N δ){n:Int}(I:0≤n): imgOf δ.sync n=match lookL n δ.now with | some b=>b | none=>imgOf δ n:=by
 rw [imgOf,show δ.sync.aq=laidP δ.now δ.aq from rfl,laidP_get h.aq h.nodup h.keys I]
 cases J:lookL n δ.now with
 | some b=>rfl
 | none=>rfl
theorem jE.dQ (h:jE ba B0 u r1 r2 N δ): jE ba B0 u r1 r2 N δ.dQ.2:=by
 unfold Dk.dQ
 split
 ·exact h
 ·split
  ·exact h.die
  ·refine ⟨⟨h.cr.split,h.cr.rs,h.cr.log,h.cr.cert,h.cr.len,h.cr.gd,fun n w t t' I ht hw J => ?_,h.cr.eH⟩,h.tail,?_,fun k hk=>(by cases hk),ki,fun n b hb=>(by cases hb)⟩
   ·have U:Fi δ n:=⟨I.1,by have:=I.2; rw [show δ.c_.sync.aq=laidP δ.now δ.aq from rfl,nt] at this; exact this⟩
    have I:=I.1
    refine h.cr.mJ n w t t' U ht hw (.inl ?_)
    have hq:w=imgOf δ.c_.sync n:=by
     rcases J with hq | ⟨wr,uc,_⟩
     ·exact hq
     ·cases uc
    rw [hq,h.c_.OM I]
    cases hl:lookL n δ.c_.now with
    | none=>rfl
    | some b =>
     obtain ⟨r,uA,AX⟩:=h.nw n b hl
     exact absurd ⟨r,List.mem_append.2 (.inl uA),AX⟩ hw
   ·show (laidP δ.now δ.aq).length=N
    rw [nt]; exact h.aq
theorem jE.again {ρ:fW}: ∀ {l:List Int} {δ:Dk},l.Nodup→(∀k∈l,∀b,lookL k ρ.aq=some b→rY r2 k)→jE ba B0 u r1 r2 N δ→jE ba B0 u r1 r2 N (againW ρ l δ).2 ∧
  ((againW ρ l δ).1=0→(∀n,n∈l→∀b,lookL n ρ.aq=some b→bU b=true→n<N→lookL n (againW ρ l δ).2.now=some (cM b (nY ρ n)))∧(∀n,n∉l→lookL n (againW ρ l δ).2.now=lookL n δ.now)):=by
 intro l
 induction l with
 | nil=>intro δ _ _ h; exact ⟨h,fun _=>⟨fun n I=>(by cases I),fun _ _=>rfl⟩⟩
 | cons k l ih =>
  intro δ m5 hl h
  obtain ⟨d1,d2⟩:=List.nodup_cons.1 m5
  have xI:∀x∈l,∀b,lookL x ρ.aq=some b→rY r2 x:=fun x hx=>hl x (bl _ hx)
  rw [againW]
  cases hq:lookL k ρ.aq with
  | none =>
   obtain ⟨i1,i2⟩:=ih d2 xI h
   refine ⟨i1,fun h0 => ?_⟩
   obtain ⟨j1,j2⟩:=i2 h0
   refine ⟨fun n I b J hg U => ?_,fun n I=>j2 n (fun q=>I (bl _ q))⟩
   rcases List.mem_cons.1 I with rfl | I
   ·rw [hq] at J; cases J
   ·exact j1 n I b J hg U
  | some b =>
   simp only
   have hN:=h.aq
   split
   ·rename_i hg
    obtain ⟨w1,w2⟩:=h.bJ (k:=k) (b:=cM b (nY ρ k)) (hl k bp b hq)
    split
    ·exact ⟨w1,fun q=>absurd q (by assumption)⟩
    ·rename_i fY
     obtain ⟨x1,x2,x3⟩:=w2 (Classical.not_not.1 fY)
     obtain ⟨i1,i2⟩:=ih d2 xI w1
     refine ⟨i1,fun h0 => ?_⟩
     obtain ⟨j1,j2⟩:=i2 h0
     refine ⟨fun n I b' J OR U => ?_,fun n I => ?_⟩
     ·rcases List.mem_cons.1 I with rfl | I
      ·rw [hq] at J
       rw [j2 n d1,x3,aj rfl,bt J]
      ·exact j1 n I b' J OR U
     ·simp only [eX,pn] at I
      rw [j2 n I.2,x3,af (fun q=>I.1 q.symm)]
   ·rename_i hg
    obtain ⟨i1,i2⟩:=ih d2 xI h
    refine ⟨i1,fun h0 => ?_⟩
    obtain ⟨j1,j2⟩:=i2 h0
    refine ⟨fun n I b' J OR U => ?_,fun n I=>j2 n (fun q=>I (bl _ q))⟩
    rcases List.mem_cons.1 I with rfl | I
    ·rw [hq] at J
     rw [←bt J] at OR
     exact absurd ⟨OR,by omega⟩ hg
    ·exact j1 n I b' J OR U
theorem jE.eL (h:jE ba B0 u r1 r2 N δ)(hn:δ.now=[])(hw:δ.waiting=[]): jE ba B0 u r1 r2 N (eL δ ba u r1 r2).2∧((eL δ ba u r1 r2).1=0 →
  (eL δ ba u r1 r2).2.log=logB ba u∧(eL δ ba u r1 r2).2.now=[]∧(eL δ ba u r1 r2).2.waiting=[] ∧
  ∀n,0≤n→n<(N:Int)→jP (eU u B0 n) (imgOf (eL δ ba u r1 r2).2 n)∧dI (imgOf (eL δ ba u r1 r2).2 n)=0):=by
 have I:=TU r2 (ba+szB r1) (eU r1 B0)
 have hS:eU r2 (eU r1 B0)=eU u B0:=by rw [h.cr.split,tF]
 rw [hS] at I
 have Ie:∀r∈r2,r.Ok:=fun r hr=>h.cr.rs r (by rw [bT,h.cr.split]; exact List.mem_append.2 (.inr hr))
 have mQ:(redoL (ba+szB r1) r2 fW.none).Ok:=BD AF Ie
 obtain ⟨o1,o2⟩:=h.cA
 obtain ⟨f1,f2,f3⟩:=C0 (δ:=δ) (n:=szB u)
 unfold Am.eL
 split
 ·exact ⟨o1,fun q=>absurd q (by assumption)⟩
 ·rename_i h0
  have o2:=o2 (Classical.not_not.1 h0)
  generalize hρ:redoL (ba+szB r1) r2 fW.none=ρ at I mQ ⊢
  have m5:(aJ ρ.aq).Nodup:=(er _).nodup_iff.2 mQ.dup
  obtain ⟨a1,a2⟩:=o1.again (ρ:=ρ) m5 (fun k _ b hb=>(I.some k b hb).2)
  have J:∀ {l:List Int} {δ:Dk},(againW ρ l δ).2.log=δ.log:=by
   intro l
   induction l with
   | nil=>intro δ; rfl
   | cons k l ih =>
    intro δ
    have Nd:∀b,(δ.bJ k b).2.log=δ.log:=fun b=>by
     unfold Dk.bJ
     split
     ·rfl
     ·split
      ·rfl
      ·split <;> rfl
    rw [againW]
    cases lookL k ρ.aq with
    | none=>exact ih
    | some b =>
     simp only
     split
     ·split
      ·exact Nd _
      ·rw [ih,Nd]
     ·exact ih
  have fin:∀U,jE ba B0 u r1 r2 N U→(againW ρ (aJ ρ.aq) (δ.cA (szB u)).2).1=0→(∀n,0≤n→imgOf U n=match lookL n (againW ρ (aJ ρ.aq) (δ.cA (szB u)).2).2.now with | some b=>b | none=>imgOf (againW ρ (aJ ρ.aq) (δ.cA (szB u)).2).2 n) →
    ∀n,0≤n→n<(N:Int)→jP (eU u B0 n) (imgOf U n)∧dI (imgOf U n)=0:=fun U h1 hz hi n sj GV=>by
   obtain ⟨b1,b2⟩:=a2 hz
   rw [hi n sj]
   cases hl:lookL n ρ.aq with
   | some b =>
    obtain ⟨e1,e2⟩:=I.some n b hl
    obtain ⟨r,uA,c,xH,uH,_⟩:=e2
    have hg:bU b=true:=by
     rw [e1]
     exact h.cr.gd.gd u [] n (by simp) ⟨r,by rw [h.cr.split]; exact List.mem_append.2 (.inr uA),c,xH,uH⟩
    have hb:∀x∈b,x<256:=by
     rw [e1]
     exact Ws (fun r hr=>h.cr.gd.lt r (by rw [bT]; exact hr)) h.cr.gd.Wq n
    have wD:n∈aJ ρ.aq:=gN.2 ((fe hl) |> iX (f:=(·.1)))
    rw [b1 n wD b hl hg GV]
    simp only
    rw [←e1]
    exact ⟨(H6 (fq hg)).symm,(y_ hg hb).1⟩
   | none =>
    have Y7:=I.none n hl
    have nu:lookL n (againW ρ (aJ ρ.aq) (δ.cA (szB u)).2).2.now=none:=by
     cases hq:lookL n (againW ρ (aJ ρ.aq) (δ.cA (szB u)).2).2.now with
     | none=>rfl
     | some b=>exact absurd (a1.nw n b hq) Y7
    rw [nu]
    simp only
    have:=a1.cr.mJ n _ [] [] ⟨sj,by rw [a1.aq]; exact GV⟩ rfl (by rw [bT]; exact Y7) (.inl rfl)
    rw [bT] at this
    exact this
  unfold mj
  split
  ·exact ⟨a1,fun q=>absurd q (by assumption)⟩
  ·rename_i hz
   have hz:=Classical.not_not.1 hz
   split
   ·rename_i hp
    have ek:aJ ρ.aq=[]:=by rw [hp]; rfl
    have e:againW ρ (aJ ρ.aq) (δ.cA (szB u)).2=(0,(δ.cA (szB u)).2):=by rw [ek]; rfl
    refine ⟨a1,fun _=>⟨by rw [J,o2],by rw [e]; show (δ.cA (szB u)).2.now=[]; rw [f2,hn],by rw [e]; show (δ.cA (szB u)).2.waiting=[]; rw [f1,hw],fin _ a1 hz fun n sj => ?_⟩⟩
    rw [e]
    show _=match lookL n (δ.cA (szB u)).2.now with | some b=>b | none=>_
    rw [f2,hn]
    rfl
   ·refine ⟨a1.dQ,fun hs => ?_⟩
    have es:(againW ρ (aJ ρ.aq) (δ.cA (szB u)).2).2.dQ=(0,(againW ρ (aJ ρ.aq) (δ.cA (szB u)).2).2.c_.sync):=by
     unfold Dk.dQ at hs ⊢
     split
     ·rename_i hd; rw [aj hd] at hs; cases hs
     ·rename_i hd
      rw [af hd] at hs
      split
      ·rename_i hf; rw [aj hf] at hs; cases hs
      ·rfl
    have ON:=a1.dQ
    rw [es] at ON ⊢
    refine ⟨by show (againW ρ (aJ ρ.aq) (δ.cA (szB u)).2).2.log=_; rw [J,o2],rfl,rfl,fin _ ON hz fun n sj => ?_⟩
    rw [a1.c_.OM sj]
    rfl
end
end Go.Proofs.YtconhghphklfjaaGreat.Am
