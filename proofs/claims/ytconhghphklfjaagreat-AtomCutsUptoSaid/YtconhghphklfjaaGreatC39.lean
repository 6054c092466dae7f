/- AtomCuts: a part of its proof; conditions: its statement's. -/
import Derived.Test.YtconhghphklfjaaGreatC38
namespace Go.Proofs.YtconhghphklfjaaGreat.Am
open Go
theorem O5 {n:Int}: ∀ {l:List cj} {σ:Int→List Nat},(∀c∈l,c.aO≠n)→ir l σ n=σ n:=by
 intro l
 induction l with
 | nil=>intro σ _; rfl
 | cons c l J =>
  intro σ I
  show ir l (jq c σ) n=σ n
  rw [J fun c U=>I c (bl _ U),jq,af (fun q=>I c bn q.symm)]
theorem Iu {n:Int}: ∀ {l:List bW} {σ:Int→List Nat},(∀r∈l,¬sG r n)→d_ l σ n=σ n:=by
 intro l
 induction l with
 | nil=>intro σ _; rfl
 | cons r l J =>
  intro σ I
  show d_ l (ir r.aR σ) n=σ n
  rw [J fun r U=>I r (bl _ U),O5 fun c hc q=>I r bn ⟨c,hc,q⟩]
def syG (d:List (Int×(Nat×Bool)))(n:Int): Option Nat:=match lookL n d with
 | some (rec,true)=>some rec
 | _=>none
section
variable {N ba:Nat} {B0:Int→List Nat} {rs:List bW} {g:Int→Option Nat} {ε ε':aM}
theorem RI.O6 (h:vw (RI ba (fun _=>False) B0 rs g) ε)(he:EC N ε){n:Int}(J:0≤n): ((∃b,lookL n ε.2.2.now=some b∧imgOf ε.2.2.sync n=b)∨(lookL n ε.2.2.now=none∧imgOf ε.2.2.sync n=imgOf ε.2.2 n))∧imgOf ε.2.2.sync n=ε.2.2.at n:=by
 have e:imgOf ε.2.2.sync n=ε.2.2.at n:=by
  rw [imgOf,Dk.at,show ε.2.2.sync.aq=laidP ε.2.2.now ε.2.2.aq from rfl,laidP_get he.dk.aq he.dk.nodup he.dk.keys J]
  cases I:lookL n ε.2.2.now with
  | some b=>rfl
  | none=>rfl
 refine ⟨?_,e⟩
 cases I:lookL n ε.2.2.now with
 | some b=>exact .inl ⟨b,rfl,by rw [e,Dk.at,I]⟩
 | none=>exact .inr ⟨rfl,by rw [e,Dk.at,I]; rfl⟩
theorem RI.sync (h:vw (RI ba (fun _=>False) B0 rs g) ε)(he:EC N ε)(fW:∀n,0≤n→n<(N:Int)→js (d_ rs B0 n) (pgA ε n)):
  dP ε.1 ε.2.2=(0,{ ε.1 with aN:=ε.1.aN.filter fun e=>e.2.2 },ε.2.2.sync)∧vw (RI ba (fun _=>False) B0 rs (syG ε.1.aN)) ({ ε.1 with aN:=ε.1.aN.filter fun e=>e.2.2 },(ε.2.1,ε.2.2.sync)):=by
 have h:=uV.1 h
 have es:ε.2.2.dL=(0,ε.2.2.sync):=by rw [Dk.dL,af (by rw [he.dk.alive]; decide),af (by have:=he.dk.aF; omega),fU he.dk.aF]
 have hC:∀d,hO ⟨ε.1.ak,ε.1.aH,d,ε.1.hand⟩=hO ε.1:=fun d=>rfl
 have hd:∀n,lookL n (ε.1.aN.filter fun e=>e.2.2)=match lookL n ε.1.aN with | some (rec,true)=>some (rec,true) | _=>none:=fun n=>lookL_filter he.zR
 have iY:∀ {n rec fl},lookL n (ε.1.aN.filter fun e=>e.2.2)=some (rec,fl)→fl=true∧lookL n ε.1.aN=some (rec,true):=fun {n rec fl} J=>by
  rw [hd] at J
  split at J
  ·rename_i iB
   injection J with J
   injection J with h1 h2
   rw [iB,h1]
   exact ⟨h2.symm,rfl⟩
  ·cases J
 have O7:∀ {n rec},syG ε.1.aN n=some rec→lookL n ε.1.aN=some (rec,true):=fun {n rec} J=>by
  unfold syG at J
  split at J
  ·rename_i iB
   rw [iB,bw J]
  ·cases J
 refine ⟨by rw [dP,es,af (by simp)],?_⟩
 refine ⟨h.base,h.b,h.log,h.alive,h.aF,h.forced,h.cert,fun n w t t' U ht qK hr hc => ?_,fun n rec hn=>h.aN n rec (h.Bx n rec _ (O7 hn)),fun n _ wr uC=>(by cases uC),fun n b hb => ?_,fun n rec hn => ?_,fun n rec hn => ?_,fun n b hb=>(by cases hb),fun n rec fl hn => ?_,fun n rec hn=>.inr ⟨true,?_⟩,fun n w U hc => ?_,fun n q=>q.elim⟩
 ·have vh:Bw ε.2.2 n:=⟨U.1,by have:=U.2; rw [show ε.2.2.sync.aq=laidP ε.2.2.now ε.2.2.aq from rfl,nC] at this; exact this⟩
  have U:=U.1
  obtain ⟨k1,k2⟩:=RI.O6 h he U
  have hw:w=imgOf ε.2.2.sync n:=by
   rcases hc with hc | ⟨wr,uC,_⟩
   ·exact hc
   ·cases uC
  have hold:(∀rec,g n=some rec→ba+szB t≤rec)→js (d_ t B0 n) w:=fun I=>by
   refine h.mo n w t t' vh ht qK I ?_
   rcases k1 with ⟨b,q1,q2⟩ | ⟨q1,q2⟩
   ·obtain ⟨wr,m1,m2,m3⟩:=h.now n b q1
    exact .inr ⟨wr,m1,m2,by rw [hw,q2,m3]⟩
   ·exact .inl (by rw [hw,q2])
  cases J:lookL n ε.1.aN with
  | none =>
   refine hold fun rec I => ?_
   rcases h.KO n rec I with q | ⟨fl,q⟩
   ·exact q.elim
   ·rw [J] at q; cases q
  | some x =>
   obtain ⟨rec,fl⟩:=x
   cases fl with
   | true =>
    refine hold fun Mm I => ?_
    have:g n=some rec:=h.Bx n rec _ J
    rw [this] at I
    refine hr Mm ?_
    rw [←bw I]
    simp only [syG,J]
   | false =>
    have hN:=he.oR n (fh J |> jd (f:=(·.1)))
    have mC:pgA ε n=ε.2.2.at n:=by
     rcases he.cases n with ⟨j,f,q1,q2,q3,q4,q5,q6⟩ | ⟨q1,q2⟩
     ·rw [q6]
      cases ZG:f.changed with
      | false=>rw [q5.same ZG,q3]
      | true =>
       obtain ⟨Mm,_,_,_,m,_⟩:=h.FE n f.b ⟨j,f,q2,q3,U,ZG,rfl⟩
       rw [J] at m
       injection m with m
       injection m with _ m
       cases m
     ·exact q2
    have hS:d_ rs B0 n=d_ t B0 n:=by
     rw [ht,pY]
     refine Iu fun r hr jZ => ?_
     obtain ⟨a,b,rfl⟩:=List.append_of_mem hr
     have:=(h.flag n rec J).2 (fun q=>q) (t++a) r b (by rw [ht]; simp) jZ
     have:=sA (u:=t) (v:=a)
     have qK:ε.2.1.forced≤szB t:=qK
     omega
    rw [←hS,hw,k2,←mC]
    exact fW n U hN.2
 ·obtain ⟨rec,t,r,t',m1,m2⟩:=h.FE n b hb
  exact ⟨rec,t,r,t',by show lookL n (ε.1.aN.filter _)=_; rw [hd,m1],m2⟩
 ·exact absurd (iY hn).1 (by decide)
 ·exact h.ft n rec (iY hn).2
 ·obtain ⟨rfl,q⟩:=iY hn
  simp only [syG,q]
 ·show lookL n (ε.1.aN.filter _)=_
  rw [hd,O7 hn]
 ·rcases hc with hc | ⟨wr,uC,_⟩
  ·rcases (RI.O6 h he U).1 with ⟨b,q1,q2⟩ | ⟨q1,q2⟩
   ·obtain ⟨wr,m1,m2,m3⟩:=h.now n b q1
    exact h.ck n w U (.inr ⟨wr,m1,m2,by rw [hc,m3]; exact q2⟩)
   ·exact h.ck n w U (.inl (hc.trans q2))
  ·cases uC
theorem Ur {i:Nat}{f:Fm}(h:EC N ε)(hf:ε.1.ak[i]?=some f)(h0:0≤f.aO){n:Int}{b:List Nat}(hc:hO (outF ε i).2.1 n b): hO ε.1 n b∧n≠f.aO:=by
 obtain ⟨o1,o2,o3,o4,gg,o5,o6,o7⟩:=h.out hf
 have Bg:=(h.back i f hf).resolve_left (by omega)
 obtain ⟨j,y,I,k1,k0,k2,k3⟩:=hc
 have U:n≠f.aO:=by
  intro q
  have hyo:=(o2.back j y I).resolve_left (by omega)
  have h1:=hyo.here
  rw [k1,q,o4,Bg.here] at h1
  have:i=j:=by have:=bw h1; omega
  subst this
  rw [o5] at I
  have:=bw I
  subst this
  rw [o7 (by omega)] at k2
  cases k2
 refine ⟨?_,U⟩
 unfold outF at I
 rw [hf] at I
 simp only at I
 have fin:∀ {m:List Fm} {x:Fm},m=ε.1.ak∨m=ε.1.ak.set i x→x.aO=f.aO→m[j]?=some y→hO ε.1 n b:=fun hm hx J=>by
  rcases hm with rfl | rfl
  ·exact ⟨j,y,J,k1,k0,k2,k3⟩
  ·rcases nE hf J with ⟨rfl,rfl⟩ | ⟨_,J⟩
   ·exact absurd (k1.symm.trans hx) U
   ·exact ⟨j,y,J,k1,k0,k2,k3⟩
 split at I
 ·exact fin (x:=f) (.inl rfl) rfl I
 ·split at I
  ·exact fin (x:=f) (.inl rfl) rfl I
  ·split at I
   ·exact fin (x:=f) (.inl rfl) rfl I
   ·split at I
    ·exact fin (x:=f) (.inl rfl) rfl I
    ·exact fin (x:={ f with changed:=false }) (.inr rfl) rfl I
theorem JH {P:VP}(hP:jS N P): ∀ {l:List Int} {ε:aM},EC N ε→(∀n∈l,(lookL n ε.1.aH).isSome=true)→vw P ε→vw P (writeAllF l ε).2∧∀n b,hO (writeAllF l ε).2.1 n b→hO ε.1 n b∧n∉l:=by
 intro l
 induction l with
 | nil=>intro ε h _ I; exact ⟨I,fun n b q=>⟨q,by simp⟩⟩
 | cons n l ih =>
  intro ε h hl I
  have h1:=hl n bn
  cases J:lookL n ε.1.aH with
  | none=>rw [J] at h1; cases h1
  | some i =>
   obtain ⟨sL,j,f,rfl,U,hp⟩:=h.j9 n i J
   obtain ⟨k1,k2,k3,k4,_⟩:=h.out U
   have e:eo ε n=outF ε j:=by rw [eo,J]; simp only [cP]
   rw [writeAllF,e,af (by rw [k1]; decide)]
   obtain ⟨i1,i2⟩:=ih k2 (fun m hm=>by rw [k4]; exact hl m (bl _ hm)) (hP.out h U I)
   refine ⟨i1,fun m b hm => ?_⟩
   obtain ⟨q1,q2⟩:=i2 m b hm
   obtain ⟨q3,q4⟩:=Ur h U (by omega) q1
   exact ⟨q3,by simp only [fb,pG]; exact ⟨by rw [←hp]; exact q4,q2⟩⟩
theorem FF (ε:aM): ∀n∈aJ ε.1.aH,(lookL n ε.1.aH).isSome=true:=fun n I=>by
 cases J:lookL n ε.1.aH with
 | some _=>rfl
 | none=>exact absurd (gx.1 I) (f_.1 J)
theorem RI.Us (h:vw (RI ba (fun _=>False) B0 rs g) ε)(he:EC N ε)(I:∀n,0≤n→n<(N:Int)→js (d_ rs B0 n) (pgA ε n)): vw (RI ba (fun _=>False) B0 rs (fun _=>none)) (fD ε).2:=by
 have hk:=FF ε
 obtain ⟨w1,w2,w3⟩:=qA he hk
 obtain ⟨a1,a2⟩:=JH (RI.od N) he hk h
 obtain ⟨s1,s2⟩:=RI.sync a1 w2 (fun n h0 h1=>by rw [w3]; exact I n h0 h1)
 have e:(fD ε).2=({ (writeAllF (aJ ε.1.aH) ε).2.1 with aN:=(writeAllF (aJ ε.1.aH) ε).2.1.aN.filter fun e=>e.2.2 },((writeAllF (aJ ε.1.aH) ε).2.2.1,(writeAllF (aJ ε.1.aH) ε).2.2.2.sync)):=by
  rw [fD,af (by rw [he.dk.alive]; decide),af (by rw [w1]; decide),s1]
 have J:∀n b,¬hO (writeAllF (aJ ε.1.aH) ε).2.1 n b:=fun n b hc=>by
  obtain ⟨q1,q2⟩:=a2 n b hc
  obtain ⟨j,f,hf,k1,k0,k2,k3⟩:=q1
  have U:=(he.back j f hf).resolve_left (by omega)
  rw [←k1] at q2
  refine q2 (gx.2 ?_)
  have:=U.here
  exact fh this |> jd (f:=(·.1))
 have hg:syG (writeAllF (aJ ε.1.aH) ε).2.1.aN=fun _=>none:=by
  funext n
  unfold syG
  split
  ·rename_i rec hq
   obtain ⟨b,hb⟩:=(uV.1 a1).ft n rec hq
   exact absurd hb (J n b)
  ·rfl
 rw [hg] at s2
 rw [e]; exact s2
end
theorem Rp {pg:Int}{cR now:List Nat}{i:Nat}{l:List cj}(J:uP pg cR now i l): ∀c∈l,c.aO=pg:=by
 induction J with
 | done i h=>intro c I; cases I
 | skip i l h he J U=>exact U
 | take i e l h1 h2 _ _ J U =>
  intro c I
  rcases List.mem_cons.1 I with rfl | I
  ·rfl
  ·exact U c I
theorem Rq {pg:Int}{cR now:List Nat}{c:List cj}(J:Fs pg cR now c): (∀x∈c,x.aO=pg)∧c≠[]:=by
 obtain ⟨l,U,rfl⟩:=J
 by_cases I:l=[]
 ·rw [aj I]
  exact ⟨fun x hx=>by rw [List.mem_singleton.1 hx],by simp⟩
 ·rw [af I]
  exact ⟨Rp U,I⟩
theorem WY {pg:Int}{cR now:List Nat}{i:Nat}{l:List cj}(J:uP pg cR now i l)(hn:∀x∈now,x<256): ∀c∈l,∀x∈c.b,x<256:=by
 induction J with
 | done i h=>intro c I; cases I
 | skip i l h he J U=>exact U
 | take i e l h1 h2 _ _ J U =>
  intro c I
  rcases List.mem_cons.1 I with rfl | I
  ·exact fun x hx=>hn x (gz (iw hx))
  ·exact U c I
theorem WZ {pg:Int}{cR now:List Nat}{c:List cj}(U:Fs pg cR now c)(hn:∀x∈now,x<256): ∀x∈c,∀y∈x.b,y<256:=by
 obtain ⟨l,hl,rfl⟩:=U
 by_cases I:l=[]
 ·rw [aj I]
  intro x hx y J
  rw [List.mem_singleton.1 hx] at J
  cases J
 ·rw [af I]
  exact WY hl hn
theorem jr.lt {N:Nat}{now:List (Int×List Nat)}{l:List Int}{ε ε':aM}{e:Int}{cs:List cj}(hr:jr now l ε e cs ε')(hn:NW N now): ∀c∈cs,∀x∈c.b,x<256:=by
 induction hr with
 | nil ε=>intro c J; cases J
 | err n l ε e b ε' hr he=>intro c J; cases J
 | part n l ε cR b ε' c e cs U hr hb iY J jY ht ih =>
  intro x I
  rcases List.mem_append.1 I with I | I
  ·exact WZ J (hn.look hb).2 x I
  ·exact ih x I
 | whole n l ε cR b ε' e cs U hr hb iY ht ih =>
  intro x I
  rcases List.mem_cons.1 I with rfl | I
  ·exact (hn.look hb).2
  ·exact ih x I
structure Iv (rs:List bW)(B0:Int→List Nat): Prop where
 O8:∀n,∀x∈B0 n,x<256
 lt:∀r∈rs,∀c∈r.aR,∀x∈c.b,x<256
 gd:∀t t' n,rs=t++t'→(∃r∈t,sG r n)→bU (d_ t B0 n)=true
theorem Ut : ∀ {cs:List cj} {σ:Int→List Nat},(∀c∈cs,∀x∈c.b,x<256)→(∀n,∀x∈σ n,x<256)→∀n,∀x∈ir cs σ n,x<256:=by
 intro cs
 induction cs with
 | nil=>intro σ _ h; exact h
 | cons c cs J =>
  intro σ I h
  refine J (σ:=jq c σ) (fun x U=>I x (bl _ U)) fun n => ?_
  rw [jq]
  split
  ·split
   ·exact I c bn
   ·exact yP (h n) (I c bn)
  ·exact h n
theorem O9 : ∀ {rs:List bW} {σ:Int→List Nat},(∀r∈rs,∀c∈r.aR,∀x∈c.b,x<256)→(∀n,∀x∈σ n,x<256)→∀n,∀x∈d_ rs σ n,x<256:=by
 intro rs
 induction rs with
 | nil=>intro σ _ h; exact h
 | cons r rs J=>intro σ I h; exact J (σ:=ir r.aR σ) (fun x U=>I x (bl _ U)) (Ut (I r bn) h)
theorem Iv.app {rs:List bW}{B0:Int→List Nat}{r:bW}(h:Iv rs B0)(h1:∀c∈r.aR,∀x∈c.b,x<256)(h2:∀n,sG r n→bU (d_ (rs++[r]) B0 n)=true): Iv (rs++[r]) B0:=by
 refine ⟨h.O8,fun x I => ?_,fun t t' n ht hc => ?_⟩
 ·rcases List.mem_append.1 I with I | I
  ·exact h.lt x I
  ·rw [List.mem_singleton.1 I]; exact h1
 ·rcases tv t' with rfl | ⟨U,z,rfl⟩
  ·rw [bR] at ht
   subst ht
   by_cases hq:sG r n
   ·exact h2 n hq
   ·obtain ⟨x,I,J⟩:=hc
    rcases List.mem_append.1 I with I | I
    ·rw [pY]
     have:d_ [r] (d_ rs B0) n=d_ rs B0 n:=Iu fun y hy=>by rw [List.mem_singleton.1 hy]; exact hq
     rw [this]
     exact h.gd rs [] n (by rw [bR]) ⟨x,I,J⟩
    ·rw [List.mem_singleton.1 I] at J; exact absurd J hq
  ·have Dq:rs++[r]=(t++U)++[z]:=by rw [ht]; simp
   exact h.gd t U n (mW Dq rfl).1 hc
def Iw (N:Nat)(rs:List bW)(B0:Int→List Nat)(ε:aM): Prop:=∀n,0≤n→n<(N:Int)→js (d_ rs B0 n) (pgA ε n)
abbrev yf : Int→Prop:=fun _=>False
section
variable {N ba:Nat} {B0:Int→List Nat} {rs:List bW} {g:Int→Option Nat} {ε ε':aM} {now:List (Int×List Nat)}
theorem jr.st {l:List Int}{e:Int}{cs:List cj}(hr:jr now l ε e cs ε'): ∀ {σ:Int→List Nat},EC N ε→hG ε→NW N now→l.Nodup→(∀n∈l,0≤n∧n<N)→vw (RI ba yf B0 rs g) ε→(∀n∈l,js (σ n) (pgA ε n)) →
  (∀n∈l,∀b,lookL n now=some b→js (ir cs σ n) b)∧(∀n,n∉l→ir cs σ n=σ n)∧(∀n,(∃c∈cs,c.aO=n)↔n∈l)∧∀n∈l,g n=none→zX cs n:=by
 induction hr with
 | nil ε=>intro σ _ _ _ _ _ _ _; exact ⟨fun n U=>(by cases U),fun _ _=>rfl,fun n=>⟨fun ⟨c,hc,_⟩=>(by cases hc),fun U=>(by cases U)⟩,fun n U=>(by cases U)⟩
 | err n l ε e b ε' hr he =>
  intro σ h h3 U hd hl
  have:=hl n bn
  exact absurd ((hr.ec h h3.pins).2.2.1 this.1 this.2).1 he
 | part n l ε cR b ε' c e cs pV hr hb iY hc jY ht ih =>
  intro σ h h3 U hd hl hv IY
  obtain ⟨d1,d2⟩:=List.nodup_cons.1 hd
  have uS:=hl n bn
  obtain ⟨k1,k2,k3,_⟩:=hr.ec h h3.pins
  have hw:=(k3 uS.1 uS.2).2
  have uf:vw (RI ba yf B0 rs g) ε':=(RI.od N).rd hr h hv
  obtain ⟨q1,q2⟩:=WX hc (fA (U.look hb).1) (σ:=σ) (by rw [hw]; exact IY n bn)
  obtain ⟨p1,p2⟩:=Rq hc
  obtain ⟨i1,i2,i3,i4⟩:=ih (σ:=ir c σ) k1 (hr.kQ h3) U d2 (fun m hm=>hl m (bl _ hm)) uf (fun m hm=>by
   rw [q2 m (fun q=>d1 (by rw [←q]; exact hm)),k2]
   exact IY m (bl _ hm))
  refine ⟨fun m hm b' J => ?_,fun m hm => ?_,fun m => ?_,fun m hm hg => ?_⟩
  ·rw [Ir]
   rcases List.mem_cons.1 hm with rfl | hm
   ·rw [hb] at J
    rw [←bw J,i2 m d1]; exact q1
   ·exact i1 m hm b' J
  ·simp only [fb,pG] at hm
   rw [Ir,i2 m hm.2,q2 m hm.1]
  ·constructor
   ·rintro ⟨x,I,rfl⟩
    rcases List.mem_append.1 I with I | I
    ·rw [p1 x I]; exact bn
    ·exact bl _ ((i3 _).1 ⟨x,I,rfl⟩)
   ·intro hm
    rcases List.mem_cons.1 hm with rfl | hm
    ·obtain ⟨x,I⟩:=List.exists_mem_of_ne_nil _ p2
     exact ⟨x,List.mem_append.2 (.inl I),p1 x I⟩
    ·obtain ⟨x,I,e⟩:=(i3 m).2 hm
     exact ⟨x,List.mem_append.2 (.inr I),e⟩
  ·rcases List.mem_cons.1 hm with rfl | hm
   ·exfalso
    cases hq:lookL m ε'.1.aN with
    | none=>rw [hq] at iY; cases iY
    | some y =>
     obtain ⟨rec,fl⟩:=y
     have:=(uV.1 uf).Bx m rec fl hq
     rw [hg] at this
     cases this
   ·obtain ⟨x,I,e⟩:=i4 m hm hg
    exact ⟨x,List.mem_append.2 (.inr I),e⟩
 | whole n l ε cR b ε' e cs pV hr hb iY ht ih =>
  intro σ h h3 U hd hl hv IY
  obtain ⟨d1,d2⟩:=List.nodup_cons.1 hd
  have uS:=hl n bn
  obtain ⟨k1,k2,k3,_⟩:=hr.ec h h3.pins
  have uf:vw (RI ba yf B0 rs g) ε':=(RI.od N).rd hr h hv
  have q2:∀m,m≠n→jq ⟨n,0,true,b⟩ σ m=σ m:=fun m hm=>by rw [jq,af hm]
  have q1:jq ⟨n,0,true,b⟩ σ n=b:=by rw [jq,aj rfl,aj rfl]
  obtain ⟨i1,i2,i3,i4⟩:=ih (σ:=jq ⟨n,0,true,b⟩ σ) k1 (hr.kQ h3) U d2 (fun m hm=>hl m (bl _ hm)) uf (fun m hm=>by
   rw [q2 m (fun q=>d1 (by rw [←q]; exact hm)),k2]
   exact IY m (bl _ hm))
  refine ⟨fun m hm b' J => ?_,fun m hm => ?_,fun m => ?_,fun m hm hg => ?_⟩
  ·show js (ir cs (jq _ σ) m) b'
   rcases List.mem_cons.1 hm with rfl | hm
   ·rw [hb] at J
    rw [←bw J,i2 m d1,q1]; exact js.refl (fA (U.look hb).1)
   ·exact i1 m hm b' J
  ·simp only [fb,pG] at hm
   show ir cs (jq _ σ) m=σ m
   rw [i2 m hm.2,q2 m hm.1]
  ·constructor
   ·rintro ⟨x,I,rfl⟩
    rcases List.mem_cons.1 I with rfl | I
    ·exact bn
    ·exact bl _ ((i3 _).1 ⟨x,I,rfl⟩)
   ·intro hm
    rcases List.mem_cons.1 hm with rfl | hm
    ·exact ⟨_,bn,rfl⟩
    ·obtain ⟨x,I,e⟩:=(i3 m).2 hm
     exact ⟨x,bl _ I,e⟩
  ·rcases List.mem_cons.1 hm with rfl | hm
   ·exact ⟨_,bn,rfl,rfl⟩
   ·obtain ⟨x,I,e⟩:=i4 m hm hg
    exact ⟨x,bl _ I,e⟩
theorem sq.ri {B aC kd tx aI:Nat}{mk:List Nat}{data:List Nat}(hr:sq ε now kd tx 0 0 data 0 aI 0 true ε')(h:EI N B ε)(hB:B≤1000)(hn:NW N now)(hl:LR ba aC mk rs ε.2)(h1:1≤kd)(h2:kd≤7)(ht:tx<65536)
 (hv:vw (RI ba yf B0 rs g) ε)(fW:Iw N rs B0 ε)(uI:Iv rs B0): ∃(r:bW) (g':Int→Option Nat),r.Ok∧r.kd=kd∧r.tx=tx∧r.pv=0∧r.nx=0∧r.data=data∧aI=ba+szB rs∧LR ba aC mk (rs++[r]) ε'.2∧vw (RI ba yf B0 (rs++[r]) g') ε'∧Iw N (rs++[r]) B0 ε'∧Iv (rs++[r]) B0 ∧
   (∀n rec,g' n=some rec→g n=some rec∨rec=ba+szB rs)∧∃I,jr now (aJ now) ε 0 r.aR I:=by
 have J:∀n∈aJ now,0≤n∧n<N:=fun n U=>hn.keys n (gx.1 U)
 have hN:=h.many
 have iH:∀ {c:List cj} {ε':aM} {e:Int},jr now (aJ now) ε e c ε'→dK kd c=true:=fun hc=>by
  refine HR ⟨by omega,by omega⟩ (hc.fit (fun x hx=>fA (hn.good x hx).1) fun n U => ?_)
  have:=J n U
  omega
 have nc:(aJ now).Nodup:=(eB _).nodup_iff.2 hn.nodup
 have Yh:=(h.done hB hn (by omega) (by omega) hr).resolve_left (by rintro ⟨q,_⟩; cases q)
 generalize hz:(0:Int)=e at hr
 generalize jY:true=cl at hr
 cases hr with
 | arg hh=>cases jY
 | dead _ _ _ hd=>cases jY
 | mB e c ε' _ _ _ _ hc he=>cases jY
 | app c I _ _ _ _ hc he=>cases jY
 | put c I e Yi _ _ _ _ hc ha hp =>
  subst hz
  obtain ⟨c1,c2,c3⟩:=hc.ec h.ec h.ok J
  have hi:EI N B I:=⟨hc.kQ h.ok,c1,hc.el h.el,cL hc.ct h.ct⟩
  have wz:=(rH ba aC mk rs).ch hc hl
  obtain ⟨r,k1,k2,k3,k4,k5,k6,k7,k8,k9,ZH,_⟩:=wz.app h1 (iH hc) ht ha
  obtain ⟨a1,a2,a3⟩:=hi.app (kd:=kd) (tx:=tx) (pv:=0) (nx:=0) (data:=data) (c:=c) hB (iH hc)
  have a3:=a3.resolve_right (by rw [ha]; rintro (q | ⟨q,_⟩) <;> cases q)
  obtain ⟨_,a4⟩:=a3
  have r_:vw (RI ba yf B0 rs g) I:=(RI.od N).ch hc h.ec h.ok hv
  obtain ⟨s1,s2,s3,s4⟩:=hc.st (σ:=d_ rs B0) h.ec h.ok hn nc J hv (fun n hm=>by have:=J n hm; exact fW n this.1 this.2)
  subst k7
  have ab6:(bp I.2 kd tx 0 0 data r.aR).1.1=ba+szB rs:=k8
  have eO:=hi.el.size
  have xO:=wz.b
  have W5:=wz.base
  have bS:ba+szB rs<18446744073709551616:=by
   have:(logB ba rs).length=szB rs:=fO
   rw [xO,W5,this] at eO
   omega
  have jZ:∀n,n∈aJ now↔sG r n:=fun n=>(s3 n).symm
  have ng:=RI.app (uV.1 r_) (r:=r) (fun n hg U=>s4 n ((jZ n).2 U) hg) (μ:=(bp I.2 kd tx 0 0 data r.aR).2.1) (δ:=(bp I.2 kd tx 0 0 data r.aR).2.2)
   (by rw [k9.base,W5]) k9.b (by rw [a4]; rfl) k9.log (by rw [a4]) (by rw [a4]) (by rw [a4]) (by rw [a4]) (by rw [a4]) (by rw [a4]) jZ
  have H9:vw (RI ba (fun n=>n∈aJ now) B0 (rs++[r]) (fun n=>match g n with | some rec=>some rec | none=>if n∈aJ now then some (ba+szB rs) else none)) (I.1,(bp I.2 kd tx 0 0 data r.aR).2):=ng
  have ZI:=hp.ri a1.ec a1.ok hn J nc (fun n hm=>hm) ⟨rs,r,rfl,k8⟩ (by rw [k8]; exact bS) H9
  have e0:(fun m:Int=>m∈aJ now∧m∉aJ now)=yf:=funext fun m=>propext ⟨fun q=>q.2 q.1,fun q=>q.elim⟩
  rw [e0] at ZI
  refine ⟨r,_,k1,k2,k3,k4,k5,k6,by rw [aj rfl]; exact k8,(rH ba aC mk _).pt hp k9,ZI,fun n h0 Hg => ?_,uI.app (hc.lt hn) (fun n U => ?_),fun n rec U => ?_,I,hc⟩
  ·rw [Yh.2.2.2 n,pY]
   show js (ir r.aR (d_ rs B0) n) _
   cases U:lookL n now with
   | some b =>
    have hm:n∈aJ now:=gx.2 ((fh U) |> jd (f:=(·.1)))
    exact (s1 n hm b U).trans (Is (fA (hn.look U).1)).symm
   | none =>
    have hm:n∉aJ now:=fun q=>f_.1 U (gx.1 q)
    rw [s2 n hm]
    exact fW n h0 Hg
  ·have hm:=(jZ n).2 U
   cases hb:lookL n now with
   | none=>exact absurd (gx.1 hm) (f_.1 hb)
   | some b =>
    rw [pY]
    show bU (ir r.aR (d_ rs B0) n)=true
    rw [(s1 n hm b hb).good]; exact (hn.look hb).1
  ·cases hg:g n with
   | some Mm=>rw [hg] at U; exact .inl U
   | none =>
    rw [hg] at U
    simp only at U
    split at U
    ·exact .inr (bw U).symm
    ·cases U
theorem sq.ri0 {B aC kd tx aI:Nat}{mk:List Nat}{data:List Nat}{e:Int}(hr:sq ε now kd tx 0 0 data 0 aI e false ε')(h:EI N B ε)(hB:B≤1000)(hn:NW N now)(hl:LR ba aC mk rs ε.2)(h1:1≤kd)(h2:kd≤7)
 (hv:vw (RI ba yf B0 rs g) ε)(fW:Iw N rs B0 ε): LR ba aC mk rs ε'.2∧vw (RI ba yf B0 rs g) ε'∧Iw N rs B0 ε':=by
 have tf:∀n∈aJ now,0≤n∧n<N:=fun n hq=>hn.keys n (gx.1 hq)
 have J:=(h.done hB hn (by omega) (by omega) hr).resolve_right (by rintro ⟨q,_⟩; cases q)
 have I:Iw N rs B0 ε':=fun n h0 h1=>by rw [J.2.2.2 n]; exact fW n h0 h1
 generalize jY:false=cl at hr
 cases hr with
 | arg hh=>exact ⟨hl,hv,I⟩
 | dead _ _ _ hd=>exact ⟨hl,hv,I⟩
 | mB e c ε' _ _ _ _ hc he=>exact ⟨(rH ba aC mk rs).ch hc hl,(RI.od N).ch hc h.ec h.ok hv,I⟩
 | app c U _ _ _ _ hc he =>
  have wz:=(rH ba aC mk rs).ch hc hl
  have r_:vw (RI ba yf B0 rs g) U:=(RI.od N).ch hc h.ec h.ok hv
  rcases iD U.2 kd tx 0 0 data c with ⟨e,he,_,hq⟩ | ⟨_,hf,_⟩ | ⟨_,hb,hd,iH,hf,hq⟩
  ·rw [hq] at I ⊢; exact ⟨wz,r_,I⟩
  ·have:=wz.aF; omega
  ·rw [hq] at he; exact absurd rfl he
 | put c U e Yi _ _ _ _ hc ha hp=>cases jY
end
structure RS (N ba aC:Nat)(mk:List Nat)(rs:List bW)(B0:Int→List Nat)(g:Int→Option Nat)(ε:aM): Prop where
 lr:LR ba aC mk rs ε.2
 ri:vw (RI ba yf B0 rs g) ε
 st:Iw N rs B0 ε
 gd:Iv rs B0
theorem RS.pre {N ba aC:Nat}{mk:List Nat}{rs:List bW}{B0:Int→List Nat}{g:Int→Option Nat}{ε ε':aM}(h:RS N ba aC mk rs B0 g ε)(I:∀P:VP,jS N P→vw P ε→vw P ε')(J:∀m,pgA ε' m=pgA ε m): RS N ba aC mk rs B0 g ε' :=
 ⟨I _ ((rH ba aC mk rs).od N) h.lr,I _ (RI.od N) h.ri,fun n a b=>by rw [J]; exact h.st n a b,h.gd⟩
theorem vp.rs {N ba aC aI:Nat}{mk:List Nat}{rs:List bW}{B0:Int→List Nat}{g:Int→Option Nat}{D:jb}{ε ε':aM}{ps J:List (List Nat)}{e:Int}(ho:vp N D ε ps e J aI ε')(h:RS N ba aC mk rs B0 g ε):
  (aI=0∧J=ps∧RS N ba aC mk rs B0 g ε')∨∃(r0:bW) (g':Int→Option Nat),e=0∧J=nxW N D.w ps∧r0.kd=nG D.cG∧aI=ba+szB rs∧RS N ba aC mk (rs++[r0]) B0 g' ε'∧∀n rec,g' n=some rec→g n=some rec∨rec=ba+szB rs:=by
 have OT:=KF (k:=D.cG)
 have Fh:=EG (k:=D.cG)
 cases ho with
 | drop ε' ha U hg=>exact .inl ⟨rfl,rfl,h.pre U hg⟩
 | fail Ih ε' aI e ha U hg hw hi hr he =>
  obtain ⟨B,hB,hi⟩:=hi
  have I:=h.pre U hg
  obtain ⟨k1,k2,k3⟩:=hr.ri0 hi (by omega) hw I.lr (by omega) (by omega) I.ri I.st
  exact .inl ⟨rfl,rfl,k1,k2,k3,h.gd⟩
 | done Ih ε' aI ha U hg hw hi hr =>
  obtain ⟨B,hB,hi⟩:=hi
  have I:=h.pre U hg
  obtain ⟨r,g',k1,k2,k3,k4,k5,k6,k7,k8,k9,ZH,k11,k12,_⟩:=hr.ri hi (by omega) hw I.lr (by omega) (by omega) (by omega) I.ri I.st I.gd
  exact .inr ⟨r,g',rfl,rfl,k2,k7,⟨k8,k9,ZH,k11⟩,k12⟩
theorem Dr {a b u v:List bW}(h:a++b=u++v)(hs:szB a≤szB u): ∃w,u=a++w∧b=w++v:=by
 rcases List.append_eq_append_iff.1 h with ⟨w,I,J⟩ | ⟨w,I,J⟩
 ·exact ⟨w,I,J⟩
 ·cases w with
  | nil=>rw [bR] at I; subst I; exact ⟨[],by rw [bR],by rw [J]; rfl⟩
  | cons x w =>
   have:=AT (t:=u) (r:=x) (t':=w)
   rw [←I] at this
   omega
structure O_ (ba aC:Nat)(data:List Nat)(rs r1:List bW)(F:Nat)(g:Int→Option Nat): Prop where
 low:∀n rec,g n=some rec→ba+szB r1≤rec
 pt:(aC=0∧data=[]∧r1=[])∨∃A1 rc B,rs=(r1++A1)++rc::B∧aC=ba+szB (r1++A1)∧aC≠0∧rc.kd=8∧8≤rc.data.length∧data=rc.data.drop 8∧max ba (leN (rc.data.take 8))=ba+szB r1∧szB (r1++A1)+rc.len≤F
section
variable {ba aC F:Nat} {data:List Nat} {rs r1:List bW} {g:Int→Option Nat}
theorem O_.at (h:O_ ba aC data rs r1 F g){u v:List bW}(hu:rs=u++v)(hF:F≤szB u): ∃r2,BX ba aC u data r1 r2:=by
 rcases h.pt with ⟨k1,k2,I⟩ | ⟨J,rc,B,k1,k2,I,U,k5,k6,k7,k8⟩
 ·exact ⟨u,by rw [I]; rfl,.inl ⟨k1,k2,I⟩⟩
 ·obtain ⟨w,hw,_⟩:=Dr (a:=(r1++J)++[rc]) (b:=B) (u:=u) (v:=v) (by rw [←hu,k1]; simp) (by rw [rG]; simp only [szB]; omega)
  exact ⟨J++rc::w,by rw [hw]; simp,.inr ⟨r1++J,rc,w,by rw [hw]; simp,k2,I,U,k5,k6,k7⟩⟩
theorem BX.more {u v r2:List bW}(h:BX ba aC u data r1 r2): BX ba aC (u++v) data r1 (r2++v):=by
 obtain ⟨I,J⟩:=h
 refine ⟨by rw [I,bN],?_⟩
 rcases J with k | ⟨A,rc,B,k1,k2⟩
 ·exact .inl k
 ·exact .inr ⟨A,rc,B++v,by rw [k1]; simp,k2⟩
end
structure Iy (ba:Nat)(B0:Int→List Nat)(u v r1 r2:List bW)(δ:Dk): Prop where
 split:u=r1++r2
 rs:∀r∈u++v,r.Ok
 log:∃j,δ.log++δ.tail=logB ba (u++v)++j∧rF j
 cert:szB u≤δ.aL
 len:δ.aL≤δ.log.length
 gd:Iv (u++v) B0
 mo:∀n w t t',Bw δ n→v=t++t'→¬sy (r2++t) n→sF δ n w→js (d_ (u++t) B0 n) w∧dA w=0
 eG:∀w,δ.eG=some w→sy r2 w.1
theorem RS.cr {N ba aC:Nat}{mk data:List Nat}{rs r1:List bW}{B0:Int→List Nat}{g:Int→Option Nat}{ε:aM}(h:RS N ba aC mk rs B0 g ε)(hc:O_ ba aC data rs r1 ε.2.1.forced g)(lB:ε.2.2.Ok):
  ∃u v r2,rs=u++v∧ε.2.1.forced=szB u∧BX ba aC u data r1 r2∧Iy ba B0 u v r1 r2 ε.2.2:=by
 have U:=uV.1 h.ri
 obtain ⟨u,v,hu,hf⟩:=U.forced
 obtain ⟨r2,J⟩:=hc.at hu (by rw [hf]; exact aK _)
 refine ⟨u,v,r2,hu,hf,J,J.1,by rw [←hu]; exact h.lr.rs,⟨[],by rw [h.lr.tail,h.lr.log,hu],.inl (by decide)⟩,by rw [←hf]; exact U.cert,lB.aL,by rw [←hu]; exact h.gd,fun n w t t' h0 ht hw ql => ?_,fun w hq=>by rw [h.lr.eG] at hq; cases hq⟩
 refine ⟨U.mo n w (u++t) t' h0 (by rw [hu,ht,bN]) (by rw [hf]; exact sA) (fun rec I => ?_) ql,U.ck n w h0.1 ql⟩
 refine DB fun bS => ?_
 obtain ⟨a,r,b,k1,k2,k3⟩:=U.aN n rec I
 have sE:=hc.low n rec I
 have eO:szB a<szB (u++t):=by omega
 obtain ⟨w1,e1,e2⟩:=Dr (a:=a) (b:=r::b) (u:=u++t) (v:=t') (by rw [←k1,hu,ht,bN]) (An eO)
 cases w1 with
 | nil=>rw [bR] at e1; rw [e1] at eO; omega
 | cons y w1 =>
  injection e2 with e2 e3
  subst e2
  obtain ⟨w2,e4,e5⟩:=Dr (a:=r1) (b:=r2++t) (u:=a) (v:=r::w1) (by rw [←e1,J.1,bN]) (by omega)
  exact hw ⟨r,by rw [e5]; simp,k3⟩
def vG (P:List (Option (List Nat)))(n:Int): List Nat:=match P[n.toNat]? with
 | some (some b)=>b
 | _=>List.replicate 512 0
theorem Iz {P:List (Option (List Nat))}{k:Nat}{b:List Nat}{n:Int}(U:0≤n): vG (P.set k (some b)) n=vG P n∨(((k:Nat):Int)=n∧vG (P.set k (some b)) n=b):=by
 unfold vG
 rw [tC]
 by_cases I:k=n.toNat
 ·rw [aj I]
  by_cases J:k<P.length
  ·rw [aj J]; exact .inr ⟨by omega,rfl⟩
  ·rw [af J,←I,oW (by omega)]; exact .inl rfl
 ·rw [af I]; exact .inl rfl
theorem Rr {c:List Nat}{n:Int}(I:0≤n): ∀ {W:List Wr} {i:Nat} {P:List (Option (List Nat))},vG (layW c i W P) n=vG P n∨∃wr∈W,((wr.1:Nat):Int)=n∧vG (layW c i W P) n=wr.2:=by
 intro W
 induction W with
 | nil=>intro i P; exact .inl rfl
 | cons w W J =>
  intro i P
  rw [layW]
  rcases J (i:=i+1) (P:=if c.getD i 0%2=0 then P.set w.1 (some w.2) else P) with h | ⟨wr,U,h2,h3⟩
  ·rw [h]
   split
   ·rcases Iz (P:=P) (k:=w.1) (b:=w.2) I with q | ⟨q1,q2⟩
    ·exact .inl q
    ·exact .inr ⟨w,bn,q1,q2⟩
   ·exact .inl rfl
  ·exact .inr ⟨wr,bl _ U,h2,h3⟩
theorem Pa {c:List Nat}{n:Int}{k:Nat}(I:0≤n){P:List (Option (List Nat))}{o:Option Wr}: vG (tornP c k P o) n=vG P n∨∃w,o=some w∧((w.1:Nat):Int)=n:=by
 cases o with
 | none=>exact .inl rfl
 | some w =>
  rw [tornP]
  rcases Iz (P:=P) (k:=w.1) (b:=c9 (c9 (List.replicate 512 0) 0 ((P.getD w.1 none).getD [])) 0 (w.2.take (c.getD k 0/2%5*128))) I with q | ⟨J,_⟩
  ·exact .inl q
  ·exact .inr ⟨w,rfl,J⟩
theorem Pb {j:List Nat}{k:Nat}(h:rF j): rF (j.take k):=by
 by_cases J:k<8
 ·left; rw [dI]; omega
 ·rcases h with h | h
  ·left; rw [dI]; omega
  ·by_cases I:(j.take k).length<8
   ·exact .inl I
   ·right
    rw [tJ,pq (by omega),dI]
    omega
theorem Rs {rs:List bW}{n K:Nat}{j:List Nat}(I:∀r∈rs,r.Ok)(U:rF j): ∃dm fQ J,rs=dm++fQ∧(logB n rs++j).take K=logB n dm++J∧rF J:=by
 by_cases hK:K≤(logB n rs).length
 ·rw [oU hK]
  exact Up rs n K I
 ·refine ⟨rs,[],j.take (K-(logB n rs).length),by rw [bR],?_,Pb U⟩
  rw [tH,fL (by omega)]
theorem Mn {a b t:List Nat}{c K:Nat}(h:c≤a.length): a.take c++(a.drop c++t).take K=(a++t).take (c+K):=by
 rw [tH,tH,List.take_add,nL,bN]
 congr 3; omega
section
variable {ba:Nat} {B0:Int→List Nat} {u v r1 r2:List bW} {δ:Dk}
theorem Iy.Yj (h:Iy ba B0 u v r1 r2 δ)(c:List Nat): ∃t t',v=t++t'∧Iy ba B0 (u++t) [] r1 (r2++t) (fE δ c):=by
 obtain ⟨j,hl,hj⟩:=h.log
 have zP:(fE δ c).log=(δ.log++δ.tail).take (δ.aL+kO δ c):=Mn (b:=[]) h.len
 have ZJ:(logB ba u).length=szB u:=fO
 have hcu:=h.cert
 obtain ⟨t,t',j',e1,e2,e3⟩:=Rs (rs:=v) (n:=ba+szB u) (K:=δ.aL+kO δ c-szB u) (j:=j) (fun r I=>h.rs r (List.mem_append.2 (.inr I))) hj
 have J:(fE δ c).log=logB ba (u++t)++j':=by
  rw [zP,hl,uU,bN,tH,fL (by omega),ZJ,e2,uU,bN]
 refine ⟨t,t',e1,by rw [h.split,bN],fun r I => ?_,⟨j',by rw [bR]; show (fE δ c).log++[]=_; rw [bR,J],e3⟩,?_,aK _,?_,fun n w a b h0 U hw ql => ?_,fun w hq=>(by cases hq)⟩
 ·rw [bR] at I
  refine h.rs r ?_
  rw [e1]
  rcases List.mem_append.1 I with I | I
  ·exact List.mem_append.2 (.inl I)
  ·exact List.mem_append.2 (.inr (List.mem_append.2 (.inl I)))
 ·show szB (u++t)≤(fE δ c).log.length
  rw [J,bA,fO]; omega
 ·refine ⟨h.gd.O8,fun r I => ?_,fun a b n U jZ=>h.gd.gd a (b++t') n ?_ jZ⟩
  ·rw [bR] at I
   refine h.gd.lt r ?_
   rw [e1,←bN]
   exact List.mem_append.2 (.inl I)
  ·rw [bR] at U
   rw [e1,←bN,U,bN]
 ·have hlen:(fE δ c).aq.length=δ.aq.length:=by
   show (tornP c _ _ δ.eG).length=_
   cases δ.eG with
   | none=>exact ua
   | some w=>rw [tornP,dw,ua]
  have vh:Bw δ n:=⟨h0.1,by rw [←hlen]; exact h0.2⟩
  have h0:=h0.1
  obtain ⟨rfl,rfl⟩:=List.append_eq_nil_iff.1 U.symm
  rw [bR] at hw ⊢
  have Br:w=vG (tornP c δ.waiting.length (layW c 0 δ.waiting δ.aq) δ.eG) n:=by
   rcases ql with ql | ⟨wr,uC,_⟩
   ·exact ql
   ·cases uC
  have rW:sF δ n w:=by
   rcases Pa (c:=c) (k:=δ.waiting.length) h0 (P:=layW c 0 δ.waiting δ.aq) (o:=δ.eG) with q | ⟨wt,q1,q2⟩
   ·rw [q] at Br
    rcases Rr (c:=c) h0 (W:=δ.waiting) (i:=0) (P:=δ.aq) with q | ⟨wr,k1,k2,k3⟩
    ·exact .inl (Br.trans q)
    ·exact .inr ⟨wr,k1,k2,Br.trans k3⟩
   ·exfalso
    obtain ⟨r,I,hc⟩:=h.eG wt q1
    rw [q2] at hc
    exact hw ⟨r,List.mem_append.2 (.inl I),hc⟩
  exact h.mo n w t t' vh e1 hw rW
end
structure jM (ba:Nat)(B0:Int→List Nat)(u r1 r2:List bW)(N:Nat)(δ:Dk): Prop where
 cr:Iy ba B0 u [] r1 r2 δ
 tail:δ.tail=[]
 aq:δ.aq.length=N
 keys:∀k:Int,k∈δ.now.map (·.1)→0≤k∧k<N
 nodup:(δ.now.map (·.1)).Nodup
 nw:∀n b,lookL n δ.now=some b→sy r2 n
section
variable {ba N:Nat} {B0:Int→List Nat} {u r1 r2:List bW} {δ:Dk}
theorem jM.die (h:jM ba B0 u r1 r2 N δ): jM ba B0 u r1 r2 N δ.die :=
 ⟨⟨h.cr.split,h.cr.rs,h.cr.log,h.cr.cert,h.cr.len,h.cr.gd,h.cr.mo,h.cr.eG⟩,h.tail,h.aq,h.keys,h.nodup,h.nw⟩
theorem jM.c_ (h:jM ba B0 u r1 r2 N δ): jM ba B0 u r1 r2 N δ.c_ :=
 ⟨⟨h.cr.split,h.cr.rs,h.cr.log,h.cr.cert,h.cr.len,h.cr.gd,h.cr.mo,h.cr.eG⟩,h.tail,h.aq,h.keys,h.nodup,h.nw⟩
theorem jM.W6 (h:jM ba B0 u r1 r2 N δ): ∃j,δ.log=logB ba u++j∧rF j:=by
 obtain ⟨j,I,J⟩:=h.cr.log
 rw [h.tail,bR,bR] at I
 exact ⟨j,I,J⟩
theorem jM.dB (h:jM ba B0 u r1 r2 N δ): jM ba B0 u r1 r2 N (δ.dB (szB u)).2∧((δ.dB (szB u)).1=0→(δ.dB (szB u)).2.log=logB ba u):=by
 obtain ⟨j,I,U⟩:=h.W6
 have J:(logB ba u).length=szB u:=fO
 have hlen:δ.log.length=szB u+j.length:=by rw [I,bA,J]
 unfold Dk.dB
 split
 ·unfold Dk.qD
  split
  ·exact ⟨h,fun q=>(by cases q)⟩
  ·rw [af (by omega)]
   split
   ·exact ⟨h.die,fun q=>(by cases q)⟩
   ·have e:δ.log.take (szB u)=logB ba u:=by rw [I,←J,ko rfl]
    refine ⟨⟨⟨h.cr.split,h.cr.rs,⟨[],?_,.inl (by decide)⟩,aK _,?_,h.cr.gd,h.cr.mo,h.cr.eG⟩,h.tail,h.aq,h.keys,h.nodup,h.nw⟩,fun _=>e⟩
    ·show δ.log.take (szB u)++δ.tail=_
     rw [e,h.tail,bR,bR,bR]
    ·show szB u≤(δ.log.take (szB u)).length
     rw [e,J]; exact aK _
 ·refine ⟨h,fun _ => ?_⟩
  have:j=[]:=List.length_eq_zero_iff.1 (by omega)
  rw [I,this,bR]
theorem jM.cE (h:jM ba B0 u r1 r2 N δ): jM ba B0 u r1 r2 N δ.cE.2:=by
 unfold Dk.cE
 split
 ·exact h
 ·split
  ·exact h.die
  ·have:=h.cr.len
   have:=h.cr.cert
   exact ⟨⟨h.cr.split,h.cr.rs,h.cr.log,by show szB u≤δ.log.length; omega,aK _,h.cr.gd,h.cr.mo,h.cr.eG⟩,h.tail,h.aq,h.keys,h.nodup,h.nw⟩
theorem jM.cA (h:jM ba B0 u r1 r2 N δ): jM ba B0 u r1 r2 N (δ.cA (szB u)).2∧((δ.cA (szB u)).1=0→(δ.cA (szB u)).2.log=logB ba u):=by
 obtain ⟨t1,t2⟩:=h.dB
 unfold Dk.cA
 split
 ·exact ⟨t1,fun q=>absurd q (by assumption)⟩
 ·rename_i I
  have t2:=t2 (Classical.not_not.1 I)
  split
  ·refine ⟨t1.cE,fun _ => ?_⟩
   have:(δ.dB (szB u)).2.cE.2.log=(δ.dB (szB u)).2.log:=by
    unfold Dk.cE
    split
    ·rfl
    ·split <;> rfl
   rw [this,t2]
  ·exact ⟨t1,fun _=>t2⟩
theorem jM.bI (h:jM ba B0 u r1 r2 N δ){k:Int}{b:List Nat}(hk:sy r2 k): jM ba B0 u r1 r2 N (δ.bI k b).2∧((δ.bI k b).1=0→0≤k∧k<N∧∀n,lookL n (δ.bI k b).2.now=if k=n then some b else lookL n δ.now):=by
 unfold Dk.bI
 split
 ·exact ⟨h,fun q=>(by cases q)⟩
 ·split
  ·exact ⟨h,fun q=>(by cases q)⟩
  ·rename_i U
   have U:=Classical.not_not.1 U
   have hN:=h.aq
   split
   ·refine ⟨⟨⟨h.cr.split,h.cr.rs,h.cr.log,h.cr.cert,h.cr.len,h.cr.gd,h.cr.mo,fun w hw => ?_⟩,h.tail,h.aq,h.keys,h.nodup,h.nw⟩,fun q=>(by cases q)⟩
    have:w=(k.toNat,b):=(bw hw).symm
    subst this
    rw [show ((k.toNat:Nat):Int)=k by omega]; exact hk
   ·refine ⟨⟨⟨h.cr.split,h.cr.rs,h.cr.log,h.cr.cert,h.cr.len,h.cr.gd,fun n w t t' h0 ht hw ql => ?_,h.cr.eG⟩,h.tail,h.aq,fun x hx => ?_,iL h.nodup,fun n c J => ?_⟩,fun _=>⟨U.1,by omega,fun n=>gQ _⟩⟩
    ·refine h.cr.mo n w t t' h0 ht hw ?_
     rcases ql with hq | ⟨wr,I,q1,q2⟩
     ·exact .inl hq
     ·rcases List.mem_append.1 I with I | I
      ·exact .inr ⟨wr,I,q1,q2⟩
      ·exfalso
       rw [List.mem_singleton.1 I] at q1
       obtain ⟨r,uS,Co⟩:=hk
       simp only at q1
       exact hw ⟨r,List.mem_append.2 (.inl uS),by rw [←q1,show ((k.toNat:Nat):Int)=k by omega]; exact Co⟩
    ·rcases oM.1 hx with rfl | hx
     ·exact ⟨U.1,by omega⟩
     ·exact h.keys x hx
    ·have J:lookL n (cM k b δ.now)=some c:=J
     rw [gQ] at J
     by_cases hq:k=n
     ·rw [←hq]; exact hk
     ·rw [af hq] at J; exact h.nw n c J
theorem jM.O6 (h:jM ba B0 u r1 r2 N δ){n:Int}(I:0≤n): imgOf δ.sync n=match lookL n δ.now with | some b=>b | none=>imgOf δ n:=by
 rw [imgOf,show δ.sync.aq=laidP δ.now δ.aq from rfl,laidP_get h.aq h.nodup h.keys I]
 cases J:lookL n δ.now with
 | some b=>rfl
 | none=>rfl
theorem jM.dL (h:jM ba B0 u r1 r2 N δ): jM ba B0 u r1 r2 N δ.dL.2:=by
 unfold Dk.dL
 split
 ·exact h
 ·split
  ·exact h.die
  ·refine ⟨⟨h.cr.split,h.cr.rs,h.cr.log,h.cr.cert,h.cr.len,h.cr.gd,fun n w t t' I ht hw J => ?_,h.cr.eG⟩,h.tail,?_,fun k hk=>(by cases hk),kq,fun n b hb=>(by cases hb)⟩
   ·have U:Bw δ n:=⟨I.1,by have:=I.2; rw [show δ.c_.sync.aq=laidP δ.now δ.aq from rfl,nC] at this; exact this⟩
    have I:=I.1
    refine h.cr.mo n w t t' U ht hw (.inl ?_)
    have hq:w=imgOf δ.c_.sync n:=by
     rcases J with hq | ⟨wr,uC,_⟩
     ·exact hq
     ·cases uC
    rw [hq,h.c_.O6 I]
    cases hl:lookL n δ.c_.now with
    | none=>rfl
    | some b =>
     obtain ⟨r,uS,Co⟩:=h.nw n b hl
     exact absurd ⟨r,List.mem_append.2 (.inl uS),Co⟩ hw
   ·show (laidP δ.now δ.aq).length=N
    rw [nC]; exact h.aq
theorem jM.again {ρ:gh}: ∀ {l:List Int} {δ:Dk},l.Nodup→(∀k∈l,∀b,lookL k ρ.aq=some b→sy r2 k)→jM ba B0 u r1 r2 N δ→jM ba B0 u r1 r2 N (againW ρ l δ).2 ∧
  ((againW ρ l δ).1=0→(∀n,n∈l→∀b,lookL n ρ.aq=some b→bU b=true→n<N→lookL n (againW ρ l δ).2.now=some (cO b (ob ρ n)))∧(∀n,n∉l→lookL n (againW ρ l δ).2.now=lookL n δ.now)):=by
 intro l
 induction l with
 | nil=>intro δ _ _ h; exact ⟨h,fun _=>⟨fun n I=>(by cases I),fun _ _=>rfl⟩⟩
 | cons k l ih =>
  intro δ nc hl h
  obtain ⟨d1,d2⟩:=List.nodup_cons.1 nc
  have xV:∀x∈l,∀b,lookL x ρ.aq=some b→sy r2 x:=fun x hx=>hl x (bl _ hx)
  rw [againW]
  cases hq:lookL k ρ.aq with
  | none =>
   obtain ⟨i1,i2⟩:=ih d2 xV h
   refine ⟨i1,fun h0 => ?_⟩
   obtain ⟨j1,j2⟩:=i2 h0
   refine ⟨fun n I b J hg U => ?_,fun n I=>j2 n (fun q=>I (bl _ q))⟩
   rcases List.mem_cons.1 I with rfl | I
   ·rw [hq] at J; cases J
   ·exact j1 n I b J hg U
  | some b =>
   simp only
   have hN:=h.aq
   split
   ·rename_i hg
    obtain ⟨w1,w2⟩:=h.bI (k:=k) (b:=cO b (ob ρ k)) (hl k bn b hq)
    split
    ·exact ⟨w1,fun q=>absurd q (by assumption)⟩
    ·rename_i gn
     obtain ⟨x1,x2,x3⟩:=w2 (Classical.not_not.1 gn)
     obtain ⟨i1,i2⟩:=ih d2 xV w1
     refine ⟨i1,fun h0 => ?_⟩
     obtain ⟨j1,j2⟩:=i2 h0
     refine ⟨fun n I b' J Pc U => ?_,fun n I => ?_⟩
     ·rcases List.mem_cons.1 I with rfl | I
      ·rw [hq] at J
       rw [j2 n d1,x3,aj rfl,bw J]
      ·exact j1 n I b' J Pc U
     ·simp only [fb,pG] at I
      rw [j2 n I.2,x3,af (fun q=>I.1 q.symm)]
   ·rename_i hg
    obtain ⟨i1,i2⟩:=ih d2 xV h
    refine ⟨i1,fun h0 => ?_⟩
    obtain ⟨j1,j2⟩:=i2 h0
    refine ⟨fun n I b' J Pc U => ?_,fun n I=>j2 n (fun q=>I (bl _ q))⟩
    rcases List.mem_cons.1 I with rfl | I
    ·rw [hq] at J
     rw [←bw J] at Pc
     exact absurd ⟨Pc,by omega⟩ hg
    ·exact j1 n I b' J Pc U
theorem jM.eP (h:jM ba B0 u r1 r2 N δ)(hn:δ.now=[])(hw:δ.waiting=[]): jM ba B0 u r1 r2 N (eP δ ba u r1 r2).2∧((eP δ ba u r1 r2).1=0 →
  (eP δ ba u r1 r2).2.log=logB ba u∧(eP δ ba u r1 r2).2.now=[]∧(eP δ ba u r1 r2).2.waiting=[] ∧
  ∀n,0≤n→n<(N:Int)→js (d_ u B0 n) (imgOf (eP δ ba u r1 r2).2 n)∧dA (imgOf (eP δ ba u r1 r2).2 n)=0):=by
 have I:=Uq r2 (ba+szB r1) (d_ r1 B0)
 have hS:d_ r2 (d_ r1 B0)=d_ u B0:=by rw [h.cr.split,pY]
 rw [hS] at I
 have Rt:∀r∈r2,r.Ok:=fun r hr=>h.cr.rs r (by rw [bR,h.cr.split]; exact List.mem_append.2 (.inr hr))
 have lB:(redoL (ba+szB r1) r2 gh.none).Ok:=BV AS Rt
 obtain ⟨o1,o2⟩:=h.cA
 obtain ⟨f1,f2,f3⟩:=Dp (δ:=δ) (n:=szB u)
 unfold Am.eP
 split
 ·exact ⟨o1,fun q=>absurd q (by assumption)⟩
 ·rename_i h0
  have o2:=o2 (Classical.not_not.1 h0)
  generalize hρ:redoL (ba+szB r1) r2 gh.none=ρ at I lB ⊢
  have nc:(aJ ρ.aq).Nodup:=(eB _).nodup_iff.2 lB.dup
  obtain ⟨a1,a2⟩:=o1.again (ρ:=ρ) nc (fun k _ b hb=>(I.some k b hb).2)
  have J:∀ {l:List Int} {δ:Dk},(againW ρ l δ).2.log=δ.log:=by
   intro l
   induction l with
   | nil=>intro δ; rfl
   | cons k l ih =>
    intro δ
    have Ny:∀b,(δ.bI k b).2.log=δ.log:=fun b=>by
     unfold Dk.bI
     split
     ·rfl
     ·split
      ·rfl
      ·split <;> rfl
    rw [againW]
    cases lookL k ρ.aq with
    | none=>exact ih
    | some b =>
     simp only
     split
     ·split
      ·exact Ny _
      ·rw [ih,Ny]
     ·exact ih
  have fin:∀U,jM ba B0 u r1 r2 N U→(againW ρ (aJ ρ.aq) (δ.cA (szB u)).2).1=0→(∀n,0≤n→imgOf U n=match lookL n (againW ρ (aJ ρ.aq) (δ.cA (szB u)).2).2.now with | some b=>b | none=>imgOf (againW ρ (aJ ρ.aq) (δ.cA (szB u)).2).2 n) →
    ∀n,0≤n→n<(N:Int)→js (d_ u B0 n) (imgOf U n)∧dA (imgOf U n)=0:=fun U h1 hz hi n sL Hg=>by
   obtain ⟨b1,b2⟩:=a2 hz
   rw [hi n sL]
   cases hl:lookL n ρ.aq with
   | some b =>
    obtain ⟨e1,e2⟩:=I.some n b hl
    obtain ⟨r,uS,c,xU,sM,_⟩:=e2
    have hg:bU b=true:=by
     rw [e1]
     exact h.cr.gd.gd u [] n (by simp) ⟨r,by rw [h.cr.split]; exact List.mem_append.2 (.inr uS),c,xU,sM⟩
    have hb:∀x∈b,x<256:=by
     rw [e1]
     exact O9 (fun r hr=>h.cr.gd.lt r (by rw [bR]; exact hr)) h.cr.gd.O8 n
    have wT:n∈aJ ρ.aq:=gx.2 ((fh hl) |> jd (f:=(·.1)))
    rw [b1 n wT b hl hg Hg]
    simp only
    rw [←e1]
    exact ⟨(Is (fA hg)).symm,(zQ hg hb).1⟩
   | none =>
    have ZK:=I.none n hl
    have mK:lookL n (againW ρ (aJ ρ.aq) (δ.cA (szB u)).2).2.now=none:=by
     cases hq:lookL n (againW ρ (aJ ρ.aq) (δ.cA (szB u)).2).2.now with
     | none=>rfl
     | some b=>exact absurd (a1.nw n b hq) ZK
    rw [mK]
    simp only
    have:=a1.cr.mo n _ [] [] ⟨sL,by rw [a1.aq]; exact Hg⟩ rfl (by rw [bR]; exact ZK) (.inl rfl)
    rw [bR] at this
    exact this
  unfold mh
  split
  ·exact ⟨a1,fun q=>absurd q (by assumption)⟩
  ·rename_i hz
   have hz:=Classical.not_not.1 hz
   split
   ·rename_i hp
    have ek:aJ ρ.aq=[]:=by rw [hp]; rfl
    have e:againW ρ (aJ ρ.aq) (δ.cA (szB u)).2=(0,(δ.cA (szB u)).2):=by rw [ek]; rfl
    refine ⟨a1,fun _=>⟨by rw [J,o2],by rw [e]; show (δ.cA (szB u)).2.now=[]; rw [f2,hn],by rw [e]; show (δ.cA (szB u)).2.waiting=[]; rw [f1,hw],fin _ a1 hz fun n sL => ?_⟩⟩
    rw [e]
    show _=match lookL n (δ.cA (szB u)).2.now with | some b=>b | none=>_
    rw [f2,hn]
    rfl
   ·refine ⟨a1.dL,fun hs => ?_⟩
    have es:(againW ρ (aJ ρ.aq) (δ.cA (szB u)).2).2.dL=(0,(againW ρ (aJ ρ.aq) (δ.cA (szB u)).2).2.c_.sync):=by
     unfold Dk.dL at hs ⊢
     split
     ·rename_i hd; rw [aj hd] at hs; cases hs
     ·rename_i hd
      rw [af hd] at hs
      split
      ·rename_i hf; rw [aj hf] at hs; cases hs
      ·rfl
    have O7:=a1.dL
    rw [es] at O7 ⊢
    refine ⟨by show (againW ρ (aJ ρ.aq) (δ.cA (szB u)).2).2.log=_; rw [J,o2],rfl,rfl,fin _ O7 hz fun n sL => ?_⟩
    rw [a1.c_.O6 sL]
    rfl
end
end Go.Proofs.YtconhghphklfjaaGreat.Am
