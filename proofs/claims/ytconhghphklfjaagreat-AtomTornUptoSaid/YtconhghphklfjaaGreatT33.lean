/- AtomTorn: a part of its proof; conditions: its statement's. -/
import Derived.Test.YtconhghphklfjaaGreatT32
namespace Go.Proofs.YtconhghphklfjaaGreat.Am
open Go
theorem vu : ∀(N:Nat) (l:List Int),l.Nodup→(∀n∈l,0≤n∧n<N)→l.length≤N:=by
 intro N
 induction N with
 | zero =>
  intro l _ h
  cases l with
  | nil=>exact aI _
  | cons n l=>have:=h n br; omega
 | succ N U =>
  intro l J h
  have h1:=U (l.erase (N:Int)) (J.erase _) fun n hn=>by
   have I:=(J.mem_erase_iff).1 hn
   have:=h n I.2
   have:=I.1
   omega
  have I:l.length≤(l.erase (N:Int)).length+1:=by
   rw [List.length_erase]; split <;> omega
  omega
structure NW (N:Nat)(now:List (Int×List Nat)): Prop where
 good:∀e∈now,bT e.2=true∧∀x∈e.2,x<256
 keys:∀k:Int,k∈now.map (·.1)→0≤k∧k<N
 nodup:(now.map (·.1)).Nodup
theorem NW.nil (N:Nat): NW N []:=⟨fun e h=>(by cases h),fun k h=>(by cases h),kG⟩
theorem xV {α:Type}{n:Int}{a:α}: ∀ {l:List (Int×α)} {e:Int×α},e∈cN n a l→e=(n,a)∨e∈l:=by
 intro l
 induction l with
 | nil=>intro e h; simp only [cN,vU] at h; exact .inl h
 | cons x l I =>
  intro e h
  simp only [cN] at h
  split at h
  ·rcases List.mem_cons.1 h with h | h
   ·exact .inl h
   ·exact .inr (bp _ h)
  ·rcases List.mem_cons.1 h with h | h
   ·exact .inr (by rw [h]; exact br)
   ·rcases I h with h | h
    ·exact .inl h
    ·exact .inr (bp _ h)
theorem NW.put {N:Nat}{now:List (Int×List Nat)}{n:Int}{b:List Nat}(h:NW N now)(J:0≤n)(U:n<N)(hg:bT b=true)(hb:∀x∈b,x<256): NW N (cN n b now):=by
 refine ⟨fun e he => ?_,fun k I => ?_,iQ h.nodup⟩
 ·rcases xV he with rfl | he
  ·exact ⟨hg,hb⟩
  ·exact h.good e he
 ·rcases oY.1 I with rfl | I
  ·exact ⟨J,U⟩
  ·exact h.keys k I
theorem NW.len {N:Nat}{now:List (Int×List Nat)}(h:NW N now): now.length≤N:=by
 have:=vu N _ h.nodup h.keys
 rwa [eu] at this
theorem NW.look {N:Nat}{now:List (Int×List Nat)}(h:NW N now){n:Int}{b:List Nat}(I:lookL n now=some b): bT b=true∧∀x∈b,x<256:=h.good _ (fC I)
theorem uT.ec {N:Nat}{ε ε':aO}{now gX:List (Int×List Nat)}{n e:Int}{b:List Nat}(I:uT ε now false n b e gX ε')(h:EC N ε)(hp:∀f∈ε.1.ak,f.pins=0): EC N ε'∧(∀m,pgA ε' m=pgA ε m) ∧
  (¬(0≤n∧n<N)→e=1∧gX=now)∧(0≤n→n<N→bT b=false→e=4∧gX=now)∧(0≤n→n<N→bT b=true→e=0∧gX=cN n b now):=by
 cases I with
 | may e c ε' I he =>
  obtain ⟨k1,k2,k3,J⟩:=I.ec h hp
  exact ⟨k1,k2,fun U=>⟨J U,rfl⟩,fun a b _=>absurd (k3 a b).1 he,fun a b _=>absurd (k3 a b).1 he⟩
 | bad c ε' I hg =>
  obtain ⟨k1,k2,k3,J⟩:=I.ec h hp
  exact ⟨k1,k2,fun U=>absurd (J U) (by decide),fun _ _ _=>⟨rfl,rfl⟩,fun _ _ hq=>by rw [hg] at hq; cases hq⟩
 | done c ε' I hg =>
  obtain ⟨k1,k2,k3,J⟩:=I.ec h hp
  exact ⟨k1,k2,fun U=>absurd (J U) (by decide),fun _ _ hq=>(by rw [hg] at hq; cases hq),fun _ _ _=>⟨rfl,rfl⟩⟩
theorem jx.ec {N:Nat}{now:List (Int×List Nat)}{l:List Int}{ε ε':aO}{e:Int}{cs:List cn}(I:jx now l ε e cs ε'): EC N ε→gW ε→(∀n∈l,0≤n∧n<N)→EC N ε'∧(∀m,pgA ε' m=pgA ε m)∧e=0:=by
 induction I with
 | nil ε=>intro h _ _; exact ⟨h,fun _=>rfl,rfl⟩
 | err n l ε e b ε' I he =>
  intro h J U
  obtain ⟨k1,k2,k3,k4⟩:=I.ec h J.pins
  have:=U n br
  exact absurd (k3 this.1 this.2).1 he
 | part n l ε cV b ε' c e cs qg I hb hd hc kg ht ih =>
  intro h J U
  obtain ⟨k1,k2,k3,k4⟩:=I.ec h J.pins
  obtain ⟨i1,i2,i3⟩:=ih k1 (I.lp J) fun m hm=>U m (bp _ hm)
  exact ⟨i1,fun m=>by rw [i2,k2],i3⟩
 | whole n l ε cV b ε' e cs qg I hb hd ht ih =>
  intro h J U
  obtain ⟨k1,k2,k3,k4⟩:=I.ec h J.pins
  obtain ⟨i1,i2,i3⟩:=ih k1 (I.lp J) fun m hm=>U m (bp _ hm)
  exact ⟨i1,fun m=>by rw [i2,k2],i3⟩
theorem EC.log {N:Nat}{ε:aO}{x:LD}(h:EC N ε)(k:DK ε.2.2 x.2): EC N (ε.1,x)∧∀m,pgA (ε.1,x) m=pgA ε m:=by
 refine ⟨⟨h.dk.of k,h.nodup,h.jR,fun i f J => ?_,h.oC,h.yA⟩,fun m => ?_⟩
 ·rcases h.back i f J with I | I
  ·exact .inl I
  ·exact .inr ⟨I.lt,I.here,I.aC,fun U=>by rw [k.at]; exact I.same U,I.mD⟩
 ·unfold pgA
  simp only [k.at]
theorem EC.put {N:Nat}{ε:aO}{n:Int}{i:Nat}{f:Fm}{b:List Nat}{aK:Nat}(h:EC N ε)(hl:lookL n ε.1.aE=some (i:Int))(U:ε.1.ak[i]?=some f)(hg:bT b=true)(hb:∀x∈b,x<256)(h0:0≤n)(h1:n<N):
  EC N (uW ε.1 n i f b aK,ε.2)∧∀m,pgA (uW ε.1 n i f b aK,ε.2) m=if m=n then cO b aK else pgA ε m:=by
 obtain ⟨s1,s2,s3⟩:=Aq (n:=aK) hg hb
 have hi:=(List.getElem?_eq_some_iff.1 U).1
 have hp:f.aM=n:=by
  obtain ⟨_,j,x,um,J,wQ⟩:=h.jR n i hl
  have:i=j:=by omega
  subst this
  rw [U] at J
  rw [bx J]; exact wQ
 have ho:=(h.back i f U).resolve_left (by omega)
 refine ⟨h.set (y:=ε.2.1) (δ:=ε.2.2) U rfl h.dk (.inr ⟨ho.lt,ho.here,s1,fun hq=>(by cases hq),fun _=>s2⟩) (fun _ _ _ _ _=>rfl) (fun k hk => ?_) (iQ h.yA),fun m => ?_⟩
 ·rcases oY.1 hk with rfl | hk
  ·exact ⟨h0,h1⟩
  ·exact h.oC k hk
 ·by_cases hm:m=n
  ·subst hm
   rw [aj rfl]
   exact pn (ε:=(uW ε.1 m i f b aK,ε.2)) hl (iT hi)
  ·rw [af hm]
   rcases h.cases m with ⟨j,x,I,J,wQ,_,_,e2⟩ | ⟨I,e2⟩
   ·rw [e2]
    refine pn (ε:=(uW ε.1 n i f b aK,ε.2)) I ?_
    show (ε.1.ak.set i _)[j]?=some x
    rw [iU]
    ·exact J
    ·rintro rfl
     rw [U] at J
     have:=bx J
     subst this
     omega
   ·rw [e2]
    exact mT (ε:=(uW ε.1 n i f b aK,ε.2)) I
theorem qK.ec {N:Nat}{now:List (Int×List Nat)}{aK:Nat}{l:List Int}{ε ε':aO}{e:Int}(I:qK now aK l ε e ε'): EC N ε→gW ε→NW N now→(∀n∈l,0≤n∧n<N)→EC N ε'∧e=0 ∧
  ∀m,pgA ε' m=if m∈l then (match lookL m now with | some b=>cO b aK | none=>pgA ε m) else pgA ε m:=by
 induction I with
 | nil ε=>intro h _ _ _; exact ⟨h,rfl,fun m=>by rw [af (by simp)]⟩
 | jf n l ε e b ε' I he =>
  intro h U hn hl
  have:=hl n br
  exact absurd ((I.ec h).2.2.1 this.1 this.2).1 he
 | bad n l ε b0 b ε' I hb he =>
  intro h U hn hl
  exact absurd ((I.put (b:=b) (aK:=aK) U).2.2 (hn.look hb).1) he
 | put n l ε b0 b ε' e qg I hb he ht ih =>
  intro h U hn hl
  have oR:=hl n br
  obtain ⟨k1,k2,k3,k4⟩:=I.ec h
  obtain ⟨i,f,p1,p2,p3,p4,p5⟩:=I.at U.pins
  have hg:=hn.look hb
  have e1:=xN (aK:=aK) p1 p2 p3 hg.1
  obtain ⟨q1,q2⟩:=k1.put (aK:=aK) p1 p2 hg.1 hg.2 oR.1 oR.2
  have GC:=(I.put (b:=b) (aK:=aK) U).1
  rw [e1] at ih GC
  obtain ⟨i1,i2,i3⟩:=ih q1 GC hn fun m hm=>hl m (bp _ hm)
  refine ⟨i1,i2,fun m => ?_⟩
  rw [i3,q2]
  by_cases hm:m=n
  ·subst hm
   rw [aj rfl,aj (br)]
   split
   ·rw [hb]
   ·rw [hb]
  ·rw [af hm,k2]
   by_cases J:m∈l
   ·rw [aj J,aj (bp _ J)]
   ·rw [af J,af (by simp [hm,J])]
theorem nP {N:Nat}: ∀ {l:List Int} {ε:aO},EC N ε→(∀n∈l,(lookL n ε.1.aE).isSome=true)→(writeAllF l ε).1=0∧EC N (writeAllF l ε).2∧(∀m,pgA (writeAllF l ε).2 m=pgA ε m):=by
 intro l
 induction l with
 | nil=>intro ε h _; exact ⟨rfl,h,fun _=>rfl⟩
 | cons n l ih =>
  intro ε h J
  have U:=J n br
  cases I:lookL n ε.1.aE with
  | none=>rw [I] at U; cases U
  | some i =>
   obtain ⟨_,j,f,rfl,hf,hp⟩:=h.jR n i I
   obtain ⟨k1,k2,k3,k4,_⟩:=h.out hf
   have e:dJ ε n=outF ε j:=by rw [dJ,I]; simp only [cQ]
   rw [writeAllF,e,af (by rw [k1]; decide)]
   obtain ⟨i1,i2,i3⟩:=ih k2 fun m hm=>by rw [k4]; exact J m (bp _ hm)
   exact ⟨i1,i2,fun m=>by rw [i3,k3]⟩
theorem FN {N:Nat}{ε:aO}(h:EC N ε): (cH ε.1 ε.2.2).1=0∧EC N ((cH ε.1 ε.2.2).2.1,(ε.2.1,(cH ε.1 ε.2.2).2.2))∧∀m,0≤m→pgA ((cH ε.1 ε.2.2).2.1,(ε.2.1,(cH ε.1 ε.2.2).2.2)) m=pgA ε m:=by
 obtain ⟨s1,s2,s3⟩:=UF h.dk
 have e:cH ε.1 ε.2.2=(0,{ ε.1 with aN:=ε.1.aN.filter fun e=>e.2.2 },ε.2.2.c7.2):=by rw [cH,af (by rw [s1]; decide)]
 rw [e]
 have J:∀k,k∈((ε.1.aN.filter fun e=>e.2.2).map (·.1))→k∈ε.1.aN.map (·.1):=fun k U=>by
  obtain ⟨x,hx,rfl⟩:=List.mem_map.1 U
  exact iV (List.mem_filter.1 hx).1
 refine ⟨rfl,⟨s2,h.nodup,h.jR,fun i f hf => ?_,fun k U=>h.oC k (J k U),(List.filter_sublist.map _).nodup h.yA⟩,fun m hm => ?_⟩
 ·rcases h.back i f hf with I | I
  ·exact .inl I
  ·by_cases h0:f.aM<0
   ·exact .inl h0
   ·exact .inr ⟨I.lt,I.here,I.aC,fun hc=>by rw [s3 _ (by omega)]; exact I.same hc,I.mD⟩
 ·unfold pgA
  simp only [s3 m hm]
theorem O8 {N:Nat}{ε:aO}(h:EC N ε): (er ε).1=0∧EC N (er ε).2∧∀m,0≤m→pgA (er ε).2 m=pgA ε m:=by
 obtain ⟨I,J,U⟩:=nP (l:=aF ε.1.aE) h fun n hn=>by
  cases hq:lookL n ε.1.aE with
  | some _=>rfl
  | none=>exact absurd (gh.1 hn) (fD.1 hq)
 obtain ⟨p1,p2,p3⟩:=FN J
 have e:er ε=((cH (writeAllF (aF ε.1.aE) ε).2.1 (writeAllF (aF ε.1.aE) ε).2.2.2).1,((cH (writeAllF (aF ε.1.aE) ε).2.1 (writeAllF (aF ε.1.aE) ε).2.2.2).2.1,((writeAllF (aF ε.1.aE) ε).2.2.1,(cH (writeAllF (aF ε.1.aE) ε).2.1 (writeAllF (aF ε.1.aE) ε).2.2.2).2.2))):=by
  rw [er,af (by rw [h.dk.alive]; decide),af (by rw [I]; decide)]
 rw [e]
 exact ⟨p1,p2,fun m hm=>by rw [p3 m hm,U]⟩
structure EL (K:Nat)(x:LD): Prop where
 log:x.1.b=x.2.log
 cert:x.1.forced≤x.2.aJ
 size:x.1.base+x.1.b.length≤K
theorem EL.force {K:Nat}{x:LD}{n:Nat}(h:EL K x): EL K (aT x n).2:=by
 unfold aT Dk.cg
 split
 ·exact h
 ·by_cases I:x.2.dead=true
  ·rw [aj I,aj (show (9:Int)≠0 by decide)]; exact h
  ·rw [af I]
   by_cases J:x.2.aD=0
   ·rw [aj J,aj (show (9:Int)≠0 by decide)]; exact ⟨h.log,h.cert,h.size⟩
   ·rw [af J,af (show ¬(0:Int)≠0 by decide)]; exact ⟨h.log,by show x.1.b.length≤x.2.log.length; rw [h.log]; exact aI _,h.size⟩
theorem EL.write {K:Nat}{x:LD}{n:Int}{b:List Nat}(h:EL K x): EL K (x.1,(x.2.bk n b).2):=by
 unfold Dk.bk
 split
 ·exact h
 ·split
  ·exact h
  ·split <;> exact ⟨h.log,h.cert,h.size⟩
theorem ua (K:Nat): kY (EL K):=⟨fun _ _ h=>h.force,fun _ _ _ h=>h.write⟩
theorem EL.out {K:Nat}{ε:aO}{i:Nat}(h:EL K ε.2): EL K (outF ε i).2.2:=(ua K).out h
theorem mP.el {K:Nat}{ε ε':aO}{n e:Int}{b:List Nat}(I:mP ε n e b ε')(h:EL K ε.2): EL K ε'.2:=(ua K).rd I h
theorem oQ.el {K:Nat}{ε ε':aO}{now:List (Int×List Nat)}{b9:Bool}{n e:Int}{b:List Nat}(I:oQ ε now b9 n e b ε')(h:EL K ε.2): EL K ε'.2:=(ua K).An I h
theorem uT.el {K:Nat}{ε ε':aO}{now gX:List (Int×List Nat)}{b9:Bool}{n e:Int}{b:List Nat}(I:uT ε now b9 n b e gX ε')(h:EL K ε.2): EL K ε'.2:=(ua K).OP I h
theorem jx.el {K:Nat}{now:List (Int×List Nat)}{l:List Int}{ε ε':aO}{e:Int}{cs:List cn}(I:jx now l ε e cs ε')(h:EL K ε.2): EL K ε'.2:=(ua K).ch I h
theorem qK.el {K:Nat}{now:List (Int×List Nat)}{aK:Nat}{l:List Int}{ε ε':aO}{e:Int}(I:qK now aK l ε e ε')(h:EL K ε.2): EL K ε'.2:=(ua K).pt I h
theorem wR {K:Nat}: ∀ {l:List Int} {ε:aO},EL K ε.2→gW ε→EL K (writeAllF l ε).2.2∧gW (writeAllF l ε).2∧cm (writeAllF l ε).2≤cm ε:=by
 intro l
 induction l with
 | nil=>intro ε h I; exact ⟨h,I,aI _⟩
 | cons n l J =>
  intro ε h I
  have step:EL K (dJ ε n).2.2∧gW (dJ ε n).2∧cm (dJ ε n).2≤cm ε:=by
   unfold dJ
   split
   ·exact ⟨h,I,aI _⟩
   ·exact ⟨h.out,⟨rP I.ok,sC I.pins,sB I.full⟩,H_⟩
  rw [writeAllF]
  split
  ·exact step
  ·have i:=J (ε:=(dJ ε n).2) step.1 step.2.1
   exact ⟨i.1,i.2.1,cy i.2.2 step.2.2⟩
structure EI (N B:Nat)(ε:aO): Prop where
 ok:gW ε
 ec:EC N ε
 el:EL (B*1048600) ε.2
 cm:cm ε≤B*65536
theorem EI.more {N B:Nat}{ε:aO}(h:EI N B ε){I:Nat}(J:B≤I): EI N I ε :=
 ⟨h.ok,h.ec,⟨h.el.log,h.el.cert,cy h.el.size (qY _ J)⟩,cy h.cm (qY _ J)⟩
theorem EI.rd {N B:Nat}{ε ε':aO}{n e:Int}{b:List Nat}(h:EI N B ε)(I:mP ε n e b ε'): EI N B ε' :=
 ⟨I.lp h.ok,(I.ec h.ec h.ok.pins).1,I.el h.el,cy I.cm h.cm⟩
theorem EI.An {N B:Nat}{ε ε':aO}{now:List (Int×List Nat)}{n e:Int}{b:List Nat}(h:EI N B ε)(I:oQ ε now false n e b ε'): EI N B ε' :=
 ⟨I.lp h.ok,(I.ec h.ec h.ok.pins).1,I.el h.el,cy I.cm h.cm⟩
theorem EI.OP {N B:Nat}{ε ε':aO}{now gX:List (Int×List Nat)}{n e:Int}{b:List Nat}(h:EI N B ε)(I:uT ε now false n b e gX ε'): EI N B ε' :=
 ⟨I.lp h.ok,(I.ec h.ec h.ok.pins).1,I.el h.el,cy I.cm h.cm⟩
theorem EI.many {N B:Nat}{ε:aO}(h:EI N B ε): N≤65536:=by
 have:=h.ok.ok.dk.many
 rwa [h.ec.dk.aq] at this
theorem EI.aE {N B:Nat}{ε:aO}(h:EI N B ε): (∀n:Int,n∈ε.1.aE.map (·.1)→0≤n∧n<N)∧ε.1.aE.length≤N:=by
 have I:∀n:Int,n∈ε.1.aE.map (·.1)→0≤n∧n<N:=fun n U=>by
  cases J:lookL n ε.1.aE with
  | none=>exact absurd U (fD.1 J)
  | some i =>
   obtain ⟨h0,j,f,rfl,hf,hp⟩:=h.ec.jR n i J
   have:=(h.ec.back j f hf).resolve_left (by omega)
   exact ⟨h0,hp ▸ this.lt⟩
 have:=vu N _ h.ec.nodup I
 rw [eu] at this
 exact ⟨I,this⟩
theorem EI.aN {N B:Nat}{ε:aO}(h:EI N B ε): ε.1.aN.length≤N:=by
 have:=vu N _ h.ec.yA h.ec.oC
 rwa [eu] at this
theorem EI.writeAll {N B:Nat}{ε:aO}(h:EI N B ε): (writeAllF (aF ε.1.aE) ε).1=0∧EI N B (writeAllF (aF ε.1.aE) ε).2∧∀m,pgA (writeAllF (aF ε.1.aE) ε).2 m=pgA ε m:=by
 obtain ⟨I,J,U⟩:=nP (l:=aF ε.1.aE) h.ec fun n hn=>by
  cases hq:lookL n ε.1.aE with
  | some _=>rfl
  | none=>exact absurd (gh.1 hn) (fD.1 hq)
 obtain ⟨k1,k2,k3⟩:=wR (l:=aF ε.1.aE) h.el h.ok
 exact ⟨I,⟨k2,J,k1,cy k3 h.cm⟩,U⟩
theorem EI.sync {N B:Nat}{ε:aO}(h:EI N B ε): (cH ε.1 ε.2.2).1=0∧EI N B ((cH ε.1 ε.2.2).2.1,(ε.2.1,(cH ε.1 ε.2.2).2.2))∧∀m,0≤m→pgA ((cH ε.1 ε.2.2).2.1,(ε.2.1,(cH ε.1 ε.2.2).2.2)) m=pgA ε m:=by
 obtain ⟨p1,p2,p3⟩:=FN h.ec
 refine ⟨p1,?_,p3⟩
 have e0:ε.2.2.c7=(0,ε.2.2.sync):=by rw [Dk.c7,af (by rw [h.ec.dk.alive]; decide),af (by have:=h.ec.dk.aD; omega),fP h.ec.dk.aD]
 have e:cH ε.1 ε.2.2=(0,{ ε.1 with aN:=ε.1.aN.filter fun e=>e.2.2 },ε.2.2.sync):=by rw [cH,e0,af (by simp)]
 rw [e] at p2 ⊢
 have I:=h.ok.ok.dk
 have U:∀(i:Nat) (b:List Nat),(laidP ε.2.2.now ε.2.2.aq)[i]?=some (some b)→b.length=512:=fun i b J=>by
  have h1:=laidP_get (n:=(i:Int)) h.ec.dk.aq h.ec.dk.nodup h.ec.dk.keys (by omega)
  rw [cQ] at h1
  rw [h1] at J
  cases hq:lookL (i:Int) ε.2.2.now with
  | some x=>rw [hq] at J; simp only at J; have:=bx (bx J); subst this; exact I.now _ (fC hq)
  | none=>rw [hq] at J; exact I.aq i b J
 refine ⟨⟨⟨⟨h.ok.ok.pl.hand,h.ok.ok.pl.many,h.ok.ok.pl.aE,h.ok.ok.pl.len,h.ok.ok.pl.pins⟩,h.ok.ok.lg,⟨I.aD,I.len,I.room,fun e he=>(by cases he),U,I.aJ,by show (laidP _ _).length≤_; rw [mO]; exact I.many⟩⟩,h.ok.pins,⟨h.ok.full.nodup,h.ok.full.jR⟩⟩,p2,⟨h.el.log,h.el.cert,h.el.size⟩,?_⟩
 have:=h.cm
 simp only [Am.cm] at this ⊢
 have e2:ε.2.2.sync.waiting.length=0:=rfl
 omega
theorem EI.clean {N B:Nat}{ε:aO}(h:EI N B ε): (er ε).1=0∧EI N B (er ε).2∧∀m,0≤m→pgA (er ε).2 m=pgA ε m:=by
 obtain ⟨I,J,U⟩:=h.writeAll
 obtain ⟨p1,p2,p3⟩:=J.sync
 have e:er ε=((cH (writeAllF (aF ε.1.aE) ε).2.1 (writeAllF (aF ε.1.aE) ε).2.2.2).1,((cH (writeAllF (aF ε.1.aE) ε).2.1 (writeAllF (aF ε.1.aE) ε).2.2.2).2.1,((writeAllF (aF ε.1.aE) ε).2.2.1,(cH (writeAllF (aF ε.1.aE) ε).2.1 (writeAllF (aF ε.1.aE) ε).2.2.2).2.2))):=by
  rw [er,af (by rw [h.ec.dk.alive]; decide),af (by rw [I]; decide)]
 rw [e]
 exact ⟨p1,p2,fun m hm=>by rw [p3 m hm,U]⟩
theorem EI.force {N B:Nat}{ε:aO}{n:Nat}(h:EI N B ε): (aT ε.2 n).1=0∧EI N B (ε.1,(aT ε.2 n).2)∧∀m,pgA (ε.1,(aT ε.2 n).2) m=pgA ε m:=by
 obtain ⟨f1,f2⟩:=FM (n:=n) h.ec.dk
 obtain ⟨I,J⟩:=h.ec.log f2
 refine ⟨f1,⟨⟨⟨h.ok.ok.pl,sg h.ok.ok.lg,om h.ok.ok.dk⟩,h.ok.pins,h.ok.full⟩,I,h.el.force,?_⟩,J⟩
 have:=h.cm
 simp only [Am.cm,kX] at this ⊢
 exact this
theorem EI.app {N B:Nat}{ε:aO}{kd:Int}{tx pv nx:Nat}{data:List Nat}{c:List cn}(h:EI N B ε)(hB:B≤1000)(hg:dU kd c=true):
  EI N (B+1) (ε.1,(bq ε.2 kd tx pv nx data c).2)∧(∀m,pgA (ε.1,(bq ε.2 kd tx pv nx data c).2) m=pgA ε m) ∧
  (((bq ε.2 kd tx pv nx data c).1.2=0∧bq ε.2 kd tx pv nx data c=((ε.2.1.base+ε.2.1.b.length,0),(ε.2.1.app (dy ε.2.1 kd tx pv nx data c),{ ε.2.2 with log:=ε.2.2.log++dy ε.2.1 kd tx pv nx data c }))) ∨
   (bq ε.2 kd tx pv nx data c).1.2=7∨((bq ε.2 kd tx pv nx data c).1.2=2∧1048576<(dB kd tx pv nx data c).length)):=by
 have hs:=h.el.size
 have I:=vK (kd:=kd) (tx:=tx) (pv:=pv) (nx:=nx) (data:=data) (c:=c) h.ok.ok.lg h.ok.ok.dk h.el.log (by omega)
 have Ar:Am.cm (ε.1,(bq ε.2 kd tx pv nx data c).2)≤(B+1)*65536:=by
  have e:Am.cm (ε.1,(bq ε.2 kd tx pv nx data c).2)=Am.cm ε:=by simp only [Am.cm,I.2.2.2.2.2.1]
  rw [e]
  exact cy h.cm (qY _ (nZ B))
 have eX:(bq ε.2 kd tx pv nx data c).2.1.base+(bq ε.2 kd tx pv nx data c).2.1.b.length≤(B+1)*1048600:=by
  have h1:=I.2.2.2.1
  have h2:=I.2.2.2.2.1
  omega
 have main:∀(hk:DK ε.2.2 (bq ε.2 kd tx pv nx data c).2.2) (hc:(bq ε.2 kd tx pv nx data c).2.1.forced≤(bq ε.2 kd tx pv nx data c).2.2.aJ),EI N (B+1) (ε.1,(bq ε.2 kd tx pv nx data c).2)∧∀m,pgA (ε.1,(bq ε.2 kd tx pv nx data c).2) m=pgA ε m:=fun hk hc=>by
  obtain ⟨l1,l2⟩:=h.ec.log hk
  exact ⟨⟨⟨⟨h.ok.ok.pl,I.1,I.2.1⟩,h.ok.pins,h.ok.full⟩,l1,⟨I.2.2.1,hc,eX⟩,Ar⟩,l2⟩
 rcases ju ε.2 kd tx pv nx data c with ⟨e,he,hc,J⟩ | ⟨hd,hf,J⟩ | ⟨_,_,hd,jq,hf,J⟩
 ·obtain ⟨m1,m2⟩:=main (by rw [J]; exact DK.refl _) (by rw [J]; exact h.el.cert)
  refine ⟨m1,m2,.inr ?_⟩
  rw [J]
  rcases hc with ⟨_,U⟩ | ⟨rfl,U⟩ | ⟨_,U⟩ | ⟨rfl,U⟩
  ·rw [hg] at U; cases U
  ·exact .inr ⟨rfl,U⟩
  ·rw [h.ec.dk.alive] at U; cases U
  ·exact .inl rfl
 ·have:=h.ec.dk.aD; omega
 ·rw [fP h.ec.dk.aD] at J
  obtain ⟨m1,m2⟩:=main (by rw [J]; exact ⟨rfl,rfl,rfl,rfl⟩) (by rw [J]; exact h.el.cert)
  exact ⟨m1,m2,.inl ⟨by rw [J],J⟩⟩
theorem EI.done {N B:Nat}{ε ε':aO}{now:List (Int×List Nat)}{kd:Int}{tx pv nx aK:Nat}{data:List Nat}{e:Int}{cl:Bool}(h:EI N B ε)(hB:B≤1000)(hn:NW N now)(h1:1≤kd)(h2:kd≤7)(hr:sD ε now kd tx pv nx data 0 aK e cl ε'):
  (cl=false∧(e=7∨e=2)∧EI N (B+2) ε'∧∀m,pgA ε' m=pgA ε m) ∨
  (cl=true∧e=0∧EI N (B+2) ε'∧∀m,pgA ε' m=match lookL m now with | some b=>cO b aK | none=>pgA ε m):=by
 have I:∀n∈aF now,0≤n∧n<N:=fun n U=>hn.keys n (gh.1 U)
 have hN:=h.many
 have jq:∀ {c:List cn} {ε':aO} {e:Int},jx now (aF now) ε e c ε'→dU kd c=true:=fun J=>by
  refine Ib ⟨h1,by omega⟩ (J.fit (fun x hx=>fy (hn.good x hx).1) fun n U => ?_)
  have:=I n U
  omega
 cases hr with
 | arg U=>omega
 | dead _ _ _ hd=>rw [h.ec.dk.alive] at hd; cases hd
 | mD e c ε' _ _ _ hd J he=>exact absurd (J.ec h.ec h.ok I).2.2 he
 | app c ε' _ _ _ hd J he =>
  obtain ⟨c1,c2,c3⟩:=J.ec h.ec h.ok I
  have hi:EI N B ε':=⟨J.lp h.ok,c1,J.el h.el,cy J.cm h.cm⟩
  obtain ⟨a1,a2,a3⟩:=hi.app (kd:=kd) (tx:=tx) (pv:=pv) (nx:=nx) (data:=data) (c:=c) hB (jq J)
  refine .inl ⟨rfl,?_,a1.more (by omega),fun m=>by rw [a2,c2]⟩
  rcases a3 with a3 | a3 | a3
  ·exact absurd a3.1 he
  ·exact .inl a3
  ·exact .inr a3.1
 | put c ε' e qg _ _ _ hd J ha hp =>
  obtain ⟨c1,c2,c3⟩:=J.ec h.ec h.ok I
  have hi:EI N B ε':=⟨J.lp h.ok,c1,J.el h.el,cy J.cm h.cm⟩
  obtain ⟨a1,a2,a3⟩:=hi.app (kd:=kd) (tx:=tx) (pv:=pv) (nx:=nx) (data:=data) (c:=c) hB (jq J)
  obtain ⟨p1,p2,p3⟩:=hp.ec a1.ec a1.ok hn I
  have hl:(aF now).length≤N:=by
   have:=hn.len
   rw [aF,(eG _).length_eq,eu]; exact this
  have ZD:=hp.cm a1.ok
  have R9:=a1.cm
  refine .inr ⟨rfl,p2,⟨hp.lp a1.ok,p1,?_,by omega⟩,fun m => ?_⟩
  ·have:=hp.el a1.el
   exact ⟨this.log,this.cert,cy this.size (qY _ (by omega))⟩
  ·rw [aj p2,p3]
   by_cases hm:m∈aF now
   ·rw [aj hm]
    cases U:lookL m now with
    | some b=>rfl
    | none=>exact absurd (gh.1 hm) (fD.1 U)
   ·rw [af hm,a2,c2]
    have:lookL m now=none:=fD.2 fun U=>hm (gh.2 U)
    rw [this]
theorem gE (n:Nat): (digits 9 n).length≤10:=vp 9 n
theorem JL {kd:Int}{tx pv nx:Nat}{data:List Nat}(J:data.length≤4104): (dB kd tx pv nx data []).length≤1048576:=by
 have U:=gE tx
 have h2:=gE pv
 have h3:=gE nx
 have h4:=gE data.length
 have I:=gE ([]:List cn).length
 simp only [dB,bC,bl,bY,List.flatMap_nil] at I ⊢
 omega
theorem EU {N:Nat}{x:LD}{n:Nat}(h:DA N x.2)(I:n<x.1.base+x.1.b.length): n<(aT x n).2.1.base+(aT x n).2.1.forced:=by
 unfold aT
 split
 ·rename_i J; exact J
 ·rw [Cd h,af (by simp)]
  exact I
theorem Rs {μ:Lg}{b:List Nat}: (μ.app b).hasB (μ.base+μ.b.length)=true:=by
 simp only [Lg.hasB,Lg.app,List.any_append,List.any_cons,List.any_nil,rz,m8]
 exact .inr (by simp)
theorem UH {μ:Lg}(h:μ.Ok){n:Nat}(I:μ.hasB n=true): n<μ.base+μ.b.length:=by
 simp only [Lg.hasB,rf,dZ] at I
 obtain ⟨s,hs,rfl⟩:=I
 have:=h.low s hs
 omega
theorem Lg.Ok.cut {μ:Lg}{n:Nat}(h:μ.Ok)(h1:μ.base≤n)(h2:n≤μ.base+μ.b.length): (μ.cut n).Ok:=by
 have hs:=h.size
 have hf:=h.forced
 have hl:=h.len
 have hd:(μ.b.drop (n-μ.base)).length=μ.b.length-(n-μ.base):=nW
 have J:∀s,s∈vL μ n→∃t∈μ.bu,n≤μ.base+t∧s=t-(n-μ.base):=fun s hs=>by
  obtain ⟨t,ht,rfl⟩:=List.mem_map.1 hs
  obtain ⟨I,U⟩:=List.mem_filter.1 ht
  exact ⟨t,I,by simpa using U,rfl⟩
 refine ⟨?_,?_,fun s hs => ?_,?_,?_,?_,h.check⟩
 ·show n+(μ.b.drop (n-μ.base)).length≤_; omega
 ·show (vL μ n).length≤_
  rw [vL,eu]
  exact cy (List.length_filter_le _ _) h.many
 ·obtain ⟨t,I,U,rfl⟩:=J s hs
  have:=h.low t I
  show _<(μ.b.drop (n-μ.base)).length
  omega
 ·show (vL μ n).Pairwise (·< ·)
  rw [vL,List.pairwise_map]
  refine (h.xF.filter _).imp_of_mem fun {a b} ha hb pQ => ?_
  have I:=(List.mem_filter.1 ha).2
  have I:n≤μ.base+a:=by simpa using I
  omega
 ·show μ.forced-(n-μ.base)≤(μ.b.drop (n-μ.base)).length; omega
 ·show (μ.b.drop (n-μ.base)).length≤_; omega
theorem EI.log {N B:Nat}{ε:aO}{x:LD}(h:EI N B ε)(I:x.1.Ok)(J:x.2.Ok)(U:DK ε.2.2 x.2)(hl:EL (B*1048600) x)(hw:x.2.waiting=ε.2.2.waiting): EI N B (ε.1,x)∧∀m,pgA (ε.1,x) m=pgA ε m:=by
 obtain ⟨l1,l2⟩:=h.ec.log U
 refine ⟨⟨⟨⟨h.ok.ok.pl,I,J⟩,h.ok.pins,h.ok.full⟩,l1,hl,?_⟩,l2⟩
 have e:Am.cm (ε.1,x)=Am.cm ε:=by simp only [Am.cm,hw]
 rw [e]; exact h.cm
theorem EI.check {N B:Nat}{ε:aO}{n:Nat}(h:EI N B ε)(U:ε.2.1.hasB n=true∧n<ε.2.1.base+ε.2.1.forced): (jd ε.2 n).1=0∧(jd ε.2 n).2.1={ ε.2.1 with check:=n }∧EI N B (ε.1,(jd ε.2 n).2)∧∀m,pgA (ε.1,(jd ε.2 n).2) m=pgA ε m:=by
 have hm:=UE (b:=eV ε.2.1.base n) h.ec.dk (by rw [nH]; decide)
 have e:jd ε.2 n=(0,({ ε.2.1 with check:=n },{ ε.2.2 with mark:=eV ε.2.1.base n })):=by
  rw [jd,af (not_not_intro U),hm,af (by simp)]
 have hf:=h.ok.ok.lg.forced
 have hs:=h.ok.ok.lg.size
 obtain ⟨I,J⟩:=Du (n:=n) h.ok.ok.lg h.ok.ok.dk (by omega)
 rw [e] at I J ⊢
 exact ⟨rfl,rfl,h.log I J ⟨rfl,rfl,rfl,rfl⟩ ⟨h.el.log,h.el.cert,h.el.size⟩ rfl⟩
theorem EI.cut {N B:Nat}{ε:aO}{n:Nat}(h:EI N B ε)(J:ε.2.1.hasB n=true)(hf:n≤ε.2.1.base+ε.2.1.forced)(hc:ε.2.1.check=0∨n≤ε.2.1.check): (ir ε.2 n).1=0∧EI N B (ε.1,(ir ε.2 n).2)∧∀m,pgA (ε.1,(ir ε.2 n).2) m=pgA ε m:=by
 have h1:=ER J
 have h2:=UH h.ok.ok.lg J
 have qF:=h.ok.ok.lg.forced
 have U:=h.el.cert
 have I:=h.ok.ok.dk
 have O9:=I.aJ
 have FJ:=I.len
 have eX:=h.el.size
 have e1:ε.2.2.nI ((n-ε.2.1.base:Nat):Int) (eV n ε.2.1.check)=(0,{ ε.2.2 with log:=ε.2.2.log.drop (n-ε.2.1.base),aJ:=ε.2.2.aJ-(n-ε.2.1.base),mark:=eV n ε.2.1.check }):=by
  rw [Dk.nI,af (by rw [h.ec.dk.alive]; decide),af (not_not_intro ⟨by omega,by omega,by rw [nH]; decide⟩),af (by have:=h.ec.dk.aD; omega),fP h.ec.dk.aD,cQ]
 have e:ir ε.2 n=(0,(ε.2.1.cut n,{ ε.2.2 with log:=ε.2.2.log.drop (n-ε.2.1.base),aJ:=ε.2.2.aJ-(n-ε.2.1.base),mark:=eV n ε.2.1.check })):=by
  rw [ir,af (by rw [J]; simp; omega),e1,af (by simp)]
 rw [e]
 have hd:(ε.2.2.log.drop (n-ε.2.1.base)).length=ε.2.2.log.length-(n-ε.2.1.base):=nW
 have hd2:(ε.2.1.b.drop (n-ε.2.1.base)).length=ε.2.1.b.length-(n-ε.2.1.base):=nW
 refine ⟨rfl,h.log (h.ok.ok.lg.cut h1 (by omega)) ⟨I.aD,by show (ε.2.2.log.drop _).length≤_; omega,I.room,I.now,I.aq,by show ε.2.2.aJ-_≤(ε.2.2.log.drop _).length; omega,I.many⟩ ⟨rfl,rfl,rfl,rfl⟩ ⟨?_,?_,?_⟩ rfl⟩
 ·show ε.2.1.b.drop _=ε.2.2.log.drop _; rw [h.el.log]
 ·show ε.2.1.forced-_≤ε.2.2.aJ-_; omega
 ·show n+(ε.2.1.b.drop _).length≤_; omega
theorem EI.Rt {N B:Nat}{ε ε':aO}{lo:Nat}{data eo cP:List Nat}{aC eE:Nat}{e:Int}(h:EI N B ε)(hB:B≤1000)(hr:Ii ε lo data eo aC e ε' cP eE):
  EI N (B+1) ε'∧(∀m,pgA ε' m=pgA ε m)∧((e=2∧4096<data.length∧cP=eo)∨(e=7∧cP=eo)∨(e=0∧cP=data)):=by
 cases hr with
 | WW hb=>exact ⟨h.more (by omega),fun _=>rfl,.inl ⟨rfl,hb,rfl⟩⟩
 | dead _ hd=>rw [h.ec.dk.alive] at hd; cases hd
 | go e y cP eE hb hd hc =>
  have hw:=cR 8 (fZ ε)
  obtain ⟨a1,a2,a3⟩:=h.app (kd:=8) (tx:=0) (pv:=0) (nx:=0) (data:=le 8 (fZ ε)++data) (c:=[]) hB (by decide)
  have ey:bq ε.2 8 0 0 0 (le 8 (fZ ε)++data) []=m4 ε data:=rfl
  rw [ey] at a1 a2 a3
  have a3:((m4 ε data).1.2=0∧m4 ε data=((ε.2.1.base+ε.2.1.b.length,0),(ε.2.1.app (dy ε.2.1 8 0 0 0 (le 8 (fZ ε)++data) []),{ ε.2.2 with log:=ε.2.2.log++dy ε.2.1 8 0 0 0 (le 8 (fZ ε)++data) [] })))∨(m4 ε data).1.2=7:=by
   rcases a3 with a3 | a3 | ⟨_,a3⟩
   ·exact .inl a3
   ·exact .inr a3
   ·have:=JL (kd:=8) (tx:=0) (pv:=0) (nx:=0) (data:=le 8 (fZ ε)++data) (by rw [bC]; omega)
    omega
  have uM:fZ ε≤ε.2.1.base+ε.2.1.b.length:=ES _ _ _
  have hkp:uX ε lo≤ε.2.1.base+ε.2.1.b.length:=by
   rw [uX]; split <;> omega
  rcases a3 with ⟨a0,a3⟩ | a3
  ·have FD:8≤(dy ε.2.1 8 0 0 0 (le 8 (fZ ε)++data) []).length:=by rw [dy,rN]; omega
   generalize dy ε.2.1 8 0 0 0 (le 8 (fZ ε)++data) []=rc at FD a3
   generalize m4 ε data=I at *
   have n1:I.1.1=ε.2.1.base+ε.2.1.b.length:=by rw [a3]
   have n2:I.2.1=ε.2.1.app rc:=by rw [a3]
   -- the log is forced
   obtain ⟨f1,f2,f3⟩:=a1.force (n:=I.1.1)
   have f1:(lR I).1=0:=f1
   have f2:EI N (B+1) (ε.1,(lR I).2):=f2
   have f3:∀m,pgA (ε.1,(lR I).2) m=pgA (ε.1,I.2) m:=f3
   have sU:I.1.1<I.2.1.base+I.2.1.b.length:=by
    rw [n1,n2]; show _<ε.2.1.base+(ε.2.1.b++rc).length; rw [bC]; omega
   have f4:I.1.1<(lR I).2.1.base+(lR I).2.1.forced:=EU a1.ec.dk sU
   have f5:=Al (π:=ε.1) (x:=I.2) (n:=I.1.1)
   have f6:(lR I).2.1.base=I.2.1.base:=f5.base
   have f7:(lR I).2.1.bu=I.2.1.bu:=f5.bu
   have f8:(lR I).2.1.hasB I.1.1=true:=by
    have:I.2.1.hasB I.1.1=true:=by rw [n1,n2]; exact Rs
    rw [Lg.hasB,f6,f7]; exact this
   -- the mark
   obtain ⟨c1,c2,J,c4⟩:=f2.check (n:=I.1.1) ⟨f8,f4⟩
   have c1:(gG I).1=0:=c1
   have c2:(gG I).2.1={ (lR I).2.1 with check:=I.1.1 }:=c2
   have J:EI N (B+1) (ε.1,(gG I).2):=J
   have c4:∀m,pgA (ε.1,(gG I).2) m=pgA (ε.1,(lR I).2) m:=c4
   have U:∀m,pgA (ε.1,(gG I).2) m=pgA ε m:=fun m=>by rw [c4,f3,a2]
   cases hc with
   | app he=>exact absurd a0 he
   | force _ he=>exact absurd f1 he
   | check _ _ he=>exact absurd c1 he
   | cut t _ _ _ ht bV _ =>
    have HF:I.1.1<(gG I).2.1.base+(gG I).2.1.b.length:=by
     have:=J.ok.ok.lg.forced
     have e1:(gG I).2.1.base=(lR I).2.1.base:=by rw [c2]
     have e2:(gG I).2.1.forced=(lR I).2.1.forced:=by rw [c2]
     simp only at this
     omega
    have Iv:(gG I).2.1.hasB t=true∧t≤uX ε lo:=by
     rcases ht with ⟨_,ht⟩ | ht | ht
     ·omega
     ·exact ht
     ·omega
    have e1:(gG I).2.1.base=(lR I).2.1.base:=by rw [c2]
    have e2:(gG I).2.1.forced=(lR I).2.1.forced:=by rw [c2]
    have e3:(gG I).2.1.check=I.1.1:=by rw [c2]
    obtain ⟨k1,k2,k3⟩:=J.cut Iv.1 (by show t≤(gG I).2.1.base+(gG I).2.1.forced; omega) (.inr (by show t≤(gG I).2.1.check; omega))
    exact ⟨k2,fun m=>(k3 m).trans (U m),.inr (.inr ⟨k1,rfl⟩)⟩
   | cX _ _ _ _=>exact ⟨J,U,.inr (.inr ⟨rfl,rfl⟩)⟩
  ·generalize m4 ε data=I at *
   cases hc with
   | app he=>exact ⟨a1,a2,.inr (.inl ⟨a3,rfl⟩)⟩
   | force h0=>omega
   | check h0=>omega
   | cut t h0=>omega
   | cX h0=>omega
def iu (π:Pl)(n:Int)(b:List Nat): Prop:=∃(i:Nat) (f:Fm),π.ak[i]?=some f∧f.aM=n∧0≤n∧f.changed=true∧f.b=b
abbrev VP := (Int→List Nat→Prop)→List (Int×(Nat×Bool))→LD→Prop
abbrev vw (P:VP)(ε:aO): Prop:=P (iu ε.1) ε.1.aN ε.2
theorem Ru {π I:Pl}(hn:gj π I): iu I=iu π:=by
 funext n b
 refine propext ⟨fun ⟨i,x,hx,J,U,h2,h3⟩ => ?_,fun ⟨i,f,hf,J,U,h2,h3⟩ => ?_⟩
 ·obtain ⟨f,t,hf,rfl⟩:=hn.back hx
  exact ⟨i,f,hf,J,U,h2,h3⟩
 ·obtain ⟨t,ht⟩:=hn.get i f hf
  exact ⟨i,_,ht,J,U,h2,h3⟩
theorem Bg {π:Pl}{i:Nat}{f g:Fm}(J:π.ak[i]?=some f)(hs:∀n b,(f.aM=n∧0≤n∧f.changed=true∧f.b=b)↔(g.aM=n∧0≤n∧g.changed=true∧g.b=b)){w:List (Int×Int)}{d:List (Int×(Nat×Bool))}{hd:Nat}: iu ⟨π.ak.set i g,w,d,hd⟩=iu π:=by
 have hi:=(List.getElem?_eq_some_iff.1 J).1
 funext n b
 refine propext ⟨fun ⟨j,x,I,h⟩ => ?_,fun ⟨j,x,I,h⟩ => ?_⟩
 ·rcases nO J I with ⟨rfl,rfl⟩ | ⟨_,I⟩
  ·exact ⟨i,f,J,(hs n b).2 h⟩
  ·exact ⟨j,x,I,h⟩
 ·by_cases U:i=j
  ·subst U
   rw [J] at I
   have:=bx I
   subst this
   exact ⟨i,g,iT hi,(hs n b).1 h⟩
  ·exact ⟨j,x,by show (π.ak.set i g)[j]?=some x; rw [iU U]; exact I,h⟩
theorem O_ {π:Pl}{i:Nat}{f g:Fm}(J:π.ak[i]?=some g)(U:0≤g.aM→g.changed=false): iu (dH π i f)=iu π :=
 Bg J fun n b=>⟨(fun ⟨h1,h0,I,_⟩=>by rw [U (by omega)] at I; cases I),fun ⟨_,_,I,_⟩=>(by cases I)⟩
theorem Mr {π:Pl}{i:Nat}{e:Fm}{n:Int}{b:List Nat}(he:π.ak[i]?=some e)(J:e.aM<0): iu (jQ π i n b)=iu π :=
 Bg he fun m c=>⟨fun ⟨U,h0,_⟩=>by omega,fun ⟨_,_,I,_⟩=>(by cases I)⟩
structure j7 (N:Nat)(P:VP): Prop where
 one:∀(ε:aO) (i:Nat) (f:Fm),EC N ε→ε.1.ak[i]?=some f→0≤f.aM→f.changed=true→vw P ε→vw P (outF ε i).2
theorem kY.oD {R:LD→Prop}(h:kY R)(N:Nat): j7 N (fun _ _ x=>R x):=⟨fun _ _ _ _ _ _ _ I=>h.out I⟩
section
variable {N:Nat} {P:VP} {ε ε':aO} {n e:Int} {b:List Nat} {now gX:List (Int×List Nat)} {l:List Int} {cs:List cn}
theorem j7.out (h:j7 N P){i:Nat}{f:Fm}(he:EC N ε)(I:ε.1.ak[i]?=some f)(J:vw P ε): vw P (outF ε i).2:=by
 by_cases U:f.aM<0∨f.changed=false
 ·have e:outF ε i=(0,ε):=by simp only [outF,I,aj U]
  rw [e]; exact J
 ·exact h.one ε i f he I (by omega) (by cases hq:f.changed with | true=>rfl | false=>exact absurd (.inr hq) U) J
theorem j7.jf (h:j7 N P)(hr:gn ε n e b ε')(he:EC N ε)(hv:vw P ε): vw P ε':=by
 cases hr with
 | arg J=>exact hv
 | BF i f h1 h2 hl U =>
  show P (iu ⟨ε.1.ak.set i { f with fA:=true,pins:=f.pins+1 },ε.1.aE,ε.1.aN,ε.1.hand⟩) ε.1.aN ε.2
  rw [Bg U (g:={ f with fA:=true,pins:=f.pins+1 }) (fun n b=>Iff.rfl)]
  exact hv
 | out I i f h1 h2 hl J U hh hq=>exact absurd ((he.rQ J).1.out U).1 hq
 | read I i f h1 h2 hl J U hh hq hr =>
  obtain ⟨k1,k2,k3,k4,g,k5,k6,k7⟩:=(he.rQ J).1.out U
  refine absurd ?_ hr
  rw [he.dk.aq] at h2
  rw [Dk.r_,af (by rw [k2.dk.alive]; decide),af (by rw [k2.dk.aq]; exact not_not_intro ⟨h1,h2⟩)]
 | bad I i f h1 h2 hl J U hh hq hr hc =>
  obtain ⟨k1,k2,k3,k4,g,k5,k6,k7⟩:=(he.rQ J).1.out U
  rw [he.dk.aq] at h2
  exact absurd (k2.dk.good n h1 h2) hc
 | load I i f h1 h2 hl J U hh hq hr hc =>
  obtain ⟨n1,n2⟩:=he.rQ J
  have uN:vw P (I,ε.2):=by show P (iu I) I.aN ε.2; rw [Ru J,J.aN]; exact hv
  have oz:=h.out (ε:=(I,ε.2)) n1 U uN
  obtain ⟨k1,k2,k3,k4,g,k5,k6,k7⟩:=n1.out U
  have e1:=O_ (f:=f) k5 k7
  have hg:(dH (outF (I,ε.2) i).2.1 i f).ak[i]?=some fe:=(k2.dH k5 k6 k7).2.2.1
  show P (iu (jQ (dH (outF (I,ε.2) i).2.1 i f) i n ((outF (I,ε.2) i).2.2.2.at n))) (outF (I,ε.2) i).2.1.aN (outF (I,ε.2) i).2.2
  rw [Mr hg (by decide),e1]
  exact oz
theorem FO {π:Pl}: iu (unpinF π n).2=iu π∧(unpinF π n).2.aN=π.aN:=by
 unfold unpinF
 split
 ·exact ⟨rfl,rfl⟩
 ·split
  ·exact ⟨rfl,rfl⟩
  ·rename_i i hi f I
   exact ⟨Bg I (g:={ f with pins:=f.pins-1 }) (fun n b=>Iff.rfl),rfl⟩
theorem j7.rd (h:j7 N P)(I:mP ε n e b ε')(he:EC N ε)(J:vw P ε): vw P ε':=by
 cases I with
 | dead U=>exact J
 | jf e b ε' U I _=>exact h.jf I he J
 | tw b ε' U I _ =>
  have:=h.jf I he J
  obtain ⟨u1,u2⟩:=FO (π:=ε'.1) (n:=n)
  show P (iu (unpinF ε'.1 n).2) (unpinF ε'.1 n).2.aN ε'.2
  rw [u1,u2]; exact this
 | read b ε' U I _ =>
  have:=h.jf I he J
  obtain ⟨u1,u2⟩:=FO (π:=ε'.1) (n:=n)
  show P (iu (unpinF ε'.1 n).2) (unpinF ε'.1 n).2.aN ε'.2
  rw [u1,u2]; exact this
theorem j7.An (h:j7 N P)(I:oQ ε now false n e b ε')(he:EC N ε)(J:vw P ε): vw P ε':=by
 cases I with
 | arg hn=>exact J
 | b9 _ _ ho=>cases ho
 | own b U h2 _ hl=>exact J
 | read e b ε' U h2 _ hl I=>exact h.rd I he J
theorem j7.OP (h:j7 N P)(I:uT ε now false n b e gX ε')(he:EC N ε)(J:vw P ε): vw P ε':=by
 cases I with
 | may e c ε' I _=>exact h.An I he J
 | bad c ε' I U=>exact h.An I he J
 | done c ε' I U=>exact h.An I he J
theorem j7.ch (h:j7 N P)(I:jx now l ε e cs ε'): EC N ε→gW ε→vw P ε→vw P ε':=by
 induction I with
 | nil ε=>exact fun _ _ J=>J
 | err n l ε e b ε' I _=>exact fun he _ J=>h.rd I he J
 | part n l ε cV b ε' c e cs U I hb hd hc kg ht ih=>exact fun he h3 J=>ih (I.ec he h3.pins).1 (I.lp h3) (h.rd I he J)
 | whole n l ε cV b ε' e cs U I hb hd ht ih=>exact fun he h3 J=>ih (I.ec he h3.pins).1 (I.lp h3) (h.rd I he J)
end
end Go.Proofs.YtconhghphklfjaaGreat.Am
