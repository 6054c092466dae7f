/- AtomSame: a part of its proof; conditions: its statement's. -/
import Derived.Test.YtconhghphklfjaaGreatS32
namespace Go.Proofs.YtconhghphklfjaaGreat.Am
open Go
theorem uX : ∀(N:Nat) (l:List Int),l.Nodup→(∀n∈l,0≤n∧n<N)→l.length≤N:=by
 intro N
 induction N with
 | zero =>
  intro l _ h
  cases l with
  | nil=>exact aL _
  | cons n l=>have:=h n bp; omega
 | succ N U =>
  intro l J h
  have h1:=U (l.erase (N:Int)) (J.erase _) fun n hn=>by
   have I:=(J.mem_erase_iff).1 hn
   have:=h n I.2
   have:=I.1
   omega
  have I:l.length≤(l.erase (N:Int)).length+1:=by
   rw [List.length_erase]; split <;> omega
  omega
structure NW (N:Nat)(now:List (Int×List Nat)): Prop where
 good:∀e∈now,bU e.2=true∧∀x∈e.2,x<256
 keys:∀k:Int,k∈now.map (·.1)→0≤k∧k<N
 nodup:(now.map (·.1)).Nodup
theorem NW.nil (N:Nat): NW N []:=⟨fun e h=>(by cases h),fun k h=>(by cases h),ki⟩
theorem CV {α:Type}{n:Int}{a:α}: ∀ {l:List (Int×α)} {e:Int×α},e∈cK n a l→e=(n,a)∨e∈l:=by
 intro l
 induction l with
 | nil=>intro e h; simp only [cK,vp] at h; exact .inl h
 | cons x l I =>
  intro e h
  simp only [cK] at h
  split at h
  ·rcases List.mem_cons.1 h with h | h
   ·exact .inl h
   ·exact .inr (bl _ h)
  ·rcases List.mem_cons.1 h with h | h
   ·exact .inr (by rw [h]; exact bp)
   ·rcases I h with h | h
    ·exact .inl h
    ·exact .inr (bl _ h)
theorem NW.put {N:Nat}{now:List (Int×List Nat)}{n:Int}{b:List Nat}(h:NW N now)(J:0≤n)(U:n<N)(hg:bU b=true)(hb:∀x∈b,x<256): NW N (cK n b now):=by
 refine ⟨fun e he => ?_,fun k I => ?_,iI h.nodup⟩
 ·rcases CV he with rfl | he
  ·exact ⟨hg,hb⟩
  ·exact h.good e he
 ·rcases oH.1 I with rfl | I
  ·exact ⟨J,U⟩
  ·exact h.keys k I
theorem NW.len {N:Nat}{now:List (Int×List Nat)}(h:NW N now): now.length≤N:=by
 have:=uX N _ h.nodup h.keys
 rwa [d_] at this
theorem NW.look {N:Nat}{now:List (Int×List Nat)}(h:NW N now){n:Int}{b:List Nat}(I:lookL n now=some b): bU b=true∧∀x∈b,x<256:=h.good _ (fe I)
theorem uv.ec {N:Nat}{ε ε':aM}{now gL:List (Int×List Nat)}{n e:Int}{b:List Nat}(I:uv ε now false n b e gL ε')(h:EC N ε)(hp:∀f∈ε.1.ak,f.pins=0): EC N ε'∧(∀m,pgA ε' m=pgA ε m) ∧
  (¬(0≤n∧n<N)→e=1∧gL=now)∧(0≤n→n<N→bU b=false→e=4∧gL=now)∧(0≤n→n<N→bU b=true→e=0∧gL=cK n b now):=by
 cases I with
 | may e c ε' I he =>
  obtain ⟨k1,k2,k3,J⟩:=I.ec h hp
  exact ⟨k1,k2,fun U=>⟨J U,rfl⟩,fun a b _=>absurd (k3 a b).1 he,fun a b _=>absurd (k3 a b).1 he⟩
 | bad c ε' I hg =>
  obtain ⟨k1,k2,k3,J⟩:=I.ec h hp
  exact ⟨k1,k2,fun U=>absurd (J U) (by decide),fun _ _ _=>⟨rfl,rfl⟩,fun _ _ hq=>by rw [hg] at hq; cases hq⟩
 | done c ε' I hg =>
  obtain ⟨k1,k2,k3,J⟩:=I.ec h hp
  exact ⟨k1,k2,fun U=>absurd (J U) (by decide),fun _ _ hq=>(by rw [hg] at hq; cases hq),fun _ _ _=>⟨rfl,rfl⟩⟩
theorem jh.ec {N:Nat}{now:List (Int×List Nat)}{l:List Int}{ε ε':aM}{e:Int}{cs:List cm}(I:jh now l ε e cs ε'): EC N ε→gZ ε→(∀n∈l,0≤n∧n<N)→EC N ε'∧(∀m,pgA ε' m=pgA ε m)∧e=0:=by
 induction I with
 | nil ε=>intro h _ _; exact ⟨h,fun _=>rfl,rfl⟩
 | err n l ε e b ε' I he =>
  intro h J U
  obtain ⟨k1,k2,k3,k4⟩:=I.ec h J.pins
  have:=U n bp
  exact absurd (k3 this.1 this.2).1 he
 | part n l ε cP b ε' c e cs ox I hb hd hc lK ht ih =>
  intro h J U
  obtain ⟨k1,k2,k3,k4⟩:=I.ec h J.pins
  obtain ⟨i1,i2,i3⟩:=ih k1 (I.kJ J) fun m hm=>U m (bl _ hm)
  exact ⟨i1,fun m=>by rw [i2,k2],i3⟩
 | whole n l ε cP b ε' e cs ox I hb hd ht ih =>
  intro h J U
  obtain ⟨k1,k2,k3,k4⟩:=I.ec h J.pins
  obtain ⟨i1,i2,i3⟩:=ih k1 (I.kJ J) fun m hm=>U m (bl _ hm)
  exact ⟨i1,fun m=>by rw [i2,k2],i3⟩
theorem EC.log {N:Nat}{ε:aM}{x:LD}(h:EC N ε)(k:DK ε.2.2 x.2): EC N (ε.1,x)∧∀m,pgA (ε.1,x) m=pgA ε m:=by
 refine ⟨⟨h.dk.of k,h.nodup,h.j6,fun i f J => ?_,h.rq,h.zu⟩,fun m => ?_⟩
 ·rcases h.back i f J with I | I
  ·exact .inl I
  ·exact .inr ⟨I.lt,I.here,I.aD,fun U=>by rw [k.at]; exact I.same U,I.mB⟩
 ·unfold pgA
  simp only [k.at]
theorem EC.put {N:Nat}{ε:aM}{n:Int}{i:Nat}{f:Fm}{b:List Nat}{aF:Nat}(h:EC N ε)(hl:lookL n ε.1.aH=some (i:Int))(U:ε.1.ak[i]?=some f)(hg:bU b=true)(hb:∀x∈b,x<256)(h0:0≤n)(h1:n<N):
  EC N (uy ε.1 n i f b aF,ε.2)∧∀m,pgA (uy ε.1 n i f b aF,ε.2) m=if m=n then cM b aF else pgA ε m:=by
 obtain ⟨s1,s2,s3⟩:=y_ (n:=aF) hg hb
 have hi:=(List.getElem?_eq_some_iff.1 U).1
 have hp:f.aK=n:=by
  obtain ⟨_,j,x,tM,J,v7⟩:=h.j6 n i hl
  have:i=j:=by omega
  subst this
  rw [U] at J
  rw [bt J]; exact v7
 have ho:=(h.back i f U).resolve_left (by omega)
 refine ⟨h.set (y:=ε.2.1) (δ:=ε.2.2) U rfl h.dk (.inr ⟨ho.lt,ho.here,s1,fun hq=>(by cases hq),fun _=>s2⟩) (fun _ _ _ _ _=>rfl) (fun k hk => ?_) (iI h.zu),fun m => ?_⟩
 ·rcases oH.1 hk with rfl | hk
  ·exact ⟨h0,h1⟩
  ·exact h.rq k hk
 ·by_cases hm:m=n
  ·subst hm
   rw [aj rfl]
   exact oN (ε:=(uy ε.1 m i f b aF,ε.2)) hl (iL hi)
  ·rw [af hm]
   rcases h.cases m with ⟨j,x,I,J,v7,_,_,e2⟩ | ⟨I,e2⟩
   ·rw [e2]
    refine oN (ε:=(uy ε.1 n i f b aF,ε.2)) I ?_
    show (ε.1.ak.set i _)[j]?=some x
    rw [iM]
    ·exact J
    ·rintro rfl
     rw [U] at J
     have:=bt J
     subst this
     omega
   ·rw [e2]
    exact mI (ε:=(uy ε.1 n i f b aF,ε.2)) I
theorem qo.ec {N:Nat}{now:List (Int×List Nat)}{aF:Nat}{l:List Int}{ε ε':aM}{e:Int}(I:qo now aF l ε e ε'): EC N ε→gZ ε→NW N now→(∀n∈l,0≤n∧n<N)→EC N ε'∧e=0 ∧
  ∀m,pgA ε' m=if m∈l then (match lookL m now with | some b=>cM b aF | none=>pgA ε m) else pgA ε m:=by
 induction I with
 | nil ε=>intro h _ _ _; exact ⟨h,rfl,fun m=>by rw [af (by simp)]⟩
 | iU n l ε e b ε' I he =>
  intro h U hn hl
  have:=hl n bp
  exact absurd ((I.ec h).2.2.1 this.1 this.2).1 he
 | bad n l ε b0 b ε' I hb he =>
  intro h U hn hl
  exact absurd ((I.put (b:=b) (aF:=aF) U).2.2 (hn.look hb).1) he
 | put n l ε b0 b ε' e ox I hb he ht ih =>
  intro h U hn hl
  have uA:=hl n bp
  obtain ⟨k1,k2,k3,k4⟩:=I.ec h
  obtain ⟨i,f,p1,p2,p3,p4,p5⟩:=I.at U.pins
  have hg:=hn.look hb
  have e1:=xb (aF:=aF) p1 p2 p3 hg.1
  obtain ⟨q1,q2⟩:=k1.put (aF:=aF) p1 p2 hg.1 hg.2 uA.1 uA.2
  have F4:=(I.put (b:=b) (aF:=aF) U).1
  rw [e1] at ih F4
  obtain ⟨i1,i2,i3⟩:=ih q1 F4 hn fun m hm=>hl m (bl _ hm)
  refine ⟨i1,i2,fun m => ?_⟩
  rw [i3,q2]
  by_cases hm:m=n
  ·subst hm
   rw [aj rfl,aj (bp)]
   split
   ·rw [hb]
   ·rw [hb]
  ·rw [af hm,k2]
   by_cases J:m∈l
   ·rw [aj J,aj (bl _ J)]
   ·rw [af J,af (by simp [hm,J])]
theorem qp {N:Nat}: ∀ {l:List Int} {ε:aM},EC N ε→(∀n∈l,(lookL n ε.1.aH).isSome=true)→(writeAllF l ε).1=0∧EC N (writeAllF l ε).2∧(∀m,pgA (writeAllF l ε).2 m=pgA ε m):=by
 intro l
 induction l with
 | nil=>intro ε h _; exact ⟨rfl,h,fun _=>rfl⟩
 | cons n l ih =>
  intro ε h J
  have U:=J n bp
  cases I:lookL n ε.1.aH with
  | none=>rw [I] at U; cases U
  | some i =>
   obtain ⟨_,j,f,rfl,hf,hp⟩:=h.j6 n i I
   obtain ⟨k1,k2,k3,k4,_⟩:=h.out hf
   have e:ee ε n=outF ε j:=by rw [ee,I]; simp only [cQ]
   rw [writeAllF,e,af (by rw [k1]; decide)]
   obtain ⟨i1,i2,i3⟩:=ih k2 fun m hm=>by rw [k4]; exact J m (bl _ hm)
   exact ⟨i1,i2,fun m=>by rw [i3,k3]⟩
theorem E8 {N:Nat}{ε:aM}(h:EC N ε): (dK ε.1 ε.2.2).1=0∧EC N ((dK ε.1 ε.2.2).2.1,(ε.2.1,(dK ε.1 ε.2.2).2.2))∧∀m,0≤m→pgA ((dK ε.1 ε.2.2).2.1,(ε.2.1,(dK ε.1 ε.2.2).2.2)) m=pgA ε m:=by
 obtain ⟨s1,s2,s3⟩:=TJ h.dk
 have e:dK ε.1 ε.2.2=(0,{ ε.1 with aQ:=ε.1.aQ.filter fun e=>e.2.2 },ε.2.2.dQ.2):=by rw [dK,af (by rw [s1]; decide)]
 rw [e]
 have J:∀k,k∈((ε.1.aQ.filter fun e=>e.2.2).map (·.1))→k∈ε.1.aQ.map (·.1):=fun k U=>by
  obtain ⟨x,hx,rfl⟩:=List.mem_map.1 U
  exact iX (List.mem_filter.1 hx).1
 refine ⟨rfl,⟨s2,h.nodup,h.j6,fun i f hf => ?_,fun k U=>h.rq k (J k U),(List.filter_sublist.map _).nodup h.zu⟩,fun m hm => ?_⟩
 ·rcases h.back i f hf with I | I
  ·exact .inl I
  ·by_cases h0:f.aK<0
   ·exact .inl h0
   ·exact .inr ⟨I.lt,I.here,I.aD,fun hc=>by rw [s3 _ (by omega)]; exact I.same hc,I.mB⟩
 ·unfold pgA
  simp only [s3 m hm]
theorem On {N:Nat}{ε:aM}(h:EC N ε): (fH ε).1=0∧EC N (fH ε).2∧∀m,0≤m→pgA (fH ε).2 m=pgA ε m:=by
 obtain ⟨I,J,U⟩:=qp (l:=aJ ε.1.aH) h fun n hn=>by
  cases hq:lookL n ε.1.aH with
  | some _=>rfl
  | none=>exact absurd (gN.1 hn) (fU.1 hq)
 obtain ⟨p1,p2,p3⟩:=E8 J
 have e:fH ε=((dK (writeAllF (aJ ε.1.aH) ε).2.1 (writeAllF (aJ ε.1.aH) ε).2.2.2).1,((dK (writeAllF (aJ ε.1.aH) ε).2.1 (writeAllF (aJ ε.1.aH) ε).2.2.2).2.1,((writeAllF (aJ ε.1.aH) ε).2.2.1,(dK (writeAllF (aJ ε.1.aH) ε).2.1 (writeAllF (aJ ε.1.aH) ε).2.2.2).2.2))):=by
  rw [fH,af (by rw [h.dk.alive]; decide),af (by rw [I]; decide)]
 rw [e]
 exact ⟨p1,p2,fun m hm=>by rw [p3 m hm,U]⟩
structure EL (K:Nat)(x:LD): Prop where
 log:x.1.b=x.2.log
 cert:x.1.forced≤x.2.aR
 size:x.1.base+x.1.b.length≤K
theorem EL.force {K:Nat}{x:LD}{n:Nat}(h:EL K x): EL K (bB x n).2:=by
 unfold bB Dk.cG
 split
 ·exact h
 ·by_cases I:x.2.dead=true
  ·rw [aj I,aj (show (9:Int)≠0 by decide)]; exact h
  ·rw [af I]
   by_cases J:x.2.aI=0
   ·rw [aj J,aj (show (9:Int)≠0 by decide)]; exact ⟨h.log,h.cert,h.size⟩
   ·rw [af J,af (show ¬(0:Int)≠0 by decide)]; exact ⟨h.log,by show x.1.b.length≤x.2.log.length; rw [h.log]; exact aL _,h.size⟩
theorem EL.write {K:Nat}{x:LD}{n:Int}{b:List Nat}(h:EL K x): EL K (x.1,(x.2.bJ n b).2):=by
 unfold Dk.bJ
 split
 ·exact h
 ·split
  ·exact h
  ·split <;> exact ⟨h.log,h.cert,h.size⟩
theorem tC (K:Nat): kL (EL K):=⟨fun _ _ h=>h.force,fun _ _ _ h=>h.write⟩
theorem EL.out {K:Nat}{ε:aM}{i:Nat}(h:EL K ε.2): EL K (outF ε i).2.2:=(tC K).out h
theorem mD.el {K:Nat}{ε ε':aM}{n e:Int}{b:List Nat}(I:mD ε n e b ε')(h:EL K ε.2): EL K ε'.2:=(tC K).rd I h
theorem ow.el {K:Nat}{ε ε':aM}{now:List (Int×List Nat)}{b_:Bool}{n e:Int}{b:List Nat}(I:ow ε now b_ n e b ε')(h:EL K ε.2): EL K ε'.2:=(tC K).y6 I h
theorem uv.el {K:Nat}{ε ε':aM}{now gL:List (Int×List Nat)}{b_:Bool}{n e:Int}{b:List Nat}(I:uv ε now b_ n b e gL ε')(h:EL K ε.2): EL K ε'.2:=(tC K).N5 I h
theorem jh.el {K:Nat}{now:List (Int×List Nat)}{l:List Int}{ε ε':aM}{e:Int}{cs:List cm}(I:jh now l ε e cs ε')(h:EL K ε.2): EL K ε'.2:=(tC K).ch I h
theorem qo.el {K:Nat}{now:List (Int×List Nat)}{aF:Nat}{l:List Int}{ε ε':aM}{e:Int}(I:qo now aF l ε e ε')(h:EL K ε.2): EL K ε'.2:=(tC K).pt I h
theorem Ed {K:Nat}: ∀ {l:List Int} {ε:aM},EL K ε.2→gZ ε→EL K (writeAllF l ε).2.2∧gZ (writeAllF l ε).2∧cu (writeAllF l ε).2≤cu ε:=by
 intro l
 induction l with
 | nil=>intro ε h I; exact ⟨h,I,aL _⟩
 | cons n l J =>
  intro ε h I
  have step:EL K (ee ε n).2.2∧gZ (ee ε n).2∧cu (ee ε n).2≤cu ε:=by
   unfold ee
   split
   ·exact ⟨h,I,aL _⟩
   ·exact ⟨h.out,⟨q_ I.ok,rU I.pins,rT I.full⟩,Hu⟩
  rw [writeAllF]
  split
  ·exact step
  ·have i:=J (ε:=(ee ε n).2) step.1 step.2.1
   exact ⟨i.1,i.2.1,cI i.2.2 step.2.2⟩
structure EI (N B:Nat)(ε:aM): Prop where
 ok:gZ ε
 ec:EC N ε
 el:EL (B*1048600) ε.2
 cu:cu ε≤B*65536
theorem EI.more {N B:Nat}{ε:aM}(h:EI N B ε){I:Nat}(J:B≤I): EI N I ε :=
 ⟨h.ok,h.ec,⟨h.el.log,h.el.cert,cI h.el.size (qD _ J)⟩,cI h.cu (qD _ J)⟩
theorem EI.rd {N B:Nat}{ε ε':aM}{n e:Int}{b:List Nat}(h:EI N B ε)(I:mD ε n e b ε'): EI N B ε' :=
 ⟨I.kJ h.ok,(I.ec h.ec h.ok.pins).1,I.el h.el,cI I.cu h.cu⟩
theorem EI.y6 {N B:Nat}{ε ε':aM}{now:List (Int×List Nat)}{n e:Int}{b:List Nat}(h:EI N B ε)(I:ow ε now false n e b ε'): EI N B ε' :=
 ⟨I.kJ h.ok,(I.ec h.ec h.ok.pins).1,I.el h.el,cI I.cu h.cu⟩
theorem EI.N5 {N B:Nat}{ε ε':aM}{now gL:List (Int×List Nat)}{n e:Int}{b:List Nat}(h:EI N B ε)(I:uv ε now false n b e gL ε'): EI N B ε' :=
 ⟨I.kJ h.ok,(I.ec h.ec h.ok.pins).1,I.el h.el,cI I.cu h.cu⟩
theorem EI.many {N B:Nat}{ε:aM}(h:EI N B ε): N≤65536:=by
 have:=h.ok.ok.dk.many
 rwa [h.ec.dk.aq] at this
theorem EI.aH {N B:Nat}{ε:aM}(h:EI N B ε): (∀n:Int,n∈ε.1.aH.map (·.1)→0≤n∧n<N)∧ε.1.aH.length≤N:=by
 have I:∀n:Int,n∈ε.1.aH.map (·.1)→0≤n∧n<N:=fun n U=>by
  cases J:lookL n ε.1.aH with
  | none=>exact absurd U (fU.1 J)
  | some i =>
   obtain ⟨h0,j,f,rfl,hf,hp⟩:=h.ec.j6 n i J
   have:=(h.ec.back j f hf).resolve_left (by omega)
   exact ⟨h0,hp ▸ this.lt⟩
 have:=uX N _ h.ec.nodup I
 rw [d_] at this
 exact ⟨I,this⟩
theorem EI.aQ {N B:Nat}{ε:aM}(h:EI N B ε): ε.1.aQ.length≤N:=by
 have:=uX N _ h.ec.zu h.ec.rq
 rwa [d_] at this
theorem EI.writeAll {N B:Nat}{ε:aM}(h:EI N B ε): (writeAllF (aJ ε.1.aH) ε).1=0∧EI N B (writeAllF (aJ ε.1.aH) ε).2∧∀m,pgA (writeAllF (aJ ε.1.aH) ε).2 m=pgA ε m:=by
 obtain ⟨I,J,U⟩:=qp (l:=aJ ε.1.aH) h.ec fun n hn=>by
  cases hq:lookL n ε.1.aH with
  | some _=>rfl
  | none=>exact absurd (gN.1 hn) (fU.1 hq)
 obtain ⟨k1,k2,k3⟩:=Ed (l:=aJ ε.1.aH) h.el h.ok
 exact ⟨I,⟨k2,J,k1,cI k3 h.cu⟩,U⟩
theorem EI.sync {N B:Nat}{ε:aM}(h:EI N B ε): (dK ε.1 ε.2.2).1=0∧EI N B ((dK ε.1 ε.2.2).2.1,(ε.2.1,(dK ε.1 ε.2.2).2.2))∧∀m,0≤m→pgA ((dK ε.1 ε.2.2).2.1,(ε.2.1,(dK ε.1 ε.2.2).2.2)) m=pgA ε m:=by
 obtain ⟨p1,p2,p3⟩:=E8 h.ec
 refine ⟨p1,?_,p3⟩
 have e0:ε.2.2.dQ=(0,ε.2.2.sync):=by rw [Dk.dQ,af (by rw [h.ec.dk.alive]; decide),af (by have:=h.ec.dk.aI; omega),gI h.ec.dk.aI]
 have e:dK ε.1 ε.2.2=(0,{ ε.1 with aQ:=ε.1.aQ.filter fun e=>e.2.2 },ε.2.2.sync):=by rw [dK,e0,af (by simp)]
 rw [e] at p2 ⊢
 have I:=h.ok.ok.dk
 have U:∀(i:Nat) (b:List Nat),(laidP ε.2.2.now ε.2.2.aq)[i]?=some (some b)→b.length=512:=fun i b J=>by
  have h1:=laidP_get (n:=(i:Int)) h.ec.dk.aq h.ec.dk.nodup h.ec.dk.keys (by omega)
  rw [cQ] at h1
  rw [h1] at J
  cases hq:lookL (i:Int) ε.2.2.now with
  | some x=>rw [hq] at J; simp only at J; have:=bt (bt J); subst this; exact I.now _ (fe hq)
  | none=>rw [hq] at J; exact I.aq i b J
 refine ⟨⟨⟨⟨h.ok.ok.pl.hand,h.ok.ok.pl.many,h.ok.ok.pl.aH,h.ok.ok.pl.len,h.ok.ok.pl.pins⟩,h.ok.ok.lg,⟨I.aI,I.len,I.room,fun e he=>(by cases he),U,I.aR,by show (laidP _ _).length≤_; rw [nt]; exact I.many⟩⟩,h.ok.pins,⟨h.ok.full.nodup,h.ok.full.j6⟩⟩,p2,⟨h.el.log,h.el.cert,h.el.size⟩,?_⟩
 have:=h.cu
 simp only [Am.cu] at this ⊢
 have e2:ε.2.2.sync.waiting.length=0:=rfl
 omega
theorem EI.clean {N B:Nat}{ε:aM}(h:EI N B ε): (fH ε).1=0∧EI N B (fH ε).2∧∀m,0≤m→pgA (fH ε).2 m=pgA ε m:=by
 obtain ⟨I,J,U⟩:=h.writeAll
 obtain ⟨p1,p2,p3⟩:=J.sync
 have e:fH ε=((dK (writeAllF (aJ ε.1.aH) ε).2.1 (writeAllF (aJ ε.1.aH) ε).2.2.2).1,((dK (writeAllF (aJ ε.1.aH) ε).2.1 (writeAllF (aJ ε.1.aH) ε).2.2.2).2.1,((writeAllF (aJ ε.1.aH) ε).2.2.1,(dK (writeAllF (aJ ε.1.aH) ε).2.1 (writeAllF (aJ ε.1.aH) ε).2.2.2).2.2))):=by
  rw [fH,af (by rw [h.ec.dk.alive]; decide),af (by rw [I]; decide)]
 rw [e]
 exact ⟨p1,p2,fun m hm=>by rw [p3 m hm,U]⟩
theorem EI.force {N B:Nat}{ε:aM}{n:Nat}(h:EI N B ε): (bB ε.2 n).1=0∧EI N B (ε.1,(bB ε.2 n).2)∧∀m,pgA (ε.1,(bB ε.2 n).2) m=pgA ε m:=by
 obtain ⟨f1,f2⟩:=E7 (n:=n) h.ec.dk
 obtain ⟨I,J⟩:=h.ec.log f2
 refine ⟨f1,⟨⟨⟨h.ok.ok.pl,rI h.ok.ok.lg,nR h.ok.ok.dk⟩,h.ok.pins,h.ok.full⟩,I,h.el.force,?_⟩,J⟩
 have:=h.cu
 simp only [Am.cu,kH] at this ⊢
 exact this
theorem EI.app {N B:Nat}{ε:aM}{kd:Int}{tx pv nx:Nat}{data:List Nat}{c:List cm}(h:EI N B ε)(hB:B≤1000)(hg:dM kd c=true):
  EI N (B+1) (ε.1,(bn ε.2 kd tx pv nx data c).2)∧(∀m,pgA (ε.1,(bn ε.2 kd tx pv nx data c).2) m=pgA ε m) ∧
  (((bn ε.2 kd tx pv nx data c).1.2=0∧bn ε.2 kd tx pv nx data c=((ε.2.1.base+ε.2.1.b.length,0),(ε.2.1.app (dr ε.2.1 kd tx pv nx data c),{ ε.2.2 with log:=ε.2.2.log++dr ε.2.1 kd tx pv nx data c }))) ∨
   (bn ε.2 kd tx pv nx data c).1.2=7∨((bn ε.2 kd tx pv nx data c).1.2=2∧1048576<(dm kd tx pv nx data c).length)):=by
 have hs:=h.el.size
 have I:=vf (kd:=kd) (tx:=tx) (pv:=pv) (nx:=nx) (data:=data) (c:=c) h.ok.ok.lg h.ok.ok.dk h.el.log (by omega)
 have zy:Am.cu (ε.1,(bn ε.2 kd tx pv nx data c).2)≤(B+1)*65536:=by
  have e:Am.cu (ε.1,(bn ε.2 kd tx pv nx data c).2)=Am.cu ε:=by simp only [Am.cu,I.2.2.2.2.2.1]
  rw [e]
  exact cI h.cu (qD _ (nI B))
 have fc:(bn ε.2 kd tx pv nx data c).2.1.base+(bn ε.2 kd tx pv nx data c).2.1.b.length≤(B+1)*1048600:=by
  have h1:=I.2.2.2.1
  have h2:=I.2.2.2.2.1
  omega
 have main:∀(hk:DK ε.2.2 (bn ε.2 kd tx pv nx data c).2.2) (hc:(bn ε.2 kd tx pv nx data c).2.1.forced≤(bn ε.2 kd tx pv nx data c).2.2.aR),EI N (B+1) (ε.1,(bn ε.2 kd tx pv nx data c).2)∧∀m,pgA (ε.1,(bn ε.2 kd tx pv nx data c).2) m=pgA ε m:=fun hk hc=>by
  obtain ⟨l1,l2⟩:=h.ec.log hk
  exact ⟨⟨⟨⟨h.ok.ok.pl,I.1,I.2.1⟩,h.ok.pins,h.ok.full⟩,l1,⟨I.2.2.1,hc,fc⟩,zy⟩,l2⟩
 rcases jf ε.2 kd tx pv nx data c with ⟨e,he,hc,J⟩ | ⟨hd,hf,J⟩ | ⟨_,_,hd,iE,hf,J⟩
 ·obtain ⟨m1,m2⟩:=main (by rw [J]; exact DK.refl _) (by rw [J]; exact h.el.cert)
  refine ⟨m1,m2,.inr ?_⟩
  rw [J]
  rcases hc with ⟨_,U⟩ | ⟨rfl,U⟩ | ⟨_,U⟩ | ⟨rfl,U⟩
  ·rw [hg] at U; cases U
  ·exact .inr ⟨rfl,U⟩
  ·rw [h.ec.dk.alive] at U; cases U
  ·exact .inl rfl
 ·have:=h.ec.dk.aI; omega
 ·rw [gI h.ec.dk.aI] at J
  obtain ⟨m1,m2⟩:=main (by rw [J]; exact ⟨rfl,rfl,rfl,rfl⟩) (by rw [J]; exact h.el.cert)
  exact ⟨m1,m2,.inl ⟨by rw [J],J⟩⟩
theorem EI.done {N B:Nat}{ε ε':aM}{now:List (Int×List Nat)}{kd:Int}{tx pv nx aF:Nat}{data:List Nat}{e:Int}{cl:Bool}(h:EI N B ε)(hB:B≤1000)(hn:NW N now)(h1:1≤kd)(h2:kd≤7)(hr:rV ε now kd tx pv nx data 0 aF e cl ε'):
  (cl=false∧(e=7∨e=2)∧EI N (B+2) ε'∧∀m,pgA ε' m=pgA ε m) ∨
  (cl=true∧e=0∧EI N (B+2) ε'∧∀m,pgA ε' m=match lookL m now with | some b=>cM b aF | none=>pgA ε m):=by
 have I:∀n∈aJ now,0≤n∧n<N:=fun n U=>hn.keys n (gN.1 U)
 have hN:=h.many
 have iE:∀ {c:List cm} {ε':aM} {e:Int},jh now (aJ now) ε e c ε'→dM kd c=true:=fun J=>by
  refine Hw ⟨h1,by omega⟩ (J.fit (fun x hx=>fq (hn.good x hx).1) fun n U => ?_)
  have:=I n U
  omega
 cases hr with
 | arg U=>omega
 | dead _ _ _ hd=>rw [h.ec.dk.alive] at hd; cases hd
 | mB e c ε' _ _ _ hd J he=>exact absurd (J.ec h.ec h.ok I).2.2 he
 | app c ε' _ _ _ hd J he =>
  obtain ⟨c1,c2,c3⟩:=J.ec h.ec h.ok I
  have hi:EI N B ε':=⟨J.kJ h.ok,c1,J.el h.el,cI J.cu h.cu⟩
  obtain ⟨a1,a2,a3⟩:=hi.app (kd:=kd) (tx:=tx) (pv:=pv) (nx:=nx) (data:=data) (c:=c) hB (iE J)
  refine .inl ⟨rfl,?_,a1.more (by omega),fun m=>by rw [a2,c2]⟩
  rcases a3 with a3 | a3 | a3
  ·exact absurd a3.1 he
  ·exact .inl a3
  ·exact .inr a3.1
 | put c ε' e ox _ _ _ hd J ha hp =>
  obtain ⟨c1,c2,c3⟩:=J.ec h.ec h.ok I
  have hi:EI N B ε':=⟨J.kJ h.ok,c1,J.el h.el,cI J.cu h.cu⟩
  obtain ⟨a1,a2,a3⟩:=hi.app (kd:=kd) (tx:=tx) (pv:=pv) (nx:=nx) (data:=data) (c:=c) hB (iE J)
  obtain ⟨p1,p2,p3⟩:=hp.ec a1.ec a1.ok hn I
  have hl:(aJ now).length≤N:=by
   have:=hn.len
   rw [aJ,(er _).length_eq,d_]; exact this
  have Yi:=hp.cu a1.ok
  have Rg:=a1.cu
  refine .inr ⟨rfl,p2,⟨hp.kJ a1.ok,p1,?_,by omega⟩,fun m => ?_⟩
  ·have:=hp.el a1.el
   exact ⟨this.log,this.cert,cI this.size (qD _ (by omega))⟩
  ·rw [aj p2,p3]
   by_cases hm:m∈aJ now
   ·rw [aj hm]
    cases U:lookL m now with
    | some b=>rfl
    | none=>exact absurd (gN.1 hm) (fU.1 U)
   ·rw [af hm,a2,c2]
    have:lookL m now=none:=fU.2 fun U=>hm (gN.2 U)
    rw [this]
theorem gj (n:Nat): (digits 9 n).length≤10:=uS 9 n
theorem Ji {kd:Int}{tx pv nx:Nat}{data:List Nat}(J:data.length≤4104): (dm kd tx pv nx data []).length≤1048576:=by
 have U:=gj tx
 have h2:=gj pv
 have h3:=gj nx
 have h4:=gj data.length
 have I:=gj ([]:List cm).length
 simp only [dm,bC,bj,bY,List.flatMap_nil] at I ⊢
 omega
theorem Ee {N:Nat}{x:LD}{n:Nat}(h:DA N x.2)(I:n<x.1.base+x.1.b.length): n<(bB x n).2.1.base+(bB x n).2.1.forced:=by
 unfold bB
 split
 ·rename_i J; exact J
 ·rw [HN h,af (by simp)]
  exact I
theorem QD {μ:Lg}{b:List Nat}: (μ.app b).hasB (μ.base+μ.b.length)=true:=by
 simp only [Lg.hasB,Lg.app,List.any_append,List.any_cons,List.any_nil,qK,mT]
 exact .inr (by simp)
theorem TL {μ:Lg}(h:μ.Ok){n:Nat}(I:μ.hasB n=true): n<μ.base+μ.b.length:=by
 simp only [Lg.hasB,sQ,eA] at I
 obtain ⟨s,hs,rfl⟩:=I
 have:=h.low s hs
 omega
theorem Lg.Ok.cut {μ:Lg}{n:Nat}(h:μ.Ok)(h1:μ.base≤n)(h2:n≤μ.base+μ.b.length): (μ.cut n).Ok:=by
 have hs:=h.size
 have hf:=h.forced
 have hl:=h.len
 have hd:(μ.b.drop (n-μ.base)).length=μ.b.length-(n-μ.base):=nF
 have J:∀s,s∈y9 μ n→∃t∈μ.bw,n≤μ.base+t∧s=t-(n-μ.base):=fun s hs=>by
  obtain ⟨t,ht,rfl⟩:=List.mem_map.1 hs
  obtain ⟨I,U⟩:=List.mem_filter.1 ht
  exact ⟨t,I,by simpa using U,rfl⟩
 refine ⟨?_,?_,fun s hs => ?_,?_,?_,?_,h.check⟩
 ·show n+(μ.b.drop (n-μ.base)).length≤_; omega
 ·show (y9 μ n).length≤_
  rw [y9,d_]
  exact cI (List.length_filter_le _ _) h.many
 ·obtain ⟨t,I,U,rfl⟩:=J s hs
  have:=h.low t I
  show _<(μ.b.drop (n-μ.base)).length
  omega
 ·show (y9 μ n).Pairwise (·< ·)
  rw [y9,List.pairwise_map]
  refine (h.wX.filter _).imp_of_mem fun {a b} ha hb pq => ?_
  have I:=(List.mem_filter.1 ha).2
  have I:n≤μ.base+a:=by simpa using I
  omega
 ·show μ.forced-(n-μ.base)≤(μ.b.drop (n-μ.base)).length; omega
 ·show (μ.b.drop (n-μ.base)).length≤_; omega
theorem EI.log {N B:Nat}{ε:aM}{x:LD}(h:EI N B ε)(I:x.1.Ok)(J:x.2.Ok)(U:DK ε.2.2 x.2)(hl:EL (B*1048600) x)(hw:x.2.waiting=ε.2.2.waiting): EI N B (ε.1,x)∧∀m,pgA (ε.1,x) m=pgA ε m:=by
 obtain ⟨l1,l2⟩:=h.ec.log U
 refine ⟨⟨⟨⟨h.ok.ok.pl,I,J⟩,h.ok.pins,h.ok.full⟩,l1,hl,?_⟩,l2⟩
 have e:Am.cu (ε.1,x)=Am.cu ε:=by simp only [Am.cu,hw]
 rw [e]; exact h.cu
theorem EI.check {N B:Nat}{ε:aM}{n:Nat}(h:EI N B ε)(U:ε.2.1.hasB n=true∧n<ε.2.1.base+ε.2.1.forced): (iz ε.2 n).1=0∧(iz ε.2 n).2.1={ ε.2.1 with check:=n }∧EI N B (ε.1,(iz ε.2 n).2)∧∀m,pgA (ε.1,(iz ε.2 n).2) m=pgA ε m:=by
 have hm:=TI (b:=gE ε.2.1.base n) h.ec.dk (by rw [uQ]; decide)
 have e:iz ε.2 n=(0,({ ε.2.1 with check:=n },{ ε.2.2 with mark:=gE ε.2.1.base n })):=by
  rw [iz,af (not_not_intro U),hm,af (by simp)]
 have hf:=h.ok.ok.lg.forced
 have hs:=h.ok.ok.lg.size
 obtain ⟨I,J⟩:=CQ (n:=n) h.ok.ok.lg h.ok.ok.dk (by omega)
 rw [e] at I J ⊢
 exact ⟨rfl,rfl,h.log I J ⟨rfl,rfl,rfl,rfl⟩ ⟨h.el.log,h.el.cert,h.el.size⟩ rfl⟩
theorem EI.cut {N B:Nat}{ε:aM}{n:Nat}(h:EI N B ε)(J:ε.2.1.hasB n=true)(hf:n≤ε.2.1.base+ε.2.1.forced)(hc:ε.2.1.check=0∨n≤ε.2.1.check): (hG ε.2 n).1=0∧EI N B (ε.1,(hG ε.2 n).2)∧∀m,pgA (ε.1,(hG ε.2 n).2) m=pgA ε m:=by
 have h1:=Eb J
 have h2:=TL h.ok.ok.lg J
 have Cy:=h.ok.ok.lg.forced
 have U:=h.el.cert
 have I:=h.ok.ok.dk
 have Oo:=I.aR
 have E5:=I.len
 have fc:=h.el.size
 have e1:ε.2.2.nm ((n-ε.2.1.base:Nat):Int) (gE n ε.2.1.check)=(0,{ ε.2.2 with log:=ε.2.2.log.drop (n-ε.2.1.base),aR:=ε.2.2.aR-(n-ε.2.1.base),mark:=gE n ε.2.1.check }):=by
  rw [Dk.nm,af (by rw [h.ec.dk.alive]; decide),af (not_not_intro ⟨by omega,by omega,by rw [uQ]; decide⟩),af (by have:=h.ec.dk.aI; omega),gI h.ec.dk.aI,cQ]
 have e:hG ε.2 n=(0,(ε.2.1.cut n,{ ε.2.2 with log:=ε.2.2.log.drop (n-ε.2.1.base),aR:=ε.2.2.aR-(n-ε.2.1.base),mark:=gE n ε.2.1.check })):=by
  rw [hG,af (by rw [J]; simp; omega),e1,af (by simp)]
 rw [e]
 have hd:(ε.2.2.log.drop (n-ε.2.1.base)).length=ε.2.2.log.length-(n-ε.2.1.base):=nF
 have hd2:(ε.2.1.b.drop (n-ε.2.1.base)).length=ε.2.1.b.length-(n-ε.2.1.base):=nF
 refine ⟨rfl,h.log (h.ok.ok.lg.cut h1 (by omega)) ⟨I.aI,by show (ε.2.2.log.drop _).length≤_; omega,I.room,I.now,I.aq,by show ε.2.2.aR-_≤(ε.2.2.log.drop _).length; omega,I.many⟩ ⟨rfl,rfl,rfl,rfl⟩ ⟨?_,?_,?_⟩ rfl⟩
 ·show ε.2.1.b.drop _=ε.2.2.log.drop _; rw [h.el.log]
 ·show ε.2.1.forced-_≤ε.2.2.aR-_; omega
 ·show n+(ε.2.1.b.drop _).length≤_; omega
theorem EI.Z5 {N B:Nat}{ε ε':aM}{lo:Nat}{data dX J:List Nat}{aD U:Nat}{e:Int}(h:EI N B ε)(hB:B≤1000)(hr:E6 ε lo data dX aD e ε' J U):
  EI N (B+1) ε'∧(∀m,pgA ε' m=pgA ε m)∧((e=2∧4096<data.length∧J=dX)∨(e=7∧J=dX)∨(e=0∧J=data)):=by
 cases hr with
 | VV hb=>exact ⟨h.more (by omega),fun _=>rfl,.inl ⟨rfl,hb,rfl⟩⟩
 | dead _ hd=>rw [h.ec.dk.alive] at hd; cases hd
 | go e y J U hb hd hc =>
  have hw:=dH 8 (lu ε)
  obtain ⟨a1,a2,a3⟩:=h.app (kd:=8) (tx:=0) (pv:=0) (nx:=0) (data:=le 8 (lu ε)++data) (c:=[]) hB (by decide)
  have ey:bn ε.2 8 0 0 0 (le 8 (lu ε)++data) []=uU ε data:=rfl
  rw [ey] at a1 a2 a3
  have a3:((uU ε data).1.2=0∧uU ε data=((ε.2.1.base+ε.2.1.b.length,0),(ε.2.1.app (dr ε.2.1 8 0 0 0 (le 8 (lu ε)++data) []),{ ε.2.2 with log:=ε.2.2.log++dr ε.2.1 8 0 0 0 (le 8 (lu ε)++data) [] })))∨(uU ε data).1.2=7:=by
   rcases a3 with a3 | a3 | ⟨_,a3⟩
   ·exact .inl a3
   ·exact .inr a3
   ·have:=Ji (kd:=8) (tx:=0) (pv:=0) (nx:=0) (data:=le 8 (lu ε)++data) (by rw [bC]; omega)
    omega
  have wU:lu ε≤ε.2.1.base+ε.2.1.b.length:=Kh _ _ _
  have hkp:CR ε lo≤ε.2.1.base+ε.2.1.b.length:=by
   rw [CR]; split <;> omega
  rcases a3 with ⟨a0,a3⟩ | a3
  ·have EW:8≤(dr ε.2.1 8 0 0 0 (le 8 (lu ε)++data) []).length:=by rw [dr,oK]; omega
   generalize dr ε.2.1 8 0 0 0 (le 8 (lu ε)++data) []=rc at EW a3
   generalize uU ε data=I at *
   have n1:I.1.1=ε.2.1.base+ε.2.1.b.length:=by rw [a3]
   have n2:I.2.1=ε.2.1.app rc:=by rw [a3]
   -- the log is forced
   obtain ⟨f1,f2,f3⟩:=a1.force (n:=I.1.1)
   have f1:(lz I).1=0:=f1
   have f2:EI N (B+1) (ε.1,(lz I).2):=f2
   have f3:∀m,pgA (ε.1,(lz I).2) m=pgA (ε.1,I.2) m:=f3
   have uR:I.1.1<I.2.1.base+I.2.1.b.length:=by
    rw [n1,n2]; show _<ε.2.1.base+(ε.2.1.b++rc).length; rw [bC]; omega
   have f4:I.1.1<(lz I).2.1.base+(lz I).2.1.forced:=Ee a1.ec.dk uR
   have f5:=y5 (π:=ε.1) (x:=I.2) (n:=I.1.1)
   have f6:(lz I).2.1.base=I.2.1.base:=f5.base
   have f7:(lz I).2.1.bw=I.2.1.bw:=f5.bw
   have f8:(lz I).2.1.hasB I.1.1=true:=by
    have:I.2.1.hasB I.1.1=true:=by rw [n1,n2]; exact QD
    rw [Lg.hasB,f6,f7]; exact this
   -- the mark
   obtain ⟨c1,c2,c3,c4⟩:=f2.check (n:=I.1.1) ⟨f8,f4⟩
   have c1:(gH I).1=0:=c1
   have c2:(gH I).2.1={ (lz I).2.1 with check:=I.1.1 }:=c2
   have c3:EI N (B+1) (ε.1,(gH I).2):=c3
   have c4:∀m,pgA (ε.1,(gH I).2) m=pgA (ε.1,(lz I).2) m:=c4
   have mC:∀m,pgA (ε.1,(gH I).2) m=pgA ε m:=fun m=>by rw [c4,f3,a2]
   cases hc with
   | app he=>exact absurd a0 he
   | force _ he=>exact absurd f1 he
   | check _ _ he=>exact absurd c1 he
   | cut t _ _ _ ht bX _ =>
    have GZ:I.1.1<(gH I).2.1.base+(gH I).2.1.b.length:=by
     have:=c3.ok.ok.lg.forced
     have e1:(gH I).2.1.base=(lz I).2.1.base:=by rw [c2]
     have e2:(gH I).2.1.forced=(lz I).2.1.forced:=by rw [c2]
     simp only at this
     omega
    have Z6:(gH I).2.1.hasB t=true∧t≤CR ε lo:=by
     rcases ht with ⟨_,ht⟩ | ht | ht
     ·omega
     ·exact ht
     ·omega
    have e1:(gH I).2.1.base=(lz I).2.1.base:=by rw [c2]
    have e2:(gH I).2.1.forced=(lz I).2.1.forced:=by rw [c2]
    have e3:(gH I).2.1.check=I.1.1:=by rw [c2]
    obtain ⟨k1,k2,k3⟩:=c3.cut Z6.1 (by show t≤(gH I).2.1.base+(gH I).2.1.forced; omega) (.inr (by show t≤(gH I).2.1.check; omega))
    exact ⟨k2,fun m=>(k3 m).trans (mC m),.inr (.inr ⟨k1,rfl⟩)⟩
   | cS _ _ _ _=>exact ⟨c3,mC,.inr (.inr ⟨rfl,rfl⟩)⟩
  ·generalize uU ε data=I at *
   cases hc with
   | app he=>exact ⟨a1,a2,.inr (.inl ⟨a3,rfl⟩)⟩
   | force h0=>omega
   | check h0=>omega
   | cut t h0=>omega
   | cS h0=>omega
def iV (π:Pl)(n:Int)(b:List Nat): Prop:=∃(i:Nat) (f:Fm),π.ak[i]?=some f∧f.aK=n∧0≤n∧f.changed=true∧f.b=b
abbrev VP := (Int→List Nat→Prop)→List (Int×(Nat×Bool))→LD→Prop
abbrev vw (P:VP)(ε:aM): Prop:=P (iV ε.1) ε.1.aQ ε.2
theorem QE {π I:Pl}(hn:fR π I): iV I=iV π:=by
 funext n b
 refine propext ⟨fun ⟨i,x,hx,J,U,h2,h3⟩ => ?_,fun ⟨i,f,hf,J,U,h2,h3⟩ => ?_⟩
 ·obtain ⟨f,t,hf,rfl⟩:=hn.back hx
  exact ⟨i,f,hf,J,U,h2,h3⟩
 ·obtain ⟨t,ht⟩:=hn.get i f hf
  exact ⟨i,_,ht,J,U,h2,h3⟩
theorem AE {π:Pl}{i:Nat}{f g:Fm}(J:π.ak[i]?=some f)(hs:∀n b,(f.aK=n∧0≤n∧f.changed=true∧f.b=b)↔(g.aK=n∧0≤n∧g.changed=true∧g.b=b)){w:List (Int×Int)}{d:List (Int×(Nat×Bool))}{hd:Nat}: iV ⟨π.ak.set i g,w,d,hd⟩=iV π:=by
 have hi:=(List.getElem?_eq_some_iff.1 J).1
 funext n b
 refine propext ⟨fun ⟨j,x,I,h⟩ => ?_,fun ⟨j,x,I,h⟩ => ?_⟩
 ·rcases nA J I with ⟨rfl,rfl⟩ | ⟨_,I⟩
  ·exact ⟨i,f,J,(hs n b).2 h⟩
  ·exact ⟨j,x,I,h⟩
 ·by_cases U:i=j
  ·subst U
   rw [J] at I
   have:=bt I
   subst this
   exact ⟨i,g,iL hi,(hs n b).1 h⟩
  ·exact ⟨j,x,by show (π.ak.set i g)[j]?=some x; rw [iM U]; exact I,h⟩
theorem Oq {π:Pl}{i:Nat}{f g:Fm}(J:π.ak[i]?=some g)(U:0≤g.aK→g.changed=false): iV (dy π i f)=iV π :=
 AE J fun n b=>⟨(fun ⟨h1,h0,I,_⟩=>by rw [U (by omega)] at I; cases I),fun ⟨_,_,I,_⟩=>(by cases I)⟩
theorem LQ {π:Pl}{i:Nat}{e:Fm}{n:Int}{b:List Nat}(he:π.ak[i]?=some e)(J:e.aK<0): iV (jC π i n b)=iV π :=
 AE he fun m c=>⟨fun ⟨U,h0,_⟩=>by omega,fun ⟨_,_,I,_⟩=>(by cases I)⟩
structure jR (N:Nat)(P:VP): Prop where
 one:∀(ε:aM) (i:Nat) (f:Fm),EC N ε→ε.1.ak[i]?=some f→0≤f.aK→f.changed=true→vw P ε→vw P (outF ε i).2
theorem kL.qq {R:LD→Prop}(h:kL R)(N:Nat): jR N (fun _ _ x=>R x):=⟨fun _ _ _ _ _ _ _ I=>h.out I⟩
section
variable {N:Nat} {P:VP} {ε ε':aM} {n e:Int} {b:List Nat} {now gL:List (Int×List Nat)} {l:List Int} {cs:List cm}
theorem jR.out (h:jR N P){i:Nat}{f:Fm}(he:EC N ε)(I:ε.1.ak[i]?=some f)(J:vw P ε): vw P (outF ε i).2:=by
 by_cases U:f.aK<0∨f.changed=false
 ·have e:outF ε i=(0,ε):=by simp only [outF,I,aj U]
  rw [e]; exact J
 ·exact h.one ε i f he I (by omega) (by cases hq:f.changed with | true=>rfl | false=>exact absurd (.inr hq) U) J
theorem jR.iU (h:jR N P)(hr:fS ε n e b ε')(he:EC N ε)(hv:vw P ε): vw P ε':=by
 cases hr with
 | arg J=>exact hv
 | A6 i f h1 h2 hl U =>
  show P (iV ⟨ε.1.ak.set i { f with e_:=true,pins:=f.pins+1 },ε.1.aH,ε.1.aQ,ε.1.hand⟩) ε.1.aQ ε.2
  rw [AE U (g:={ f with e_:=true,pins:=f.pins+1 }) (fun n b=>Iff.rfl)]
  exact hv
 | out I i f h1 h2 hl J U hh hq=>exact absurd ((he.rj J).1.out U).1 hq
 | read I i f h1 h2 hl J U hh hq hr =>
  obtain ⟨k1,k2,k3,k4,g,k5,k6,k7⟩:=(he.rj J).1.out U
  refine absurd ?_ hr
  rw [he.dk.aq] at h2
  rw [Dk.rH,af (by rw [k2.dk.alive]; decide),af (by rw [k2.dk.aq]; exact not_not_intro ⟨h1,h2⟩)]
 | bad I i f h1 h2 hl J U hh hq hr hc =>
  obtain ⟨k1,k2,k3,k4,g,k5,k6,k7⟩:=(he.rj J).1.out U
  rw [he.dk.aq] at h2
  exact absurd (k2.dk.good n h1 h2) hc
 | load I i f h1 h2 hl J U hh hq hr hc =>
  obtain ⟨n1,n2⟩:=he.rj J
  have uk:vw P (I,ε.2):=by show P (iV I) I.aQ ε.2; rw [QE J,J.aQ]; exact hv
  have ot:=h.out (ε:=(I,ε.2)) n1 U uk
  obtain ⟨k1,k2,k3,k4,g,k5,k6,k7⟩:=n1.out U
  have e1:=Oq (f:=f) k5 k7
  have hg:(dy (outF (I,ε.2) i).2.1 i f).ak[i]?=some eT:=(k2.dy k5 k6 k7).2.2.1
  show P (iV (jC (dy (outF (I,ε.2) i).2.1 i f) i n ((outF (I,ε.2) i).2.2.2.at n))) (outF (I,ε.2) i).2.1.aQ (outF (I,ε.2) i).2.2
  rw [LQ hg (by decide),e1]
  exact ot
theorem E9 {π:Pl}: iV (unpinF π n).2=iV π∧(unpinF π n).2.aQ=π.aQ:=by
 unfold unpinF
 split
 ·exact ⟨rfl,rfl⟩
 ·split
  ·exact ⟨rfl,rfl⟩
  ·rename_i i hi f I
   exact ⟨AE I (g:={ f with pins:=f.pins-1 }) (fun n b=>Iff.rfl),rfl⟩
theorem jR.rd (h:jR N P)(I:mD ε n e b ε')(he:EC N ε)(J:vw P ε): vw P ε':=by
 cases I with
 | dead U=>exact J
 | iU e b ε' U I _=>exact h.iU I he J
 | sJ b ε' U I _ =>
  have:=h.iU I he J
  obtain ⟨u1,u2⟩:=E9 (π:=ε'.1) (n:=n)
  show P (iV (unpinF ε'.1 n).2) (unpinF ε'.1 n).2.aQ ε'.2
  rw [u1,u2]; exact this
 | read b ε' U I _ =>
  have:=h.iU I he J
  obtain ⟨u1,u2⟩:=E9 (π:=ε'.1) (n:=n)
  show P (iV (unpinF ε'.1 n).2) (unpinF ε'.1 n).2.aQ ε'.2
  rw [u1,u2]; exact this
theorem jR.y6 (h:jR N P)(I:ow ε now false n e b ε')(he:EC N ε)(J:vw P ε): vw P ε':=by
 cases I with
 | arg hn=>exact J
 | b_ _ _ ho=>cases ho
 | own b U h2 _ hl=>exact J
 | read e b ε' U h2 _ hl I=>exact h.rd I he J
theorem jR.N5 (h:jR N P)(I:uv ε now false n b e gL ε')(he:EC N ε)(J:vw P ε): vw P ε':=by
 cases I with
 | may e c ε' I _=>exact h.y6 I he J
 | bad c ε' I U=>exact h.y6 I he J
 | done c ε' I U=>exact h.y6 I he J
theorem jR.ch (h:jR N P)(I:jh now l ε e cs ε'): EC N ε→gZ ε→vw P ε→vw P ε':=by
 induction I with
 | nil ε=>exact fun _ _ J=>J
 | err n l ε e b ε' I _=>exact fun he _ J=>h.rd I he J
 | part n l ε cP b ε' c e cs U I hb hd hc lK ht ih=>exact fun he h3 J=>ih (I.ec he h3.pins).1 (I.kJ h3) (h.rd I he J)
 | whole n l ε cP b ε' e cs U I hb hd ht ih=>exact fun he h3 J=>ih (I.ec he h3.pins).1 (I.kJ h3) (h.rd I he J)
end
end Go.Proofs.YtconhghphklfjaaGreat.Am
