/- AtomCuts: a part of its proof; conditions: its statement's. -/
import Derived.Test.YtconhghphklfjaaGreatC32
namespace Go.Proofs.YtconhghphklfjaaGreat.Am
open Go
theorem vn : ∀(N:Nat) (l:List Int),l.Nodup→(∀n∈l,0≤n∧n<N)→l.length≤N:=by
 intro N
 induction N with
 | zero =>
  intro l _ h
  cases l with
  | nil=>exact aK _
  | cons n l=>have:=h n bn; omega
 | succ N U =>
  intro l J h
  have h1:=U (l.erase (N:Int)) (J.erase _) fun n hn=>by
   have I:=(J.mem_erase_iff).1 hn
   have:=h n I.2
   have:=I.1
   omega
  have I:l.length≤(l.erase (N:Int)).length+1:=by
   rw [List.length_erase]; split <;> omega
  omega
structure NW (N:Nat)(now:List (Int×List Nat)): Prop where
 good:∀e∈now,bU e.2=true∧∀x∈e.2,x<256
 keys:∀k:Int,k∈now.map (·.1)→0≤k∧k<N
 nodup:(now.map (·.1)).Nodup
theorem NW.nil (N:Nat): NW N []:=⟨fun e h=>(by cases h),fun k h=>(by cases h),kq⟩
theorem Dh {α:Type}{n:Int}{a:α}: ∀ {l:List (Int×α)} {e:Int×α},e∈cM n a l→e=(n,a)∨e∈l:=by
 intro l
 induction l with
 | nil=>intro e h; simp only [cM,vL] at h; exact .inl h
 | cons x l I =>
  intro e h
  simp only [cM] at h
  split at h
  ·rcases List.mem_cons.1 h with h | h
   ·exact .inl h
   ·exact .inr (bl _ h)
  ·rcases List.mem_cons.1 h with h | h
   ·exact .inr (by rw [h]; exact bn)
   ·rcases I h with h | h
    ·exact .inl h
    ·exact .inr (bl _ h)
theorem NW.put {N:Nat}{now:List (Int×List Nat)}{n:Int}{b:List Nat}(h:NW N now)(J:0≤n)(U:n<N)(hg:bU b=true)(hb:∀x∈b,x<256): NW N (cM n b now):=by
 refine ⟨fun e he => ?_,fun k I => ?_,iL h.nodup⟩
 ·rcases Dh he with rfl | he
  ·exact ⟨hg,hb⟩
  ·exact h.good e he
 ·rcases oM.1 I with rfl | I
  ·exact ⟨J,U⟩
  ·exact h.keys k I
theorem NW.len {N:Nat}{now:List (Int×List Nat)}(h:NW N now): now.length≤N:=by
 have:=vn N _ h.nodup h.keys
 rwa [en] at this
theorem NW.look {N:Nat}{now:List (Int×List Nat)}(h:NW N now){n:Int}{b:List Nat}(I:lookL n now=some b): bU b=true∧∀x∈b,x<256:=h.good _ (fh I)
theorem uO.ec {N:Nat}{ε ε':aM}{now gP:List (Int×List Nat)}{n e:Int}{b:List Nat}(I:uO ε now false n b e gP ε')(h:EC N ε)(hp:∀f∈ε.1.ak,f.pins=0): EC N ε'∧(∀m,pgA ε' m=pgA ε m) ∧
  (¬(0≤n∧n<N)→e=1∧gP=now)∧(0≤n→n<N→bU b=false→e=4∧gP=now)∧(0≤n→n<N→bU b=true→e=0∧gP=cM n b now):=by
 cases I with
 | may e c ε' I he =>
  obtain ⟨k1,k2,k3,J⟩:=I.ec h hp
  exact ⟨k1,k2,fun U=>⟨J U,rfl⟩,fun a b _=>absurd (k3 a b).1 he,fun a b _=>absurd (k3 a b).1 he⟩
 | bad c ε' I hg =>
  obtain ⟨k1,k2,k3,J⟩:=I.ec h hp
  exact ⟨k1,k2,fun U=>absurd (J U) (by decide),fun _ _ _=>⟨rfl,rfl⟩,fun _ _ hq=>by rw [hg] at hq; cases hq⟩
 | done c ε' I hg =>
  obtain ⟨k1,k2,k3,J⟩:=I.ec h hp
  exact ⟨k1,k2,fun U=>absurd (J U) (by decide),fun _ _ hq=>(by rw [hg] at hq; cases hq),fun _ _ _=>⟨rfl,rfl⟩⟩
theorem jr.ec {N:Nat}{now:List (Int×List Nat)}{l:List Int}{ε ε':aM}{e:Int}{cs:List cj}(I:jr now l ε e cs ε'): EC N ε→hG ε→(∀n∈l,0≤n∧n<N)→EC N ε'∧(∀m,pgA ε' m=pgA ε m)∧e=0:=by
 induction I with
 | nil ε=>intro h _ _; exact ⟨h,fun _=>rfl,rfl⟩
 | err n l ε e b ε' I he =>
  intro h J U
  obtain ⟨k1,k2,k3,k4⟩:=I.ec h J.pins
  have:=U n bn
  exact absurd (k3 this.1 this.2).1 he
 | part n l ε cR b ε' c e cs pV I hb hd hc jY ht ih =>
  intro h J U
  obtain ⟨k1,k2,k3,k4⟩:=I.ec h J.pins
  obtain ⟨i1,i2,i3⟩:=ih k1 (I.kQ J) fun m hm=>U m (bl _ hm)
  exact ⟨i1,fun m=>by rw [i2,k2],i3⟩
 | whole n l ε cR b ε' e cs pV I hb hd ht ih =>
  intro h J U
  obtain ⟨k1,k2,k3,k4⟩:=I.ec h J.pins
  obtain ⟨i1,i2,i3⟩:=ih k1 (I.kQ J) fun m hm=>U m (bl _ hm)
  exact ⟨i1,fun m=>by rw [i2,k2],i3⟩
theorem EC.log {N:Nat}{ε:aM}{x:LD}(h:EC N ε)(k:DK ε.2.2 x.2): EC N (ε.1,x)∧∀m,pgA (ε.1,x) m=pgA ε m:=by
 refine ⟨⟨h.dk.of k,h.nodup,h.j9,fun i f J => ?_,h.oR,h.zR⟩,fun m => ?_⟩
 ·rcases h.back i f J with I | I
  ·exact .inl I
  ·exact .inr ⟨I.lt,I.here,I.aC,fun U=>by rw [k.at]; exact I.same U,I.mB⟩
 ·unfold pgA
  simp only [k.at]
theorem EC.put {N:Nat}{ε:aM}{n:Int}{i:Nat}{f:Fm}{b:List Nat}{aI:Nat}(h:EC N ε)(hl:lookL n ε.1.aH=some (i:Int))(U:ε.1.ak[i]?=some f)(hg:bU b=true)(hb:∀x∈b,x<256)(h0:0≤n)(h1:n<N):
  EC N (uR ε.1 n i f b aI,ε.2)∧∀m,pgA (uR ε.1 n i f b aI,ε.2) m=if m=n then cO b aI else pgA ε m:=by
 obtain ⟨s1,s2,s3⟩:=zQ (n:=aI) hg hb
 have hi:=(List.getElem?_eq_some_iff.1 U).1
 have hp:f.aO=n:=by
  obtain ⟨_,j,x,uj,J,wE⟩:=h.j9 n i hl
  have:i=j:=by omega
  subst this
  rw [U] at J
  rw [bw J]; exact wE
 have ho:=(h.back i f U).resolve_left (by omega)
 refine ⟨h.set (y:=ε.2.1) (δ:=ε.2.2) U rfl h.dk (.inr ⟨ho.lt,ho.here,s1,fun hq=>(by cases hq),fun _=>s2⟩) (fun _ _ _ _ _=>rfl) (fun k hk => ?_) (iL h.zR),fun m => ?_⟩
 ·rcases oM.1 hk with rfl | hk
  ·exact ⟨h0,h1⟩
  ·exact h.oR k hk
 ·by_cases hm:m=n
  ·subst hm
   rw [aj rfl]
   exact oS (ε:=(uR ε.1 m i f b aI,ε.2)) hl (iO hi)
  ·rw [af hm]
   rcases h.cases m with ⟨j,x,I,J,wE,_,_,e2⟩ | ⟨I,e2⟩
   ·rw [e2]
    refine oS (ε:=(uR ε.1 n i f b aI,ε.2)) I ?_
    show (ε.1.ak.set i _)[j]?=some x
    rw [iP]
    ·exact J
    ·rintro rfl
     rw [U] at J
     have:=bw J
     subst this
     omega
   ·rw [e2]
    exact mM (ε:=(uR ε.1 n i f b aI,ε.2)) I
theorem qz.ec {N:Nat}{now:List (Int×List Nat)}{aI:Nat}{l:List Int}{ε ε':aM}{e:Int}(I:qz now aI l ε e ε'): EC N ε→hG ε→NW N now→(∀n∈l,0≤n∧n<N)→EC N ε'∧e=0 ∧
  ∀m,pgA ε' m=if m∈l then (match lookL m now with | some b=>cO b aI | none=>pgA ε m) else pgA ε m:=by
 induction I with
 | nil ε=>intro h _ _ _; exact ⟨h,rfl,fun m=>by rw [af (by simp)]⟩
 | iZ n l ε e b ε' I he =>
  intro h U hn hl
  have:=hl n bn
  exact absurd ((I.ec h).2.2.1 this.1 this.2).1 he
 | bad n l ε b0 b ε' I hb he =>
  intro h U hn hl
  exact absurd ((I.put (b:=b) (aI:=aI) U).2.2 (hn.look hb).1) he
 | put n l ε b0 b ε' e pV I hb he ht ih =>
  intro h U hn hl
  have uS:=hl n bn
  obtain ⟨k1,k2,k3,k4⟩:=I.ec h
  obtain ⟨i,f,p1,p2,p3,p4,p5⟩:=I.at U.pins
  have hg:=hn.look hb
  have e1:=xy (aI:=aI) p1 p2 p3 hg.1
  obtain ⟨q1,q2⟩:=k1.put (aI:=aI) p1 p2 hg.1 hg.2 uS.1 uS.2
  have Gm:=(I.put (b:=b) (aI:=aI) U).1
  rw [e1] at ih Gm
  obtain ⟨i1,i2,i3⟩:=ih q1 Gm hn fun m hm=>hl m (bl _ hm)
  refine ⟨i1,i2,fun m => ?_⟩
  rw [i3,q2]
  by_cases hm:m=n
  ·subst hm
   rw [aj rfl,aj (bn)]
   split
   ·rw [hb]
   ·rw [hb]
  ·rw [af hm,k2]
   by_cases J:m∈l
   ·rw [aj J,aj (bl _ J)]
   ·rw [af J,af (by simp [hm,J])]
theorem qA {N:Nat}: ∀ {l:List Int} {ε:aM},EC N ε→(∀n∈l,(lookL n ε.1.aH).isSome=true)→(writeAllF l ε).1=0∧EC N (writeAllF l ε).2∧(∀m,pgA (writeAllF l ε).2 m=pgA ε m):=by
 intro l
 induction l with
 | nil=>intro ε h _; exact ⟨rfl,h,fun _=>rfl⟩
 | cons n l ih =>
  intro ε h J
  have U:=J n bn
  cases I:lookL n ε.1.aH with
  | none=>rw [I] at U; cases U
  | some i =>
   obtain ⟨_,j,f,rfl,hf,hp⟩:=h.j9 n i I
   obtain ⟨k1,k2,k3,k4,_⟩:=h.out hf
   have e:eo ε n=outF ε j:=by rw [eo,I]; simp only [cP]
   rw [writeAllF,e,af (by rw [k1]; decide)]
   obtain ⟨i1,i2,i3⟩:=ih k2 fun m hm=>by rw [k4]; exact J m (bl _ hm)
   exact ⟨i1,i2,fun m=>by rw [i3,k3]⟩
theorem Fu {N:Nat}{ε:aM}(h:EC N ε): (dP ε.1 ε.2.2).1=0∧EC N ((dP ε.1 ε.2.2).2.1,(ε.2.1,(dP ε.1 ε.2.2).2.2))∧∀m,0≤m→pgA ((dP ε.1 ε.2.2).2.1,(ε.2.1,(dP ε.1 ε.2.2).2.2)) m=pgA ε m:=by
 obtain ⟨s1,s2,s3⟩:=Ud h.dk
 have e:dP ε.1 ε.2.2=(0,{ ε.1 with aN:=ε.1.aN.filter fun e=>e.2.2 },ε.2.2.dL.2):=by rw [dP,af (by rw [s1]; decide)]
 rw [e]
 have J:∀k,k∈((ε.1.aN.filter fun e=>e.2.2).map (·.1))→k∈ε.1.aN.map (·.1):=fun k U=>by
  obtain ⟨x,hx,rfl⟩:=List.mem_map.1 U
  exact jd (List.mem_filter.1 hx).1
 refine ⟨rfl,⟨s2,h.nodup,h.j9,fun i f hf => ?_,fun k U=>h.oR k (J k U),(List.filter_sublist.map _).nodup h.zR⟩,fun m hm => ?_⟩
 ·rcases h.back i f hf with I | I
  ·exact .inl I
  ·by_cases h0:f.aO<0
   ·exact .inl h0
   ·exact .inr ⟨I.lt,I.here,I.aC,fun hc=>by rw [s3 _ (by omega)]; exact I.same hc,I.mB⟩
 ·unfold pgA
  simp only [s3 m hm]
theorem OL {N:Nat}{ε:aM}(h:EC N ε): (fD ε).1=0∧EC N (fD ε).2∧∀m,0≤m→pgA (fD ε).2 m=pgA ε m:=by
 obtain ⟨I,J,U⟩:=qA (l:=aJ ε.1.aH) h fun n hn=>by
  cases hq:lookL n ε.1.aH with
  | some _=>rfl
  | none=>exact absurd (gx.1 hn) (f_.1 hq)
 obtain ⟨p1,p2,p3⟩:=Fu J
 have e:fD ε=((dP (writeAllF (aJ ε.1.aH) ε).2.1 (writeAllF (aJ ε.1.aH) ε).2.2.2).1,((dP (writeAllF (aJ ε.1.aH) ε).2.1 (writeAllF (aJ ε.1.aH) ε).2.2.2).2.1,((writeAllF (aJ ε.1.aH) ε).2.2.1,(dP (writeAllF (aJ ε.1.aH) ε).2.1 (writeAllF (aJ ε.1.aH) ε).2.2.2).2.2))):=by
  rw [fD,af (by rw [h.dk.alive]; decide),af (by rw [I]; decide)]
 rw [e]
 exact ⟨p1,p2,fun m hm=>by rw [p3 m hm,U]⟩
structure EL (K:Nat)(x:LD): Prop where
 log:x.1.b=x.2.log
 cert:x.1.forced≤x.2.aL
 size:x.1.base+x.1.b.length≤K
theorem EL.force {K:Nat}{x:LD}{n:Nat}(h:EL K x): EL K (bC x n).2:=by
 unfold bC Dk.cE
 split
 ·exact h
 ·by_cases I:x.2.dead=true
  ·rw [aj I,aj (show (9:Int)≠0 by decide)]; exact h
  ·rw [af I]
   by_cases J:x.2.aF=0
   ·rw [aj J,aj (show (9:Int)≠0 by decide)]; exact ⟨h.log,h.cert,h.size⟩
   ·rw [af J,af (show ¬(0:Int)≠0 by decide)]; exact ⟨h.log,by show x.1.b.length≤x.2.log.length; rw [h.log]; exact aK _,h.size⟩
theorem EL.write {K:Nat}{x:LD}{n:Int}{b:List Nat}(h:EL K x): EL K (x.1,(x.2.bI n b).2):=by
 unfold Dk.bI
 split
 ·exact h
 ·split
  ·exact h
  ·split <;> exact ⟨h.log,h.cert,h.size⟩
theorem t_ (K:Nat): kM (EL K):=⟨fun _ _ h=>h.force,fun _ _ _ h=>h.write⟩
theorem EL.out {K:Nat}{ε:aM}{i:Nat}(h:EL K ε.2): EL K (outF ε i).2.2:=(t_ K).out h
theorem mD.el {K:Nat}{ε ε':aM}{n e:Int}{b:List Nat}(I:mD ε n e b ε')(h:EL K ε.2): EL K ε'.2:=(t_ K).rd I h
theorem oB.el {K:Nat}{ε ε':aM}{now:List (Int×List Nat)}{b_:Bool}{n e:Int}{b:List Nat}(I:oB ε now b_ n e b ε')(h:EL K ε.2): EL K ε'.2:=(t_ K).zJ I h
theorem uO.el {K:Nat}{ε ε':aM}{now gP:List (Int×List Nat)}{b_:Bool}{n e:Int}{b:List Nat}(I:uO ε now b_ n b e gP ε')(h:EL K ε.2): EL K ε'.2:=(t_ K).Oo I h
theorem jr.el {K:Nat}{now:List (Int×List Nat)}{l:List Int}{ε ε':aM}{e:Int}{cs:List cj}(I:jr now l ε e cs ε')(h:EL K ε.2): EL K ε'.2:=(t_ K).ch I h
theorem qz.el {K:Nat}{now:List (Int×List Nat)}{aI:Nat}{l:List Int}{ε ε':aM}{e:Int}(I:qz now aI l ε e ε')(h:EL K ε.2): EL K ε'.2:=(t_ K).pt I h
theorem ED {K:Nat}: ∀ {l:List Int} {ε:aM},EL K ε.2→hG ε→EL K (writeAllF l ε).2.2∧hG (writeAllF l ε).2∧ct (writeAllF l ε).2≤ct ε:=by
 intro l
 induction l with
 | nil=>intro ε h I; exact ⟨h,I,aK _⟩
 | cons n l J =>
  intro ε h I
  have step:EL K (eo ε n).2.2∧hG (eo ε n).2∧ct (eo ε n).2≤ct ε:=by
   unfold eo
   split
   ·exact ⟨h,I,aK _⟩
   ·exact ⟨h.out,⟨rD I.ok,sn I.pins,sj I.full⟩,HO⟩
  rw [writeAllF]
  split
  ·exact step
  ·have i:=J (ε:=(eo ε n).2) step.1 step.2.1
   exact ⟨i.1,i.2.1,cL i.2.2 step.2.2⟩
structure EI (N B:Nat)(ε:aM): Prop where
 ok:hG ε
 ec:EC N ε
 el:EL (B*1048600) ε.2
 ct:ct ε≤B*65536
theorem EI.more {N B:Nat}{ε:aM}(h:EI N B ε){I:Nat}(J:B≤I): EI N I ε :=
 ⟨h.ok,h.ec,⟨h.el.log,h.el.cert,cL h.el.size (qN _ J)⟩,cL h.ct (qN _ J)⟩
theorem EI.rd {N B:Nat}{ε ε':aM}{n e:Int}{b:List Nat}(h:EI N B ε)(I:mD ε n e b ε'): EI N B ε' :=
 ⟨I.kQ h.ok,(I.ec h.ec h.ok.pins).1,I.el h.el,cL I.ct h.ct⟩
theorem EI.zJ {N B:Nat}{ε ε':aM}{now:List (Int×List Nat)}{n e:Int}{b:List Nat}(h:EI N B ε)(I:oB ε now false n e b ε'): EI N B ε' :=
 ⟨I.kQ h.ok,(I.ec h.ec h.ok.pins).1,I.el h.el,cL I.ct h.ct⟩
theorem EI.Oo {N B:Nat}{ε ε':aM}{now gP:List (Int×List Nat)}{n e:Int}{b:List Nat}(h:EI N B ε)(I:uO ε now false n b e gP ε'): EI N B ε' :=
 ⟨I.kQ h.ok,(I.ec h.ec h.ok.pins).1,I.el h.el,cL I.ct h.ct⟩
theorem EI.many {N B:Nat}{ε:aM}(h:EI N B ε): N≤65536:=by
 have:=h.ok.ok.dk.many
 rwa [h.ec.dk.aq] at this
theorem EI.aH {N B:Nat}{ε:aM}(h:EI N B ε): (∀n:Int,n∈ε.1.aH.map (·.1)→0≤n∧n<N)∧ε.1.aH.length≤N:=by
 have I:∀n:Int,n∈ε.1.aH.map (·.1)→0≤n∧n<N:=fun n U=>by
  cases J:lookL n ε.1.aH with
  | none=>exact absurd U (f_.1 J)
  | some i =>
   obtain ⟨h0,j,f,rfl,hf,hp⟩:=h.ec.j9 n i J
   have:=(h.ec.back j f hf).resolve_left (by omega)
   exact ⟨h0,hp ▸ this.lt⟩
 have:=vn N _ h.ec.nodup I
 rw [en] at this
 exact ⟨I,this⟩
theorem EI.aN {N B:Nat}{ε:aM}(h:EI N B ε): ε.1.aN.length≤N:=by
 have:=vn N _ h.ec.zR h.ec.oR
 rwa [en] at this
theorem EI.writeAll {N B:Nat}{ε:aM}(h:EI N B ε): (writeAllF (aJ ε.1.aH) ε).1=0∧EI N B (writeAllF (aJ ε.1.aH) ε).2∧∀m,pgA (writeAllF (aJ ε.1.aH) ε).2 m=pgA ε m:=by
 obtain ⟨I,J,U⟩:=qA (l:=aJ ε.1.aH) h.ec fun n hn=>by
  cases hq:lookL n ε.1.aH with
  | some _=>rfl
  | none=>exact absurd (gx.1 hn) (f_.1 hq)
 obtain ⟨k1,k2,k3⟩:=ED (l:=aJ ε.1.aH) h.el h.ok
 exact ⟨I,⟨k2,J,k1,cL k3 h.ct⟩,U⟩
theorem EI.sync {N B:Nat}{ε:aM}(h:EI N B ε): (dP ε.1 ε.2.2).1=0∧EI N B ((dP ε.1 ε.2.2).2.1,(ε.2.1,(dP ε.1 ε.2.2).2.2))∧∀m,0≤m→pgA ((dP ε.1 ε.2.2).2.1,(ε.2.1,(dP ε.1 ε.2.2).2.2)) m=pgA ε m:=by
 obtain ⟨p1,p2,p3⟩:=Fu h.ec
 refine ⟨p1,?_,p3⟩
 have e0:ε.2.2.dL=(0,ε.2.2.sync):=by rw [Dk.dL,af (by rw [h.ec.dk.alive]; decide),af (by have:=h.ec.dk.aF; omega),fU h.ec.dk.aF]
 have e:dP ε.1 ε.2.2=(0,{ ε.1 with aN:=ε.1.aN.filter fun e=>e.2.2 },ε.2.2.sync):=by rw [dP,e0,af (by simp)]
 rw [e] at p2 ⊢
 have I:=h.ok.ok.dk
 have U:∀(i:Nat) (b:List Nat),(laidP ε.2.2.now ε.2.2.aq)[i]?=some (some b)→b.length=512:=fun i b J=>by
  have h1:=laidP_get (n:=(i:Int)) h.ec.dk.aq h.ec.dk.nodup h.ec.dk.keys (by omega)
  rw [cP] at h1
  rw [h1] at J
  cases hq:lookL (i:Int) ε.2.2.now with
  | some x=>rw [hq] at J; simp only at J; have:=bw (bw J); subst this; exact I.now _ (fh hq)
  | none=>rw [hq] at J; exact I.aq i b J
 refine ⟨⟨⟨⟨h.ok.ok.pl.hand,h.ok.ok.pl.many,h.ok.ok.pl.aH,h.ok.ok.pl.len,h.ok.ok.pl.pins⟩,h.ok.ok.lg,⟨I.aF,I.len,I.room,fun e he=>(by cases he),U,I.aL,by show (laidP _ _).length≤_; rw [nC]; exact I.many⟩⟩,h.ok.pins,⟨h.ok.full.nodup,h.ok.full.j9⟩⟩,p2,⟨h.el.log,h.el.cert,h.el.size⟩,?_⟩
 have:=h.ct
 simp only [Am.ct] at this ⊢
 have e2:ε.2.2.sync.waiting.length=0:=rfl
 omega
theorem EI.clean {N B:Nat}{ε:aM}(h:EI N B ε): (fD ε).1=0∧EI N B (fD ε).2∧∀m,0≤m→pgA (fD ε).2 m=pgA ε m:=by
 obtain ⟨I,J,U⟩:=h.writeAll
 obtain ⟨p1,p2,p3⟩:=J.sync
 have e:fD ε=((dP (writeAllF (aJ ε.1.aH) ε).2.1 (writeAllF (aJ ε.1.aH) ε).2.2.2).1,((dP (writeAllF (aJ ε.1.aH) ε).2.1 (writeAllF (aJ ε.1.aH) ε).2.2.2).2.1,((writeAllF (aJ ε.1.aH) ε).2.2.1,(dP (writeAllF (aJ ε.1.aH) ε).2.1 (writeAllF (aJ ε.1.aH) ε).2.2.2).2.2))):=by
  rw [fD,af (by rw [h.ec.dk.alive]; decide),af (by rw [I]; decide)]
 rw [e]
 exact ⟨p1,p2,fun m hm=>by rw [p3 m hm,U]⟩
theorem EI.force {N B:Nat}{ε:aM}{n:Nat}(h:EI N B ε): (bC ε.2 n).1=0∧EI N B (ε.1,(bC ε.2 n).2)∧∀m,pgA (ε.1,(bC ε.2 n).2) m=pgA ε m:=by
 obtain ⟨f1,f2⟩:=Ft (n:=n) h.ec.dk
 obtain ⟨I,J⟩:=h.ec.log f2
 refine ⟨f1,⟨⟨⟨h.ok.ok.pl,rU h.ok.ok.lg,nX h.ok.ok.dk⟩,h.ok.pins,h.ok.full⟩,I,h.el.force,?_⟩,J⟩
 have:=h.ct
 simp only [Am.ct,kL] at this ⊢
 exact this
theorem EI.app {N B:Nat}{ε:aM}{kd:Int}{tx pv nx:Nat}{data:List Nat}{c:List cj}(h:EI N B ε)(hB:B≤1000)(hg:dK kd c=true):
  EI N (B+1) (ε.1,(bp ε.2 kd tx pv nx data c).2)∧(∀m,pgA (ε.1,(bp ε.2 kd tx pv nx data c).2) m=pgA ε m) ∧
  (((bp ε.2 kd tx pv nx data c).1.2=0∧bp ε.2 kd tx pv nx data c=((ε.2.1.base+ε.2.1.b.length,0),(ε.2.1.app (cN ε.2.1 kd tx pv nx data c),{ ε.2.2 with log:=ε.2.2.log++cN ε.2.1 kd tx pv nx data c }))) ∨
   (bp ε.2 kd tx pv nx data c).1.2=7∨((bp ε.2 kd tx pv nx data c).1.2=2∧1048576<(cY kd tx pv nx data c).length)):=by
 have hs:=h.el.size
 have I:=vD (kd:=kd) (tx:=tx) (pv:=pv) (nx:=nx) (data:=data) (c:=c) h.ok.ok.lg h.ok.ok.dk h.el.log (by omega)
 have xG:Am.ct (ε.1,(bp ε.2 kd tx pv nx data c).2)≤(B+1)*65536:=by
  have e:Am.ct (ε.1,(bp ε.2 kd tx pv nx data c).2)=Am.ct ε:=by simp only [Am.ct,I.2.2.2.2.2.1]
  rw [e]
  exact cL h.ct (qN _ (mY B))
 have eO:(bp ε.2 kd tx pv nx data c).2.1.base+(bp ε.2 kd tx pv nx data c).2.1.b.length≤(B+1)*1048600:=by
  have h1:=I.2.2.2.1
  have h2:=I.2.2.2.2.1
  omega
 have main:∀(hk:DK ε.2.2 (bp ε.2 kd tx pv nx data c).2.2) (hc:(bp ε.2 kd tx pv nx data c).2.1.forced≤(bp ε.2 kd tx pv nx data c).2.2.aL),EI N (B+1) (ε.1,(bp ε.2 kd tx pv nx data c).2)∧∀m,pgA (ε.1,(bp ε.2 kd tx pv nx data c).2) m=pgA ε m:=fun hk hc=>by
  obtain ⟨l1,l2⟩:=h.ec.log hk
  exact ⟨⟨⟨⟨h.ok.ok.pl,I.1,I.2.1⟩,h.ok.pins,h.ok.full⟩,l1,⟨I.2.2.1,hc,eO⟩,xG⟩,l2⟩
 rcases iD ε.2 kd tx pv nx data c with ⟨e,he,hc,J⟩ | ⟨hd,hf,J⟩ | ⟨_,_,hd,iH,hf,J⟩
 ·obtain ⟨m1,m2⟩:=main (by rw [J]; exact DK.refl _) (by rw [J]; exact h.el.cert)
  refine ⟨m1,m2,.inr ?_⟩
  rw [J]
  rcases hc with ⟨_,U⟩ | ⟨rfl,U⟩ | ⟨_,U⟩ | ⟨rfl,U⟩
  ·rw [hg] at U; cases U
  ·exact .inr ⟨rfl,U⟩
  ·rw [h.ec.dk.alive] at U; cases U
  ·exact .inl rfl
 ·have:=h.ec.dk.aF; omega
 ·rw [fU h.ec.dk.aF] at J
  obtain ⟨m1,m2⟩:=main (by rw [J]; exact ⟨rfl,rfl,rfl,rfl⟩) (by rw [J]; exact h.el.cert)
  exact ⟨m1,m2,.inl ⟨by rw [J],J⟩⟩
theorem EI.done {N B:Nat}{ε ε':aM}{now:List (Int×List Nat)}{kd:Int}{tx pv nx aI:Nat}{data:List Nat}{e:Int}{cl:Bool}(h:EI N B ε)(hB:B≤1000)(hn:NW N now)(h1:1≤kd)(h2:kd≤7)(hr:sq ε now kd tx pv nx data 0 aI e cl ε'):
  (cl=false∧(e=7∨e=2)∧EI N (B+2) ε'∧∀m,pgA ε' m=pgA ε m) ∨
  (cl=true∧e=0∧EI N (B+2) ε'∧∀m,pgA ε' m=match lookL m now with | some b=>cO b aI | none=>pgA ε m):=by
 have I:∀n∈aJ now,0≤n∧n<N:=fun n U=>hn.keys n (gx.1 U)
 have hN:=h.many
 have iH:∀ {c:List cj} {ε':aM} {e:Int},jr now (aJ now) ε e c ε'→dK kd c=true:=fun J=>by
  refine HR ⟨h1,by omega⟩ (J.fit (fun x hx=>fA (hn.good x hx).1) fun n U => ?_)
  have:=I n U
  omega
 cases hr with
 | arg U=>omega
 | dead _ _ _ hd=>rw [h.ec.dk.alive] at hd; cases hd
 | mB e c ε' _ _ _ hd J he=>exact absurd (J.ec h.ec h.ok I).2.2 he
 | app c ε' _ _ _ hd J he =>
  obtain ⟨c1,c2,c3⟩:=J.ec h.ec h.ok I
  have hi:EI N B ε':=⟨J.kQ h.ok,c1,J.el h.el,cL J.ct h.ct⟩
  obtain ⟨a1,a2,a3⟩:=hi.app (kd:=kd) (tx:=tx) (pv:=pv) (nx:=nx) (data:=data) (c:=c) hB (iH J)
  refine .inl ⟨rfl,?_,a1.more (by omega),fun m=>by rw [a2,c2]⟩
  rcases a3 with a3 | a3 | a3
  ·exact absurd a3.1 he
  ·exact .inl a3
  ·exact .inr a3.1
 | put c ε' e pV _ _ _ hd J ha hp =>
  obtain ⟨c1,c2,c3⟩:=J.ec h.ec h.ok I
  have hi:EI N B ε':=⟨J.kQ h.ok,c1,J.el h.el,cL J.ct h.ct⟩
  obtain ⟨a1,a2,a3⟩:=hi.app (kd:=kd) (tx:=tx) (pv:=pv) (nx:=nx) (data:=data) (c:=c) hB (iH J)
  obtain ⟨p1,p2,p3⟩:=hp.ec a1.ec a1.ok hn I
  have hl:(aJ now).length≤N:=by
   have:=hn.len
   rw [aJ,(eB _).length_eq,en]; exact this
  have YZ:=hp.ct a1.ok
  have RJ:=a1.ct
  refine .inr ⟨rfl,p2,⟨hp.kQ a1.ok,p1,?_,by omega⟩,fun m => ?_⟩
  ·have:=hp.el a1.el
   exact ⟨this.log,this.cert,cL this.size (qN _ (by omega))⟩
  ·rw [aj p2,p3]
   by_cases hm:m∈aJ now
   ·rw [aj hm]
    cases U:lookL m now with
    | some b=>rfl
    | none=>exact absurd (gx.1 hm) (f_.1 U)
   ·rw [af hm,a2,c2]
    have:lookL m now=none:=f_.2 fun U=>hm (gx.2 U)
    rw [this]
theorem m7 (n:Nat): (digits 9 n).length≤10:=vj 9 n
theorem Jz {kd:Int}{tx pv nx:Nat}{data:List Nat}(J:data.length≤4104): (cY kd tx pv nx data []).length≤1048576:=by
 have U:=m7 tx
 have h2:=m7 pv
 have h3:=m7 nx
 have h4:=m7 data.length
 have I:=m7 ([]:List cj).length
 simp only [cY,bA,bj,bY,DT] at I ⊢
 omega
theorem EE {N:Nat}{x:LD}{n:Nat}(h:DA N x.2)(I:n<x.1.base+x.1.b.length): n<(bC x n).2.1.base+(bC x n).2.1.forced:=by
 unfold bC
 split
 ·rename_i J; exact J
 ·rw [Ie h,af (by simp)]
  exact I
theorem Q7 {μ:Lg}{b:List Nat}: (μ.app b).hasB (μ.base+μ.b.length)=true:=by
 simp only [Lg.hasB,Lg.app,List.any_append,List.any_cons,List.any_nil,qU,mX]
 exact .inr (by simp)
theorem Uf {μ:Lg}(h:μ.Ok){n:Nat}(I:μ.hasB n=true): n<μ.base+μ.b.length:=by
 simp only [Lg.hasB,tF,ej] at I
 obtain ⟨s,hs,rfl⟩:=I
 have:=h.low s hs
 omega
theorem Lg.Ok.cut {μ:Lg}{n:Nat}(h:μ.Ok)(h1:μ.base≤n)(h2:n≤μ.base+μ.b.length): (μ.cut n).Ok:=by
 have hs:=h.size
 have hf:=h.forced
 have hl:=h.len
 have hd:(μ.b.drop (n-μ.base)).length=μ.b.length-(n-μ.base):=nL
 have J:∀s,s∈vE μ n→∃t∈μ.bq,n≤μ.base+t∧s=t-(n-μ.base):=fun s hs=>by
  obtain ⟨t,ht,rfl⟩:=List.mem_map.1 hs
  obtain ⟨I,U⟩:=List.mem_filter.1 ht
  exact ⟨t,I,by simpa using U,rfl⟩
 refine ⟨?_,?_,fun s hs => ?_,?_,?_,?_,h.check⟩
 ·show n+(μ.b.drop (n-μ.base)).length≤_; omega
 ·show (vE μ n).length≤_
  rw [vE,en]
  exact cL (List.length_filter_le _ _) h.many
 ·obtain ⟨t,I,U,rfl⟩:=J s hs
  have:=h.low t I
  show _<(μ.b.drop (n-μ.base)).length
  omega
 ·show (vE μ n).Pairwise (·< ·)
  rw [vE,List.pairwise_map]
  refine (h.xm.filter _).imp_of_mem fun {a b} ha hb pH => ?_
  have I:=(List.mem_filter.1 ha).2
  have I:n≤μ.base+a:=by simpa using I
  omega
 ·show μ.forced-(n-μ.base)≤(μ.b.drop (n-μ.base)).length; omega
 ·show (μ.b.drop (n-μ.base)).length≤_; omega
theorem EI.log {N B:Nat}{ε:aM}{x:LD}(h:EI N B ε)(I:x.1.Ok)(J:x.2.Ok)(U:DK ε.2.2 x.2)(hl:EL (B*1048600) x)(hw:x.2.waiting=ε.2.2.waiting): EI N B (ε.1,x)∧∀m,pgA (ε.1,x) m=pgA ε m:=by
 obtain ⟨l1,l2⟩:=h.ec.log U
 refine ⟨⟨⟨⟨h.ok.ok.pl,I,J⟩,h.ok.pins,h.ok.full⟩,l1,hl,?_⟩,l2⟩
 have e:Am.ct (ε.1,x)=Am.ct ε:=by simp only [Am.ct,hw]
 rw [e]; exact h.ct
theorem EI.check {N B:Nat}{ε:aM}{n:Nat}(h:EI N B ε)(U:ε.2.1.hasB n=true∧n<ε.2.1.base+ε.2.1.forced): (gU ε.2 n).1=0∧(gU ε.2 n).2.1={ ε.2.1 with check:=n }∧EI N B (ε.1,(gU ε.2 n).2)∧∀m,pgA (ε.1,(gU ε.2 n).2) m=pgA ε m:=by
 have hm:=Uc (b:=ew ε.2.1.base n) h.ec.dk (by rw [mA]; decide)
 have e:gU ε.2 n=(0,({ ε.2.1 with check:=n },{ ε.2.2 with mark:=ew ε.2.1.base n })):=by
  rw [gU,af (not_not_intro U),hm,af (by simp)]
 have hf:=h.ok.ok.lg.forced
 have hs:=h.ok.ok.lg.size
 obtain ⟨I,J⟩:=Dd (n:=n) h.ok.ok.lg h.ok.ok.dk (by omega)
 rw [e] at I J ⊢
 exact ⟨rfl,rfl,h.log I J ⟨rfl,rfl,rfl,rfl⟩ ⟨h.el.log,h.el.cert,h.el.size⟩ rfl⟩
theorem EI.cut {N B:Nat}{ε:aM}{n:Nat}(h:EI N B ε)(J:ε.2.1.hasB n=true)(hf:n≤ε.2.1.base+ε.2.1.forced)(hc:ε.2.1.check=0∨n≤ε.2.1.check): (gL ε.2 n).1=0∧EI N B (ε.1,(gL ε.2 n).2)∧∀m,pgA (ε.1,(gL ε.2 n).2) m=pgA ε m:=by
 have h1:=EA J
 have h2:=Uf h.ok.ok.lg J
 have Bg:=h.ok.ok.lg.forced
 have U:=h.el.cert
 have I:=h.ok.ok.dk
 have OM:=I.aL
 have C7:=I.len
 have eO:=h.el.size
 have e1:ε.2.2.mI ((n-ε.2.1.base:Nat):Int) (ew n ε.2.1.check)=(0,{ ε.2.2 with log:=ε.2.2.log.drop (n-ε.2.1.base),aL:=ε.2.2.aL-(n-ε.2.1.base),mark:=ew n ε.2.1.check }):=by
  rw [Dk.mI,af (by rw [h.ec.dk.alive]; decide),af (not_not_intro ⟨by omega,by omega,by rw [mA]; decide⟩),af (by have:=h.ec.dk.aF; omega),fU h.ec.dk.aF,cP]
 have e:gL ε.2 n=(0,(ε.2.1.cut n,{ ε.2.2 with log:=ε.2.2.log.drop (n-ε.2.1.base),aL:=ε.2.2.aL-(n-ε.2.1.base),mark:=ew n ε.2.1.check })):=by
  rw [gL,af (by rw [J]; simp; omega),e1,af (by simp)]
 rw [e]
 have hd:(ε.2.2.log.drop (n-ε.2.1.base)).length=ε.2.2.log.length-(n-ε.2.1.base):=nL
 have hd2:(ε.2.1.b.drop (n-ε.2.1.base)).length=ε.2.1.b.length-(n-ε.2.1.base):=nL
 refine ⟨rfl,h.log (h.ok.ok.lg.cut h1 (by omega)) ⟨I.aF,by show (ε.2.2.log.drop _).length≤_; omega,I.room,I.now,I.aq,by show ε.2.2.aL-_≤(ε.2.2.log.drop _).length; omega,I.many⟩ ⟨rfl,rfl,rfl,rfl⟩ ⟨?_,?_,?_⟩ rfl⟩
 ·show ε.2.1.b.drop _=ε.2.2.log.drop _; rw [h.el.log]
 ·show ε.2.1.forced-_≤ε.2.2.aL-_; omega
 ·show n+(ε.2.1.b.drop _).length≤_; omega
theorem EI.zT {N B:Nat}{ε ε':aM}{lo:Nat}{data dF J:List Nat}{aC U:Nat}{e:Int}(h:EI N B ε)(hB:B≤1000)(hr:Bp ε lo data dF aC e ε' J U):
  EI N (B+1) ε'∧(∀m,pgA ε' m=pgA ε m)∧((e=2∧4096<data.length∧J=dF)∨(e=7∧J=dF)∨(e=0∧J=data)):=by
 cases hr with
 | OB hb=>exact ⟨h.more (by omega),fun _=>rfl,.inl ⟨rfl,hb,rfl⟩⟩
 | dead _ hd=>rw [h.ec.dk.alive] at hd; cases hd
 | go e y J U hb hd hc =>
  have hw:=cX 8 (gR ε)
  obtain ⟨a1,a2,a3⟩:=h.app (kd:=8) (tx:=0) (pv:=0) (nx:=0) (data:=le 8 (gR ε)++data) (c:=[]) hB (by decide)
  have ey:bp ε.2 8 0 0 0 (le 8 (gR ε)++data) []=mE ε data:=rfl
  rw [ey] at a1 a2 a3
  have a3:((mE ε data).1.2=0∧mE ε data=((ε.2.1.base+ε.2.1.b.length,0),(ε.2.1.app (cN ε.2.1 8 0 0 0 (le 8 (gR ε)++data) []),{ ε.2.2 with log:=ε.2.2.log++cN ε.2.1 8 0 0 0 (le 8 (gR ε)++data) [] })))∨(mE ε data).1.2=7:=by
   rcases a3 with a3 | a3 | ⟨_,a3⟩
   ·exact .inl a3
   ·exact .inr a3
   ·have:=Jz (kd:=8) (tx:=0) (pv:=0) (nx:=0) (data:=le 8 (gR ε)++data) (by rw [bA]; omega)
    omega
  have sE:gR ε≤ε.2.1.base+ε.2.1.b.length:=Ky _ _ _
  have WE:wD ε lo≤ε.2.1.base+ε.2.1.b.length:=by
   rw [wD]; split <;> omega
  rcases a3 with ⟨a0,a3⟩ | a3
  ·have Fk:8≤(cN ε.2.1 8 0 0 0 (le 8 (gR ε)++data) []).length:=by rw [cN,mH]; omega
   generalize cN ε.2.1 8 0 0 0 (le 8 (gR ε)++data) []=rc at Fk a3
   generalize mE ε data=I at *
   have n1:I.1.1=ε.2.1.base+ε.2.1.b.length:=by rw [a3]
   have n2:I.2.1=ε.2.1.app rc:=by rw [a3]
   -- the log is forced
   obtain ⟨f1,f2,f3⟩:=a1.force (n:=I.1.1)
   have f1:(kN I).1=0:=f1
   have f2:EI N (B+1) (ε.1,(kN I).2):=f2
   have f3:∀m,pgA (ε.1,(kN I).2) m=pgA (ε.1,I.2) m:=f3
   have vh:I.1.1<I.2.1.base+I.2.1.b.length:=by
    rw [n1,n2]; show _<ε.2.1.base+(ε.2.1.b++rc).length; rw [bA]; omega
   have f4:I.1.1<(kN I).2.1.base+(kN I).2.1.forced:=EE a1.ec.dk vh
   have f5:=zI (π:=ε.1) (x:=I.2) (n:=I.1.1)
   have f6:(kN I).2.1.base=I.2.1.base:=f5.base
   have f7:(kN I).2.1.bq=I.2.1.bq:=f5.bq
   have f8:(kN I).2.1.hasB I.1.1=true:=by
    have:I.2.1.hasB I.1.1=true:=by rw [n1,n2]; exact Q7
    rw [Lg.hasB,f6,f7]; exact this
   -- the mark
   obtain ⟨c1,c2,c3,c4⟩:=f2.check (n:=I.1.1) ⟨f8,f4⟩
   have c1:(gv I).1=0:=c1
   have c2:(gv I).2.1={ (kN I).2.1 with check:=I.1.1 }:=c2
   have c3:EI N (B+1) (ε.1,(gv I).2):=c3
   have c4:∀m,pgA (ε.1,(gv I).2) m=pgA (ε.1,(kN I).2) m:=c4
   have mC:∀m,pgA (ε.1,(gv I).2) m=pgA ε m:=fun m=>by rw [c4,f3,a2]
   cases hc with
   | app he=>exact absurd a0 he
   | force _ he=>exact absurd f1 he
   | check _ _ he=>exact absurd c1 he
   | cut t _ _ _ ht bS _ =>
    have Ho:I.1.1<(gv I).2.1.base+(gv I).2.1.b.length:=by
     have:=c3.ok.ok.lg.forced
     have e1:(gv I).2.1.base=(kN I).2.1.base:=by rw [c2]
     have e2:(gv I).2.1.forced=(kN I).2.1.forced:=by rw [c2]
     simp only at this
     omega
    have EF:(gv I).2.1.hasB t=true∧t≤wD ε lo:=by
     rcases ht with ⟨_,ht⟩ | ht | ht
     ·omega
     ·exact ht
     ·omega
    have e1:(gv I).2.1.base=(kN I).2.1.base:=by rw [c2]
    have e2:(gv I).2.1.forced=(kN I).2.1.forced:=by rw [c2]
    have e3:(gv I).2.1.check=I.1.1:=by rw [c2]
    obtain ⟨k1,k2,k3⟩:=c3.cut EF.1 (by show t≤(gv I).2.1.base+(gv I).2.1.forced; omega) (.inr (by show t≤(gv I).2.1.check; omega))
    exact ⟨k2,fun m=>(k3 m).trans (mC m),.inr (.inr ⟨k1,rfl⟩)⟩
   | cG _ _ _ _=>exact ⟨c3,mC,.inr (.inr ⟨rfl,rfl⟩)⟩
  ·generalize mE ε data=I at *
   cases hc with
   | app he=>exact ⟨a1,a2,.inr (.inl ⟨a3,rfl⟩)⟩
   | force h0=>omega
   | check h0=>omega
   | cut t h0=>omega
   | cG h0=>omega
def hO (π:Pl)(n:Int)(b:List Nat): Prop:=∃(i:Nat) (f:Fm),π.ak[i]?=some f∧f.aO=n∧0≤n∧f.changed=true∧f.b=b
abbrev VP := (Int→List Nat→Prop)→List (Int×(Nat×Bool))→LD→Prop
abbrev vw (P:VP)(ε:aM): Prop:=P (hO ε.1) ε.1.aN ε.2
theorem Q8 {π I:Pl}(hn:fX π I): hO I=hO π:=by
 funext n b
 refine propext ⟨fun ⟨i,x,hx,J,U,h2,h3⟩ => ?_,fun ⟨i,f,hf,J,U,h2,h3⟩ => ?_⟩
 ·obtain ⟨f,t,hf,rfl⟩:=hn.back hx
  exact ⟨i,f,hf,J,U,h2,h3⟩
 ·obtain ⟨t,ht⟩:=hn.get i f hf
  exact ⟨i,_,ht,J,U,h2,h3⟩
theorem AR {π:Pl}{i:Nat}{f g:Fm}(J:π.ak[i]?=some f)(hs:∀n b,(f.aO=n∧0≤n∧f.changed=true∧f.b=b)↔(g.aO=n∧0≤n∧g.changed=true∧g.b=b)){w:List (Int×Int)}{d:List (Int×(Nat×Bool))}{hd:Nat}: hO ⟨π.ak.set i g,w,d,hd⟩=hO π:=by
 have hi:=(List.getElem?_eq_some_iff.1 J).1
 funext n b
 refine propext ⟨fun ⟨j,x,I,h⟩ => ?_,fun ⟨j,x,I,h⟩ => ?_⟩
 ·rcases nE J I with ⟨rfl,rfl⟩ | ⟨_,I⟩
  ·exact ⟨i,f,J,(hs n b).2 h⟩
  ·exact ⟨j,x,I,h⟩
 ·by_cases U:i=j
  ·subst U
   rw [J] at I
   have:=bw I
   subst this
   exact ⟨i,g,iO hi,(hs n b).1 h⟩
  ·exact ⟨j,x,by show (π.ak.set i g)[j]?=some x; rw [iP U]; exact I,h⟩
theorem ON {π:Pl}{i:Nat}{f g:Fm}(J:π.ak[i]?=some g)(U:0≤g.aO→g.changed=false): hO (dz π i f)=hO π :=
 AR J fun n b=>⟨(fun ⟨h1,h0,I,_⟩=>by rw [U (by omega)] at I; cases I),fun ⟨_,_,I,_⟩=>(by cases I)⟩
theorem L6 {π:Pl}{i:Nat}{e:Fm}{n:Int}{b:List Nat}(he:π.ak[i]?=some e)(J:e.aO<0): hO (jK π i n b)=hO π :=
 AR he fun m c=>⟨fun ⟨U,h0,_⟩=>by omega,fun ⟨_,_,I,_⟩=>(by cases I)⟩
structure jS (N:Nat)(P:VP): Prop where
 one:∀(ε:aM) (i:Nat) (f:Fm),EC N ε→ε.1.ak[i]?=some f→0≤f.aO→f.changed=true→vw P ε→vw P (outF ε i).2
theorem kM.od {R:LD→Prop}(h:kM R)(N:Nat): jS N (fun _ _ x=>R x):=⟨fun _ _ _ _ _ _ _ I=>h.out I⟩
section
variable {N:Nat} {P:VP} {ε ε':aM} {n e:Int} {b:List Nat} {now gP:List (Int×List Nat)} {l:List Int} {cs:List cj}
theorem jS.out (h:jS N P){i:Nat}{f:Fm}(he:EC N ε)(I:ε.1.ak[i]?=some f)(J:vw P ε): vw P (outF ε i).2:=by
 by_cases U:f.aO<0∨f.changed=false
 ·have e:outF ε i=(0,ε):=by simp only [outF,I,aj U]
  rw [e]; exact J
 ·exact h.one ε i f he I (by omega) (by cases hq:f.changed with | true=>rfl | false=>exact absurd (.inr hq) U) J
theorem jS.iZ (h:jS N P)(hr:fY ε n e b ε')(he:EC N ε)(hv:vw P ε): vw P ε':=by
 cases hr with
 | arg J=>exact hv
 | Bj i f h1 h2 hl U =>
  show P (hO ⟨ε.1.ak.set i { f with ff:=true,pins:=f.pins+1 },ε.1.aH,ε.1.aN,ε.1.hand⟩) ε.1.aN ε.2
  rw [AR U (g:={ f with ff:=true,pins:=f.pins+1 }) (fun n b=>Iff.rfl)]
  exact hv
 | out I i f h1 h2 hl J U hh hq=>exact absurd ((he.rE J).1.out U).1 hq
 | read I i f h1 h2 hl J U hh hq hr =>
  obtain ⟨k1,k2,k3,k4,g,k5,k6,k7⟩:=(he.rE J).1.out U
  refine absurd ?_ hr
  rw [he.dk.aq] at h2
  rw [Dk.rT,af (by rw [k2.dk.alive]; decide),af (by rw [k2.dk.aq]; exact not_not_intro ⟨h1,h2⟩)]
 | bad I i f h1 h2 hl J U hh hq hr hc =>
  obtain ⟨k1,k2,k3,k4,g,k5,k6,k7⟩:=(he.rE J).1.out U
  rw [he.dk.aq] at h2
  exact absurd (k2.dk.good n h1 h2) hc
 | load I i f h1 h2 hl J U hh hq hr hc =>
  obtain ⟨n1,n2⟩:=he.rE J
  have r_:vw P (I,ε.2):=by show P (hO I) I.aN ε.2; rw [Q8 J,J.aN]; exact hv
  have ng:=h.out (ε:=(I,ε.2)) n1 U r_
  obtain ⟨k1,k2,k3,k4,g,k5,k6,k7⟩:=n1.out U
  have e1:=ON (f:=f) k5 k7
  have hg:(dz (outF (I,ε.2) i).2.1 i f).ak[i]?=some eY:=(k2.dz k5 k6 k7).2.2.1
  show P (hO (jK (dz (outF (I,ε.2) i).2.1 i f) i n ((outF (I,ε.2) i).2.2.2.at n))) (outF (I,ε.2) i).2.1.aN (outF (I,ε.2) i).2.2
  rw [L6 hg (by decide),e1]
  exact ng
theorem Fv {π:Pl}: hO (unpinF π n).2=hO π∧(unpinF π n).2.aN=π.aN:=by
 unfold unpinF
 split
 ·exact ⟨rfl,rfl⟩
 ·split
  ·exact ⟨rfl,rfl⟩
  ·rename_i i hi f I
   exact ⟨AR I (g:={ f with pins:=f.pins-1 }) (fun n b=>Iff.rfl),rfl⟩
theorem jS.rd (h:jS N P)(I:mD ε n e b ε')(he:EC N ε)(J:vw P ε): vw P ε':=by
 cases I with
 | dead U=>exact J
 | iZ e b ε' U I _=>exact h.iZ I he J
 | tq b ε' U I _ =>
  have:=h.iZ I he J
  obtain ⟨u1,u2⟩:=Fv (π:=ε'.1) (n:=n)
  show P (hO (unpinF ε'.1 n).2) (unpinF ε'.1 n).2.aN ε'.2
  rw [u1,u2]; exact this
 | read b ε' U I _ =>
  have:=h.iZ I he J
  obtain ⟨u1,u2⟩:=Fv (π:=ε'.1) (n:=n)
  show P (hO (unpinF ε'.1 n).2) (unpinF ε'.1 n).2.aN ε'.2
  rw [u1,u2]; exact this
theorem jS.zJ (h:jS N P)(I:oB ε now false n e b ε')(he:EC N ε)(J:vw P ε): vw P ε':=by
 cases I with
 | arg hn=>exact J
 | b_ _ _ ho=>cases ho
 | own b U h2 _ hl=>exact J
 | read e b ε' U h2 _ hl I=>exact h.rd I he J
theorem jS.Oo (h:jS N P)(I:uO ε now false n b e gP ε')(he:EC N ε)(J:vw P ε): vw P ε':=by
 cases I with
 | may e c ε' I _=>exact h.zJ I he J
 | bad c ε' I U=>exact h.zJ I he J
 | done c ε' I U=>exact h.zJ I he J
theorem jS.ch (h:jS N P)(I:jr now l ε e cs ε'): EC N ε→hG ε→vw P ε→vw P ε':=by
 induction I with
 | nil ε=>exact fun _ _ J=>J
 | err n l ε e b ε' I _=>exact fun he _ J=>h.rd I he J
 | part n l ε cR b ε' c e cs U I hb hd hc jY ht ih=>exact fun he h3 J=>ih (I.ec he h3.pins).1 (I.kQ h3) (h.rd I he J)
 | whole n l ε cR b ε' e cs U I hb hd ht ih=>exact fun he h3 J=>ih (I.ec he h3.pins).1 (I.kQ h3) (h.rd I he J)
end
end Go.Proofs.YtconhghphklfjaaGreat.Am
