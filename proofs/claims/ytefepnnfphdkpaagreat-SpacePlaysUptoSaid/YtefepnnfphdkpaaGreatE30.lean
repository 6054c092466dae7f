/- SpacePlays: a part of its proof; conditions: its statement's. -/
import Derived.Test.YtefepnnfphdkpaaGreatE29
namespace Go.Proofs.YtefepnnfphdkpaaGreat.Am
open Go
theorem yq : ∀(N:Nat) (l:List Int),l.Nodup→(∀n∈l,0≤n∧n<N)→l.length≤N:=by
 intro N
 induction N with
 | zero =>
  intro l _ h
  cases l with
  | nil=>exact aD _
  | cons n l=>have:=h n ct; omega
 | succ N ih =>
  intro l J h
  have h1:=ih (l.erase (N:Int)) (J.erase _) fun n hn=>by
   have I:=(J.mem_erase_iff).1 hn
   have:=h n I.2
   have:=I.1
   omega
  have I:l.length≤(l.erase (N:Int)).length+1:=by
   rw [List.length_erase]; split <;> omega
  omega
structure NW (N:Nat)(now:List (Int×List Nat)): Prop where
 good:∀e∈now,cj e.2=true∧∀x∈e.2,x<256
 keys:∀k:Int,k∈now.map (·.1)→0≤k∧k<N
 nodup:(now.map (·.1)).Nodup
theorem NW.nil (N:Nat): NW N []:=⟨fun e h=>(by cases h),fun k h=>(by cases h),pM⟩
theorem Ko {α:Type}{n:Int}{a:α}: ∀ {l:List (Int×α)} {e:Int×α},e∈dO n a l→e=(n,a)∨e∈l:=by
 intro l
 induction l with
 | nil=>intro e h; simp only [dO,uJ] at h; exact .inl h
 | cons x l I =>
  intro e h
  simp only [dO] at h
  split at h
  ·rcases List.mem_cons.1 h with h | h
   ·exact .inl h
   ·exact .inr (b6 _ h)
  ·rcases List.mem_cons.1 h with h | h
   ·exact .inr (by rw [h]; exact ct)
   ·rcases I h with h | h
    ·exact .inl h
    ·exact .inr (b6 _ h)
theorem NW.put {N:Nat}{now:List (Int×List Nat)}{n:Int}{b:List Nat}(h:NW N now)(J:0≤n)(h1:n<N)(hg:cj b=true)(hb:∀x∈b,x<256): NW N (dO n b now):=by
 refine ⟨fun e he => ?_,fun k I => ?_,lS h.nodup⟩
 ·rcases Ko he with rfl | he
  ·exact ⟨hg,hb⟩
  ·exact h.good e he
 ·rcases sX.1 I with rfl | I
  ·exact ⟨J,h1⟩
  ·exact h.keys k I
theorem NW.len {N:Nat}{now:List (Int×List Nat)}(h:NW N now): now.length≤N:=by
 have:=yq N _ h.nodup h.keys
 rwa [dF] at this
theorem NW.look {N:Nat}{now:List (Int×List Nat)}(h:NW N now){n:Int}{b:List Nat}(I:lookL n now=some b): cj b=true∧∀x∈b,x<256:=h.good _ (kE I)
theorem tv.ec {N:Nat}{ε ε':aE}{now bS:List (Int×List Nat)}{n e:Int}{b:List Nat}(I:tv ε now false n b e bS ε')(h:EC N ε)(hp:∀f∈ε.1.aj,f.pins=0): EC N ε'∧(∀m,pgA ε' m=pgA ε m) ∧
  (¬(0≤n∧n<N)→e=1∧bS=now)∧(0≤n→n<N→cj b=false→e=4∧bS=now)∧(0≤n→n<N→cj b=true→e=0∧bS=dO n b now):=by
 cases I with
 | may e c ε' I he =>
  obtain ⟨k1,k2,k3,J⟩:=I.ec h hp
  exact ⟨k1,k2,fun hn=>⟨J hn,rfl⟩,fun a b _=>absurd (k3 a b).1 he,fun a b _=>absurd (k3 a b).1 he⟩
 | bad c ε' I hg =>
  obtain ⟨k1,k2,k3,J⟩:=I.ec h hp
  exact ⟨k1,k2,fun hn=>absurd (J hn) (by decide),fun _ _ _=>⟨rfl,rfl⟩,fun _ _ hq=>by rw [hg] at hq; cases hq⟩
 | done c ε' I hg =>
  obtain ⟨k1,k2,k3,J⟩:=I.ec h hp
  exact ⟨k1,k2,fun hn=>absurd (J hn) (by decide),fun _ _ hq=>(by rw [hg] at hq; cases hq),fun _ _ _=>⟨rfl,rfl⟩⟩
theorem kG.ec {N:Nat}{now:List (Int×List Nat)}{l:List Int}{ε ε':aE}{e:Int}{cs:List dG}(I:kG now l ε e cs ε'): EC N ε→iR ε→(∀n∈l,0≤n∧n<N)→EC N ε'∧(∀m,pgA ε' m=pgA ε m)∧e=0:=by
 induction I with
 | nil ε=>intro h _ _; exact ⟨h,fun _=>rfl,rfl⟩
 | err n l ε e b ε' I he =>
  intro h J hl
  obtain ⟨k1,k2,k3,k4⟩:=I.ec h J.pins
  have:=hl n ct
  exact absurd (k3 this.1 this.2).1 he
 | part n l ε dD b ε' c e cs lN I hb hd hc kQ ht ih =>
  intro h J hl
  obtain ⟨k1,k2,k3,k4⟩:=I.ec h J.pins
  obtain ⟨i1,i2,i3⟩:=ih k1 (I.l9 J) fun m hm=>hl m (b6 _ hm)
  exact ⟨i1,fun m=>by rw [i2,k2],i3⟩
 | whole n l ε dD b ε' e cs lN I hb hd ht ih =>
  intro h J hl
  obtain ⟨k1,k2,k3,k4⟩:=I.ec h J.pins
  obtain ⟨i1,i2,i3⟩:=ih k1 (I.l9 J) fun m hm=>hl m (b6 _ hm)
  exact ⟨i1,fun m=>by rw [i2,k2],i3⟩
theorem EC.log {N:Nat}{ε:aE}{x:LD}(h:EC N ε)(k:DK ε.2.2 x.2): EC N (ε.1,x)∧∀m,pgA (ε.1,x) m=pgA ε m:=by
 refine ⟨⟨h.dk.of k,h.nodup,h.kN,fun i f J => ?_,h.tB,h.B5⟩,fun m => ?_⟩
 ·rcases h.back i f J with I | I
  ·exact .inl I
  ·exact .inr ⟨I.lt,I.here,I.aO,fun hc=>by rw [k.at]; exact I.same hc,I.pq⟩
 ·unfold pgA
  simp only [k.at]
theorem EC.put {N:Nat}{ε:aE}{n:Int}{i:Nat}{f:Fm}{b:List Nat}{aW:Nat}(h:EC N ε)(hl:lookL n ε.1.aI=some (i:Int))(hf:ε.1.aj[i]?=some f)(hg:cj b=true)(hb:∀x∈b,x<256)(h0:0≤n)(h1:n<N):
  EC N (AX ε.1 n i f b aW,ε.2)∧∀m,pgA (AX ε.1 n i f b aW,ε.2) m=if m=n then dw b aW else pgA ε m:=by
 obtain ⟨s1,s2,s3⟩:=MF (n:=aW) hg hb
 have hi:=(List.getElem?_eq_some_iff.1 hf).1
 have hp:f.bn=n:=by
  obtain ⟨_,j,x,Ah,J,yp⟩:=h.kN n i hl
  have:i=j:=by omega
  subst this
  rw [hf] at J
  rw [bB J]; exact yp
 have ho:=(h.back i f hf).resolve_left (by omega)
 refine ⟨h.set (y:=ε.2.1) (δ:=ε.2.2) hf rfl h.dk (.inr ⟨ho.lt,ho.here,s1,fun hq=>(by cases hq),fun _=>s2⟩) (fun _ _ _ _ _=>rfl) (fun k hk => ?_) (lS h.B5),fun m => ?_⟩
 ·rcases sX.1 hk with rfl | hk
  ·exact ⟨h0,h1⟩
  ·exact h.tB k hk
 ·by_cases hm:m=n
  ·subst hm
   rw [aq rfl]
   exact nV (ε:=(AX ε.1 m i f b aW,ε.2)) hl (fu hi)
  ·rw [ah hm]
   rcases h.cases m with ⟨j,x,I,J,yp,_,_,e2⟩ | ⟨I,e2⟩
   ·rw [e2]
    refine nV (ε:=(AX ε.1 n i f b aW,ε.2)) I ?_
    show (ε.1.aj.set i _)[j]?=some x
    rw [eO]
    ·exact J
    ·rintro rfl
     rw [hf] at J
     have:=bB J
     subst this
     omega
   ·rw [e2]
    exact mZ (ε:=(AX ε.1 n i f b aW,ε.2)) I
theorem qL.ec {N:Nat}{now:List (Int×List Nat)}{aW:Nat}{l:List Int}{ε ε':aE}{e:Int}(I:qL now aW l ε e ε'): EC N ε→iR ε→NW N now→(∀n∈l,0≤n∧n<N)→EC N ε'∧e=0 ∧
  ∀m,pgA ε' m=if m∈l then (match lookL m now with | some b=>dw b aW | none=>pgA ε m) else pgA ε m:=by
 induction I with
 | nil ε=>intro h _ _ _; exact ⟨h,rfl,fun m=>by rw [ah (by simp)]⟩
 | iV n l ε e b ε' I he =>
  intro h h3 hn hl
  have:=hl n ct
  exact absurd ((I.ec h).2.2.1 this.1 this.2).1 he
 | bad n l ε b0 b ε' I hb he =>
  intro h h3 hn hl
  exact absurd ((I.put (b:=b) (aW:=aW) h3).2.2 (hn.look hb).1) he
 | put n l ε b0 b ε' e lN I hb he ht ih =>
  intro h h3 hn hl
  have Aq:=hl n ct
  obtain ⟨k1,k2,k3,k4⟩:=I.ec h
  obtain ⟨i,f,p1,p2,p3,p4,p5⟩:=I.at h3.pins
  have hg:=hn.look hb
  have e1:=B0 (aW:=aW) p1 p2 p3 hg.1
  obtain ⟨q1,q2⟩:=k1.put (aW:=aW) p1 p2 hg.1 hg.2 Aq.1 Aq.2
  have PV:=(I.put (b:=b) (aW:=aW) h3).1
  rw [e1] at ih PV
  obtain ⟨i1,i2,i3⟩:=ih q1 PV hn fun m hm=>hl m (b6 _ hm)
  refine ⟨i1,i2,fun m => ?_⟩
  rw [i3,q2]
  by_cases hm:m=n
  ·subst hm
   rw [aq rfl,aq (ct)]
   split
   ·rw [hb]
   ·rw [hb]
  ·rw [ah hm,k2]
   by_cases J:m∈l
   ·rw [aq J,aq (b6 _ J)]
   ·rw [ah J,ah (by simp [hm,J])]
theorem Gm {N:Nat}: ∀ {l:List Int} {ε:aE},EC N ε→(∀n∈l,(lookL n ε.1.aI).isSome=true)→(writeAllF l ε).1=0∧EC N (writeAllF l ε).2∧(∀m,pgA (writeAllF l ε).2 m=pgA ε m):=by
 intro l
 induction l with
 | nil=>intro ε h _; exact ⟨rfl,h,fun _=>rfl⟩
 | cons n l ih =>
  intro ε h J
  have h1:=J n ct
  cases I:lookL n ε.1.aI with
  | none=>rw [I] at h1; cases h1
  | some i =>
   obtain ⟨_,j,f,rfl,hf,hp⟩:=h.kN n i I
   obtain ⟨k1,k2,k3,k4,_⟩:=h.out hf
   have e:dS ε n=outF ε j:=by rw [dS,I]; simp only [bP]
   rw [writeAllF,e,ah (by rw [k1]; decide)]
   obtain ⟨i1,i2,i3⟩:=ih k2 fun m hm=>by rw [k4]; exact J m (b6 _ hm)
   exact ⟨i1,i2,fun m=>by rw [i3,k3]⟩
theorem MH {N:Nat}{ε:aE}(h:EC N ε): (eE ε.1 ε.2.2).1=0∧EC N ((eE ε.1 ε.2.2).2.1,(ε.2.1,(eE ε.1 ε.2.2).2.2))∧∀m,0≤m→pgA ((eE ε.1 ε.2.2).2.1,(ε.2.1,(eE ε.1 ε.2.2).2.2)) m=pgA ε m:=by
 obtain ⟨s1,s2,s3⟩:=Sl h.dk
 have e:eE ε.1 ε.2.2=(0,{ ε.1 with br:=ε.1.br.filter fun e=>e.2.2 },ε.2.2.jE.2):=by rw [eE,ah (by rw [s1]; decide)]
 rw [e]
 have J:∀k,k∈((ε.1.br.filter fun e=>e.2.2).map (·.1))→k∈ε.1.br.map (·.1):=fun k hk=>by
  obtain ⟨x,hx,rfl⟩:=List.mem_map.1 hk
  exact m7 (List.mem_filter.1 hx).1
 refine ⟨rfl,⟨s2,h.nodup,h.kN,fun i f hf => ?_,fun k hk=>h.tB k (J k hk),(List.filter_sublist.map _).nodup h.B5⟩,fun m hm => ?_⟩
 ·rcases h.back i f hf with I | I
  ·exact .inl I
  ·by_cases h0:f.bn<0
   ·exact .inl h0
   ·exact .inr ⟨I.lt,I.here,I.aO,fun hc=>by rw [s3 _ (by omega)]; exact I.same hc,I.pq⟩
 ·unfold pgA
  simp only [s3 m hm]
structure EL (K:Nat)(x:LD): Prop where
 log:x.1.b=x.2.log
 cert:x.1.forced≤x.2.bT
 size:x.1.base+x.1.b.length≤K
theorem EL.force {K:Nat}{x:LD}{n:Nat}(h:EL K x): EL K (bH x n).2:=by
 unfold bH Dk.gH
 split
 ·exact h
 ·by_cases I:x.2.dead=true
  ·rw [aq I,aq (show (9:Int)≠0 by decide)]; exact h
  ·rw [ah I]
   by_cases J:x.2.bj=0
   ·rw [aq J,aq (show (9:Int)≠0 by decide)]; exact ⟨h.log,h.cert,h.size⟩
   ·rw [ah J,ah (show ¬(0:Int)≠0 by decide)]; exact ⟨h.log,by show x.1.b.length≤x.2.log.length; rw [h.log]; exact aD _,h.size⟩
theorem EL.write {K:Nat}{x:LD}{n:Int}{b:List Nat}(h:EL K x): EL K (x.1,(x.2.dc n b).2):=by
 unfold Dk.dc
 split
 ·exact h
 ·split
  ·exact h
  ·split <;> exact ⟨h.log,h.cert,h.size⟩
theorem sr (K:Nat): lV (EL K):=⟨fun _ _ h=>h.force,fun _ _ _ h=>h.write⟩
theorem EL.out {K:Nat}{ε:aE}{i:Nat}(h:EL K ε.2): EL K (outF ε i).2.2:=(sr K).out h
theorem mJ.el {K:Nat}{ε ε':aE}{n e:Int}{b:List Nat}(I:mJ ε n e b ε')(h:EL K ε.2): EL K ε'.2:=(sr K).rd I h
theorem oG.el {K:Nat}{ε ε':aE}{now:List (Int×List Nat)}{bX:Bool}{n e:Int}{b:List Nat}(I:oG ε now bX n e b ε')(h:EL K ε.2): EL K ε'.2:=(sr K).yn I h
theorem tv.el {K:Nat}{ε ε':aE}{now bS:List (Int×List Nat)}{bX:Bool}{n e:Int}{b:List Nat}(I:tv ε now bX n b e bS ε')(h:EL K ε.2): EL K ε'.2:=(sr K).My I h
theorem kG.el {K:Nat}{now:List (Int×List Nat)}{l:List Int}{ε ε':aE}{e:Int}{cs:List dG}(I:kG now l ε e cs ε')(h:EL K ε.2): EL K ε'.2:=(sr K).ch I h
theorem qL.el {K:Nat}{now:List (Int×List Nat)}{aW:Nat}{l:List Int}{ε ε':aE}{e:Int}(I:qL now aW l ε e ε')(h:EL K ε.2): EL K ε'.2:=(sr K).pt I h
theorem Df {K:Nat}: ∀ {l:List Int} {ε:aE},EL K ε.2→iR ε→EL K (writeAllF l ε).2.2∧iR (writeAllF l ε).2∧cr (writeAllF l ε).2≤cr ε:=by
 intro l
 induction l with
 | nil=>intro ε h I; exact ⟨h,I,aD _⟩
 | cons n l J =>
  intro ε h I
  have step:EL K (dS ε n).2.2∧iR (dS ε n).2∧cr (dS ε n).2≤cr ε:=by
   unfold dS
   split
   ·exact ⟨h,I,aD _⟩
   ·exact ⟨h.out,⟨qd I.ok,qK I.pins,qJ I.full⟩,Ga⟩
  rw [writeAllF]
  split
  ·exact step
  ·have i:=J (ε:=(dS ε n).2) step.1 step.2.1
   exact ⟨i.1,i.2.1,cu i.2.2 step.2.2⟩
structure EI (N B:Nat)(ε:aE): Prop where
 ok:iR ε
 ec:EC N ε
 el:EL (B*1048600) ε.2
 cr:cr ε≤B*65536
theorem EI.more {N B:Nat}{ε:aE}(h:EI N B ε){I:Nat}(J:B≤I): EI N I ε :=
 ⟨h.ok,h.ec,⟨h.el.log,h.el.cert,cu h.el.size (rH _ J)⟩,cu h.cr (rH _ J)⟩
theorem EI.rd {N B:Nat}{ε ε':aE}{n e:Int}{b:List Nat}(h:EI N B ε)(I:mJ ε n e b ε'): EI N B ε' :=
 ⟨I.l9 h.ok,(I.ec h.ec h.ok.pins).1,I.el h.el,cu I.cr h.cr⟩
theorem EI.yn {N B:Nat}{ε ε':aE}{now:List (Int×List Nat)}{n e:Int}{b:List Nat}(h:EI N B ε)(I:oG ε now false n e b ε'): EI N B ε' :=
 ⟨I.l9 h.ok,(I.ec h.ec h.ok.pins).1,I.el h.el,cu I.cr h.cr⟩
theorem EI.My {N B:Nat}{ε ε':aE}{now bS:List (Int×List Nat)}{n e:Int}{b:List Nat}(h:EI N B ε)(I:tv ε now false n b e bS ε'): EI N B ε' :=
 ⟨I.l9 h.ok,(I.ec h.ec h.ok.pins).1,I.el h.el,cu I.cr h.cr⟩
theorem EI.many {N B:Nat}{ε:aE}(h:EI N B ε): N≤65536:=by
 have:=h.ok.ok.dk.many
 rwa [h.ec.dk.aM] at this
theorem EI.aI {N B:Nat}{ε:aE}(h:EI N B ε): (∀n:Int,n∈ε.1.aI.map (·.1)→0≤n∧n<N)∧ε.1.aI.length≤N:=by
 have I:∀n:Int,n∈ε.1.aI.map (·.1)→0≤n∧n<N:=fun n hn=>by
  cases J:lookL n ε.1.aI with
  | none=>exact absurd hn (kC.1 J)
  | some i =>
   obtain ⟨h0,j,f,rfl,hf,hp⟩:=h.ec.kN n i J
   have:=(h.ec.back j f hf).resolve_left (by omega)
   exact ⟨h0,hp ▸ this.lt⟩
 have:=yq N _ h.ec.nodup I
 rw [dF] at this
 exact ⟨I,this⟩
theorem EI.br {N B:Nat}{ε:aE}(h:EI N B ε): ε.1.br.length≤N:=by
 have:=yq N _ h.ec.B5 h.ec.tB
 rwa [dF] at this
theorem EI.writeAll {N B:Nat}{ε:aE}(h:EI N B ε): (writeAllF (bw ε.1.aI) ε).1=0∧EI N B (writeAllF (bw ε.1.aI) ε).2∧∀m,pgA (writeAllF (bw ε.1.aI) ε).2 m=pgA ε m:=by
 obtain ⟨I,w2,J⟩:=Gm (l:=bw ε.1.aI) h.ec fun n hn=>by
  cases hq:lookL n ε.1.aI with
  | some _=>rfl
  | none=>exact absurd (oF.1 hn) (kC.1 hq)
 obtain ⟨k1,k2,k3⟩:=Df (l:=bw ε.1.aI) h.el h.ok
 exact ⟨I,⟨k2,w2,k1,cu k3 h.cr⟩,J⟩
theorem EI.sync {N B:Nat}{ε:aE}(h:EI N B ε): (eE ε.1 ε.2.2).1=0∧EI N B ((eE ε.1 ε.2.2).2.1,(ε.2.1,(eE ε.1 ε.2.2).2.2))∧∀m,0≤m→pgA ((eE ε.1 ε.2.2).2.1,(ε.2.1,(eE ε.1 ε.2.2).2.2)) m=pgA ε m:=by
 obtain ⟨p1,p2,p3⟩:=MH h.ec
 refine ⟨p1,?_,p3⟩
 have e0:ε.2.2.jE=(0,ε.2.2.sync):=by rw [Dk.jE,ah (by rw [h.ec.dk.alive]; decide),ah (by have:=h.ec.dk.bj; omega),tw h.ec.dk.bj]
 have e:eE ε.1 ε.2.2=(0,{ ε.1 with br:=ε.1.br.filter fun e=>e.2.2 },ε.2.2.sync):=by rw [eE,e0,ah (by simp)]
 rw [e] at p2 ⊢
 have I:=h.ok.ok.dk
 have ud:∀(i:Nat) (b:List Nat),(laidP ε.2.2.now ε.2.2.aM)[i]?=some (some b)→b.length=512:=fun i b J=>by
  have h1:=laidP_get (n:=(i:Int)) h.ec.dk.aM h.ec.dk.nodup h.ec.dk.keys (by omega)
  rw [bP] at h1
  rw [h1] at J
  cases hq:lookL (i:Int) ε.2.2.now with
  | some x=>rw [hq] at J; simp only at J; have:=bB (bB J); subst this; exact I.now _ (kE hq)
  | none=>rw [hq] at J; exact I.aM i b J
 refine ⟨⟨⟨⟨h.ok.ok.pl.hand,h.ok.ok.pl.many,h.ok.ok.pl.aI,h.ok.ok.pl.len,h.ok.ok.pl.pins⟩,h.ok.ok.lg,⟨I.bj,I.len,I.room,fun e he=>(by cases he),ud,I.bT,by show (laidP _ _).length≤_; rw [yc]; exact I.many⟩⟩,h.ok.pins,⟨h.ok.full.nodup,h.ok.full.kN⟩⟩,p2,⟨h.el.log,h.el.cert,h.el.size⟩,?_⟩
 have:=h.cr
 simp only [Am.cr] at this ⊢
 have e2:ε.2.2.sync.waiting.length=0:=rfl
 omega
theorem EI.clean {N B:Nat}{ε:aE}(h:EI N B ε): (kH ε).1=0∧EI N B (kH ε).2∧∀m,0≤m→pgA (kH ε).2 m=pgA ε m:=by
 obtain ⟨I,w2,J⟩:=h.writeAll
 obtain ⟨p1,p2,p3⟩:=w2.sync
 have e:kH ε=((eE (writeAllF (bw ε.1.aI) ε).2.1 (writeAllF (bw ε.1.aI) ε).2.2.2).1,((eE (writeAllF (bw ε.1.aI) ε).2.1 (writeAllF (bw ε.1.aI) ε).2.2.2).2.1,((writeAllF (bw ε.1.aI) ε).2.2.1,(eE (writeAllF (bw ε.1.aI) ε).2.1 (writeAllF (bw ε.1.aI) ε).2.2.2).2.2))):=by
  rw [kH,ah (by rw [h.ec.dk.alive]; decide),ah (by rw [I]; decide)]
 rw [e]
 exact ⟨p1,p2,fun m hm=>by rw [p3 m hm,J]⟩
theorem EI.force {N B:Nat}{ε:aE}{n:Nat}(h:EI N B ε): (bH ε.2 n).1=0∧EI N B (ε.1,(bH ε.2 n).2)∧∀m,pgA (ε.1,(bH ε.2 n).2) m=pgA ε m:=by
 obtain ⟨f1,f2⟩:=DY (n:=n) h.ec.dk
 obtain ⟨I,J⟩:=h.ec.log f2
 refine ⟨f1,⟨⟨⟨h.ok.ok.pl,qt h.ok.ok.lg,nm h.ok.ok.dk⟩,h.ok.pins,h.ok.full⟩,I,h.el.force,?_⟩,J⟩
 have:=h.cr
 simp only [Am.cr,jX] at this ⊢
 exact this
theorem EI.app {N B:Nat}{ε:aE}{kd:Int}{tx pv nx:Nat}{data:List Nat}{c:List dG}(h:EI N B ε)(hB:B≤1000)(hg:eU kd c=true):
  EI N (B+1) (ε.1,(bp ε.2 kd tx pv nx data c).2)∧(∀m,pgA (ε.1,(bp ε.2 kd tx pv nx data c).2) m=pgA ε m) ∧
  (((bp ε.2 kd tx pv nx data c).1.2=0∧bp ε.2 kd tx pv nx data c=((ε.2.1.base+ε.2.1.b.length,0),(ε.2.1.app (cO ε.2.1 kd tx pv nx data c),{ ε.2.2 with log:=ε.2.2.log++cO ε.2.1 kd tx pv nx data c }))) ∨
   (bp ε.2 kd tx pv nx data c).1.2=7∨((bp ε.2 kd tx pv nx data c).1.2=2∧1048576<(eN kd tx pv nx data c).length)):=by
 have hs:=h.el.size
 have I:=uA (kd:=kd) (tx:=tx) (pv:=pv) (nx:=nx) (data:=data) (c:=c) h.ok.ok.lg h.ok.ok.dk h.el.log (by omega)
 have wq:Am.cr (ε.1,(bp ε.2 kd tx pv nx data c).2)≤(B+1)*65536:=by
  have e:Am.cr (ε.1,(bp ε.2 kd tx pv nx data c).2)=Am.cr ε:=by simp only [Am.cr,I.2.2.2.2.2.1]
  rw [e]
  exact cu h.cr (rH _ (jh B))
 have fC:(bp ε.2 kd tx pv nx data c).2.1.base+(bp ε.2 kd tx pv nx data c).2.1.b.length≤(B+1)*1048600:=by
  have h1:=I.2.2.2.1
  have h2:=I.2.2.2.2.1
  omega
 have main:∀(hk:DK ε.2.2 (bp ε.2 kd tx pv nx data c).2.2) (hc:(bp ε.2 kd tx pv nx data c).2.1.forced≤(bp ε.2 kd tx pv nx data c).2.2.bT),EI N (B+1) (ε.1,(bp ε.2 kd tx pv nx data c).2)∧∀m,pgA (ε.1,(bp ε.2 kd tx pv nx data c).2) m=pgA ε m:=fun hk hc=>by
  obtain ⟨l1,l2⟩:=h.ec.log hk
  exact ⟨⟨⟨⟨h.ok.ok.pl,I.1,I.2.1⟩,h.ok.pins,h.ok.full⟩,l1,⟨I.2.2.1,hc,fC⟩,wq⟩,l2⟩
 rcases lG ε.2 kd tx pv nx data c with ⟨e,he,hc,J⟩ | ⟨hd,hf,J⟩ | ⟨_,_,hd,fS,hf,J⟩
 ·obtain ⟨m1,m2⟩:=main (by rw [J]; exact DK.refl _) (by rw [J]; exact h.el.cert)
  refine ⟨m1,m2,.inr ?_⟩
  rw [J]
  rcases hc with ⟨_,hb⟩ | ⟨rfl,hb⟩ | ⟨_,hb⟩ | ⟨rfl,hb⟩
  ·rw [hg] at hb; cases hb
  ·exact .inr ⟨rfl,hb⟩
  ·rw [h.ec.dk.alive] at hb; cases hb
  ·exact .inl rfl
 ·have:=h.ec.dk.bj; omega
 ·rw [tw h.ec.dk.bj] at J
  obtain ⟨m1,m2⟩:=main (by rw [J]; exact ⟨rfl,rfl,rfl,rfl⟩) (by rw [J]; exact h.el.cert)
  exact ⟨m1,m2,.inl ⟨by rw [J],J⟩⟩
theorem EI.done {N B:Nat}{ε ε':aE}{now:List (Int×List Nat)}{kd:Int}{tx pv nx aW:Nat}{data:List Nat}{e:Int}{cl:Bool}(h:EI N B ε)(hB:B≤1000)(hn:NW N now)(h1:1≤kd)(h2:kd≤7)(hr:yl ε now kd tx pv nx data 0 aW e cl ε'):
  (cl=false∧(e=7∨e=2)∧EI N (B+2) ε'∧∀m,pgA ε' m=pgA ε m) ∨
  (cl=true∧e=0∧EI N (B+2) ε'∧∀m,pgA ε' m=match lookL m now with | some b=>dw b aW | none=>pgA ε m):=by
 have I:∀n∈bw now,0≤n∧n<N:=fun n hq=>hn.keys n (oF.1 hq)
 have hN:=h.many
 have fS:∀ {c:List dG} {ε':aE} {e:Int},kG now (bw now) ε e c ε'→eU kd c=true:=fun J=>by
  refine Gd ⟨h1,by omega⟩ (J.fit (fun x hx=>iQ (hn.good x hx).1) fun n hq => ?_)
  have:=I n hq
  omega
 cases hr with
 | arg hq=>omega
 | dead _ _ _ hd=>rw [h.ec.dk.alive] at hd; cases hd
 | pq e c ε' _ _ _ hd J he=>exact absurd (J.ec h.ec h.ok I).2.2 he
 | app c ε' _ _ _ hd J he =>
  obtain ⟨c1,c2,c3⟩:=J.ec h.ec h.ok I
  have hi:EI N B ε':=⟨J.l9 h.ok,c1,J.el h.el,cu J.cr h.cr⟩
  obtain ⟨a1,a2,a3⟩:=hi.app (kd:=kd) (tx:=tx) (pv:=pv) (nx:=nx) (data:=data) (c:=c) hB (fS J)
  refine .inl ⟨rfl,?_,a1.more (by omega),fun m=>by rw [a2,c2]⟩
  rcases a3 with a3 | a3 | a3
  ·exact absurd a3.1 he
  ·exact .inl a3
  ·exact .inr a3.1
 | put c ε' e lN _ _ _ hd J ha hp =>
  obtain ⟨c1,c2,c3⟩:=J.ec h.ec h.ok I
  have hi:EI N B ε':=⟨J.l9 h.ok,c1,J.el h.el,cu J.cr h.cr⟩
  obtain ⟨a1,a2,a3⟩:=hi.app (kd:=kd) (tx:=tx) (pv:=pv) (nx:=nx) (data:=data) (c:=c) hB (fS J)
  obtain ⟨p1,p2,p3⟩:=hp.ec a1.ec a1.ok hn I
  have hl:(bw now).length≤N:=by
   have:=hn.len
   rw [bw,(e_ _).length_eq,dF]; exact this
  have W9:=hp.cr a1.ok
  have nE:=a1.cr
  refine .inr ⟨rfl,p2,⟨hp.l9 a1.ok,p1,?_,by omega⟩,fun m => ?_⟩
  ·have:=hp.el a1.el
   exact ⟨this.log,this.cert,cu this.size (rH _ (by omega))⟩
  ·rw [aq p2,p3]
   by_cases hm:m∈bw now
   ·rw [aq hm]
    cases hq:lookL m now with
    | some b=>rfl
    | none=>exact absurd (oF.1 hm) (kC.1 hq)
   ·rw [ah hm,a2,c2]
    have:lookL m now=none:=kC.2 fun hq=>hm (oF.2 hq)
    rw [this]
theorem mA (n:Nat): (digits 9 n).length≤10:=ue 9 n
theorem HI {kd:Int}{tx pv nx:Nat}{data:List Nat}(J:data.length≤4104): (eN kd tx pv nx data []).length≤1048576:=by
 have h1:=mA tx
 have h2:=mA pv
 have h3:=mA nx
 have h4:=mA data.length
 have I:=mA ([]:List dG).length
 simp only [eN,bU,aH,bM,Cn] at I ⊢
 omega
theorem Dg {N:Nat}{x:LD}{n:Nat}(h:DA N x.2)(I:n<x.1.base+x.1.b.length): n<(bH x n).2.1.base+(bH x n).2.1.forced:=by
 unfold bH
 split
 ·rename_i J; exact J
 ·rw [Gi h,ah (by simp)]
  exact I
theorem Pc {μ:Lg}{b:List Nat}: (μ.app b).hasB (μ.base+μ.b.length)=true:=by
 simp only [Lg.hasB,Lg.app,List.any_append,List.any_cons,List.any_nil,od,mh]
 exact .inr (by simp)
theorem Sq {μ:Lg}(h:μ.Ok){n:Nat}(I:μ.hasB n=true): n<μ.base+μ.b.length:=by
 simp only [Lg.hasB,uR,eu] at I
 obtain ⟨s,hs,rfl⟩:=I
 have:=h.low s hs
 omega
theorem Lg.Ok.cut {μ:Lg}{n:Nat}(h:μ.Ok)(h1:μ.base≤n)(h2:n≤μ.base+μ.b.length): (μ.cut n).Ok:=by
 have hs:=h.size
 have hf:=h.forced
 have hl:=h.len
 have hd:(μ.b.drop (n-μ.base)).length=μ.b.length-(n-μ.base):=rO
 have J:∀s,s∈yo μ n→∃t∈μ.bD,n≤μ.base+t∧s=t-(n-μ.base):=fun s hs=>by
  obtain ⟨t,ht,rfl⟩:=List.mem_map.1 hs
  obtain ⟨I,h4⟩:=List.mem_filter.1 ht
  exact ⟨t,I,by simpa using h4,rfl⟩
 refine ⟨?_,?_,fun s hs => ?_,?_,?_,?_,h.check⟩
 ·show n+(μ.b.drop (n-μ.base)).length≤_; omega
 ·show (yo μ n).length≤_
  rw [yo,dF]
  exact cu (yG _ _) h.many
 ·obtain ⟨t,I,h4,rfl⟩:=J s hs
  have:=h.low t I
  show _<(μ.b.drop (n-μ.base)).length
  omega
 ·show (yo μ n).Pairwise (·< ·)
  rw [yo,List.pairwise_map]
  refine (h.we.filter _).imp_of_mem fun {a b} ha hb lY => ?_
  have I:=(List.mem_filter.1 ha).2
  have I:n≤μ.base+a:=by simpa using I
  omega
 ·show μ.forced-(n-μ.base)≤(μ.b.drop (n-μ.base)).length; omega
 ·show (μ.b.drop (n-μ.base)).length≤_; omega
theorem EI.log {N B:Nat}{ε:aE}{x:LD}(h:EI N B ε)(I:x.1.Ok)(J:x.2.Ok)(hk:DK ε.2.2 x.2)(hl:EL (B*1048600) x)(hw:x.2.waiting=ε.2.2.waiting): EI N B (ε.1,x)∧∀m,pgA (ε.1,x) m=pgA ε m:=by
 obtain ⟨l1,l2⟩:=h.ec.log hk
 refine ⟨⟨⟨⟨h.ok.ok.pl,I,J⟩,h.ok.pins,h.ok.full⟩,l1,hl,?_⟩,l2⟩
 have e:Am.cr (ε.1,x)=Am.cr ε:=by simp only [Am.cr,hw]
 rw [e]; exact h.cr
theorem EI.check {N B:Nat}{ε:aE}{n:Nat}(h:EI N B ε)(hn:ε.2.1.hasB n=true∧n<ε.2.1.base+ε.2.1.forced): (gD ε.2 n).1=0∧(gD ε.2 n).2.1={ ε.2.1 with check:=n }∧EI N B (ε.1,(gD ε.2 n).2)∧∀m,pgA (ε.1,(gD ε.2 n).2) m=pgA ε m:=by
 have hm:=Sk (b:=gN ε.2.1.base n) h.ec.dk (by rw [ua]; decide)
 have e:gD ε.2 n=(0,({ ε.2.1 with check:=n },{ ε.2.2 with mark:=gN ε.2.1.base n })):=by
  rw [gD,ah (not_not_intro hn),hm,ah (by simp)]
 have hf:=h.ok.ok.lg.forced
 have hs:=h.ok.ok.lg.size
 obtain ⟨I,J⟩:=B1 (n:=n) h.ok.ok.lg h.ok.ok.dk (by omega)
 rw [e] at I J ⊢
 exact ⟨rfl,rfl,h.log I J ⟨rfl,rfl,rfl,rfl⟩ ⟨h.el.log,h.el.cert,h.el.size⟩ rfl⟩
theorem EI.cut {N B:Nat}{ε:aE}{n:Nat}(h:EI N B ε)(J:ε.2.1.hasB n=true)(hf:n≤ε.2.1.base+ε.2.1.forced)(hc:ε.2.1.check=0∨n≤ε.2.1.check): (gw ε.2 n).1=0∧EI N B (ε.1,(gw ε.2 n).2)∧∀m,pgA (ε.1,(gw ε.2 n).2) m=pgA ε m:=by
 have h1:=De J
 have h2:=Sq h.ok.ok.lg J
 have Xd:=h.ok.ok.lg.forced
 have aai:=h.el.cert
 have I:=h.ok.ok.dk
 have QM:=I.bT
 have Xt:=I.len
 have fC:=h.el.size
 have e1:ε.2.2.lT ((n-ε.2.1.base:Nat):Int) (gN n ε.2.1.check)=(0,{ ε.2.2 with log:=ε.2.2.log.drop (n-ε.2.1.base),bT:=ε.2.2.bT-(n-ε.2.1.base),mark:=gN n ε.2.1.check }):=by
  rw [Dk.lT,ah (by rw [h.ec.dk.alive]; decide),ah (not_not_intro ⟨by omega,by omega,by rw [ua]; decide⟩),ah (by have:=h.ec.dk.bj; omega),tw h.ec.dk.bj,bP]
 have e:gw ε.2 n=(0,(ε.2.1.cut n,{ ε.2.2 with log:=ε.2.2.log.drop (n-ε.2.1.base),bT:=ε.2.2.bT-(n-ε.2.1.base),mark:=gN n ε.2.1.check })):=by
  rw [gw,ah (by rw [J]; simp; omega),e1,ah (by simp)]
 rw [e]
 have hd:(ε.2.2.log.drop (n-ε.2.1.base)).length=ε.2.2.log.length-(n-ε.2.1.base):=rO
 have hd2:(ε.2.1.b.drop (n-ε.2.1.base)).length=ε.2.1.b.length-(n-ε.2.1.base):=rO
 refine ⟨rfl,h.log (h.ok.ok.lg.cut h1 (by omega)) ⟨I.bj,by show (ε.2.2.log.drop _).length≤_; omega,I.room,I.now,I.aM,by show ε.2.2.bT-_≤(ε.2.2.log.drop _).length; omega,I.many⟩ ⟨rfl,rfl,rfl,rfl⟩ ⟨?_,?_,?_⟩ rfl⟩
 ·show ε.2.1.b.drop _=ε.2.2.log.drop _; rw [h.el.log]
 ·show ε.2.1.forced-_≤ε.2.2.bT-_; omega
 ·show n+(ε.2.1.b.drop _).length≤_; omega
theorem EI.U8 {N B:Nat}{ε ε':aE}{lo:Nat}{data dI J:List Nat}{aO lW:Nat}{e:Int}(h:EI N B ε)(hB:B≤1000)(hr:Gh ε lo data dI aO e ε' J lW):
  EI N (B+1) ε'∧(∀m,pgA ε' m=pgA ε m)∧((e=2∧4096<data.length∧J=dI)∨(e=7∧J=dI)∨(e=0∧J=data)):=by
 cases hr with
 | UZ hb=>exact ⟨h.more (by omega),fun _=>rfl,.inl ⟨rfl,hb,rfl⟩⟩
 | dead _ hd=>rw [h.ec.dk.alive] at hd; cases hd
 | go e y J lW hb hd hc =>
  have hw:=cJ 8 (i_ ε)
  obtain ⟨a1,a2,a3⟩:=h.app (kd:=8) (tx:=0) (pv:=0) (nx:=0) (data:=le 8 (i_ ε)++data) (c:=[]) hB (by decide)
  have ey:bp ε.2 8 0 0 0 (le 8 (i_ ε)++data) []=o8 ε data:=rfl
  rw [ey] at a1 a2 a3
  have a3:((o8 ε data).1.2=0∧o8 ε data=((ε.2.1.base+ε.2.1.b.length,0),(ε.2.1.app (cO ε.2.1 8 0 0 0 (le 8 (i_ ε)++data) []),{ ε.2.2 with log:=ε.2.2.log++cO ε.2.1 8 0 0 0 (le 8 (i_ ε)++data) [] })))∨(o8 ε data).1.2=7:=by
   rcases a3 with a3 | a3 | ⟨_,a3⟩
   ·exact .inl a3
   ·exact .inr a3
   ·have:=HI (kd:=8) (tx:=0) (pv:=0) (nx:=0) (data:=le 8 (i_ ε)++data) (by rw [bU]; omega)
    omega
  have p_:i_ ε≤ε.2.1.base+ε.2.1.b.length:=IS _ _ _
  have hkp:B2 ε lo≤ε.2.1.base+ε.2.1.b.length:=by
   rw [B2]; split <;> omega
  rcases a3 with ⟨a0,a3⟩ | a3
  ·have Ma:8≤(cO ε.2.1 8 0 0 0 (le 8 (i_ ε)++data) []).length:=by rw [cO,nR]; omega
   generalize cO ε.2.1 8 0 0 0 (le 8 (i_ ε)++data) []=rc at Ma a3
   generalize o8 ε data=I at *
   have n1:I.1.1=ε.2.1.base+ε.2.1.b.length:=by rw [a3]
   have n2:I.2.1=ε.2.1.app rc:=by rw [a3]
   -- the log is forced
   obtain ⟨f1,f2,f3⟩:=a1.force (n:=I.1.1)
   have f1:(kR I).1=0:=f1
   have f2:EI N (B+1) (ε.1,(kR I).2):=f2
   have f3:∀m,pgA (ε.1,(kR I).2) m=pgA (ε.1,I.2) m:=f3
   have Mv:I.1.1<I.2.1.base+I.2.1.b.length:=by
    rw [n1,n2]; show _<ε.2.1.base+(ε.2.1.b++rc).length; rw [bU]; omega
   have f4:I.1.1<(kR I).2.1.base+(kR I).2.1.forced:=Dg a1.ec.dk Mv
   have f5:=ym (π:=ε.1) (x:=I.2) (n:=I.1.1)
   have f6:(kR I).2.1.base=I.2.1.base:=f5.base
   have f7:(kR I).2.1.bD=I.2.1.bD:=f5.bD
   have f8:(kR I).2.1.hasB I.1.1=true:=by
    have:I.2.1.hasB I.1.1=true:=by rw [n1,n2]; exact Pc
    rw [Lg.hasB,f6,f7]; exact this
   -- the mark
   obtain ⟨c1,c2,c3,c4⟩:=f2.check (n:=I.1.1) ⟨f8,f4⟩
   have c1:(fZ I).1=0:=c1
   have c2:(fZ I).2.1={ (kR I).2.1 with check:=I.1.1 }:=c2
   have c3:EI N (B+1) (ε.1,(fZ I).2):=c3
   have c4:∀m,pgA (ε.1,(fZ I).2) m=pgA (ε.1,(kR I).2) m:=c4
   have jY:∀m,pgA (ε.1,(fZ I).2) m=pgA ε m:=fun m=>by rw [c4,f3,a2]
   cases hc with
   | app he=>exact absurd a0 he
   | force _ he=>exact absurd f1 he
   | check _ _ he=>exact absurd c1 he
   | cut t _ _ _ ht bC _ =>
    have FM:I.1.1<(fZ I).2.1.base+(fZ I).2.1.b.length:=by
     have:=c3.ok.ok.lg.forced
     have e1:(fZ I).2.1.base=(kR I).2.1.base:=by rw [c2]
     have e2:(fZ I).2.1.forced=(kR I).2.1.forced:=by rw [c2]
     simp only at this
     omega
    have YF:(fZ I).2.1.hasB t=true∧t≤B2 ε lo:=by
     rcases ht with ⟨_,ht⟩ | ht | ht
     ·omega
     ·exact ht
     ·omega
    have e1:(fZ I).2.1.base=(kR I).2.1.base:=by rw [c2]
    have e2:(fZ I).2.1.forced=(kR I).2.1.forced:=by rw [c2]
    have e3:(fZ I).2.1.check=I.1.1:=by rw [c2]
    obtain ⟨k1,k2,k3⟩:=c3.cut YF.1 (by show t≤(fZ I).2.1.base+(fZ I).2.1.forced; omega) (.inr (by show t≤(fZ I).2.1.check; omega))
    exact ⟨k2,fun m=>(k3 m).trans (jY m),.inr (.inr ⟨k1,rfl⟩)⟩
   | j5 _ _ _ _=>exact ⟨c3,jY,.inr (.inr ⟨rfl,rfl⟩)⟩
  ·generalize o8 ε data=I at *
   cases hc with
   | app he=>exact ⟨a1,a2,.inr (.inl ⟨a3,rfl⟩)⟩
   | force h0=>omega
   | check h0=>omega
   | cut t h0=>omega
   | j5 h0=>omega
def qX (π:Pl)(n:Int)(b:List Nat): Prop:=∃(i:Nat) (f:Fm),π.aj[i]?=some f∧f.bn=n∧0≤n∧f.changed=true∧f.b=b
abbrev VP := (Int→List Nat→Prop)→List (Int×(Nat×Bool))→LD→Prop
abbrev vw (P:VP)(ε:aE): Prop:=P (qX ε.1) ε.1.br ε.2
theorem Pd {π I:Pl}(hn:fD π I): qX I=qX π:=by
 funext n b
 refine propext ⟨fun ⟨i,x,hx,J,h0,h2,h3⟩ => ?_,fun ⟨i,f,hf,J,h0,h2,h3⟩ => ?_⟩
 ·obtain ⟨f,t,hf,rfl⟩:=hn.back hx
  exact ⟨i,f,hf,J,h0,h2,h3⟩
 ·obtain ⟨t,ht⟩:=hn.get i f hf
  exact ⟨i,_,ht,J,h0,h2,h3⟩
theorem zY {π:Pl}{i:Nat}{f g:Fm}(J:π.aj[i]?=some f)(hs:∀n b,(f.bn=n∧0≤n∧f.changed=true∧f.b=b)↔(g.bn=n∧0≤n∧g.changed=true∧g.b=b)){w:List (Int×Int)}{d:List (Int×(Nat×Bool))}{hd:Nat}: qX ⟨π.aj.set i g,w,d,hd⟩=qX π:=by
 have hi:=(List.getElem?_eq_some_iff.1 J).1
 funext n b
 refine propext ⟨fun ⟨j,x,I,h⟩ => ?_,fun ⟨j,x,I,h⟩ => ?_⟩
 ·rcases ug J I with ⟨rfl,rfl⟩ | ⟨_,I⟩
  ·exact ⟨i,f,J,(hs n b).2 h⟩
  ·exact ⟨j,x,I,h⟩
 ·by_cases hj:i=j
  ·subst hj
   rw [J] at I
   have:=bB I
   subst this
   exact ⟨i,g,fu hi,(hs n b).1 h⟩
  ·exact ⟨j,x,by show (π.aj.set i g)[j]?=some x; rw [eO hj]; exact I,h⟩
theorem MI {π:Pl}{i:Nat}{f g:Fm}(J:π.aj[i]?=some g)(hc:0≤g.bn→g.changed=false): qX (cW π i f)=qX π :=
 zY J fun n b=>⟨(fun ⟨h1,h0,I,_⟩=>by rw [hc (by omega)] at I; cases I),fun ⟨_,_,I,_⟩=>(by cases I)⟩
theorem Kp {π:Pl}{i:Nat}{e:Fm}{n:Int}{b:List Nat}(he:π.aj[i]?=some e)(J:e.bn<0): qX (jd π i n b)=qX π :=
 zY he fun m c=>⟨fun ⟨h1,h0,_⟩=>by omega,fun ⟨_,_,I,_⟩=>(by cases I)⟩
structure qT (N:Nat)(P:VP): Prop where
 one:∀(ε:aE) (i:Nat) (f:Fm),EC N ε→ε.1.aj[i]?=some f→0≤f.bn→f.changed=true→vw P ε→vw P (outF ε i).2
theorem lV.YG {R:LD→Prop}(h:lV R)(N:Nat): qT N (fun _ _ x=>R x):=⟨fun _ _ _ _ _ _ _ hv=>h.out hv⟩
section
variable {N:Nat} {P:VP} {ε ε':aE} {n e:Int} {b:List Nat} {now bS:List (Int×List Nat)} {l:List Int} {cs:List dG}
theorem qT.out (h:qT N P){i:Nat}{f:Fm}(he:EC N ε)(I:ε.1.aj[i]?=some f)(hv:vw P ε): vw P (outF ε i).2:=by
 by_cases J:f.bn<0∨f.changed=false
 ·have e:outF ε i=(0,ε):=by simp only [outF,I,aq J]
  rw [e]; exact hv
 ·exact h.one ε i f he I (by omega) (by cases hq:f.changed with | true=>rfl | false=>exact absurd (.inr hq) J) hv
theorem qT.iV (h:qT N P)(hr:fE ε n e b ε')(he:EC N ε)(hv:vw P ε): vw P ε':=by
 cases hr with
 | arg J=>exact hv
 | Ay i f h1 h2 hl hf =>
  show P (qX ⟨ε.1.aj.set i { f with eC:=true,pins:=f.pins+1 },ε.1.aI,ε.1.br,ε.1.hand⟩) ε.1.br ε.2
  rw [zY hf (g:={ f with eC:=true,pins:=f.pins+1 }) (fun n b=>Iff.rfl)]
  exact hv
 | out I i f h1 h2 hl J hf hh hq=>exact absurd ((he.qg J).1.out hf).1 hq
 | read I i f h1 h2 hl J hf hh hq hr =>
  obtain ⟨k1,k2,k3,k4,g,k5,k6,k7⟩:=(he.qg J).1.out hf
  refine absurd ?_ hr
  rw [he.dk.aM] at h2
  rw [Dk.qq,ah (by rw [k2.dk.alive]; decide),ah (by rw [k2.dk.aM]; exact not_not_intro ⟨h1,h2⟩)]
 | bad I i f h1 h2 hl J hf hh hq hr hc =>
  obtain ⟨k1,k2,k3,k4,g,k5,k6,k7⟩:=(he.qg J).1.out hf
  rw [he.dk.aM] at h2
  exact absurd (k2.dk.good n h1 h2) hc
 | load I i f h1 h2 hl J hf hh hq hr hc =>
  obtain ⟨n1,n2⟩:=he.qg J
  have Up:vw P (I,ε.2):=by show P (qX I) I.br ε.2; rw [Pd J,J.br]; exact hv
  have Fx:=h.out (ε:=(I,ε.2)) n1 hf Up
  obtain ⟨k1,k2,k3,k4,g,k5,k6,k7⟩:=n1.out hf
  have e1:=MI (f:=f) k5 k7
  have hg:(cW (outF (I,ε.2) i).2.1 i f).aj[i]?=some ep:=(k2.cW k5 k6 k7).2.2.1
  show P (qX (jd (cW (outF (I,ε.2) i).2.1 i f) i n ((outF (I,ε.2) i).2.2.2.at n))) (outF (I,ε.2) i).2.1.br (outF (I,ε.2) i).2.2
  rw [Kp hg (by decide),e1]
  exact Fx
theorem D1 {π:Pl}: qX (unpinF π n).2=qX π∧(unpinF π n).2.br=π.br:=by
 unfold unpinF
 split
 ·exact ⟨rfl,rfl⟩
 ·split
  ·exact ⟨rfl,rfl⟩
  ·rename_i i hi f I
   exact ⟨zY I (g:={ f with pins:=f.pins-1 }) (fun n b=>Iff.rfl),rfl⟩
theorem qT.rd (h:qT N P)(I:mJ ε n e b ε')(he:EC N ε)(hv:vw P ε): vw P ε':=by
 cases I with
 | dead J=>exact hv
 | iV e b ε' J I _=>exact h.iV I he hv
 | rD b ε' J I _ =>
  have:=h.iV I he hv
  obtain ⟨u1,u2⟩:=D1 (π:=ε'.1) (n:=n)
  show P (qX (unpinF ε'.1 n).2) (unpinF ε'.1 n).2.br ε'.2
  rw [u1,u2]; exact this
 | read b ε' J I _ =>
  have:=h.iV I he hv
  obtain ⟨u1,u2⟩:=D1 (π:=ε'.1) (n:=n)
  show P (qX (unpinF ε'.1 n).2) (unpinF ε'.1 n).2.br ε'.2
  rw [u1,u2]; exact this
theorem qT.yn (h:qT N P)(I:oG ε now false n e b ε')(he:EC N ε)(hv:vw P ε): vw P ε':=by
 cases I with
 | arg hn=>exact hv
 | bX _ _ ho=>cases ho
 | own b J h2 _ hl=>exact hv
 | read e b ε' J h2 _ hl I=>exact h.rd I he hv
theorem qT.My (h:qT N P)(I:tv ε now false n b e bS ε')(he:EC N ε)(hv:vw P ε): vw P ε':=by
 cases I with
 | may e c ε' I _=>exact h.yn I he hv
 | bad c ε' I J=>exact h.yn I he hv
 | done c ε' I J=>exact h.yn I he hv
end
def wA (k:Nat)(v:V)(cs:List V): au:=.xs fun o:Option (Nat×Nat×Nat)=>match o with
 | none=>.pu ((v=.bu∨∃a,v=.sle a)∧cs=[])
 | some (id,len,cap)=>.an (.ro id (.cells cs.length cs true)) (.pu (v=.sl id 0 len (.exact cap)∧cs.length=len*k))
section
variable {P:Program} {h:H} {S:List au} {k j:Nat} {v:V} {cs:List V}
theorem Sat.rowAt (s:Sat h S)(J:getA S j=some (wA k v cs)): ((v=.bu∨∃a,v=.sle a)∧cs=[])∨∃id len cap,v=.sl id 0 len (.exact cap)∧cs.length=len*k∧T.get h.tr id=some (.cells cs.length cs true):=by
 obtain ⟨m,r,h1,h2,o,I⟩:=s.at J
 cases o with
 | none=>exact .inl I
 | some x=>exact .inr ⟨x.1,x.2.1,x.2.2,I.2.1,I.2.2,h2 _ _ I.1⟩
theorem Sat.Gn {n:Nat}{t e:TypeId}(s:Sat h S)(J:getA S j=some (wA k v cs))(I:cs.length=n*k)(hk:1≤k)(hu:P.underlying t=some (.slice e)): lenV P h t v=some (.int .i64 n):=by
 rcases s.rowAt J with ⟨hv,rfl⟩ | ⟨id,len,cap,rfl,hl,_⟩
 ·have:n=0:=by
   cases n with
   | zero=>rfl
   | succ n=>simp only [bM,iK,yX] at I; omega
  subst this
  rcases hv with rfl | ⟨a,rfl⟩
  ·exact Ru hu
  ·simp only [lenV,hu]; rfl
 ·have:n=len:=by
   rw [hl] at I
   exact (HR (by omega) I).symm
  subst this
  exact Fs hu
theorem Sat.Wj {t e:TypeId}{i:Nat}(s:Sat h S)(J:getA S j=some (wA k v cs))(hi:i*k+k≤cs.length)(hk:1≤k)(hu:P.underlying t=some (.slice e))(I:bq P e=some k)(ha:b8 P e=some true):
  ∃id off,indexAddrV P t v (.int .i64 (i:Int))=some (.ptr id off)∧loadV P h e (.ptr id off)=some (.agg ((cs.drop (i*k)).take k)):=by
 rcases s.rowAt J with ⟨_,rfl⟩ | ⟨id,len,cap,rfl,hl,hg⟩
 ·simp at hi; omega
 ·refine ⟨id,i*k,?_,Uf ha I hg rfl hi⟩
  simp only [indexAddrV,hu,I,bP]
  have:i<len:=by
   have h4:i*k+k=(i+1)*k:=by rw [iK,yX]
   rw [h4,hl] at hi
   exact Nat.lt_of_succ_le (HS hi hk)
  rw [show (decide ((0:Int)≤(i:Int))&&decide ((i:Int)<(len:Int)))=true by simp; omega,ag]
  simp
end
section
variable {told:cZ} {h:H} {S:List au} {X:au} {r k q p a g aO N B:Nat} {op v x pv:V} {l data:List Nat} {ε:aE} {ps:List (List Nat)}
end
end Go.Proofs.YtefepnnfphdkpaaGreat.Am
