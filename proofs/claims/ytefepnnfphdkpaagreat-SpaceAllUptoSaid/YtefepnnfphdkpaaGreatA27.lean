/- SpaceAll: a part of its proof; conditions: its statement's. -/
import Derived.Test.YtefepnnfphdkpaaGreatA26
namespace Go.Proofs.YtefepnnfphdkpaaGreat.Am
open Go
section
variable {P:Program} {h:H} {S:List au} {k:Nat}
end
section
variable {told:cX} {h:H} {S:List au} {X Y:au} {r k q p bF a g bA:Nat} {op v x u wh di:V} {l b cR data k8:List Nat} {μ:Lg} {δ:Dk}
end
section
variable {told:cX} {h:H} {S:List au} {X Y:au} {r k q p bF a g bA:Nat} {op v x u wh di:V} {l b cR data k8:List Nat} {μ:Lg} {δ:Dk}
end
section
variable {told:cX} {h:H} {S:List au} {X Y:au} {r k q p bF a g bA:Nat} {op v x u wh di:V} {l b cR data k8:List Nat} {μ:Lg} {δ:Dk}
end
section
variable {told:cX} {h:H} {S:List au} {X Y:au} {r k q p bF a g bA:Nat} {op v x u wh di:V} {l b cR data k8:List Nat} {μ:Lg} {δ:Dk}
end
section
variable {told:cX} {h:H} {S:List au} {X Y:au} {r k q p bF a g bA:Nat} {op v x u wh di:V} {l b cR data k8:List Nat} {now:List (Int×List Nat)} {bE:Bool} {ε:aH} {μ:Lg} {δ:Dk} {π:Pl}
end
section
variable {told:cX} {h:H} {S:List au} {X Y:au} {r k q p bF a g bA:Nat} {op v x u wh di:V} {l b cR data k8:List Nat} {ε:aH}
end
theorem I4 : ∃i,Tryz.prog.info? 4=some i∧i.size=1∧i.bytes=1 :=
 ⟨_,(show Tryz.prog.info? 4=some ((Tryz.prog.info? 4).getD default) by kernel_rfl),by kernel_rfl,by kernel_rfl⟩
theorem Nx : ∀n:Nat,repeatL [V.bool false] n=jJ (List.replicate n false):=by
 intro n
 induction n with
 | zero=>rfl
 | succ n I=>simp only [repeatL,I,jJ,oT,bX]; rfl
section
variable {told:cX} {h:H} {S:List au} {X:au} {k:Nat} {v:V} {l:List Nat}
end
theorem GJ : ∀ {l:List Nat},(∀b∈l,b<256)→bytesOf (ofBytes l)=some l:=by
 intro l
 induction l with
 | nil=>intro _; rfl
 | cons b l J =>
  intro h
  have I:=J fun x hx=>h x (cJ _ hx)
  have h2:=h b c9
  rw [ofBytes] at I
  simp only [ofBytes,bX,bytesOf,I,aj,vi,rK]
  omega
theorem RY {h:H}{v:V}{l:List Nat}(hv:View h v l): convV Tryz.prog h 28 9 v=some (.str l,h):=by
 obtain ⟨I,(⟨rfl | ⟨ea,rfl⟩,rfl⟩ | ⟨id,off,cap,n,cs,st,rfl,J,hl,ho,hc,_⟩)⟩:=hv
 ·simp only [convV,aM,r7,Tryz.underlying5]
 ·simp only [convV,aM,r7,Tryz.underlying5]
 ·have e:rdN h id off l.length=some (ofBytes l):=by rw [yo J hl ho,hc]
  simp only [convV,aM,r7,Tryz.underlying5,e,GJ I]
def Mn (l:List Nat): List Nat:=if l.length≠512∨l=List.replicate 512 0 then [] else l.drop 12
section
variable {told:cX} {h:H} {S:List au} {X:au} {r k q p a g bA:Nat} {op v x:V} {l data:List Nat} {now:List (Int×List Nat)} {bE:Bool} {ε:aH}
end
structure DK (δ Q4:Dk): Prop where
 dead:Q4.dead=δ.dead
 bJ:Q4.bJ=δ.bJ
 aT:Q4.aT=δ.aT
 now:Q4.now=δ.now
theorem DK.refl (δ:Dk): DK δ δ:=⟨rfl,rfl,rfl,rfl⟩
theorem DK.at {δ I:Dk}(h:DK δ I)(n:Int): I.at n=δ.at n:=by rw [Dk.at,Dk.at,h.now,h.aT]
structure DA (N:Nat)(δ:Dk): Prop where
 alive:δ.dead=false
 bJ:δ.bJ<0
 aT:δ.aT.length=N
 keys:∀k:Int,k∈δ.now.map (·.1)→0≤k∧k<N
 nodup:(δ.now.map (·.1)).Nodup
 good:∀n:Int,0≤n→n<N→fW (δ.at n)=0
theorem DA.of {N:Nat}{δ I:Dk}(h:DA N δ)(k:DK δ I): DA N I :=
 ⟨k.dead.trans h.alive,by rw [k.bJ]; exact h.bJ,by rw [k.aT]; exact h.aT,by rw [k.now]; exact h.keys,by rw [k.now]; exact h.nodup,fun n a b=>by rw [k.at]; exact h.good n a b⟩
theorem CY {δ:Dk}(h:δ.bJ<0): δ.gi=δ:=by
 have:(if 0<δ.bJ then δ.bJ-1 else δ.bJ)=δ.bJ:=ai (by omega)
 rw [Dk.gi,this]
theorem K5 {N:Nat}{δ:Dk}(h:DA N δ): δ.fO=(0,{ δ with dS:=δ.log.length }):=by
 rw [Dk.fO,ai (by rw [h.alive]; decide),ai (by have:=h.bJ; omega),CY h.bJ]
theorem I5 {N:Nat}{x:LD}{n:Nat}(h:DA N x.2): (bL x n).1=0∧DK x.2 (bL x n).2.2:=by
 unfold bL
 split
 ·exact ⟨rfl,DK.refl _⟩
 ·rw [K5 h,ai (by simp)]
  exact ⟨rfl,rfl,rfl,rfl,rfl⟩
theorem K6 {N:Nat}{δ:Dk}{n:Int}{b:List Nat}(h:DA N δ)(h0:0≤n)(h1:n<N)(hb:b.length=512)(hc:fW b=0):
  (δ.cH n b).1=0∧DA N (δ.cH n b).2∧∀m,(δ.cH n b).2.at m=if n=m then b else δ.at m:=by
 have e:δ.cH n b=(0,δ.wr n b):=by
  rw [Dk.cH,ai (by rw [h.alive]; decide),ai (not_not_intro ⟨h0,by rw [h.aT]; exact h1,hb⟩),ai (by have:=h.bJ; omega)]
 have I:(δ.wr n b).now=dr n b δ.now:=rfl
 have mV:(δ.wr n b).aT=δ.aT:=rfl
 have J:∀m,(δ.wr n b).at m=if n=m then b else δ.at m:=fun m=>by
  rw [Dk.at,Dk.at,I,mV,nT]
  by_cases hm:n=m
  ·rw [aq hm,aq hm]
  ·rw [ai hm,ai hm]
 have I6:(δ.wr n b).bJ=δ.bJ:=by
  show δ.gi.bJ=δ.bJ
  rw [CY h.bJ]
 rw [e]
 refine ⟨rfl,⟨h.alive,by rw [I6]; exact h.bJ,h.aT,fun x hx => ?_,?_,fun m a c => ?_⟩,J⟩
 ·rw [I] at hx
  rcases qb.1 hx with rfl | hx
  ·exact ⟨h0,h1⟩
  ·exact h.keys x hx
 ·rw [I]; exact jM h.nodup
 ·rw [J]
  by_cases hm:n=m
  ·rw [aq hm]; exact hc
  ·rw [ai hm]; exact h.good m a c
theorem wG {l m:List Nat}{a b:Nat}(J:a+m.length≤l.length)(h2:a+m.length≤b): (aR l a m).drop b=l.drop b:=by
 have I:(l.take a).length=a:=by rw [gM]; omega
 rw [aR,←eZ,vh,fY (by rw [bK,I]; omega),dh,ng,bK,I]
 congr 1; omega
theorem yK {l m:List Nat}{a i:Nat}(h:a+m.length≤l.length): (aR l a m)[i]?=if a≤i∧i<a+m.length then m[i-a]? else l[i]?:=by
 have I:(l.take a).length=a:=by rw [gM]; omega
 rw [aR]
 by_cases J:i<a
 ·rw [iu (by omega),ai (by omega),iP,aq J]
 ·rw [kK (by omega),I]
  by_cases h2:i-a<m.length
  ·rw [iu h2,aq (by omega)]
  ·rw [kK (by omega),ai (by omega),ju]
   congr 1; omega
theorem qn {l m:List Nat}{a z:Nat}(I:l.drop 12=m.drop 12)(J:12≤a): cC l a z=cC m a z:=by
 have e:∀l:List Nat,(l.take (a+z)).drop a=((l.drop 12).drop (a-12)).take z:=fun l=>by
  rw [ng,show 12+(a-12)=a by omega,o6]
  congr 1; omega
 rw [cC,cC,e,e,I]
theorem D6 {l m:List Nat}(I:l.drop 12=m.drop 12){low:Nat}: ∀(n i:Nat) (t:List Bool),cellsL l low n i t=cellsL m low n i t:=by
 intro n
 induction n with
 | zero=>intro i t; rfl
 | succ n J =>
  intro i t
  have e1:cA l i=cA m i:=qn I (by omega)
  have e2:fV l i=fV m i:=qn I (by omega)
  simp only [cellsL,e1,e2,J]
theorem GK {l m:List Nat}(J:l.length=m.length)(I:l.drop 12=m.drop 12): bN l=bN m:=by
 have e1:iO l=iO m:=qn I (by omega)
 have e2:fU l=fU m:=qn I (by omega)
 have e3:l.getD 13 0=m.getD 13 0:=by
  have:∀l:List Nat,l[13]?=(l.drop 12)[1]?:=fun l=>by rw [ju]
  rw [dF,dF,this,this,I]
 simp only [bN,J,e1,e2,e3,D6 I]
theorem I7 : ∀(k n:Nat),leN (le k n)=n%256^k:=by
 intro k
 induction k with
 | zero=>intro n; rw [Nat.pow_zero,Nat.mod_one]; rfl
 | succ k I =>
  intro n
  rw [le,leN,I,rI,rG (256^k) 256,Nat.mod_mul]
theorem Bb {b:List Nat}{n:Nat}(J:b.length=512): (cO b n).drop 12=b.drop 12∧(cO b n).length=512∧(cO b n).drop 4=(lq b n).drop 4∧cC (cO b n) 0 4=uD 0 ((lq b n).drop 4)%4294967296:=by
 have h1:=sU (n:=n) J
 have h2:(cO b n).length=512:=by rw [cO,cm (by rw [dw]; omega),h1]
 have I:(cO b n).drop 4=(lq b n).drop 4:=by rw [cO]; exact wG (by rw [dw]; omega) (by rw [dw]; omega)
 have h4:(lq b n).drop 12=b.drop 12:=by rw [lq]; exact wG (by rw [dw]; omega) (by rw [dw]; omega)
 refine ⟨?_,h2,I,?_⟩
 ·have:=eB (List.drop 8) I
  rw [ng,ng] at this
  exact this.trans h4
 ·have e:(cO b n).take 4=le 4 (uD 0 ((lq b n).drop 4)):=by
   rw [cO,aR,jx,dh,oQ (by rw [dw]; omega),eA (by rw [dw]; omega)]
  rw [cC,dH,ej,e,I7]
theorem Ny {b:List Nat}{n:Nat}(I:∀x∈b,x<256): ∀x∈lq b n,x<256:=AZ I (Gj _ _)
theorem I8 {b:List Nat}{n:Nat}(hg:bN b=true)(hb:∀x∈b,x<256): fW (cO b n)=0∧bN (cO b n)=true∧Mn (cO b n)=b.drop 12:=by
 have hl:=gx hg
 obtain ⟨h1,h2,h3,h4⟩:=Bb (n:=n) hl
 have I:bN (cO b n)=true:=by rw [GK (h2.trans hl.symm) h1]; exact hg
 have hz:bN (List.replicate 512 0)=false:=by decide +kernel
 have J:cO b n≠List.replicate 512 0:=fun e=>by rw [e,hz] at I; cases I
 have hc:uD 0 ((lq b n).drop 4)<4294967296:=wP (by decide) fun x hx=>Ny hb x (gj hx)
 refine ⟨?_,I,?_⟩
 ·rw [fW,ai J,ai (by rw [I]; decide),ai]
  rw [h4,h3,jv hc]; exact not_not_intro rfl
 ·rw [Mn,ai (by rintro (h | h); exact h h2; exact J h),h1]
def pgA (ε:aH)(n:Int): List Nat:=match lookL n ε.1.aY with
 | some i=>match ε.1.ah[i.toNat]? with
  | some f=>f.b
  | none=>ε.2.2.at n
 | none=>ε.2.2.at n
structure K7 (N:Nat)(δ:Dk)(aY:List (Int×Int))(i:Nat)(f:Fm): Prop where
 lt:f.aS<N
 here:lookL f.aS aY=some (i:Int)
 bA:fW f.b=0
 same:f.changed=false→f.b=δ.at f.aS
 nX:f.changed=true→bN f.b=true
structure EC (N:Nat)(ε:aH): Prop where
 dk:DA N ε.2.2
 nodup:(ε.1.aY.map (·.1)).Nodup
 kE:∀(n i:Int),lookL n ε.1.aY=some i→0≤n∧∃(j:Nat) (f:Fm),i=j∧ε.1.ah[j]?=some f∧f.aS=n
 back:∀(i:Nat) (f:Fm),ε.1.ah[i]?=some f→f.aS<0∨K7 N ε.2.2 ε.1.aY i f
 w5:∀k:Int,k∈ε.1.bV.map (·.1)→0≤k∧k<N
 CZ:(ε.1.bV.map (·.1)).Nodup
theorem lS {ε:aH}{n:Int}{j:Nat}{f:Fm}(h:lookL n ε.1.aY=some (j:Int))(I:ε.1.ah[j]?=some f): pgA ε n=f.b:=by
 simp only [pgA,h,cg,I]
theorem kF {ε:aH}{n:Int}(h:lookL n ε.1.aY=none): pgA ε n=ε.2.2.at n:=by simp only [pgA,h]
theorem EC.cases {N:Nat}{ε:aH}(h:EC N ε)(n:Int): (∃(j:Nat) (f:Fm),lookL n ε.1.aY=some (j:Int)∧ε.1.ah[j]?=some f∧f.aS=n∧0≤n∧K7 N ε.2.2 ε.1.aY j f∧pgA ε n=f.b)∨(lookL n ε.1.aY=none∧pgA ε n=ε.2.2.at n):=by
 cases I:lookL n ε.1.aY with
 | none=>exact .inr ⟨rfl,kF I⟩
 | some i =>
  obtain ⟨h0,j,f,rfl,J,hp⟩:=h.kE n i I
  refine .inl ⟨j,f,rfl,J,hp,h0,?_,lS I J⟩
  rcases h.back j f J with h1 | h1
  ·omega
  ·exact h1
theorem qL {m:List Fm}{i j:Nat}{f g x:Fm}(hf:m[i]?=some f)(J:(m.set i g)[j]?=some x): (i=j∧x=g)∨(i≠j∧m[j]?=some x):=by
 by_cases I:i=j
 ·subst I
  rw [fG (List.getElem?_eq_some_iff.1 hf).1] at J
  exact .inl ⟨rfl,(bH J).symm⟩
 ·rw [eL I] at J
  exact .inr ⟨I,J⟩
theorem EC.set {N:Nat}{ε:aH}{i:Nat}{f g:Fm}{y:Lg}{δ:Dk}{d:List (Int×(Nat×Bool))}(h:EC N ε)(hf:ε.1.ah[i]?=some f)(hp:g.aS=f.aS)(CH:DA N δ)
 (hg:g.aS<0∨K7 N δ ε.1.aY i g)(ho:∀(j:Nat) (x:Fm),i≠j→ε.1.ah[j]?=some x→0≤x.aS→δ.at x.aS=ε.2.2.at x.aS)(hd:∀k:Int,k∈d.map (·.1)→0≤k∧k<N)(PU:(d.map (·.1)).Nodup):
  EC N ({ ε.1 with ah:=ε.1.ah.set i g,bV:=d },(y,δ)):=by
 have hi:=(List.getElem?_eq_some_iff.1 hf).1
 refine ⟨CH,h.nodup,fun n k hk => ?_,fun j x J => ?_,hd,PU⟩
 ·obtain ⟨h0,j,x,rfl,J,uV⟩:=h.kE n k hk
  refine ⟨h0,j,?_⟩
  by_cases I:i=j
  ·subst I
   rw [hf] at J
   have:=bH J
   subst this
   exact ⟨g,rfl,fG hi,hp.trans uV⟩
  ·exact ⟨x,rfl,by show (ε.1.ah.set i g)[j]?=some x; rw [eL I]; exact J,uV⟩
 ·rcases qL hf J with ⟨rfl,rfl⟩ | ⟨I,J⟩
  ·exact hg
  ·rcases h.back j x J with h1 | h1
   ·exact .inl h1
   ·by_cases h2:x.aS<0
    ·exact .inl h2
    ·refine .inr ⟨h1.lt,h1.here,h1.bA,fun hc => ?_,h1.nX⟩
     rw [ho j x I J (by omega)]; exact h1.same hc
theorem Fe {ε:aH}{i:Nat}{f g:Fm}{x:LD}{d:List (Int×(Nat×Bool))}(hf:ε.1.ah[i]?=some f)(hb:g.b=f.b){n:Int}(hx:lookL n ε.1.aY=none→x.2.at n=ε.2.2.at n)(hy:∀j:Int,lookL n ε.1.aY=some j→∃f',ε.1.ah[j.toNat]?=some f'):
  pgA ({ ε.1 with ah:=ε.1.ah.set i g,bV:=d },x) n=pgA ε n:=by
 unfold pgA
 simp only
 cases hl:lookL n ε.1.aY with
 | none=>exact hx hl
 | some j =>
  simp only
  obtain ⟨f',J⟩:=hy j hl
  by_cases I:i=j.toNat
  ·subst I
   rw [fG (List.getElem?_eq_some_iff.1 hf).1,hf]
   exact hb
  ·rw [eL I,J]
theorem EC.there {N:Nat}{ε:aH}(h:EC N ε){n:Int}: ∀j:Int,lookL n ε.1.aY=some j→∃f',ε.1.ah[j.toNat]?=some f':=fun j I=>by
 obtain ⟨_,k,f,rfl,J,_⟩:=h.kE n j I
 exact ⟨f,by rw [cg]; exact J⟩
theorem EC.out {N:Nat}{ε:aH}{i:Nat}{f:Fm}(h:EC N ε)(I:ε.1.ah[i]?=some f):
  (outF ε i).1=0∧EC N (outF ε i).2∧(∀n,pgA (outF ε i).2 n=pgA ε n)∧(outF ε i).2.1.aY=ε.1.aY∧∃g,(outF ε i).2.1.ah[i]?=some g∧g.aS=f.aS∧(0≤g.aS→g.changed=false):=by
 have hi:=(List.getElem?_eq_some_iff.1 I).1
 unfold outF
 rw [I]
 simp only
 by_cases hc:f.aS<0∨f.changed=false
 ·rw [aq hc]
  exact ⟨rfl,h,fun n=>rfl,rfl,f,I,rfl,fun h0=>hc.resolve_left (by omega)⟩
 ·rw [ai hc]
  have J:0≤f.aS:=by omega
  have tv:f.changed=true:=by cases hq:f.changed <;> simp [hq] at hc ⊢
  have ho:=(h.back i f I).resolve_left (by omega)
  have hg:=ho.nX tv
  rw [ai (by rw [hg]; decide)]
  obtain ⟨e1,k1⟩:=I5 (x:=ε.2) (n:=cC f.b 4 8) h.dk
  rw [ai (by rw [e1]; decide)]
  obtain ⟨e2,k2,k3⟩:=K6 (h.dk.of k1) J ho.lt (gx hg) ho.bA
  rw [ai (by rw [e2]; decide)]
  have wD:∀m,f.aS≠m→((bL ε.2 (cC f.b 4 8)).2.2.cH f.aS f.b).2.at m=ε.2.2.at m:=fun m hm=>by rw [k3,ai hm,k1.at]
  refine ⟨rfl,h.set I rfl k2 (.inr ⟨ho.lt,ho.here,ho.bA,fun _ => ?_,fun hq=>(by cases hq)⟩) (fun j x v7 hx h0=>wD _ fun C0 => ?_) (fun k hk => ?_) (jM h.CZ),fun n => ?_,rfl,_,fG hi,rfl,fun _=>rfl⟩
  ·simp only; rw [k3,aq rfl]
  ·rcases h.back j x hx with h1 | h1
   ·omega
   ·have:=h1.here
    rw [←C0,ho.here] at this
    have:=bH this
    omega
  ·rcases qb.1 hk with rfl | hk
   ·exact ⟨J,ho.lt⟩
   ·exact h.w5 k hk
  ·exact Fe I (by rfl) (fun hn=>wD n fun e=>by rw [←e,ho.here] at hn; cases hn) h.there
theorem er.back {π I:Pl}(J:er π I){i:Nat}{x:Fm}(hx:I.ah[i]?=some x): ∃f t,π.ah[i]?=some f∧x={ f with dz:=t }:=by
 have hi:=(List.getElem?_eq_some_iff.1 hx).1
 rw [J.len] at hi
 have hf:π.ah[i]?=some (π.ah[i]'hi):=aN _
 obtain ⟨t,ht⟩:=J.get i _ hf
 rw [hx] at ht
 exact ⟨_,t,hf,bH ht⟩
theorem EC.nD {N:Nat}{ε:aH}{J:Pl}(h:EC N ε)(I:er ε.1 J): EC N (J,ε.2)∧∀n,pgA (J,ε.2) n=pgA ε n:=by
 refine ⟨⟨h.dk,by rw [I.aY]; exact h.nodup,fun n i hi => ?_,fun i x hx => ?_,by rw [I.bV]; exact h.w5,by rw [I.bV]; exact h.CZ⟩,fun n => ?_⟩
 ·rw [I.aY] at hi
  obtain ⟨h0,j,f,rfl,hf,hp⟩:=h.kE n i hi
  obtain ⟨t,ht⟩:=I.get j f hf
  exact ⟨h0,j,_,rfl,ht,hp⟩
 ·obtain ⟨f,t,hf,rfl⟩:=I.back hx
  rcases h.back i f hf with h1 | h1
  ·exact .inl h1
  ·exact .inr ⟨h1.lt,by rw [I.aY]; exact h1.here,h1.bA,h1.same,h1.nX⟩
 ·unfold pgA
  simp only [I.aY]
  cases hl:lookL n ε.1.aY with
  | none=>rfl
  | some i =>
   obtain ⟨h0,j,f,rfl,hf,hp⟩:=h.kE n i hl
   obtain ⟨t,ht⟩:=I.get j f hf
   simp only [cg,ht,hf]
theorem EC.cu {N:Nat}{ε:aH}{i:Nat}{f g:Fm}(h:EC N ε)(hg:ε.1.ah[i]?=some g)(hp:g.aS=f.aS)(hc:0≤g.aS→g.changed=false): EC N (cu ε.1 i f,ε.2)∧(∀n,pgA (cu ε.1 i f,ε.2) n=pgA ε n) ∧
  (cu ε.1 i f).ah[i]?=some dx∧∀n,lookL n ε.1.aY=none→lookL n (cu ε.1 i f).aY=none:=by
 have hi:=(List.getElem?_eq_some_iff.1 hg).1
 have Q5:(ε.1.ah.set i dx)[i]?=some dx:=fG hi
 have I:∀n,lookL n (Am.cu ε.1 i f).aY=if 0≤f.aS∧f.aS=n then none else lookL n ε.1.aY:=fun n=>by
  rw [Am.cu]
  by_cases h0:f.aS<0
  ·rw [aq h0,ai (by omega)]
  ·rw [ai h0,A3 h.nodup]
   by_cases hn:f.aS=n
   ·rw [aq hn,aq ⟨by omega,hn⟩]
   ·rw [ai hn,ai (by omega)]
 refine ⟨⟨h.dk,?_,fun n k hk => ?_,fun j x J => ?_,h.w5,h.CZ⟩,fun n => ?_,Q5,fun n hn => ?_⟩
 ·rw [Am.cu]
  by_cases h0:f.aS<0
  ·rw [aq h0]; exact h.nodup
  ·rw [ai h0]; exact sR h.nodup
 ·rw [I] at hk
  split at hk
  ·cases hk
  ·rename_i cT
   obtain ⟨h0,j,x,rfl,J,uV⟩:=h.kE n k hk
   refine ⟨h0,j,x,rfl,?_,uV⟩
   show (ε.1.ah.set i dx)[j]?=some x
   rw [eL]
   ·exact J
   ·rintro rfl
    rw [hg] at J
    have:=bH J
    subst this
    omega
 ·rcases qL hg J with ⟨rfl,rfl⟩ | ⟨v7,J⟩
  ·exact .inl (by decide)
  ·rcases h.back j x J with h1 | h1
   ·exact .inl h1
   ·by_cases U0:x.aS<0
    ·exact .inl U0
    refine .inr ⟨h1.lt,?_,h1.bA,h1.same,h1.nX⟩
    rw [I,ai]
    ·exact h1.here
    ·rintro ⟨h0,C0⟩
     rcases h.back i g hg with h2 | h2
     ·omega
     ·have e:=h2.here
      rw [hp,C0,h1.here] at e
      have:=bH e
      omega
 ·rcases h.cases n with ⟨j,x,hl,J,uV,h0,ho,e⟩ | ⟨hl,e⟩
  ·rw [e]
   by_cases C0:f.aS=n
   ·have v7:i=j:=by
     rcases h.back i g hg with h2 | h2
     ·omega
     ·have e:=h2.here
      rw [hp,C0,hl] at e
      have:=bH e
      omega
    subst v7
    rw [hg] at J
    have:=bH J
    subst this
    rw [kF (by rw [I,aq ⟨by omega,C0⟩])]
    rw [ho.same (hc (by omega)),hp,C0]
   ·refine lS (j:=j) (by rw [I,ai (by omega)]; exact hl) ?_
    show (ε.1.ah.set i dx)[j]?=some x
    rw [eL]
    ·exact J
    ·rintro rfl
     rw [hg] at J
     have:=bH J
     subst this
     omega
  ·rw [e,kF (by rw [I]; split; rfl; exact hl)]
 ·rw [I]; split; rfl; exact hn
theorem EC.gJ {N:Nat}{ε:aH}{i:Nat}{e:Fm}{n:Int}(h:EC N ε)(he:ε.1.ah[i]?=some e)(hp:e.aS<0)(hl:lookL n ε.1.aY=none)(h0:0≤n)(h1:n<N): EC N (gJ ε.1 i n (ε.2.2.at n),ε.2)∧∀m,pgA (gJ ε.1 i n (ε.2.2.at n),ε.2) m=pgA ε m:=by
 have hi:=(List.getElem?_eq_some_iff.1 he).1
 have J:(ε.1.ah.set i ⟨n,ε.2.2.at n,1,true,false⟩)[i]?=some ⟨n,ε.2.2.at n,1,true,false⟩:=fG hi
 have I:∀m,lookL m (Am.gJ ε.1 i n (ε.2.2.at n)).aY=if n=m then some (i:Int) else lookL m ε.1.aY:=fun m=>nT _
 refine ⟨⟨h.dk,jM h.nodup,fun m k hk => ?_,fun j x hx => ?_,h.w5,h.CZ⟩,fun m => ?_⟩
 ·rw [I] at hk
  split at hk
  ·rename_i I9
   have:=bH hk
   subst this
   subst I9
   exact ⟨h0,i,_,rfl,J,rfl⟩
  ·rename_i cT
   obtain ⟨h0,j,x,rfl,hx,uV⟩:=h.kE m k hk
   refine ⟨h0,j,x,rfl,?_,uV⟩
   show (ε.1.ah.set i _)[j]?=some x
   rw [eL]
   ·exact hx
   ·rintro rfl
    rw [he] at hx
    have:=bH hx
    subst this
    omega
 ·rcases qL he hx with ⟨rfl,rfl⟩ | ⟨v7,hx⟩
  ·exact .inr ⟨h1,by rw [I,aq rfl],h.dk.good n h0 h1,fun _=>rfl,fun hq=>(by cases hq)⟩
  ·rcases h.back j x hx with h2 | h2
   ·exact .inl h2
   ·refine .inr ⟨h2.lt,?_,h2.bA,h2.same,h2.nX⟩
    rw [I,ai]
    ·exact h2.here
    ·rintro rfl
     rw [h2.here] at hl; cases hl
 ·by_cases I9:n=m
  ·subst I9
   rw [lS (j:=i) (by rw [I,aq rfl]) J,kF hl]
  ·rcases h.cases m with ⟨j,x,iN,hx,uV,_,ho,e2⟩ | ⟨iN,e2⟩
   ·rw [e2]
    refine lS (j:=j) (by rw [I,ai I9]; exact iN) ?_
    show (ε.1.ah.set i _)[j]?=some x
    rw [eL]
    ·exact hx
    ·rintro rfl
     rw [he] at hx
     have:=bH hx
     subst this
     omega
   ·rw [e2,kF (by rw [I,ai I9]; exact iN)]
theorem EC.frame {N:Nat}{ε:aH}{i:Nat}{f g:Fm}(h:EC N ε)(hf:ε.1.ah[i]?=some f)(J:g.aS=f.aS)(hb:g.b=f.b)(hc:g.changed=f.changed): EC N ({ ε.1 with ah:=ε.1.ah.set i g },ε.2)∧∀n,pgA ({ ε.1 with ah:=ε.1.ah.set i g },ε.2) n=pgA ε n:=by
 refine ⟨h.set (y:=ε.2.1) (δ:=ε.2.2) hf J h.dk ?_ (fun _ _ _ _ _=>rfl) h.w5 h.CZ,fun n=>Fe hf hb (fun _=>rfl) h.there⟩
 rcases h.back i f hf with I | I
 ·exact .inl (by omega)
 ·exact .inr ⟨by rw [J]; exact I.lt,by rw [J]; exact I.here,by rw [hb]; exact I.bA,by rw [J,hb,hc]; exact I.same,by rw [hb,hc]; exact I.nX⟩
theorem eu.ec {N:Nat}{ε ε':aH}{n e:Int}{b:List Nat}(hr:eu ε n e b ε')(h:EC N ε): EC N ε'∧(∀m,pgA ε' m=pgA ε m)∧(0≤n→n<N→e=0∧b=pgA ε n)∧(¬(0≤n∧n<N)→e=1∧ε'=ε):=by
 have mV:=h.dk.aT
 cases hr with
 | arg I=>rw [mV] at I; exact ⟨h,fun _=>rfl,fun a b=>absurd ⟨a,b⟩ I,fun _=>⟨rfl,rfl⟩⟩
 | yE i f h1 J hl hf =>
  rw [mV] at J
  obtain ⟨k1,k2⟩:=h.frame (g:={ f with dz:=true,pins:=f.pins+1 }) hf rfl rfl rfl
  exact ⟨k1,k2,fun _ _=>⟨rfl,(lS hl hf).symm⟩,fun I=>absurd ⟨h1,J⟩ I⟩
 | out eY i f h1 J hl I hf hh he=>exact absurd ((h.nD I).1.out hf).1 he
 | read eY i f h1 J hl I hf hh he hr =>
  obtain ⟨k1,k2,k3,k4,g,k5,k6,k7⟩:=(h.nD I).1.out hf
  refine absurd ?_ hr
  rw [mV] at J
  rw [Dk.nM,ai (by rw [k2.dk.alive]; decide),ai (by rw [k2.dk.aT]; exact not_not_intro ⟨h1,J⟩)]
 | bad eY i f h1 J hl I hf hh he hr hc =>
  obtain ⟨k1,k2,k3,k4,g,k5,k6,k7⟩:=(h.nD I).1.out hf
  rw [mV] at J
  exact absurd (k2.dk.good n h1 J) hc
 | load eY i f h1 J hl I hf hh he hr hc =>
  obtain ⟨n1,n2⟩:=h.nD I
  obtain ⟨k1,k2,k3,k4,g,k5,k6,k7⟩:=n1.out hf
  rw [mV] at J
  obtain ⟨f1,f2,f3,f4⟩:=k2.cu k5 k6 k7
  have iN:lookL n (outF (eY,ε.2) i).2.1.aY=none:=by rw [k4]; show lookL n eY.aY=none; rw [I.aY]; exact hl
  obtain ⟨l1,l2⟩:=f1.gJ f3 (by decide) (f4 n iN) h1 J
  exact ⟨l1,fun m=>by rw [l2,f2,k3,n2],fun _ _=>⟨rfl,by rw [←n2,←k3,kF iN]⟩,fun I=>absurd ⟨h1,J⟩ I⟩
theorem I_ {N:Nat}{π:Pl}{x:LD}{n:Int}(h:EC N (π,x)): EC N ((unpinF π n).2,x)∧∀m,pgA ((unpinF π n).2,x) m=pgA (π,x) m:=by
 unfold unpinF
 split
 ·exact ⟨h,fun _=>rfl⟩
 ·split
  ·exact ⟨h,fun _=>rfl⟩
  ·rename_i i hi f I
   exact h.frame (g:={ f with pins:=f.pins-1 }) I rfl rfl rfl
theorem kf.ec {N:Nat}{ε ε':aH}{n e:Int}{b:List Nat}(I:kf ε n e b ε')(h:EC N ε)(hp:∀f∈ε.1.ah,f.pins=0): EC N ε'∧(∀m,pgA ε' m=pgA ε m)∧(0≤n→n<N→e=0∧b=pgA ε n)∧(¬(0≤n∧n<N)→e=1∧ε'=ε):=by
 cases I with
 | dead J=>rw [h.dk.alive] at J; cases J
 | gy e b ε' J I he =>
  obtain ⟨k1,k2,k3,k4⟩:=I.ec h
  exact ⟨k1,k2,fun a b=>absurd (k3 a b).1 he,k4⟩
 | oO b ε' J I he=>exact absurd (I.wW hp).1 he
 | read b ε' J I he =>
  obtain ⟨k1,k2,k3,k4⟩:=I.ec h
  obtain ⟨u1,u2⟩:=I_ (n:=n) k1
  refine ⟨u1,fun m=>by rw [u2]; exact k2 m,k3,fun hn=>absurd (k4 hn).1 (by decide)⟩
theorem mq.ec {N:Nat}{ε ε':aH}{now:List (Int×List Nat)}{n e:Int}{b:List Nat}(hr:mq ε now false n e b ε')(h:EC N ε)(hp:∀f∈ε.1.ah,f.pins=0): EC N ε'∧(∀m,pgA ε' m=pgA ε m) ∧
  (0≤n→n<N→e=0∧b=(match lookL n now with | some b=>b | none=>pgA ε n))∧(¬(0≤n∧n<N)→e=1):=by
 have I:=h.dk.aT
 cases hr with
 | arg J=>rw [I] at J; exact ⟨h,fun _=>rfl,fun a b=>absurd ⟨a,b⟩ J,fun _=>rfl⟩
 | bE _ _ ho=>cases ho
 | own b h1 h2 _ hl=>rw [I] at h2; exact ⟨h,fun _=>rfl,fun _ _=>⟨rfl,by rw [hl]⟩,fun J=>absurd ⟨h1,h2⟩ J⟩
 | read e b ε' h1 h2 _ hl hr =>
  rw [I] at h2
  obtain ⟨k1,k2,k3,k4⟩:=hr.ec h hp
  exact ⟨k1,k2,fun a b=>by rw [hl]; exact k3 a b,fun J=>absurd ⟨h1,h2⟩ J⟩
theorem Ja : ∀(N:Nat) (l:List Int),l.Nodup→(∀n∈l,0≤n∧n<N)→l.length≤N:=by
 intro N
 induction N with
 | zero =>
  intro l _ h
  cases l with
  | nil=>exact aE _
  | cons n l=>have:=h n c9; omega
 | succ N ih =>
  intro l J h
  have h1:=ih (l.erase (N:Int)) (J.erase _) fun n hn=>by
   have I:=(J.mem_erase_iff).1 hn
   have:=h n I.2
   have:=I.1
   omega
  have I:l.length≤(l.erase (N:Int)).length+1:=by
   rw [List.length_erase]; split <;> omega
  omega
structure NW (N:Nat)(now:List (Int×List Nat)): Prop where
 good:∀e∈now,bN e.2=true∧∀x∈e.2,x<256
 keys:∀k:Int,k∈now.map (·.1)→0≤k∧k<N
 nodup:(now.map (·.1)).Nodup
theorem NW.nil (N:Nat): NW N []:=⟨fun e h=>(by cases h),fun k h=>(by cases h),rE⟩
theorem GL {α:Type}{n:Int}{a:α}: ∀ {l:List (Int×α)} {e:Int×α},e∈dr n a l→e=(n,a)∨e∈l:=by
 intro l
 induction l with
 | nil=>intro e h; simp only [dr,rj] at h; exact .inl h
 | cons x l I =>
  intro e h
  simp only [dr] at h
  split at h
  ·rcases List.mem_cons.1 h with h | h
   ·exact .inl h
   ·exact .inr (cJ _ h)
  ·rcases List.mem_cons.1 h with h | h
   ·exact .inr (by rw [h]; exact c9)
   ·rcases I h with h | h
    ·exact .inl h
    ·exact .inr (cJ _ h)
theorem NW.put {N:Nat}{now:List (Int×List Nat)}{n:Int}{b:List Nat}(h:NW N now)(J:0≤n)(h1:n<N)(hg:bN b=true)(hb:∀x∈b,x<256): NW N (dr n b now):=by
 refine ⟨fun e he => ?_,fun k I => ?_,jM h.nodup⟩
 ·rcases GL he with rfl | he
  ·exact ⟨hg,hb⟩
  ·exact h.good e he
 ·rcases qb.1 I with rfl | I
  ·exact ⟨J,h1⟩
  ·exact h.keys k I
theorem NW.len {N:Nat}{now:List (Int×List Nat)}(h:NW N now): now.length≤N:=by
 have:=Ja N _ h.nodup h.keys
 rwa [eM] at this
theorem NW.look {N:Nat}{now:List (Int×List Nat)}(h:NW N now){n:Int}{b:List Nat}(I:lookL n now=some b): bN b=true∧∀x∈b,x<256:=h.good _ (jK I)
theorem ql.ec {N:Nat}{ε ε':aH}{now b_:List (Int×List Nat)}{n e:Int}{b:List Nat}(I:ql ε now false n b e b_ ε')(h:EC N ε)(hp:∀f∈ε.1.ah,f.pins=0): EC N ε'∧(∀m,pgA ε' m=pgA ε m) ∧
  (¬(0≤n∧n<N)→e=1∧b_=now)∧(0≤n→n<N→bN b=false→e=4∧b_=now)∧(0≤n→n<N→bN b=true→e=0∧b_=dr n b now):=by
 cases I with
 | may e c ε' I he =>
  obtain ⟨k1,k2,k3,J⟩:=I.ec h hp
  exact ⟨k1,k2,fun hn=>⟨J hn,rfl⟩,fun a b _=>absurd (k3 a b).1 he,fun a b _=>absurd (k3 a b).1 he⟩
 | bad c ε' I hg =>
  obtain ⟨k1,k2,k3,J⟩:=I.ec h hp
  exact ⟨k1,k2,fun hn=>absurd (J hn) (by decide),fun _ _ _=>⟨rfl,rfl⟩,fun _ _ hq=>by rw [hg] at hq; cases hq⟩
 | done c ε' I hg =>
  obtain ⟨k1,k2,k3,J⟩:=I.ec h hp
  exact ⟨k1,k2,fun hn=>absurd (J hn) (by decide),fun _ _ hq=>(by rw [hg] at hq; cases hq),fun _ _ _=>⟨rfl,rfl⟩⟩
theorem jh.ec {N:Nat}{now:List (Int×List Nat)}{l:List Int}{ε ε':aH}{e:Int}{cs:List cY}(I:jh now l ε e cs ε'): EC N ε→ig ε→(∀n∈l,0≤n∧n<N)→EC N ε'∧(∀m,pgA ε' m=pgA ε m)∧e=0:=by
 induction I with
 | nil ε=>intro h _ _; exact ⟨h,fun _=>rfl,rfl⟩
 | err n l ε e b ε' I he =>
  intro h J hl
  obtain ⟨k1,k2,k3,k4⟩:=I.ec h J.pins
  have:=hl n c9
  exact absurd (k3 this.1 this.2).1 he
 | part n l ε cR b ε' c e cs jL I hb hd hc kq ht ih =>
  intro h J hl
  obtain ⟨k1,k2,k3,k4⟩:=I.ec h J.pins
  obtain ⟨i1,i2,i3⟩:=ih k1 (I.lH J) fun m hm=>hl m (cJ _ hm)
  exact ⟨i1,fun m=>by rw [i2,k2],i3⟩
 | whole n l ε cR b ε' e cs jL I hb hd ht ih =>
  intro h J hl
  obtain ⟨k1,k2,k3,k4⟩:=I.ec h J.pins
  obtain ⟨i1,i2,i3⟩:=ih k1 (I.lH J) fun m hm=>hl m (cJ _ hm)
  exact ⟨i1,fun m=>by rw [i2,k2],i3⟩
theorem EC.log {N:Nat}{ε:aH}{x:LD}(h:EC N ε)(k:DK ε.2.2 x.2): EC N (ε.1,x)∧∀m,pgA (ε.1,x) m=pgA ε m:=by
 refine ⟨⟨h.dk.of k,h.nodup,h.kE,fun i f J => ?_,h.w5,h.CZ⟩,fun m => ?_⟩
 ·rcases h.back i f J with I | I
  ·exact .inl I
  ·exact .inr ⟨I.lt,I.here,I.bA,fun hc=>by rw [k.at]; exact I.same hc,I.nX⟩
 ·unfold pgA
  simp only [k.at]
theorem EC.put {N:Nat}{ε:aH}{n:Int}{i:Nat}{f:Fm}{b:List Nat}{aL:Nat}(h:EC N ε)(hl:lookL n ε.1.aY=some (i:Int))(hf:ε.1.ah[i]?=some f)(hg:bN b=true)(hb:∀x∈b,x<256)(h0:0≤n)(h1:n<N):
  EC N (wZ ε.1 n i f b aL,ε.2)∧∀m,pgA (wZ ε.1 n i f b aL,ε.2) m=if m=n then cO b aL else pgA ε m:=by
 obtain ⟨s1,s2,s3⟩:=I8 (n:=aL) hg hb
 have hi:=(List.getElem?_eq_some_iff.1 hf).1
 have hp:f.aS=n:=by
  obtain ⟨_,j,x,v7,J,uV⟩:=h.kE n i hl
  have:i=j:=by omega
  subst this
  rw [hf] at J
  rw [bH J]; exact uV
 have ho:=(h.back i f hf).resolve_left (by omega)
 refine ⟨h.set (y:=ε.2.1) (δ:=ε.2.2) hf rfl h.dk (.inr ⟨ho.lt,ho.here,s1,fun hq=>(by cases hq),fun _=>s2⟩) (fun _ _ _ _ _=>rfl) (fun k hk => ?_) (jM h.CZ),fun m => ?_⟩
 ·rcases qb.1 hk with rfl | hk
  ·exact ⟨h0,h1⟩
  ·exact h.w5 k hk
 ·by_cases hm:m=n
  ·subst hm
   rw [aq rfl]
   exact lS (ε:=(wZ ε.1 m i f b aL,ε.2)) hl (fG hi)
  ·rw [ai hm]
   rcases h.cases m with ⟨j,x,I,J,uV,_,_,e2⟩ | ⟨I,e2⟩
   ·rw [e2]
    refine lS (ε:=(wZ ε.1 n i f b aL,ε.2)) I ?_
    show (ε.1.ah.set i _)[j]?=some x
    rw [eL]
    ·exact J
    ·rintro rfl
     rw [hf] at J
     have:=bH J
     subst this
     omega
   ·rw [e2]
    exact kF (ε:=(wZ ε.1 n i f b aL,ε.2)) I
theorem nZ.ec {N:Nat}{now:List (Int×List Nat)}{aL:Nat}{l:List Int}{ε ε':aH}{e:Int}(I:nZ now aL l ε e ε'): EC N ε→ig ε→NW N now→(∀n∈l,0≤n∧n<N)→EC N ε'∧e=0 ∧
  ∀m,pgA ε' m=if m∈l then (match lookL m now with | some b=>cO b aL | none=>pgA ε m) else pgA ε m:=by
 induction I with
 | nil ε=>intro h _ _ _; exact ⟨h,rfl,fun m=>by rw [ai (by simp)]⟩
 | gy n l ε e b ε' I he =>
  intro h h3 hn hl
  have:=hl n c9
  exact absurd ((I.ec h).2.2.1 this.1 this.2).1 he
 | bad n l ε b0 b ε' I hb he =>
  intro h h3 hn hl
  exact absurd ((I.put (b:=b) (aL:=aL) h3).2.2 (hn.look hb).1) he
 | put n l ε b0 b ε' e jL I hb he ht ih =>
  intro h h3 hn hl
  have Ff:=hl n c9
  obtain ⟨k1,k2,k3,k4⟩:=I.ec h
  obtain ⟨i,f,p1,p2,p3,p4,p5⟩:=I.at h3.pins
  have hg:=hn.look hb
  have e1:=yJ (aL:=aL) p1 p2 p3 hg.1
  obtain ⟨q1,q2⟩:=k1.put (aL:=aL) p1 p2 hg.1 hg.2 Ff.1 Ff.2
  have LB:=(I.put (b:=b) (aL:=aL) h3).1
  rw [e1] at ih LB
  obtain ⟨i1,i2,i3⟩:=ih q1 LB hn fun m hm=>hl m (cJ _ hm)
  refine ⟨i1,i2,fun m => ?_⟩
  rw [i3,q2]
  by_cases hm:m=n
  ·subst hm
   rw [aq rfl,aq (c9)]
   split
   ·rw [hb]
   ·rw [hb]
  ·rw [ai hm,k2]
   by_cases J:m∈l
   ·rw [aq J,aq (cJ _ J)]
   ·rw [ai J,ai (by simp [hm,J])]
structure EL (K:Nat)(x:LD): Prop where
 log:x.1.b=x.2.log
 cert:x.1.forced≤x.2.dS
 size:x.1.base+x.1.b.length≤K
theorem EL.force {K:Nat}{x:LD}{n:Nat}(h:EL K x): EL K (bL x n).2:=by
 unfold bL Dk.fO
 split
 ·exact h
 ·by_cases I:x.2.dead=true
  ·rw [aq I,aq (show (9:Int)≠0 by decide)]; exact h
  ·rw [ai I]
   by_cases J:x.2.bJ=0
   ·rw [aq J,aq (show (9:Int)≠0 by decide)]; exact ⟨h.log,h.cert,h.size⟩
   ·rw [ai J,ai (show ¬(0:Int)≠0 by decide)]; exact ⟨h.log,by show x.1.b.length≤x.2.log.length; rw [h.log]; exact aE _,h.size⟩
theorem EL.write {K:Nat}{x:LD}{n:Int}{b:List Nat}(h:EL K x): EL K (x.1,(x.2.cH n b).2):=by
 unfold Dk.cH
 split
 ·exact h
 ·split
  ·exact h
  ·split <;> exact ⟨h.log,h.cert,h.size⟩
theorem sj (K:Nat): jN (EL K):=⟨fun _ _ h=>h.force,fun _ _ _ h=>h.write⟩
theorem kf.el {K:Nat}{ε ε':aH}{n e:Int}{b:List Nat}(I:kf ε n e b ε')(h:EL K ε.2): EL K ε'.2:=(sj K).rd I h
theorem mq.el {K:Nat}{ε ε':aH}{now:List (Int×List Nat)}{bE:Bool}{n e:Int}{b:List Nat}(I:mq ε now bE n e b ε')(h:EL K ε.2): EL K ε'.2:=(sj K).uU I h
theorem ql.el {K:Nat}{ε ε':aH}{now b_:List (Int×List Nat)}{bE:Bool}{n e:Int}{b:List Nat}(I:ql ε now bE n b e b_ ε')(h:EL K ε.2): EL K ε'.2:=(sj K).I1 I h
theorem jh.el {K:Nat}{now:List (Int×List Nat)}{l:List Int}{ε ε':aH}{e:Int}{cs:List cY}(I:jh now l ε e cs ε')(h:EL K ε.2): EL K ε'.2:=(sj K).ch I h
theorem nZ.el {K:Nat}{now:List (Int×List Nat)}{aL:Nat}{l:List Int}{ε ε':aH}{e:Int}(I:nZ now aL l ε e ε')(h:EL K ε.2): EL K ε'.2:=(sj K).pt I h
structure EI (N B:Nat)(ε:aH): Prop where
 ok:ig ε
 ec:EC N ε
 el:EL (B*1048600) ε.2
 cf:cf ε≤B*65536
theorem EI.more {N B:Nat}{ε:aH}(h:EI N B ε){I:Nat}(J:B≤I): EI N I ε :=
 ⟨h.ok,h.ec,⟨h.el.log,h.el.cert,b5 h.el.size (oR _ J)⟩,b5 h.cf (oR _ J)⟩
theorem EI.rd {N B:Nat}{ε ε':aH}{n e:Int}{b:List Nat}(h:EI N B ε)(I:kf ε n e b ε'): EI N B ε' :=
 ⟨I.lH h.ok,(I.ec h.ec h.ok.pins).1,I.el h.el,b5 I.cf h.cf⟩
theorem EI.uU {N B:Nat}{ε ε':aH}{now:List (Int×List Nat)}{n e:Int}{b:List Nat}(h:EI N B ε)(I:mq ε now false n e b ε'): EI N B ε' :=
 ⟨I.lH h.ok,(I.ec h.ec h.ok.pins).1,I.el h.el,b5 I.cf h.cf⟩
theorem EI.I1 {N B:Nat}{ε ε':aH}{now b_:List (Int×List Nat)}{n e:Int}{b:List Nat}(h:EI N B ε)(I:ql ε now false n b e b_ ε'): EI N B ε' :=
 ⟨I.lH h.ok,(I.ec h.ec h.ok.pins).1,I.el h.el,b5 I.cf h.cf⟩
theorem EI.many {N B:Nat}{ε:aH}(h:EI N B ε): N≤65536:=by
 have:=h.ok.ok.dk.many
 rwa [h.ec.dk.aT] at this
theorem EI.app {N B:Nat}{ε:aH}{kd:Int}{tx pv nx:Nat}{data:List Nat}{c:List cY}(h:EI N B ε)(hB:B≤1000)(hg:dM kd c=true):
  EI N (B+1) (ε.1,(aZ ε.2 kd tx pv nx data c).2)∧(∀m,pgA (ε.1,(aZ ε.2 kd tx pv nx data c).2) m=pgA ε m) ∧
  (((aZ ε.2 kd tx pv nx data c).1.2=0∧aZ ε.2 kd tx pv nx data c=((ε.2.1.base+ε.2.1.b.length,0),(ε.2.1.app (c_ ε.2.1 kd tx pv nx data c),{ ε.2.2 with log:=ε.2.2.log++c_ ε.2.1 kd tx pv nx data c }))) ∨
   (aZ ε.2 kd tx pv nx data c).1.2=7∨((aZ ε.2 kd tx pv nx data c).1.2=2∧1048576<(ei kd tx pv nx data c).length)):=by
 have hs:=h.el.size
 have I:=wF (kd:=kd) (tx:=tx) (pv:=pv) (nx:=nx) (data:=data) (c:=c) h.ok.ok.lg h.ok.ok.dk h.el.log (by omega)
 have uS:Am.cf (ε.1,(aZ ε.2 kd tx pv nx data c).2)≤(B+1)*65536:=by
  have e:Am.cf (ε.1,(aZ ε.2 kd tx pv nx data c).2)=Am.cf ε:=by simp only [Am.cf,I.2.2.2.2.2.1]
  rw [e]
  exact b5 h.cf (oR _ (o_ B))
 have dW:(aZ ε.2 kd tx pv nx data c).2.1.base+(aZ ε.2 kd tx pv nx data c).2.1.b.length≤(B+1)*1048600:=by
  have h1:=I.2.2.2.1
  have h2:=I.2.2.2.2.1
  omega
 have main:∀(hk:DK ε.2.2 (aZ ε.2 kd tx pv nx data c).2.2) (hc:(aZ ε.2 kd tx pv nx data c).2.1.forced≤(aZ ε.2 kd tx pv nx data c).2.2.dS),EI N (B+1) (ε.1,(aZ ε.2 kd tx pv nx data c).2)∧∀m,pgA (ε.1,(aZ ε.2 kd tx pv nx data c).2) m=pgA ε m:=fun hk hc=>by
  obtain ⟨l1,l2⟩:=h.ec.log hk
  exact ⟨⟨⟨⟨h.ok.ok.pl,I.1,I.2.1⟩,h.ok.pins,h.ok.full⟩,l1,⟨I.2.2.1,hc,dW⟩,uS⟩,l2⟩
 rcases kZ ε.2 kd tx pv nx data c with ⟨e,he,hc,J⟩ | ⟨hd,hf,J⟩ | ⟨_,_,hd,eU,hf,J⟩
 ·obtain ⟨m1,m2⟩:=main (by rw [J]; exact DK.refl _) (by rw [J]; exact h.el.cert)
  refine ⟨m1,m2,.inr ?_⟩
  rw [J]
  rcases hc with ⟨_,hb⟩ | ⟨rfl,hb⟩ | ⟨_,hb⟩ | ⟨rfl,hb⟩
  ·rw [hg] at hb; cases hb
  ·exact .inr ⟨rfl,hb⟩
  ·rw [h.ec.dk.alive] at hb; cases hb
  ·exact .inl rfl
 ·have:=h.ec.dk.bJ; omega
 ·rw [CY h.ec.dk.bJ] at J
  obtain ⟨m1,m2⟩:=main (by rw [J]; exact ⟨rfl,rfl,rfl,rfl⟩) (by rw [J]; exact h.el.cert)
  exact ⟨m1,m2,.inl ⟨by rw [J],J⟩⟩
theorem EI.done {N B:Nat}{ε ε':aH}{now:List (Int×List Nat)}{kd:Int}{tx pv nx aL:Nat}{data:List Nat}{e:Int}{cl:Bool}(h:EI N B ε)(hB:B≤1000)(hn:NW N now)(h1:1≤kd)(h2:kd≤7)(hr:uT ε now kd tx pv nx data 0 aL e cl ε'):
  (cl=false∧(e=7∨e=2)∧EI N (B+2) ε'∧∀m,pgA ε' m=pgA ε m) ∨
  (cl=true∧e=0∧EI N (B+2) ε'∧∀m,pgA ε' m=match lookL m now with | some b=>cO b aL | none=>pgA ε m):=by
 have I:∀n∈dO now,0≤n∧n<N:=fun n hq=>hn.keys n (nY.1 hq)
 have hN:=h.many
 have eU:∀ {c:List cY} {ε':aH} {e:Int},jh now (dO now) ε e c ε'→dM kd c=true:=fun J=>by
  refine CU ⟨h1,by omega⟩ (J.fit (fun x hx=>gx (hn.good x hx).1) fun n hq => ?_)
  have:=I n hq
  omega
 cases hr with
 | arg hq=>omega
 | dead _ _ _ hd=>rw [h.ec.dk.alive] at hd; cases hd
 | nX e c ε' _ _ _ hd J he=>exact absurd (J.ec h.ec h.ok I).2.2 he
 | app c ε' _ _ _ hd J he =>
  obtain ⟨c1,c2,c3⟩:=J.ec h.ec h.ok I
  have hi:EI N B ε':=⟨J.lH h.ok,c1,J.el h.el,b5 J.cf h.cf⟩
  obtain ⟨a1,a2,a3⟩:=hi.app (kd:=kd) (tx:=tx) (pv:=pv) (nx:=nx) (data:=data) (c:=c) hB (eU J)
  refine .inl ⟨rfl,?_,a1.more (by omega),fun m=>by rw [a2,c2]⟩
  rcases a3 with a3 | a3 | a3
  ·exact absurd a3.1 he
  ·exact .inl a3
  ·exact .inr a3.1
 | put c ε' e jL _ _ _ hd J ha hp =>
  obtain ⟨c1,c2,c3⟩:=J.ec h.ec h.ok I
  have hi:EI N B ε':=⟨J.lH h.ok,c1,J.el h.el,b5 J.cf h.cf⟩
  obtain ⟨a1,a2,a3⟩:=hi.app (kd:=kd) (tx:=tx) (pv:=pv) (nx:=nx) (data:=data) (c:=c) hB (eU J)
  obtain ⟨p1,p2,p3⟩:=hp.ec a1.ec a1.ok hn I
  have hl:(dO now).length≤N:=by
   have:=hn.len
   rw [dO,(eX _).length_eq,eM]; exact this
  have RH:=hp.cf a1.ok
  have mY:=a1.cf
  refine .inr ⟨rfl,p2,⟨hp.lH a1.ok,p1,?_,by omega⟩,fun m => ?_⟩
  ·have:=hp.el a1.el
   exact ⟨this.log,this.cert,b5 this.size (oR _ (by omega))⟩
  ·rw [aq p2,p3]
   by_cases hm:m∈dO now
   ·rw [aq hm]
    cases hq:lookL m now with
    | some b=>rfl
    | none=>exact absurd (nY.1 hm) (mP.1 hq)
   ·rw [ai hm,a2,c2]
    have:lookL m now=none:=mP.2 fun hq=>hm (nY.2 hq)
    rw [this]
end Go.Proofs.YtefepnnfphdkpaaGreat.Am
