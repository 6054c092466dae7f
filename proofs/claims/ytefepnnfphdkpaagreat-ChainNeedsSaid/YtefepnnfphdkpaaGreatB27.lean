/- ChainNeeds: a part of its proof; conditions: its statement's. -/
import Derived.Test.YtefepnnfphdkpaaGreatB26
namespace Go.Proofs.YtefepnnfphdkpaaGreat.Am
open Go
section
variable {P:Program} {h:H} {S:List aq} {k:Nat}
end
section
variable {told:cK} {h:H} {S:List aq} {X Y:aq} {r k q p bJ a g bA:Nat} {op v x u wh di:V} {l b cT data lz:List Nat} {μ:Lg} {δ:Dk}
end
section
variable {told:cK} {h:H} {S:List aq} {X Y:aq} {r k q p bJ a g bA:Nat} {op v x u wh di:V} {l b cT data lz:List Nat} {μ:Lg} {δ:Dk}
end
section
variable {told:cK} {h:H} {S:List aq} {X Y:aq} {r k q p bJ a g bA:Nat} {op v x u wh di:V} {l b cT data lz:List Nat} {μ:Lg} {δ:Dk}
end
section
variable {told:cK} {h:H} {S:List aq} {X Y:aq} {r k q p bJ a g bA:Nat} {op v x u wh di:V} {l b cT data lz:List Nat} {μ:Lg} {δ:Dk}
end
section
variable {told:cK} {h:H} {S:List aq} {X Y:aq} {r k q p bJ a g bA:Nat} {op v x u wh di:V} {l b cT data lz:List Nat} {now:List (Int×List Nat)} {bI:Bool} {ε:aF} {μ:Lg} {δ:Dk} {π:Pl}
end
section
variable {told:cK} {h:H} {S:List aq} {X Y:aq} {r k q p bJ a g bA:Nat} {op v x u wh di:V} {l b cT data lz:List Nat} {ε:aF}
end
section
variable {told:cK} {h:H} {S:List aq} {X:aq} {k:Nat} {v:V} {l:List Nat}
end
theorem G2 : ∀ {l:List Nat},(∀b∈l,b<256)→bytesOf (ofBytes l)=some l:=by
 intro l
 induction l with
 | nil=>intro _; rfl
 | cons b l J =>
  intro h
  have I:=J fun x hx=>h x (cC _ hx)
  have h2:=h b cM
  rw [ofBytes] at I
  simp only [ofBytes,b8,bytesOf,I,aj,vm,and_true]
  omega
theorem Jl {h:H}{v:V}{l:List Nat}(I:View h v l): convV Tryz.prog h 28 9 v=some (.str l,h):=by
 obtain ⟨J,(⟨rfl | ⟨ea,rfl⟩,rfl⟩ | ⟨id,off,cap,n,cs,st,rfl,hg,hl,ho,hc,_⟩)⟩:=I
 ·simp only [convV,aI,uE,Tryz.underlying5]
 ·simp only [convV,aI,uE,Tryz.underlying5]
 ·have e:rdN h id off l.length=some (ofBytes l):=by rw [yy hg hl ho,hc]
  simp only [convV,aI,uE,Tryz.underlying5,e,G2 J]
def Mz (l:List Nat): List Nat:=if l.length≠512∨l=List.replicate 512 0 then [] else l.drop 12
section
variable {told:cK} {h:H} {S:List aq} {X:aq} {r k q p a g bA:Nat} {op v x:V} {l data:List Nat} {now:List (Int×List Nat)} {bI:Bool} {ε:aF}
end
structure DK (δ Rw:Dk): Prop where
 dead:Rw.dead=δ.dead
 bL:Rw.bL=δ.bL
 aW:Rw.aW=δ.aW
 now:Rw.now=δ.now
theorem DK.refl (δ:Dk): DK δ δ:=⟨rfl,rfl,rfl,rfl⟩
theorem DK.at {δ I:Dk}(h:DK δ I)(n:Int): I.at n=δ.at n:=by rw [Dk.at,Dk.at,h.now,h.aW]
structure DA (N:Nat)(δ:Dk): Prop where
 alive:δ.dead=false
 bL:δ.bL<0
 aW:δ.aW.length=N
 keys:∀k:Int,k∈δ.now.map (·.1)→0≤k∧k<N
 nodup:(δ.now.map (·.1)).Nodup
 good:∀n:Int,0≤n→n<N→ga (δ.at n)=0
theorem DA.of {N:Nat}{δ I:Dk}(h:DA N δ)(k:DK δ I): DA N I :=
 ⟨k.dead.trans h.alive,by rw [k.bL]; exact h.bL,by rw [k.aW]; exact h.aW,by rw [k.now]; exact h.keys,by rw [k.now]; exact h.nodup,fun n a b=>by rw [k.at]; exact h.good n a b⟩
theorem Db {δ:Dk}(h:δ.bL<0): δ.gq=δ:=by
 have:(if 0<δ.bL then δ.bL-1 else δ.bL)=δ.bL:=ai (by omega)
 rw [Dk.gq,this]
theorem Ln {N:Nat}{δ:Dk}(h:DA N δ): δ.fP=(0,{ δ with dW:=δ.log.length }):=by
 rw [Dk.fP,ai (by rw [h.alive]; decide),ai (by have:=h.bL; omega),Db h.bL]
theorem Jm {N:Nat}{x:LD}{n:Nat}(h:DA N x.2): (bM x n).1=0∧DK x.2 (bM x n).2.2:=by
 unfold bM
 split
 ·exact ⟨rfl,DK.refl _⟩
 ·rw [Ln h,ai (by simp)]
  exact ⟨rfl,rfl,rfl,rfl,rfl⟩
theorem Lo {N:Nat}{δ:Dk}{n:Int}{b:List Nat}(h:DA N δ)(h0:0≤n)(h1:n<N)(hb:b.length=512)(hc:ga b=0):
  (δ.cJ n b).1=0∧DA N (δ.cJ n b).2∧∀m,(δ.cJ n b).2.at m=if n=m then b else δ.at m:=by
 have e:δ.cJ n b=(0,δ.wr n b):=by
  rw [Dk.cJ,ai (by rw [h.alive]; decide),ai (not_not_intro ⟨h0,by rw [h.aW]; exact h1,hb⟩),ai (by have:=h.bL; omega)]
 have I:(δ.wr n b).now=cY n b δ.now:=rfl
 have mX:(δ.wr n b).aW=δ.aW:=rfl
 have J:∀m,(δ.wr n b).at m=if n=m then b else δ.at m:=fun m=>by
  rw [Dk.at,Dk.at,I,mX,nW]
  by_cases hm:n=m
  ·rw [ax hm,ax hm]
  ·rw [ai hm,ai hm]
 have Jn:(δ.wr n b).bL=δ.bL:=by
  show δ.gq.bL=δ.bL
  rw [Db h.bL]
 rw [e]
 refine ⟨rfl,⟨h.alive,by rw [Jn]; exact h.bL,h.aW,fun x hx => ?_,?_,fun m a c => ?_⟩,J⟩
 ·rw [I] at hx
  rcases qf.1 hx with rfl | hx
  ·exact ⟨h0,h1⟩
  ·exact h.keys x hx
 ·rw [I]; exact jY h.nodup
 ·rw [J]
  by_cases hm:n=m
  ·rw [ax hm]; exact hc
  ·rw [ai hm]; exact h.good m a c
theorem wP {l m:List Nat}{a b:Nat}(J:a+m.length≤l.length)(h2:a+m.length≤b): (aT l a m).drop b=l.drop b:=by
 have I:(l.take a).length=a:=by rw [fc]; omega
 rw [aT,←eO,vl,gh (by rw [bQ,I]; omega),c5,ni,bQ,I]
 congr 1; omega
theorem yV {l m:List Nat}{a i:Nat}(h:a+m.length≤l.length): (aT l a m)[i]?=if a≤i∧i<a+m.length then m[i-a]? else l[i]?:=by
 have I:(l.take a).length=a:=by rw [fc]; omega
 rw [aT]
 by_cases J:i<a
 ·rw [iS (by omega),ai (by omega),jx,ax J]
 ·rw [kT (by omega),I]
  by_cases h2:i-a<m.length
  ·rw [iS h2,ax (by omega)]
  ·rw [kT (by omega),ai (by omega),jy]
   congr 1; omega
theorem qt {l m:List Nat}{a z:Nat}(I:l.drop 12=m.drop 12)(J:12≤a): cF l a z=cF m a z:=by
 have e:∀l:List Nat,(l.take (a+z)).drop a=((l.drop 12).drop (a-12)).take z:=fun l=>by
  rw [ni,show 12+(a-12)=a by omega,oZ]
  congr 1; omega
 rw [cF,cF,e,e,I]
theorem Ei {l m:List Nat}(I:l.drop 12=m.drop 12){low:Nat}: ∀(n i:Nat) (t:List Bool),cellsL l low n i t=cellsL m low n i t:=by
 intro n
 induction n with
 | zero=>intro i t; rfl
 | succ n J =>
  intro i t
  have e1:cD l i=cD m i:=qt I (by omega)
  have e2:f_ l i=f_ m i:=qt I (by omega)
  simp only [cellsL,e1,e2,J]
theorem G3 {l m:List Nat}(J:l.length=m.length)(I:l.drop 12=m.drop 12): bP l=bP m:=by
 have e1:iQ l=iQ m:=qt I (by omega)
 have e2:fZ l=fZ m:=qt I (by omega)
 have e3:l.getD 13 0=m.getD 13 0:=by
  have:∀l:List Nat,l[13]?=(l.drop 12)[1]?:=fun l=>by rw [jy]
  rw [ei,ei,this,this,I]
 simp only [bP,J,e1,e2,e3,Ei I]
theorem Jo : ∀(k n:Nat),leN (le k n)=n%256^k:=by
 intro k
 induction k with
 | zero=>intro n; rw [Nat.pow_zero,Nat.mod_one]; rfl
 | succ k I =>
  intro n
  rw [le,leN,I,rQ,rP (256^k) 256,Nat.mod_mul]
theorem Bk {b:List Nat}{n:Nat}(J:b.length=512): (cR b n).drop 12=b.drop 12∧(cR b n).length=512∧(cR b n).drop 4=(lD b n).drop 4∧cF (cR b n) 0 4=uH 0 ((lD b n).drop 4)%4294967296:=by
 have h1:=sW (n:=n) J
 have h2:(cR b n).length=512:=by rw [cR,ct (by rw [dy]; omega),h1]
 have I:(cR b n).drop 4=(lD b n).drop 4:=by rw [cR]; exact wP (by rw [dy]; omega) (by rw [dy]; omega)
 have h4:(lD b n).drop 12=b.drop 12:=by rw [lD]; exact wP (by rw [dy]; omega) (by rw [dy]; omega)
 refine ⟨?_,h2,I,?_⟩
 ·have:=eS (List.drop 8) I
  rw [ni,ni] at this
  exact this.trans h4
 ·have e:(cR b n).take 4=le 4 (uH 0 ((lD b n).drop 4)):=by
   rw [cR,aT,j_,c5,vf (by rw [dy]; omega),eD (by rw [dy]; omega)]
  rw [cF,dB,eR,e,Jo]
theorem NS {b:List Nat}{n:Nat}(I:∀x∈b,x<256): ∀x∈lD b n,x<256:=A7 I (GG _ _)
theorem Jp {b:List Nat}{n:Nat}(hg:bP b=true)(hb:∀x∈b,x<256): ga (cR b n)=0∧bP (cR b n)=true∧Mz (cR b n)=b.drop 12:=by
 have hl:=gE hg
 obtain ⟨h1,h2,h3,h4⟩:=Bk (n:=n) hl
 have I:bP (cR b n)=true:=by rw [G3 (h2.trans hl.symm) h1]; exact hg
 have hz:bP (List.replicate 512 0)=false:=by decide +kernel
 have J:cR b n≠List.replicate 512 0:=fun e=>by rw [e,hz] at I; cases I
 have hc:uH 0 ((lD b n).drop 4)<4294967296:=w5 (by decide) fun x hx=>NS hb x (gw hx)
 refine ⟨?_,I,?_⟩
 ·rw [ga,ai J,ai (by rw [I]; decide),ai]
  rw [h4,h3,jz hc]; exact not_not_intro rfl
 ·rw [Mz,ai (by rintro (h | h); exact h h2; exact J h),h1]
def pgA (ε:aF)(n:Int): List Nat:=match lookL n ε.1.bg with
 | some i=>match ε.1.ah[i.toNat]? with
  | some f=>f.b
  | none=>ε.2.2.at n
 | none=>ε.2.2.at n
structure Lp (N:Nat)(δ:Dk)(bg:List (Int×Int))(i:Nat)(f:Fm): Prop where
 lt:f.aU<N
 here:lookL f.aU bg=some (i:Int)
 bA:ga f.b=0
 same:f.changed=false→f.b=δ.at f.aU
 n_:f.changed=true→bP f.b=true
structure EC (N:Nat)(ε:aF): Prop where
 dk:DA N ε.2.2
 nodup:(ε.1.bg.map (·.1)).Nodup
 kO:∀(n i:Int),lookL n ε.1.bg=some i→0≤n∧∃(j:Nat) (f:Fm),i=j∧ε.1.ah[j]?=some f∧f.aU=n
 back:∀(i:Nat) (f:Fm),ε.1.ah[i]?=some f→f.aU<0∨Lp N ε.2.2 ε.1.bg i f
 xn:∀k:Int,k∈ε.1.bZ.map (·.1)→0≤k∧k<N
 Dc:(ε.1.bZ.map (·.1)).Nodup
theorem lU {ε:aF}{n:Int}{j:Nat}{f:Fm}(h:lookL n ε.1.bg=some (j:Int))(I:ε.1.ah[j]?=some f): pgA ε n=f.b:=by
 simp only [pgA,h,cW,I]
theorem kP {ε:aF}{n:Int}(h:lookL n ε.1.bg=none): pgA ε n=ε.2.2.at n:=by simp only [pgA,h]
theorem EC.cases {N:Nat}{ε:aF}(h:EC N ε)(n:Int): (∃(j:Nat) (f:Fm),lookL n ε.1.bg=some (j:Int)∧ε.1.ah[j]?=some f∧f.aU=n∧0≤n∧Lp N ε.2.2 ε.1.bg j f∧pgA ε n=f.b)∨(lookL n ε.1.bg=none∧pgA ε n=ε.2.2.at n):=by
 cases I:lookL n ε.1.bg with
 | none=>exact .inr ⟨rfl,kP I⟩
 | some i =>
  obtain ⟨h0,j,f,rfl,J,hp⟩:=h.kO n i I
  refine .inl ⟨j,f,rfl,J,hp,h0,?_,lU I J⟩
  rcases h.back j f J with h1 | h1
  ·omega
  ·exact h1
theorem qT {m:List Fm}{i j:Nat}{f g x:Fm}(hf:m[i]?=some f)(J:(m.set i g)[j]?=some x): (i=j∧x=g)∨(i≠j∧m[j]?=some x):=by
 by_cases I:i=j
 ·subst I
  rw [gv (List.getElem?_eq_some_iff.1 hf).1] at J
  exact .inl ⟨rfl,(bG J).symm⟩
 ·rw [fI I] at J
  exact .inr ⟨I,J⟩
theorem EC.set {N:Nat}{ε:aF}{i:Nat}{f g:Fm}{y:Lg}{δ:Dk}{d:List (Int×(Nat×Bool))}(h:EC N ε)(hf:ε.1.ah[i]?=some f)(hp:g.aU=f.aU)(CZ:DA N δ)
 (hg:g.aU<0∨Lp N δ ε.1.bg i g)(ho:∀(j:Nat) (x:Fm),i≠j→ε.1.ah[j]?=some x→0≤x.aU→δ.at x.aU=ε.2.2.at x.aU)(hd:∀k:Int,k∈d.map (·.1)→0≤k∧k<N)(P8:(d.map (·.1)).Nodup):
  EC N ({ ε.1 with ah:=ε.1.ah.set i g,bZ:=d },(y,δ)):=by
 have hi:=(List.getElem?_eq_some_iff.1 hf).1
 refine ⟨CZ,h.nodup,fun n k hk => ?_,fun j x J => ?_,hd,P8⟩
 ·obtain ⟨h0,j,x,rfl,J,u6⟩:=h.kO n k hk
  refine ⟨h0,j,?_⟩
  by_cases I:i=j
  ·subst I
   rw [hf] at J
   have:=bG J
   subst this
   exact ⟨g,rfl,gv hi,hp.trans u6⟩
  ·exact ⟨x,rfl,by show (ε.1.ah.set i g)[j]?=some x; rw [fI I]; exact J,u6⟩
 ·rcases qT hf J with ⟨rfl,rfl⟩ | ⟨I,J⟩
  ·exact hg
  ·rcases h.back j x J with h1 | h1
   ·exact .inl h1
   ·by_cases h2:x.aU<0
    ·exact .inl h2
    ·refine .inr ⟨h1.lt,h1.here,h1.bA,fun hc => ?_,h1.n_⟩
     rw [ho j x I J (by omega)]; exact h1.same hc
theorem Fv {ε:aF}{i:Nat}{f g:Fm}{x:LD}{d:List (Int×(Nat×Bool))}(hf:ε.1.ah[i]?=some f)(hb:g.b=f.b){n:Int}(hx:lookL n ε.1.bg=none→x.2.at n=ε.2.2.at n)(hy:∀j:Int,lookL n ε.1.bg=some j→∃f',ε.1.ah[j.toNat]?=some f'):
  pgA ({ ε.1 with ah:=ε.1.ah.set i g,bZ:=d },x) n=pgA ε n:=by
 unfold pgA
 simp only
 cases hl:lookL n ε.1.bg with
 | none=>exact hx hl
 | some j =>
  simp only
  obtain ⟨f',J⟩:=hy j hl
  by_cases I:i=j.toNat
  ·subst I
   rw [gv (List.getElem?_eq_some_iff.1 hf).1,hf]
   exact hb
  ·rw [fI I,J]
theorem EC.there {N:Nat}{ε:aF}(h:EC N ε){n:Int}: ∀j:Int,lookL n ε.1.bg=some j→∃f',ε.1.ah[j.toNat]?=some f':=fun j I=>by
 obtain ⟨_,k,f,rfl,J,_⟩:=h.kO n j I
 exact ⟨f,by rw [cW]; exact J⟩
theorem EC.out {N:Nat}{ε:aF}{i:Nat}{f:Fm}(h:EC N ε)(I:ε.1.ah[i]?=some f):
  (outF ε i).1=0∧EC N (outF ε i).2∧(∀n,pgA (outF ε i).2 n=pgA ε n)∧(outF ε i).2.1.bg=ε.1.bg∧∃g,(outF ε i).2.1.ah[i]?=some g∧g.aU=f.aU∧(0≤g.aU→g.changed=false):=by
 have hi:=(List.getElem?_eq_some_iff.1 I).1
 unfold outF
 rw [I]
 simp only
 by_cases hc:f.aU<0∨f.changed=false
 ·rw [ax hc]
  exact ⟨rfl,h,fun n=>rfl,rfl,f,I,rfl,fun h0=>hc.resolve_left (by omega)⟩
 ·rw [ai hc]
  have J:0≤f.aU:=by omega
  have m5:f.changed=true:=by cases hq:f.changed <;> simp [hq] at hc ⊢
  have ho:=(h.back i f I).resolve_left (by omega)
  have hg:=ho.n_ m5
  rw [ai (by rw [hg]; decide)]
  obtain ⟨e1,k1⟩:=Jm (x:=ε.2) (n:=cF f.b 4 8) h.dk
  rw [ai (by rw [e1]; decide)]
  obtain ⟨e2,k2,k3⟩:=Lo (h.dk.of k1) J ho.lt (gE hg) ho.bA
  rw [ai (by rw [e2]; decide)]
  have wM:∀m,f.aU≠m→((bM ε.2 (cF f.b 4 8)).2.2.cJ f.aU f.b).2.at m=ε.2.2.at m:=fun m hm=>by rw [k3,ai hm,k1.at]
  refine ⟨rfl,h.set I rfl k2 (.inr ⟨ho.lt,ho.here,ho.bA,fun _ => ?_,fun hq=>(by cases hq)⟩) (fun j x wk hx h0=>wM _ fun Dd => ?_) (fun k hk => ?_) (jY h.Dc),fun n => ?_,rfl,_,gv hi,rfl,fun _=>rfl⟩
  ·simp only; rw [k3,ax rfl]
  ·rcases h.back j x hx with h1 | h1
   ·omega
   ·have:=h1.here
    rw [←Dd,ho.here] at this
    have:=bG this
    omega
  ·rcases qf.1 hk with rfl | hk
   ·exact ⟨J,ho.lt⟩
   ·exact h.xn k hk
  ·exact Fv I (by rfl) (fun hn=>wM n fun e=>by rw [←e,ho.here] at hn; cases hn) h.there
theorem ew.back {π I:Pl}(J:ew π I){i:Nat}{x:Fm}(hx:I.ah[i]?=some x): ∃f t,π.ah[i]?=some f∧x={ f with dD:=t }:=by
 have hi:=(List.getElem?_eq_some_iff.1 hx).1
 rw [J.len] at hi
 have hf:π.ah[i]?=some (π.ah[i]'hi):=aY _
 obtain ⟨t,ht⟩:=J.get i _ hf
 rw [hx] at ht
 exact ⟨_,t,hf,bG ht⟩
theorem EC.nI {N:Nat}{ε:aF}{J:Pl}(h:EC N ε)(I:ew ε.1 J): EC N (J,ε.2)∧∀n,pgA (J,ε.2) n=pgA ε n:=by
 refine ⟨⟨h.dk,by rw [I.bg]; exact h.nodup,fun n i hi => ?_,fun i x hx => ?_,by rw [I.bZ]; exact h.xn,by rw [I.bZ]; exact h.Dc⟩,fun n => ?_⟩
 ·rw [I.bg] at hi
  obtain ⟨h0,j,f,rfl,hf,hp⟩:=h.kO n i hi
  obtain ⟨t,ht⟩:=I.get j f hf
  exact ⟨h0,j,_,rfl,ht,hp⟩
 ·obtain ⟨f,t,hf,rfl⟩:=I.back hx
  rcases h.back i f hf with h1 | h1
  ·exact .inl h1
  ·exact .inr ⟨h1.lt,by rw [I.bg]; exact h1.here,h1.bA,h1.same,h1.n_⟩
 ·unfold pgA
  simp only [I.bg]
  cases hl:lookL n ε.1.bg with
  | none=>rfl
  | some i =>
   obtain ⟨h0,j,f,rfl,hf,hp⟩:=h.kO n i hl
   obtain ⟨t,ht⟩:=I.get j f hf
   simp only [cW,ht,hf]
theorem EC.cA {N:Nat}{ε:aF}{i:Nat}{f g:Fm}(h:EC N ε)(hg:ε.1.ah[i]?=some g)(hp:g.aU=f.aU)(hc:0≤g.aU→g.changed=false): EC N (cA ε.1 i f,ε.2)∧(∀n,pgA (cA ε.1 i f,ε.2) n=pgA ε n) ∧
  (cA ε.1 i f).ah[i]?=some dz∧∀n,lookL n ε.1.bg=none→lookL n (cA ε.1 i f).bg=none:=by
 have hi:=(List.getElem?_eq_some_iff.1 hg).1
 have Rx:(ε.1.ah.set i dz)[i]?=some dz:=gv hi
 have I:∀n,lookL n (Am.cA ε.1 i f).bg=if 0≤f.aU∧f.aU=n then none else lookL n ε.1.bg:=fun n=>by
  rw [Am.cA]
  by_cases h0:f.aU<0
  ·rw [ax h0,ai (by omega)]
  ·rw [ai h0,A_ h.nodup]
   by_cases hn:f.aU=n
   ·rw [ax hn,ax ⟨by omega,hn⟩]
   ·rw [ai hn,ai (by omega)]
 refine ⟨⟨h.dk,?_,fun n k hk => ?_,fun j x J => ?_,h.xn,h.Dc⟩,fun n => ?_,Rx,fun n hn => ?_⟩
 ·rw [Am.cA]
  by_cases h0:f.aU<0
  ·rw [ax h0]; exact h.nodup
  ·rw [ai h0]; exact sU h.nodup
 ·rw [I] at hk
  split at hk
  ·cases hk
  ·rename_i dg
   obtain ⟨h0,j,x,rfl,J,u6⟩:=h.kO n k hk
   refine ⟨h0,j,x,rfl,?_,u6⟩
   show (ε.1.ah.set i dz)[j]?=some x
   rw [fI]
   ·exact J
   ·rintro rfl
    rw [hg] at J
    have:=bG J
    subst this
    omega
 ·rcases qT hg J with ⟨rfl,rfl⟩ | ⟨wk,J⟩
  ·exact .inl (by decide)
  ·rcases h.back j x J with h1 | h1
   ·exact .inl h1
   ·by_cases Vv:x.aU<0
    ·exact .inl Vv
    refine .inr ⟨h1.lt,?_,h1.bA,h1.same,h1.n_⟩
    rw [I,ai]
    ·exact h1.here
    ·rintro ⟨h0,Dd⟩
     rcases h.back i g hg with h2 | h2
     ·omega
     ·have e:=h2.here
      rw [hp,Dd,h1.here] at e
      have:=bG e
      omega
 ·rcases h.cases n with ⟨j,x,hl,J,u6,h0,ho,e⟩ | ⟨hl,e⟩
  ·rw [e]
   by_cases Dd:f.aU=n
   ·have wk:i=j:=by
     rcases h.back i g hg with h2 | h2
     ·omega
     ·have e:=h2.here
      rw [hp,Dd,hl] at e
      have:=bG e
      omega
    subst wk
    rw [hg] at J
    have:=bG J
    subst this
    rw [kP (by rw [I,ax ⟨by omega,Dd⟩])]
    rw [ho.same (hc (by omega)),hp,Dd]
   ·refine lU (j:=j) (by rw [I,ai (by omega)]; exact hl) ?_
    show (ε.1.ah.set i dz)[j]?=some x
    rw [fI]
    ·exact J
    ·rintro rfl
     rw [hg] at J
     have:=bG J
     subst this
     omega
  ·rw [e,kP (by rw [I]; split; rfl; exact hl)]
 ·rw [I]; split; rfl; exact hn
theorem EC.gS {N:Nat}{ε:aF}{i:Nat}{e:Fm}{n:Int}(h:EC N ε)(he:ε.1.ah[i]?=some e)(hp:e.aU<0)(hl:lookL n ε.1.bg=none)(h0:0≤n)(h1:n<N): EC N (gS ε.1 i n (ε.2.2.at n),ε.2)∧∀m,pgA (gS ε.1 i n (ε.2.2.at n),ε.2) m=pgA ε m:=by
 have hi:=(List.getElem?_eq_some_iff.1 he).1
 have J:(ε.1.ah.set i ⟨n,ε.2.2.at n,1,true,false⟩)[i]?=some ⟨n,ε.2.2.at n,1,true,false⟩:=gv hi
 have I:∀m,lookL m (Am.gS ε.1 i n (ε.2.2.at n)).bg=if n=m then some (i:Int) else lookL m ε.1.bg:=fun m=>nW _
 refine ⟨⟨h.dk,jY h.nodup,fun m k hk => ?_,fun j x hx => ?_,h.xn,h.Dc⟩,fun m => ?_⟩
 ·rw [I] at hk
  split at hk
  ·rename_i Jq
   have:=bG hk
   subst this
   subst Jq
   exact ⟨h0,i,_,rfl,J,rfl⟩
  ·rename_i dg
   obtain ⟨h0,j,x,rfl,hx,u6⟩:=h.kO m k hk
   refine ⟨h0,j,x,rfl,?_,u6⟩
   show (ε.1.ah.set i _)[j]?=some x
   rw [fI]
   ·exact hx
   ·rintro rfl
    rw [he] at hx
    have:=bG hx
    subst this
    omega
 ·rcases qT he hx with ⟨rfl,rfl⟩ | ⟨wk,hx⟩
  ·exact .inr ⟨h1,by rw [I,ax rfl],h.dk.good n h0 h1,fun _=>rfl,fun hq=>(by cases hq)⟩
  ·rcases h.back j x hx with h2 | h2
   ·exact .inl h2
   ·refine .inr ⟨h2.lt,?_,h2.bA,h2.same,h2.n_⟩
    rw [I,ai]
    ·exact h2.here
    ·rintro rfl
     rw [h2.here] at hl; cases hl
 ·by_cases Jq:n=m
  ·subst Jq
   rw [lU (j:=i) (by rw [I,ax rfl]) J,kP hl]
  ·rcases h.cases m with ⟨j,x,je,hx,u6,_,ho,e2⟩ | ⟨je,e2⟩
   ·rw [e2]
    refine lU (j:=j) (by rw [I,ai Jq]; exact je) ?_
    show (ε.1.ah.set i _)[j]?=some x
    rw [fI]
    ·exact hx
    ·rintro rfl
     rw [he] at hx
     have:=bG hx
     subst this
     omega
   ·rw [e2,kP (by rw [I,ai Jq]; exact je)]
theorem EC.frame {N:Nat}{ε:aF}{i:Nat}{f g:Fm}(h:EC N ε)(hf:ε.1.ah[i]?=some f)(J:g.aU=f.aU)(hb:g.b=f.b)(hc:g.changed=f.changed): EC N ({ ε.1 with ah:=ε.1.ah.set i g },ε.2)∧∀n,pgA ({ ε.1 with ah:=ε.1.ah.set i g },ε.2) n=pgA ε n:=by
 refine ⟨h.set (y:=ε.2.1) (δ:=ε.2.2) hf J h.dk ?_ (fun _ _ _ _ _=>rfl) h.xn h.Dc,fun n=>Fv hf hb (fun _=>rfl) h.there⟩
 rcases h.back i f hf with I | I
 ·exact .inl (by omega)
 ·exact .inr ⟨by rw [J]; exact I.lt,by rw [J]; exact I.here,by rw [hb]; exact I.bA,by rw [J,hb,hc]; exact I.same,by rw [hb,hc]; exact I.n_⟩
theorem ey.ec {N:Nat}{ε ε':aF}{n e:Int}{b:List Nat}(hr:ey ε n e b ε')(h:EC N ε): EC N ε'∧(∀m,pgA ε' m=pgA ε m)∧(0≤n→n<N→e=0∧b=pgA ε n)∧(¬(0≤n∧n<N)→e=1∧ε'=ε):=by
 have mX:=h.dk.aW
 cases hr with
 | arg I=>rw [mX] at I; exact ⟨h,fun _=>rfl,fun a b=>absurd ⟨a,b⟩ I,fun _=>⟨rfl,rfl⟩⟩
 | yN i f h1 J hl hf =>
  rw [mX] at J
  obtain ⟨k1,k2⟩:=h.frame (g:={ f with dD:=true,pins:=f.pins+1 }) hf rfl rfl rfl
  exact ⟨k1,k2,fun _ _=>⟨rfl,(lU hl hf).symm⟩,fun I=>absurd ⟨h1,J⟩ I⟩
 | out fb i f h1 J hl I hf hh he=>exact absurd ((h.nI I).1.out hf).1 he
 | read fb i f h1 J hl I hf hh he hr =>
  obtain ⟨k1,k2,k3,k4,g,k5,k6,k7⟩:=(h.nI I).1.out hf
  refine absurd ?_ hr
  rw [mX] at J
  rw [Dk.nO,ai (by rw [k2.dk.alive]; decide),ai (by rw [k2.dk.aW]; exact not_not_intro ⟨h1,J⟩)]
 | bad fb i f h1 J hl I hf hh he hr hc =>
  obtain ⟨k1,k2,k3,k4,g,k5,k6,k7⟩:=(h.nI I).1.out hf
  rw [mX] at J
  exact absurd (k2.dk.good n h1 J) hc
 | load fb i f h1 J hl I hf hh he hr hc =>
  obtain ⟨n1,n2⟩:=h.nI I
  obtain ⟨k1,k2,k3,k4,g,k5,k6,k7⟩:=n1.out hf
  rw [mX] at J
  obtain ⟨f1,f2,f3,f4⟩:=k2.cA k5 k6 k7
  have je:lookL n (outF (fb,ε.2) i).2.1.bg=none:=by rw [k4]; show lookL n fb.bg=none; rw [I.bg]; exact hl
  obtain ⟨l1,l2⟩:=f1.gS f3 (by decide) (f4 n je) h1 J
  exact ⟨l1,fun m=>by rw [l2,f2,k3,n2],fun _ _=>⟨rfl,by rw [←n2,←k3,kP je]⟩,fun I=>absurd ⟨h1,J⟩ I⟩
theorem Jr {N:Nat}{π:Pl}{x:LD}{n:Int}(h:EC N (π,x)): EC N ((unpinF π n).2,x)∧∀m,pgA ((unpinF π n).2,x) m=pgA (π,x) m:=by
 unfold unpinF
 split
 ·exact ⟨h,fun _=>rfl⟩
 ·split
  ·exact ⟨h,fun _=>rfl⟩
  ·rename_i i hi f I
   exact h.frame (g:={ f with pins:=f.pins-1 }) I rfl rfl rfl
theorem kx.ec {N:Nat}{ε ε':aF}{n e:Int}{b:List Nat}(I:kx ε n e b ε')(h:EC N ε)(hp:∀f∈ε.1.ah,f.pins=0): EC N ε'∧(∀m,pgA ε' m=pgA ε m)∧(0≤n→n<N→e=0∧b=pgA ε n)∧(¬(0≤n∧n<N)→e=1∧ε'=ε):=by
 cases I with
 | dead J=>rw [h.dk.alive] at J; cases J
 | gu e b ε' J I he =>
  obtain ⟨k1,k2,k3,k4⟩:=I.ec h
  exact ⟨k1,k2,fun a b=>absurd (k3 a b).1 he,k4⟩
 | oR b ε' J I he=>exact absurd (I.xh hp).1 he
 | read b ε' J I he =>
  obtain ⟨k1,k2,k3,k4⟩:=I.ec h
  obtain ⟨u1,u2⟩:=Jr (n:=n) k1
  refine ⟨u1,fun m=>by rw [u2]; exact k2 m,k3,fun hn=>absurd (k4 hn).1 (by decide)⟩
theorem mz.ec {N:Nat}{ε ε':aF}{now:List (Int×List Nat)}{n e:Int}{b:List Nat}(hr:mz ε now false n e b ε')(h:EC N ε)(hp:∀f∈ε.1.ah,f.pins=0): EC N ε'∧(∀m,pgA ε' m=pgA ε m) ∧
  (0≤n→n<N→e=0∧b=(match lookL n now with | some b=>b | none=>pgA ε n))∧(¬(0≤n∧n<N)→e=1):=by
 have I:=h.dk.aW
 cases hr with
 | arg J=>rw [I] at J; exact ⟨h,fun _=>rfl,fun a b=>absurd ⟨a,b⟩ J,fun _=>rfl⟩
 | bI _ _ ho=>cases ho
 | own b h1 h2 _ hl=>rw [I] at h2; exact ⟨h,fun _=>rfl,fun _ _=>⟨rfl,by rw [hl]⟩,fun J=>absurd ⟨h1,h2⟩ J⟩
 | read e b ε' h1 h2 _ hl hr =>
  rw [I] at h2
  obtain ⟨k1,k2,k3,k4⟩:=hr.ec h hp
  exact ⟨k1,k2,fun a b=>by rw [hl]; exact k3 a b,fun J=>absurd ⟨h1,h2⟩ J⟩
theorem Js : ∀(N:Nat) (l:List Int),l.Nodup→(∀n∈l,0≤n∧n<N)→l.length≤N:=by
 intro N
 induction N with
 | zero =>
  intro l _ h
  cases l with
  | nil=>exact aD _
  | cons n l=>have:=h n cM; omega
 | succ N ih =>
  intro l J h
  have h1:=ih (l.erase (N:Int)) (J.erase _) fun n hn=>by
   have I:=(J.mem_erase_iff).1 hn
   have:=h n I.2
   have:=I.1
   omega
  have I:l.length≤(l.erase (N:Int)).length+1:=by
   rw [List.length_erase]; split <;> omega
  omega
structure NW (N:Nat)(now:List (Int×List Nat)): Prop where
 good:∀e∈now,bP e.2=true∧∀x∈e.2,x<256
 keys:∀k:Int,k∈now.map (·.1)→0≤k∧k<N
 nodup:(now.map (·.1)).Nodup
theorem NW.nil (N:Nat): NW N []:=⟨fun e h=>(by cases h),fun k h=>(by cases h),rO⟩
theorem G4 {α:Type}{n:Int}{a:α}: ∀ {l:List (Int×α)} {e:Int×α},e∈cY n a l→e=(n,a)∨e∈l:=by
 intro l
 induction l with
 | nil=>intro e h; simp only [cY,rG] at h; exact .inl h
 | cons x l I =>
  intro e h
  simp only [cY] at h
  split at h
  ·rcases List.mem_cons.1 h with h | h
   ·exact .inl h
   ·exact .inr (cC _ h)
  ·rcases List.mem_cons.1 h with h | h
   ·exact .inr (by rw [h]; exact cM)
   ·rcases I h with h | h
    ·exact .inl h
    ·exact .inr (cC _ h)
theorem NW.put {N:Nat}{now:List (Int×List Nat)}{n:Int}{b:List Nat}(h:NW N now)(J:0≤n)(h1:n<N)(hg:bP b=true)(hb:∀x∈b,x<256): NW N (cY n b now):=by
 refine ⟨fun e he => ?_,fun k I => ?_,jY h.nodup⟩
 ·rcases G4 he with rfl | he
  ·exact ⟨hg,hb⟩
  ·exact h.good e he
 ·rcases qf.1 I with rfl | I
  ·exact ⟨J,h1⟩
  ·exact h.keys k I
theorem NW.len {N:Nat}{now:List (Int×List Nat)}(h:NW N now): now.length≤N:=by
 have:=Js N _ h.nodup h.keys
 rwa [eP] at this
theorem NW.look {N:Nat}{now:List (Int×List Nat)}(h:NW N now){n:Int}{b:List Nat}(I:lookL n now=some b): bP b=true∧∀x∈b,x<256:=h.good _ (jT I)
theorem qp.ec {N:Nat}{ε ε':aF}{now cg:List (Int×List Nat)}{n e:Int}{b:List Nat}(I:qp ε now false n b e cg ε')(h:EC N ε)(hp:∀f∈ε.1.ah,f.pins=0): EC N ε'∧(∀m,pgA ε' m=pgA ε m) ∧
  (¬(0≤n∧n<N)→e=1∧cg=now)∧(0≤n→n<N→bP b=false→e=4∧cg=now)∧(0≤n→n<N→bP b=true→e=0∧cg=cY n b now):=by
 cases I with
 | may e c ε' I he =>
  obtain ⟨k1,k2,k3,J⟩:=I.ec h hp
  exact ⟨k1,k2,fun hn=>⟨J hn,rfl⟩,fun a b _=>absurd (k3 a b).1 he,fun a b _=>absurd (k3 a b).1 he⟩
 | bad c ε' I hg =>
  obtain ⟨k1,k2,k3,J⟩:=I.ec h hp
  exact ⟨k1,k2,fun hn=>absurd (J hn) (by decide),fun _ _ _=>⟨rfl,rfl⟩,fun _ _ hq=>by rw [hg] at hq; cases hq⟩
 | done c ε' I hg =>
  obtain ⟨k1,k2,k3,J⟩:=I.ec h hp
  exact ⟨k1,k2,fun hn=>absurd (J hn) (by decide),fun _ _ hq=>(by rw [hg] at hq; cases hq),fun _ _ _=>⟨rfl,rfl⟩⟩
theorem jg.ec {N:Nat}{now:List (Int×List Nat)}{l:List Int}{ε ε':aF}{e:Int}{cs:List c7}(I:jg now l ε e cs ε'): EC N ε→ir ε→(∀n∈l,0≤n∧n<N)→EC N ε'∧(∀m,pgA ε' m=pgA ε m)∧e=0:=by
 induction I with
 | nil ε=>intro h _ _; exact ⟨h,fun _=>rfl,rfl⟩
 | err n l ε e b ε' I he =>
  intro h J hl
  obtain ⟨k1,k2,k3,k4⟩:=I.ec h J.pins
  have:=hl n cM
  exact absurd (k3 this.1 this.2).1 he
 | part n l ε cT b ε' c e cs jU I hb hd hc j4 ht ih =>
  intro h J hl
  obtain ⟨k1,k2,k3,k4⟩:=I.ec h J.pins
  obtain ⟨i1,i2,i3⟩:=ih k1 (I.lK J) fun m hm=>hl m (cC _ hm)
  exact ⟨i1,fun m=>by rw [i2,k2],i3⟩
 | whole n l ε cT b ε' e cs jU I hb hd ht ih =>
  intro h J hl
  obtain ⟨k1,k2,k3,k4⟩:=I.ec h J.pins
  obtain ⟨i1,i2,i3⟩:=ih k1 (I.lK J) fun m hm=>hl m (cC _ hm)
  exact ⟨i1,fun m=>by rw [i2,k2],i3⟩
theorem EC.log {N:Nat}{ε:aF}{x:LD}(h:EC N ε)(k:DK ε.2.2 x.2): EC N (ε.1,x)∧∀m,pgA (ε.1,x) m=pgA ε m:=by
 refine ⟨⟨h.dk.of k,h.nodup,h.kO,fun i f J => ?_,h.xn,h.Dc⟩,fun m => ?_⟩
 ·rcases h.back i f J with I | I
  ·exact .inl I
  ·exact .inr ⟨I.lt,I.here,I.bA,fun hc=>by rw [k.at]; exact I.same hc,I.n_⟩
 ·unfold pgA
  simp only [k.at]
theorem EC.put {N:Nat}{ε:aF}{n:Int}{i:Nat}{f:Fm}{b:List Nat}{aM:Nat}(h:EC N ε)(hl:lookL n ε.1.bg=some (i:Int))(hf:ε.1.ah[i]?=some f)(hg:bP b=true)(hb:∀x∈b,x<256)(h0:0≤n)(h1:n<N):
  EC N (xm ε.1 n i f b aM,ε.2)∧∀m,pgA (xm ε.1 n i f b aM,ε.2) m=if m=n then cR b aM else pgA ε m:=by
 obtain ⟨s1,s2,s3⟩:=Jp (n:=aM) hg hb
 have hi:=(List.getElem?_eq_some_iff.1 hf).1
 have hp:f.aU=n:=by
  obtain ⟨_,j,x,wk,J,u6⟩:=h.kO n i hl
  have:i=j:=by omega
  subst this
  rw [hf] at J
  rw [bG J]; exact u6
 have ho:=(h.back i f hf).resolve_left (by omega)
 refine ⟨h.set (y:=ε.2.1) (δ:=ε.2.2) hf rfl h.dk (.inr ⟨ho.lt,ho.here,s1,fun hq=>(by cases hq),fun _=>s2⟩) (fun _ _ _ _ _=>rfl) (fun k hk => ?_) (jY h.Dc),fun m => ?_⟩
 ·rcases qf.1 hk with rfl | hk
  ·exact ⟨h0,h1⟩
  ·exact h.xn k hk
 ·by_cases hm:m=n
  ·subst hm
   rw [ax rfl]
   exact lU (ε:=(xm ε.1 m i f b aM,ε.2)) hl (gv hi)
  ·rw [ai hm]
   rcases h.cases m with ⟨j,x,I,J,u6,_,_,e2⟩ | ⟨I,e2⟩
   ·rw [e2]
    refine lU (ε:=(xm ε.1 n i f b aM,ε.2)) I ?_
    show (ε.1.ah.set i _)[j]?=some x
    rw [fI]
    ·exact J
    ·rintro rfl
     rw [hf] at J
     have:=bG J
     subst this
     omega
   ·rw [e2]
    exact kP (ε:=(xm ε.1 n i f b aM,ε.2)) I
theorem ob.ec {N:Nat}{now:List (Int×List Nat)}{aM:Nat}{l:List Int}{ε ε':aF}{e:Int}(I:ob now aM l ε e ε'): EC N ε→ir ε→NW N now→(∀n∈l,0≤n∧n<N)→EC N ε'∧e=0 ∧
  ∀m,pgA ε' m=if m∈l then (match lookL m now with | some b=>cR b aM | none=>pgA ε m) else pgA ε m:=by
 induction I with
 | nil ε=>intro h _ _ _; exact ⟨h,rfl,fun m=>by rw [ai (by simp)]⟩
 | gu n l ε e b ε' I he =>
  intro h h3 hn hl
  have:=hl n cM
  exact absurd ((I.ec h).2.2.1 this.1 this.2).1 he
 | bad n l ε b0 b ε' I hb he =>
  intro h h3 hn hl
  exact absurd ((I.put (b:=b) (aM:=aM) h3).2.2 (hn.look hb).1) he
 | put n l ε b0 b ε' e jU I hb he ht ih =>
  intro h h3 hn hl
  have MA:=hl n cM
  obtain ⟨k1,k2,k3,k4⟩:=I.ec h
  obtain ⟨i,f,p1,p2,p3,p4,p5⟩:=I.at h3.pins
  have hg:=hn.look hb
  have e1:=yU (aM:=aM) p1 p2 p3 hg.1
  obtain ⟨q1,q2⟩:=k1.put (aM:=aM) p1 p2 hg.1 hg.2 MA.1 MA.2
  have LU:=(I.put (b:=b) (aM:=aM) h3).1
  rw [e1] at ih LU
  obtain ⟨i1,i2,i3⟩:=ih q1 LU hn fun m hm=>hl m (cC _ hm)
  refine ⟨i1,i2,fun m => ?_⟩
  rw [i3,q2]
  by_cases hm:m=n
  ·subst hm
   rw [ax rfl,ax (cM)]
   split
   ·rw [hb]
   ·rw [hb]
  ·rw [ai hm,k2]
   by_cases J:m∈l
   ·rw [ax J,ax (cC _ J)]
   ·rw [ai J,ai (by simp [hm,J])]
structure EL (K:Nat)(x:LD): Prop where
 log:x.1.b=x.2.log
 cert:x.1.forced≤x.2.dW
 size:x.1.base+x.1.b.length≤K
theorem EL.force {K:Nat}{x:LD}{n:Nat}(h:EL K x): EL K (bM x n).2:=by
 unfold bM Dk.fP
 split
 ·exact h
 ·by_cases I:x.2.dead=true
  ·rw [ax I,ax (show (9:Int)≠0 by decide)]; exact h
  ·rw [ai I]
   by_cases J:x.2.bL=0
   ·rw [ax J,ax (show (9:Int)≠0 by decide)]; exact ⟨h.log,h.cert,h.size⟩
   ·rw [ai J,ai (show ¬(0:Int)≠0 by decide)]; exact ⟨h.log,by show x.1.b.length≤x.2.log.length; rw [h.log]; exact aD _,h.size⟩
theorem EL.write {K:Nat}{x:LD}{n:Int}{b:List Nat}(h:EL K x): EL K (x.1,(x.2.cJ n b).2):=by
 unfold Dk.cJ
 split
 ·exact h
 ·split
  ·exact h
  ·split <;> exact ⟨h.log,h.cert,h.size⟩
theorem sx (K:Nat): jZ (EL K):=⟨fun _ _ h=>h.force,fun _ _ _ h=>h.write⟩
theorem kx.el {K:Nat}{ε ε':aF}{n e:Int}{b:List Nat}(I:kx ε n e b ε')(h:EL K ε.2): EL K ε'.2:=(sx K).rd I h
theorem mz.el {K:Nat}{ε ε':aF}{now:List (Int×List Nat)}{bI:Bool}{n e:Int}{b:List Nat}(I:mz ε now bI n e b ε')(h:EL K ε.2): EL K ε'.2:=(sx K).u5 I h
theorem qp.el {K:Nat}{ε ε':aF}{now cg:List (Int×List Nat)}{bI:Bool}{n e:Int}{b:List Nat}(I:qp ε now bI n b e cg ε')(h:EL K ε.2): EL K ε'.2:=(sx K).Ji I h
theorem jg.el {K:Nat}{now:List (Int×List Nat)}{l:List Int}{ε ε':aF}{e:Int}{cs:List c7}(I:jg now l ε e cs ε')(h:EL K ε.2): EL K ε'.2:=(sx K).ch I h
theorem ob.el {K:Nat}{now:List (Int×List Nat)}{aM:Nat}{l:List Int}{ε ε':aF}{e:Int}(I:ob now aM l ε e ε')(h:EL K ε.2): EL K ε'.2:=(sx K).pt I h
structure EI (N B:Nat)(ε:aF): Prop where
 ok:ir ε
 ec:EC N ε
 el:EL (B*1048600) ε.2
 cj:cj ε≤B*65536
theorem EI.more {N B:Nat}{ε:aF}(h:EI N B ε){I:Nat}(J:B≤I): EI N I ε :=
 ⟨h.ok,h.ec,⟨h.el.log,h.el.cert,cy h.el.size (oT _ J)⟩,cy h.cj (oT _ J)⟩
theorem EI.rd {N B:Nat}{ε ε':aF}{n e:Int}{b:List Nat}(h:EI N B ε)(I:kx ε n e b ε'): EI N B ε' :=
 ⟨I.lK h.ok,(I.ec h.ec h.ok.pins).1,I.el h.el,cy I.cj h.cj⟩
theorem EI.u5 {N B:Nat}{ε ε':aF}{now:List (Int×List Nat)}{n e:Int}{b:List Nat}(h:EI N B ε)(I:mz ε now false n e b ε'): EI N B ε' :=
 ⟨I.lK h.ok,(I.ec h.ec h.ok.pins).1,I.el h.el,cy I.cj h.cj⟩
theorem EI.Ji {N B:Nat}{ε ε':aF}{now cg:List (Int×List Nat)}{n e:Int}{b:List Nat}(h:EI N B ε)(I:qp ε now false n b e cg ε'): EI N B ε' :=
 ⟨I.lK h.ok,(I.ec h.ec h.ok.pins).1,I.el h.el,cy I.cj h.cj⟩
theorem EI.many {N B:Nat}{ε:aF}(h:EI N B ε): N≤65536:=by
 have:=h.ok.ok.dk.many
 rwa [h.ec.dk.aW] at this
theorem EI.app {N B:Nat}{ε:aF}{kd:Int}{tx pv nx:Nat}{data:List Nat}{c:List c7}(h:EI N B ε)(hB:B≤1000)(hg:dO kd c=true):
  EI N (B+1) (ε.1,(bj ε.2 kd tx pv nx data c).2)∧(∀m,pgA (ε.1,(bj ε.2 kd tx pv nx data c).2) m=pgA ε m) ∧
  (((bj ε.2 kd tx pv nx data c).1.2=0∧bj ε.2 kd tx pv nx data c=((ε.2.1.base+ε.2.1.b.length,0),(ε.2.1.app (dh ε.2.1 kd tx pv nx data c),{ ε.2.2 with log:=ε.2.2.log++dh ε.2.1 kd tx pv nx data c }))) ∨
   (bj ε.2 kd tx pv nx data c).1.2=7∨((bj ε.2 kd tx pv nx data c).1.2=2∧1048576<(d_ kd tx pv nx data c).length)):=by
 have hs:=h.el.size
 have I:=wO (kd:=kd) (tx:=tx) (pv:=pv) (nx:=nx) (data:=data) (c:=c) h.ok.ok.lg h.ok.ok.dk h.el.log (by omega)
 have uX:Am.cj (ε.1,(bj ε.2 kd tx pv nx data c).2)≤(B+1)*65536:=by
  have e:Am.cj (ε.1,(bj ε.2 kd tx pv nx data c).2)=Am.cj ε:=by simp only [Am.cj,I.2.2.2.2.2.1]
  rw [e]
  exact cy h.cj (oT _ (o_ B))
 have er:(bj ε.2 kd tx pv nx data c).2.1.base+(bj ε.2 kd tx pv nx data c).2.1.b.length≤(B+1)*1048600:=by
  have h1:=I.2.2.2.1
  have h2:=I.2.2.2.2.1
  omega
 have main:∀(hk:DK ε.2.2 (bj ε.2 kd tx pv nx data c).2.2) (hc:(bj ε.2 kd tx pv nx data c).2.1.forced≤(bj ε.2 kd tx pv nx data c).2.2.dW),EI N (B+1) (ε.1,(bj ε.2 kd tx pv nx data c).2)∧∀m,pgA (ε.1,(bj ε.2 kd tx pv nx data c).2) m=pgA ε m:=fun hk hc=>by
  obtain ⟨l1,l2⟩:=h.ec.log hk
  exact ⟨⟨⟨⟨h.ok.ok.pl,I.1,I.2.1⟩,h.ok.pins,h.ok.full⟩,l1,⟨I.2.2.1,hc,er⟩,uX⟩,l2⟩
 rcases lu ε.2 kd tx pv nx data c with ⟨e,he,hc,J⟩ | ⟨hd,hf,J⟩ | ⟨_,_,hd,fF,hf,J⟩
 ·obtain ⟨m1,m2⟩:=main (by rw [J]; exact DK.refl _) (by rw [J]; exact h.el.cert)
  refine ⟨m1,m2,.inr ?_⟩
  rw [J]
  rcases hc with ⟨_,hb⟩ | ⟨rfl,hb⟩ | ⟨_,hb⟩ | ⟨rfl,hb⟩
  ·rw [hg] at hb; cases hb
  ·exact .inr ⟨rfl,hb⟩
  ·rw [h.ec.dk.alive] at hb; cases hb
  ·exact .inl rfl
 ·have:=h.ec.dk.bL; omega
 ·rw [Db h.ec.dk.bL] at J
  obtain ⟨m1,m2⟩:=main (by rw [J]; exact ⟨rfl,rfl,rfl,rfl⟩) (by rw [J]; exact h.el.cert)
  exact ⟨m1,m2,.inl ⟨by rw [J],J⟩⟩
theorem EI.done {N B:Nat}{ε ε':aF}{now:List (Int×List Nat)}{kd:Int}{tx pv nx aM:Nat}{data:List Nat}{e:Int}{cl:Bool}(h:EI N B ε)(hB:B≤1000)(hn:NW N now)(h1:1≤kd)(h2:kd≤7)(hr:uZ ε now kd tx pv nx data 0 aM e cl ε'):
  (cl=false∧(e=7∨e=2)∧EI N (B+2) ε'∧∀m,pgA ε' m=pgA ε m) ∨
  (cl=true∧e=0∧EI N (B+2) ε'∧∀m,pgA ε' m=match lookL m now with | some b=>cR b aM | none=>pgA ε m):=by
 have I:∀n∈dQ now,0≤n∧n<N:=fun n hq=>hn.keys n (oa.1 hq)
 have hN:=h.many
 have fF:∀ {c:List c7} {ε':aF} {e:Int},jg now (dQ now) ε e c ε'→dO kd c=true:=fun J=>by
  refine C8 ⟨h1,by omega⟩ (J.fit (fun x hx=>gE (hn.good x hx).1) fun n hq => ?_)
  have:=I n hq
  omega
 cases hr with
 | arg hq=>omega
 | dead _ _ _ hd=>rw [h.ec.dk.alive] at hd; cases hd
 | n_ e c ε' _ _ _ hd J he=>exact absurd (J.ec h.ec h.ok I).2.2 he
 | app c ε' _ _ _ hd J he =>
  obtain ⟨c1,c2,c3⟩:=J.ec h.ec h.ok I
  have hi:EI N B ε':=⟨J.lK h.ok,c1,J.el h.el,cy J.cj h.cj⟩
  obtain ⟨a1,a2,a3⟩:=hi.app (kd:=kd) (tx:=tx) (pv:=pv) (nx:=nx) (data:=data) (c:=c) hB (fF J)
  refine .inl ⟨rfl,?_,a1.more (by omega),fun m=>by rw [a2,c2]⟩
  rcases a3 with a3 | a3 | a3
  ·exact absurd a3.1 he
  ·exact .inl a3
  ·exact .inr a3.1
 | put c ε' e jU _ _ _ hd J ha hp =>
  obtain ⟨c1,c2,c3⟩:=J.ec h.ec h.ok I
  have hi:EI N B ε':=⟨J.lK h.ok,c1,J.el h.el,cy J.cj h.cj⟩
  obtain ⟨a1,a2,a3⟩:=hi.app (kd:=kd) (tx:=tx) (pv:=pv) (nx:=nx) (data:=data) (c:=c) hB (fF J)
  obtain ⟨p1,p2,p3⟩:=hp.ec a1.ec a1.ok hn I
  have hl:(dQ now).length≤N:=by
   have:=hn.len
   rw [dQ,(e_ _).length_eq,eP]; exact this
  have Sd:=hp.cj a1.ok
  have uc:=a1.cj
  refine .inr ⟨rfl,p2,⟨hp.lK a1.ok,p1,?_,by omega⟩,fun m => ?_⟩
  ·have:=hp.el a1.el
   exact ⟨this.log,this.cert,cy this.size (oT _ (by omega))⟩
  ·rw [ax p2,p3]
   by_cases hm:m∈dQ now
   ·rw [ax hm]
    cases hq:lookL m now with
    | some b=>rfl
    | none=>exact absurd (oa.1 hm) (mR.1 hq)
   ·rw [ai hm,a2,c2]
    have:lookL m now=none:=mR.2 fun hq=>hm (oa.2 hq)
    rw [this]
end Go.Proofs.YtefepnnfphdkpaaGreat.Am
