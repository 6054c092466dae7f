/- ChainFull: a part of its proof; conditions: its statement's. -/
import Derived.Test.YtefepnnfphdkpaaGreatD26
namespace Go.Proofs.YtefepnnfphdkpaaGreat.Am
open Go
section
variable {P:Program} {h:H} {S:List aq} {k:Nat}
theorem Qc (s:Sat h S){t e:TypeId}{z:V}(hu:P.underlying t=some (.slice e))(I:zeroT P e=some z)(J:bk P e=some k)(hl:z.cells.length=k)(h1:1≤k):
  ∃h',buildSliceV P h t 0 []=some (.sl h.next 0 0 (.exact 0),h')∧Sat h' (pt h.next (.cells 0 [] false)::S):=by
 refine ⟨newRow h [],?_,s.new _⟩
 simp only [buildSliceV,hu,J,I]
 rw [show (Nat.beq z.cells.length k&&Nat.ble (0*k) 65536&&Nat.ble 1 k)=true by rw [hl,dn,aE.2 (by omega),aE.2 h1]; rfl,af]
 simp only [repeatL,fillV,i_,af]
theorem Qd {id q:Nat}(s:Sat h (pt id (.cells 0 [] false)::S)): Sat h (.arr q (.sl id 0 0 (.exact 0)) []::S) :=
 s.hU fun m r hm=>⟨rfl,.inr ⟨id,0,.exact 0,0,[],rfl,hm,by simp,rfl,rfl,by simp,aD _⟩⟩
end
section
variable {told:cz} {h:H} {S:List aq} {X Y:aq} {r k q p bQ a g bf:Nat} {op v x u wh di:V} {l b c6 data me:List Nat} {μ:Lg} {δ:Dk}
end
section
variable {told:cz} {h:H} {S:List aq} {X Y:aq} {r k q p bQ a g bf:Nat} {op v x u wh di:V} {l b c6 data me:List Nat} {μ:Lg} {δ:Dk}
end
section
variable {told:cz} {h:H} {S:List aq} {X Y:aq} {r k q p bQ a g bf:Nat} {op v x u wh di:V} {l b c6 data me:List Nat} {μ:Lg} {δ:Dk}
end
section
variable {told:cz} {h:H} {S:List aq} {X Y:aq} {r k q p bQ a g bf:Nat} {op v x u wh di:V} {l b c6 data me:List Nat} {μ:Lg} {δ:Dk}
end
section
variable {told:cz} {h:H} {S:List aq} {X Y:aq} {r k q p bQ a g bf:Nat} {op v x u wh di:V} {l b c6 data me:List Nat} {now:List (Int×List Nat)} {bL:Bool} {ε:aF} {μ:Lg} {δ:Dk} {π:Pl}
end
section
variable {told:cz} {h:H} {S:List aq} {X Y:aq} {r k q p bQ a g bf:Nat} {op v x u wh di:V} {l b c6 data me:List Nat} {ε:aF}
end
section
variable {told:cz} {h:H} {S:List aq} {X:aq} {k:Nat} {v:V} {l:List Nat}
end
theorem IT : ∀ {l:List Nat},(∀b∈l,b<256)→bytesOf (ofBytes l)=some l:=by
 intro l
 induction l with
 | nil=>intro _; rfl
 | cons b l J =>
  intro h
  have I:=J fun x hx=>h x (cr _ hx)
  have h2:=h b ct
  rw [ofBytes] at I
  simp only [ofBytes,cu,bytesOf,I,aj,wR,and_true]
  omega
theorem KV {h:H}{v:V}{l:List Nat}(hv:View h v l): convV Tryz.prog h 28 9 v=some (.str l,h):=by
 obtain ⟨I,(⟨rfl | ⟨ea,rfl⟩,rfl⟩ | ⟨id,off,cap,n,cs,st,rfl,J,hl,ho,hc,_⟩)⟩:=hv
 ·simp only [convV,aJ,oX,Tryz.underlying5]
 ·simp only [convV,aJ,oX,Tryz.underlying5]
 ·have e:rdN h id off l.length=some (ofBytes l):=by rw [tK J hl ho,hc]
  simp only [convV,aJ,oX,Tryz.underlying5,e,IT I]
def OE (l:List Nat): List Nat:=if l.length≠512∨l=List.replicate 512 0 then [] else l.drop 12
section
variable {told:cz} {h:H} {S:List aq} {X:aq} {r k q p a g bf:Nat} {op v x:V} {l data:List Nat} {now:List (Int×List Nat)} {bL:Bool} {ε:aF}
end
structure DK (δ T4:Dk): Prop where
 dead:T4.dead=δ.dead
 bS:T4.bS=δ.bS
 bh:T4.bh=δ.bh
 now:T4.now=δ.now
theorem DK.refl (δ:Dk): DK δ δ:=⟨rfl,rfl,rfl,rfl⟩
theorem DK.at {δ I:Dk}(h:DK δ I)(n:Int): I.at n=δ.at n:=by rw [Dk.at,Dk.at,h.now,h.bh]
structure DA (N:Nat)(δ:Dk): Prop where
 alive:δ.dead=false
 bS:δ.bS<0
 bh:δ.bh.length=N
 keys:∀k:Int,k∈δ.now.map (·.1)→0≤k∧k<N
 nodup:(δ.now.map (·.1)).Nodup
 good:∀n:Int,0≤n→n<N→gD (δ.at n)=0
theorem DA.of {N:Nat}{δ I:Dk}(h:DA N δ)(k:DK δ I): DA N I :=
 ⟨k.dead.trans h.alive,by rw [k.bS]; exact h.bS,by rw [k.bh]; exact h.bh,by rw [k.now]; exact h.keys,by rw [k.now]; exact h.nodup,fun n a b=>by rw [k.at]; exact h.good n a b⟩
theorem Ep {δ:Dk}(h:δ.bS<0): δ.fV=δ:=by
 have:(if 0<δ.bS then δ.bS-1 else δ.bS)=δ.bS:=ai (by omega)
 rw [Dk.fV,this]
theorem M_ {N:Nat}{δ:Dk}(h:DA N δ): δ.gn=(0,{ δ with eu:=δ.log.length }):=by
 rw [Dk.gn,ai (by rw [h.alive]; decide),ai (by have:=h.bS; omega),Ep h.bS]
theorem KW {N:Nat}{x:LD}{n:Nat}(h:DA N x.2): (bT x n).1=0∧DK x.2 (bT x n).2.2:=by
 unfold bT
 split
 ·exact ⟨rfl,DK.refl _⟩
 ·rw [M_ h,ai (by simp)]
  exact ⟨rfl,rfl,rfl,rfl,rfl⟩
theorem Na {N:Nat}{δ:Dk}{n:Int}{b:List Nat}(h:DA N δ)(h0:0≤n)(h1:n<N)(hb:b.length=512)(hc:gD b=0):
  (δ.cU n b).1=0∧DA N (δ.cU n b).2∧∀m,(δ.cU n b).2.at m=if n=m then b else δ.at m:=by
 have e:δ.cU n b=(0,δ.wr n b):=by
  rw [Dk.cU,ai (by rw [h.alive]; decide),ai (not_not_intro ⟨h0,by rw [h.bh]; exact h1,hb⟩),ai (by have:=h.bS; omega)]
 have I:(δ.wr n b).now=dc n b δ.now:=rfl
 have nO:(δ.wr n b).bh=δ.bh:=rfl
 have J:∀m,(δ.wr n b).at m=if n=m then b else δ.at m:=fun m=>by
  rw [Dk.at,Dk.at,I,nO,oU]
  by_cases hm:n=m
  ·rw [ax hm,ax hm]
  ·rw [ai hm,ai hm]
 have KX:(δ.wr n b).bS=δ.bS:=by
  show δ.fV.bS=δ.bS
  rw [Ep h.bS]
 rw [e]
 refine ⟨rfl,⟨h.alive,by rw [KX]; exact h.bS,h.bh,fun x hx => ?_,?_,fun m a c => ?_⟩,J⟩
 ·rw [I] at hx
  rcases ru.1 hx with rfl | hx
  ·exact ⟨h0,h1⟩
  ·exact h.keys x hx
 ·rw [I]; exact kK h.nodup
 ·rw [J]
  by_cases hm:n=m
  ·rw [ax hm]; exact hc
  ·rw [ai hm]; exact h.good m a c
theorem yu {l m:List Nat}{a b:Nat}(J:a+m.length≤l.length)(h2:a+m.length≤b): (a_ l a m).drop b=l.drop b:=by
 have I:(l.take a).length=a:=by rw [fe]; omega
 rw [a_,←ep,wQ,fI (by rw [bD,I]; omega),c_,og,bD,I]
 congr 1; omega
theorem AN {l m:List Nat}{a i:Nat}(h:a+m.length≤l.length): (a_ l a m)[i]?=if a≤i∧i<a+m.length then m[i-a]? else l[i]?:=by
 have I:(l.take a).length=a:=by rw [fe]; omega
 rw [a_]
 by_cases J:i<a
 ·rw [gF (by omega),ai (by omega),jx,ax J]
 ·rw [jv (by omega),I]
  by_cases h2:i-a<m.length
  ·rw [gF h2,ax (by omega)]
  ·rw [jv (by omega),ai (by omega),jy]
   congr 1; omega
theorem rH {l m:List Nat}{a z:Nat}(I:l.drop 12=m.drop 12)(J:12≤a): cQ l a z=cQ m a z:=by
 have e:∀l:List Nat,(l.take (a+z)).drop a=((l.drop 12).drop (a-12)).take z:=fun l=>by
  rw [og,show 12+(a-12)=a by omega,qt]
  congr 1; omega
 rw [cQ,cQ,e,e,I]
theorem FT {l m:List Nat}(I:l.drop 12=m.drop 12){low:Nat}: ∀(n i:Nat) (t:List Bool),cellsL l low n i t=cellsL m low n i t:=by
 intro n
 induction n with
 | zero=>intro i t; rfl
 | succ n J =>
  intro i t
  have e1:cP l i=cP m i:=rH I (by omega)
  have e2:gC l i=gC m i:=rH I (by omega)
  simp only [cellsL,e1,e2,J]
theorem IU {l m:List Nat}(J:l.length=m.length)(I:l.drop 12=m.drop 12): bV l=bV m:=by
 have e1:jt l=jt m:=rH I (by omega)
 have e2:gB l=gB m:=rH I (by omega)
 have e3:l.getD 13 0=m.getD 13 0:=by
  have:∀l:List Nat,l[13]?=(l.drop 12)[1]?:=fun l=>by rw [jy]
  rw [dN,dN,this,this,I]
 simp only [bV,J,e1,e2,e3,FT I]
theorem KY : ∀(k n:Nat),leN (le k n)=n%256^k:=by
 intro k
 induction k with
 | zero=>intro n; rw [Nat.pow_zero,Nat.mod_one]; rfl
 | succ k I =>
  intro n
  rw [le,leN,I,s_,s8 (256^k) 256,Nat.mod_mul]
theorem Cy {b:List Nat}{n:Nat}(J:b.length=512): (cX b n).drop 12=b.drop 12∧(cX b n).length=512∧(cX b n).drop 4=(mq b n).drop 4∧cQ (cX b n) 0 4=vR 0 ((mq b n).drop 4)%4294967296:=by
 have h1:=uy (n:=n) J
 have h2:(cX b n).length=512:=by rw [cX,cK (by rw [dK]; omega),h1]
 have I:(cX b n).drop 4=(mq b n).drop 4:=by rw [cX]; exact yu (by rw [dK]; omega) (by rw [dK]; omega)
 have h4:(mq b n).drop 12=b.drop 12:=by rw [mq]; exact yu (by rw [dK]; omega) (by rw [dK]; omega)
 refine ⟨?_,h2,I,?_⟩
 ·have:=fo (List.drop 8) I
  rw [og,og] at this
  exact this.trans h4
 ·have e:(cX b n).take 4=le 4 (vR 0 ((mq b n).drop 4)):=by
   rw [cX,a_,jz,c_,wJ (by rw [dK]; omega),dG (by rw [dK]; omega)]
  rw [cQ,dA,fg,e,KY]
theorem Qe {b:List Nat}{n:Nat}(I:∀x∈b,x<256): ∀x∈mq b n,x<256:=Cg I (It _ _)
theorem KZ {b:List Nat}{n:Nat}(hg:bV b=true)(hb:∀x∈b,x<256): gD (cX b n)=0∧bV (cX b n)=true∧OE (cX b n)=b.drop 12:=by
 have hl:=g9 hg
 obtain ⟨h1,h2,h3,h4⟩:=Cy (n:=n) hl
 have I:bV (cX b n)=true:=by rw [IU (h2.trans hl.symm) h1]; exact hg
 have hz:bV (List.replicate 512 0)=false:=by decide +kernel
 have J:cX b n≠List.replicate 512 0:=fun e=>by rw [e,hz] at I; cases I
 have hc:vR 0 ((mq b n).drop 4)<4294967296:=yF (by decide) fun x hx=>Qe hb x (gG hx)
 refine ⟨?_,I,?_⟩
 ·rw [gD,ai J,ai (by rw [I]; decide),ai]
  rw [h4,h3,j5 hc]; exact not_not_intro rfl
 ·rw [OE,ai (by rintro (h | h); exact h h2; exact J h),h1]
def pgA (ε:aF)(n:Int): List Nat:=match lookL n ε.1.bu with
 | some i=>match ε.1.ah[i.toNat]? with
  | some f=>f.b
  | none=>ε.2.2.at n
 | none=>ε.2.2.at n
structure Nb (N:Nat)(δ:Dk)(bu:List (Int×Int))(i:Nat)(f:Fm): Prop where
 lt:f.bg<N
 here:lookL f.bg bu=some (i:Int)
 bf:gD f.b=0
 same:f.changed=false→f.b=δ.at f.bg
 o5:f.changed=true→bV f.b=true
structure EC (N:Nat)(ε:aF): Prop where
 dk:DA N ε.2.2
 nodup:(ε.1.bu.map (·.1)).Nodup
 lN:∀(n i:Int),lookL n ε.1.bu=some i→0≤n∧∃(j:Nat) (f:Fm),i=j∧ε.1.ah[j]?=some f∧f.bg=n
 back:∀(i:Nat) (f:Fm),ε.1.ah[i]?=some f→f.bg<0∨Nb N ε.2.2 ε.1.bu i f
 yQ:∀k:Int,k∈ε.1.ck.map (·.1)→0≤k∧k<N
 Er:(ε.1.ck.map (·.1)).Nodup
theorem mO {ε:aF}{n:Int}{j:Nat}{f:Fm}(h:lookL n ε.1.bu=some (j:Int))(I:ε.1.ah[j]?=some f): pgA ε n=f.b:=by
 simp only [pgA,h,bZ,I]
theorem lP {ε:aF}{n:Int}(h:lookL n ε.1.bu=none): pgA ε n=ε.2.2.at n:=by simp only [pgA,h]
theorem EC.cases {N:Nat}{ε:aF}(h:EC N ε)(n:Int): (∃(j:Nat) (f:Fm),lookL n ε.1.bu=some (j:Int)∧ε.1.ah[j]?=some f∧f.bg=n∧0≤n∧Nb N ε.2.2 ε.1.bu j f∧pgA ε n=f.b)∨(lookL n ε.1.bu=none∧pgA ε n=ε.2.2.at n):=by
 cases I:lookL n ε.1.bu with
 | none=>exact .inr ⟨rfl,lP I⟩
 | some i =>
  obtain ⟨h0,j,f,rfl,J,hp⟩:=h.lN n i I
  refine .inl ⟨j,f,rfl,J,hp,h0,?_,mO I J⟩
  rcases h.back j f J with h1 | h1
  ·omega
  ·exact h1
theorem sj {m:List Fm}{i j:Nat}{f g x:Fm}(hf:m[i]?=some f)(J:(m.set i g)[j]?=some x): (i=j∧x=g)∨(i≠j∧m[j]?=some x):=by
 by_cases I:i=j
 ·subst I
  rw [gW (List.getElem?_eq_some_iff.1 hf).1] at J
  exact .inl ⟨rfl,(bE J).symm⟩
 ·rw [fZ I] at J
  exact .inr ⟨I,J⟩
theorem EC.set {N:Nat}{ε:aF}{i:Nat}{f g:Fm}{y:Lg}{δ:Dk}{d:List (Int×(Nat×Bool))}(h:EC N ε)(hf:ε.1.ah[i]?=some f)(hp:g.bg=f.bg)(Eb:DA N δ)
 (hg:g.bg<0∨Nb N δ ε.1.bu i g)(ho:∀(j:Nat) (x:Fm),i≠j→ε.1.ah[j]?=some x→0≤x.bg→δ.at x.bg=ε.2.2.at x.bg)(hd:∀k:Int,k∈d.map (·.1)→0≤k∧k<N)(Ss:(d.map (·.1)).Nodup):
  EC N ({ ε.1 with ah:=ε.1.ah.set i g,ck:=d },(y,δ)):=by
 have hi:=(List.getElem?_eq_some_iff.1 hf).1
 refine ⟨Eb,h.nodup,fun n k hk => ?_,fun j x J => ?_,hd,Ss⟩
 ·obtain ⟨h0,j,x,rfl,J,wq⟩:=h.lN n k hk
  refine ⟨h0,j,?_⟩
  by_cases I:i=j
  ·subst I
   rw [hf] at J
   have:=bE J
   subst this
   exact ⟨g,rfl,gW hi,hp.trans wq⟩
  ·exact ⟨x,rfl,by show (ε.1.ah.set i g)[j]?=some x; rw [fZ I]; exact J,wq⟩
 ·rcases sj hf J with ⟨rfl,rfl⟩ | ⟨I,J⟩
  ·exact hg
  ·rcases h.back j x J with h1 | h1
   ·exact .inl h1
   ·by_cases h2:x.bg<0
    ·exact .inl h2
    ·refine .inr ⟨h1.lt,h1.here,h1.bf,fun hc => ?_,h1.o5⟩
     rw [ho j x I J (by omega)]; exact h1.same hc
theorem G3 {ε:aF}{i:Nat}{f g:Fm}{x:LD}{d:List (Int×(Nat×Bool))}(hf:ε.1.ah[i]?=some f)(hb:g.b=f.b){n:Int}(hx:lookL n ε.1.bu=none→x.2.at n=ε.2.2.at n)(hy:∀j:Int,lookL n ε.1.bu=some j→∃f',ε.1.ah[j.toNat]?=some f'):
  pgA ({ ε.1 with ah:=ε.1.ah.set i g,ck:=d },x) n=pgA ε n:=by
 unfold pgA
 simp only
 cases hl:lookL n ε.1.bu with
 | none=>exact hx hl
 | some j =>
  simp only
  obtain ⟨f',J⟩:=hy j hl
  by_cases I:i=j.toNat
  ·subst I
   rw [gW (List.getElem?_eq_some_iff.1 hf).1,hf]
   exact hb
  ·rw [fZ I,J]
theorem EC.there {N:Nat}{ε:aF}(h:EC N ε){n:Int}: ∀j:Int,lookL n ε.1.bu=some j→∃f',ε.1.ah[j.toNat]?=some f':=fun j I=>by
 obtain ⟨_,k,f,rfl,J,_⟩:=h.lN n j I
 exact ⟨f,by rw [bZ]; exact J⟩
theorem EC.out {N:Nat}{ε:aF}{i:Nat}{f:Fm}(h:EC N ε)(I:ε.1.ah[i]?=some f):
  (outF ε i).1=0∧EC N (outF ε i).2∧(∀n,pgA (outF ε i).2 n=pgA ε n)∧(outF ε i).2.1.bu=ε.1.bu∧∃g,(outF ε i).2.1.ah[i]?=some g∧g.bg=f.bg∧(0≤g.bg→g.changed=false):=by
 have hi:=(List.getElem?_eq_some_iff.1 I).1
 unfold outF
 rw [I]
 simp only
 by_cases hc:f.bg<0∨f.changed=false
 ·rw [ax hc]
  exact ⟨rfl,h,fun n=>rfl,rfl,f,I,rfl,fun h0=>hc.resolve_left (by omega)⟩
 ·rw [ai hc]
  have J:0≤f.bg:=by omega
  have lz:f.changed=true:=by cases hq:f.changed <;> simp [hq] at hc ⊢
  have ho:=(h.back i f I).resolve_left (by omega)
  have hg:=ho.o5 lz
  rw [ai (by rw [hg]; decide)]
  obtain ⟨e1,k1⟩:=KW (x:=ε.2) (n:=cQ f.b 4 8) h.dk
  rw [ai (by rw [e1]; decide)]
  obtain ⟨e2,k2,k3⟩:=Na (h.dk.of k1) J ho.lt (g9 hg) ho.bf
  rw [ai (by rw [e2]; decide)]
  have yp:∀m,f.bg≠m→((bT ε.2 (cQ f.b 4 8)).2.2.cU f.bg f.b).2.at m=ε.2.2.at m:=fun m hm=>by rw [k3,ai hm,k1.at]
  refine ⟨rfl,h.set I rfl k2 (.inr ⟨ho.lt,ho.here,ho.bf,fun _ => ?_,fun hq=>(by cases hq)⟩) (fun j x xT hx h0=>yp _ fun Es => ?_) (fun k hk => ?_) (kK h.Er),fun n => ?_,rfl,_,gW hi,rfl,fun _=>rfl⟩
  ·simp only; rw [k3,ax rfl]
  ·rcases h.back j x hx with h1 | h1
   ·omega
   ·have:=h1.here
    rw [←Es,ho.here] at this
    have:=bE this
    omega
  ·rcases ru.1 hk with rfl | hk
   ·exact ⟨J,ho.lt⟩
   ·exact h.yQ k hk
  ·exact G3 I (by rfl) (fun hn=>yp n fun e=>by rw [←e,ho.here] at hn; cases hn) h.there
theorem eN.back {π I:Pl}(J:eN π I){i:Nat}{x:Fm}(hx:I.ah[i]?=some x): ∃f t,π.ah[i]?=some f∧x={ f with dP:=t }:=by
 have hi:=(List.getElem?_eq_some_iff.1 hx).1
 rw [J.len] at hi
 have hf:π.ah[i]?=some (π.ah[i]'hi):=aM _
 obtain ⟨t,ht⟩:=J.get i _ hf
 rw [hx] at ht
 exact ⟨_,t,hf,bE ht⟩
theorem EC.oG {N:Nat}{ε:aF}{J:Pl}(h:EC N ε)(I:eN ε.1 J): EC N (J,ε.2)∧∀n,pgA (J,ε.2) n=pgA ε n:=by
 refine ⟨⟨h.dk,by rw [I.bu]; exact h.nodup,fun n i hi => ?_,fun i x hx => ?_,by rw [I.ck]; exact h.yQ,by rw [I.ck]; exact h.Er⟩,fun n => ?_⟩
 ·rw [I.bu] at hi
  obtain ⟨h0,j,f,rfl,hf,hp⟩:=h.lN n i hi
  obtain ⟨t,ht⟩:=I.get j f hf
  exact ⟨h0,j,_,rfl,ht,hp⟩
 ·obtain ⟨f,t,hf,rfl⟩:=I.back hx
  rcases h.back i f hf with h1 | h1
  ·exact .inl h1
  ·exact .inr ⟨h1.lt,by rw [I.bu]; exact h1.here,h1.bf,h1.same,h1.o5⟩
 ·unfold pgA
  simp only [I.bu]
  cases hl:lookL n ε.1.bu with
  | none=>rfl
  | some i =>
   obtain ⟨h0,j,f,rfl,hf,hp⟩:=h.lN n i hl
   obtain ⟨t,ht⟩:=I.get j f hf
   simp only [bZ,ht,hf]
theorem EC.cF {N:Nat}{ε:aF}{i:Nat}{f g:Fm}(h:EC N ε)(hg:ε.1.ah[i]?=some g)(hp:g.bg=f.bg)(hc:0≤g.bg→g.changed=false): EC N (cF ε.1 i f,ε.2)∧(∀n,pgA (cF ε.1 i f,ε.2) n=pgA ε n) ∧
  (cF ε.1 i f).ah[i]?=some dL∧∀n,lookL n ε.1.bu=none→lookL n (cF ε.1 i f).bu=none:=by
 have hi:=(List.getElem?_eq_some_iff.1 hg).1
 have T5:(ε.1.ah.set i dL)[i]?=some dL:=gW hi
 have I:∀n,lookL n (Am.cF ε.1 i f).bu=if 0≤f.bg∧f.bg=n then none else lookL n ε.1.bu:=fun n=>by
  rw [Am.cF]
  by_cases h0:f.bg<0
  ·rw [ax h0,ai (by omega)]
  ·rw [ai h0,Ck h.nodup]
   by_cases hn:f.bg=n
   ·rw [ax hn,ax ⟨by omega,hn⟩]
   ·rw [ai hn,ai (by omega)]
 refine ⟨⟨h.dk,?_,fun n k hk => ?_,fun j x J => ?_,h.yQ,h.Er⟩,fun n => ?_,T5,fun n hn => ?_⟩
 ·rw [Am.cF]
  by_cases h0:f.bg<0
  ·rw [ax h0]; exact h.nodup
  ·rw [ai h0]; exact uw h.nodup
 ·rw [I] at hk
  split at hk
  ·cases hk
  ·rename_i dw
   obtain ⟨h0,j,x,rfl,J,wq⟩:=h.lN n k hk
   refine ⟨h0,j,x,rfl,?_,wq⟩
   show (ε.1.ah.set i dL)[j]?=some x
   rw [fZ]
   ·exact J
   ·rintro rfl
    rw [hg] at J
    have:=bE J
    subst this
    omega
 ·rcases sj hg J with ⟨rfl,rfl⟩ | ⟨xT,J⟩
  ·exact .inl (by decide)
  ·rcases h.back j x J with h1 | h1
   ·exact .inl h1
   ·by_cases Yd:x.bg<0
    ·exact .inl Yd
    refine .inr ⟨h1.lt,?_,h1.bf,h1.same,h1.o5⟩
    rw [I,ai]
    ·exact h1.here
    ·rintro ⟨h0,Es⟩
     rcases h.back i g hg with h2 | h2
     ·omega
     ·have e:=h2.here
      rw [hp,Es,h1.here] at e
      have:=bE e
      omega
 ·rcases h.cases n with ⟨j,x,hl,J,wq,h0,ho,e⟩ | ⟨hl,e⟩
  ·rw [e]
   by_cases Es:f.bg=n
   ·have xT:i=j:=by
     rcases h.back i g hg with h2 | h2
     ·omega
     ·have e:=h2.here
      rw [hp,Es,hl] at e
      have:=bE e
      omega
    subst xT
    rw [hg] at J
    have:=bE J
    subst this
    rw [lP (by rw [I,ax ⟨by omega,Es⟩])]
    rw [ho.same (hc (by omega)),hp,Es]
   ·refine mO (j:=j) (by rw [I,ai (by omega)]; exact hl) ?_
    show (ε.1.ah.set i dL)[j]?=some x
    rw [fZ]
    ·exact J
    ·rintro rfl
     rw [hg] at J
     have:=bE J
     subst this
     omega
  ·rw [e,lP (by rw [I]; split; rfl; exact hl)]
 ·rw [I]; split; rfl; exact hn
theorem EC.iz {N:Nat}{ε:aF}{i:Nat}{e:Fm}{n:Int}(h:EC N ε)(he:ε.1.ah[i]?=some e)(hp:e.bg<0)(hl:lookL n ε.1.bu=none)(h0:0≤n)(h1:n<N): EC N (iz ε.1 i n (ε.2.2.at n),ε.2)∧∀m,pgA (iz ε.1 i n (ε.2.2.at n),ε.2) m=pgA ε m:=by
 have hi:=(List.getElem?_eq_some_iff.1 he).1
 have J:(ε.1.ah.set i ⟨n,ε.2.2.at n,1,true,false⟩)[i]?=some ⟨n,ε.2.2.at n,1,true,false⟩:=gW hi
 have I:∀m,lookL m (Am.iz ε.1 i n (ε.2.2.at n)).bu=if n=m then some (i:Int) else lookL m ε.1.bu:=fun m=>oU _
 refine ⟨⟨h.dk,kK h.nodup,fun m k hk => ?_,fun j x hx => ?_,h.yQ,h.Er⟩,fun m => ?_⟩
 ·rw [I] at hk
  split at hk
  ·rename_i K0
   have:=bE hk
   subst this
   subst K0
   exact ⟨h0,i,_,rfl,J,rfl⟩
  ·rename_i dw
   obtain ⟨h0,j,x,rfl,hx,wq⟩:=h.lN m k hk
   refine ⟨h0,j,x,rfl,?_,wq⟩
   show (ε.1.ah.set i _)[j]?=some x
   rw [fZ]
   ·exact hx
   ·rintro rfl
    rw [he] at hx
    have:=bE hx
    subst this
    omega
 ·rcases sj he hx with ⟨rfl,rfl⟩ | ⟨xT,hx⟩
  ·exact .inr ⟨h1,by rw [I,ax rfl],h.dk.good n h0 h1,fun _=>rfl,fun hq=>(by cases hq)⟩
  ·rcases h.back j x hx with h2 | h2
   ·exact .inl h2
   ·refine .inr ⟨h2.lt,?_,h2.bf,h2.same,h2.o5⟩
    rw [I,ai]
    ·exact h2.here
    ·rintro rfl
     rw [h2.here] at hl; cases hl
 ·by_cases K0:n=m
  ·subst K0
   rw [mO (j:=i) (by rw [I,ax rfl]) J,lP hl]
  ·rcases h.cases m with ⟨j,x,js,hx,wq,_,ho,e2⟩ | ⟨js,e2⟩
   ·rw [e2]
    refine mO (j:=j) (by rw [I,ai K0]; exact js) ?_
    show (ε.1.ah.set i _)[j]?=some x
    rw [fZ]
    ·exact hx
    ·rintro rfl
     rw [he] at hx
     have:=bE hx
     subst this
     omega
   ·rw [e2,lP (by rw [I,ai K0]; exact js)]
theorem EC.frame {N:Nat}{ε:aF}{i:Nat}{f g:Fm}(h:EC N ε)(hf:ε.1.ah[i]?=some f)(J:g.bg=f.bg)(hb:g.b=f.b)(hc:g.changed=f.changed): EC N ({ ε.1 with ah:=ε.1.ah.set i g },ε.2)∧∀n,pgA ({ ε.1 with ah:=ε.1.ah.set i g },ε.2) n=pgA ε n:=by
 refine ⟨h.set (y:=ε.2.1) (δ:=ε.2.2) hf J h.dk ?_ (fun _ _ _ _ _=>rfl) h.yQ h.Er,fun n=>G3 hf hb (fun _=>rfl) h.there⟩
 rcases h.back i f hf with I | I
 ·exact .inl (by omega)
 ·exact .inr ⟨by rw [J]; exact I.lt,by rw [J]; exact I.here,by rw [hb]; exact I.bf,by rw [J,hb,hc]; exact I.same,by rw [hb,hc]; exact I.o5⟩
theorem eO.ec {N:Nat}{ε ε':aF}{n e:Int}{b:List Nat}(hr:eO ε n e b ε')(h:EC N ε): EC N ε'∧(∀m,pgA ε' m=pgA ε m)∧(0≤n→n<N→e=0∧b=pgA ε n)∧(¬(0≤n∧n<N)→e=1∧ε'=ε):=by
 have nO:=h.dk.bh
 cases hr with
 | arg I=>rw [nO] at I; exact ⟨h,fun _=>rfl,fun a b=>absurd ⟨a,b⟩ I,fun _=>⟨rfl,rfl⟩⟩
 | AF i f h1 J hl hf =>
  rw [nO] at J
  obtain ⟨k1,k2⟩:=h.frame (g:={ f with dP:=true,pins:=f.pins+1 }) hf rfl rfl rfl
  exact ⟨k1,k2,fun _ _=>⟨rfl,(mO hl hf).symm⟩,fun I=>absurd ⟨h1,J⟩ I⟩
 | out fH i f h1 J hl I hf hh he=>exact absurd ((h.oG I).1.out hf).1 he
 | read fH i f h1 J hl I hf hh he hr =>
  obtain ⟨k1,k2,k3,k4,g,k5,k6,k7⟩:=(h.oG I).1.out hf
  refine absurd ?_ hr
  rw [nO] at J
  rw [Dk.oN,ai (by rw [k2.dk.alive]; decide),ai (by rw [k2.dk.bh]; exact not_not_intro ⟨h1,J⟩)]
 | bad fH i f h1 J hl I hf hh he hr hc =>
  obtain ⟨k1,k2,k3,k4,g,k5,k6,k7⟩:=(h.oG I).1.out hf
  rw [nO] at J
  exact absurd (k2.dk.good n h1 J) hc
 | load fH i f h1 J hl I hf hh he hr hc =>
  obtain ⟨n1,n2⟩:=h.oG I
  obtain ⟨k1,k2,k3,k4,g,k5,k6,k7⟩:=n1.out hf
  rw [nO] at J
  obtain ⟨f1,f2,f3,f4⟩:=k2.cF k5 k6 k7
  have js:lookL n (outF (fH,ε.2) i).2.1.bu=none:=by rw [k4]; show lookL n fH.bu=none; rw [I.bu]; exact hl
  obtain ⟨l1,l2⟩:=f1.iz f3 (by decide) (f4 n js) h1 J
  exact ⟨l1,fun m=>by rw [l2,f2,k3,n2],fun _ _=>⟨rfl,by rw [←n2,←k3,lP js]⟩,fun I=>absurd ⟨h1,J⟩ I⟩
theorem K1 {N:Nat}{π:Pl}{x:LD}{n:Int}(h:EC N (π,x)): EC N ((unpinF π n).2,x)∧∀m,pgA ((unpinF π n).2,x) m=pgA (π,x) m:=by
 unfold unpinF
 split
 ·exact ⟨h,fun _=>rfl⟩
 ·split
  ·exact ⟨h,fun _=>rfl⟩
  ·rename_i i hi f I
   exact h.frame (g:={ f with pins:=f.pins-1 }) I rfl rfl rfl
theorem k9.ec {N:Nat}{ε ε':aF}{n e:Int}{b:List Nat}(I:k9 ε n e b ε')(h:EC N ε)(hp:∀f∈ε.1.ah,f.pins=0): EC N ε'∧(∀m,pgA ε' m=pgA ε m)∧(0≤n→n<N→e=0∧b=pgA ε n)∧(¬(0≤n∧n<N)→e=1∧ε'=ε):=by
 cases I with
 | dead hd=>rw [h.dk.alive] at hd; cases hd
 | gU e b ε' hd I he =>
  obtain ⟨k1,k2,J,k4⟩:=I.ec h
  exact ⟨k1,k2,fun a b=>absurd (J a b).1 he,k4⟩
 | qh b ε' hd I he=>exact absurd (I.yM hp).1 he
 | read b ε' hd I he =>
  obtain ⟨k1,k2,J,k4⟩:=I.ec h
  obtain ⟨u1,u2⟩:=K1 (n:=n) k1
  refine ⟨u1,fun m=>by rw [u2]; exact k2 m,J,fun hn=>absurd (k4 hn).1 (by decide)⟩
theorem nj.ec {N:Nat}{ε ε':aF}{now:List (Int×List Nat)}{n e:Int}{b:List Nat}(hr:nj ε now false n e b ε')(h:EC N ε)(hp:∀f∈ε.1.ah,f.pins=0): EC N ε'∧(∀m,pgA ε' m=pgA ε m) ∧
  (0≤n→n<N→e=0∧b=(match lookL n now with | some b=>b | none=>pgA ε n))∧(¬(0≤n∧n<N)→e=1):=by
 have I:=h.dk.bh
 cases hr with
 | arg J=>rw [I] at J; exact ⟨h,fun _=>rfl,fun a b=>absurd ⟨a,b⟩ J,fun _=>rfl⟩
 | bL _ _ ho=>cases ho
 | own b h1 h2 _ hl=>rw [I] at h2; exact ⟨h,fun _=>rfl,fun _ _=>⟨rfl,by rw [hl]⟩,fun J=>absurd ⟨h1,h2⟩ J⟩
 | read e b ε' h1 h2 _ hl hr =>
  rw [I] at h2
  obtain ⟨k1,k2,k3,k4⟩:=hr.ec h hp
  exact ⟨k1,k2,fun a b=>by rw [hl]; exact k3 a b,fun J=>absurd ⟨h1,h2⟩ J⟩
theorem K2 : ∀(N:Nat) (l:List Int),l.Nodup→(∀n∈l,0≤n∧n<N)→l.length≤N:=by
 intro N
 induction N with
 | zero =>
  intro l _ h
  cases l with
  | nil=>exact aD _
  | cons n l=>have:=h n ct; omega
 | succ N J =>
  intro l hd h
  have h1:=J (l.erase (N:Int)) (hd.erase _) fun n hn=>by
   have I:=(hd.mem_erase_iff).1 hn
   have:=h n I.2
   have:=I.1
   omega
  have I:l.length≤(l.erase (N:Int)).length+1:=by
   rw [List.length_erase]; split <;> omega
  omega
structure NW (N:Nat)(now:List (Int×List Nat)): Prop where
 good:∀e∈now,bV e.2=true∧∀x∈e.2,x<256
 keys:∀k:Int,k∈now.map (·.1)→0≤k∧k<N
 nodup:(now.map (·.1)).Nodup
theorem NW.nil (N:Nat): NW N []:=⟨fun e h=>(by cases h),fun k h=>(by cases h),qv⟩
theorem IV {α:Type}{n:Int}{a:α}: ∀ {l:List (Int×α)} {e:Int×α},e∈dc n a l→e=(n,a)∨e∈l:=by
 intro l
 induction l with
 | nil=>intro e h; simp only [dc,sO] at h; exact .inl h
 | cons x l I =>
  intro e h
  simp only [dc] at h
  split at h
  ·rcases List.mem_cons.1 h with h | h
   ·exact .inl h
   ·exact .inr (cr _ h)
  ·rcases List.mem_cons.1 h with h | h
   ·exact .inr (by rw [h]; exact ct)
   ·rcases I h with h | h
    ·exact .inl h
    ·exact .inr (cr _ h)
theorem NW.put {N:Nat}{now:List (Int×List Nat)}{n:Int}{b:List Nat}(h:NW N now)(J:0≤n)(h1:n<N)(hg:bV b=true)(hb:∀x∈b,x<256): NW N (dc n b now):=by
 refine ⟨fun e he => ?_,fun k I => ?_,kK h.nodup⟩
 ·rcases IV he with rfl | he
  ·exact ⟨hg,hb⟩
  ·exact h.good e he
 ·rcases ru.1 I with rfl | I
  ·exact ⟨J,h1⟩
  ·exact h.keys k I
theorem NW.len {N:Nat}{now:List (Int×List Nat)}(h:NW N now): now.length≤N:=by
 have:=K2 N _ h.nodup h.keys
 rwa [er] at this
theorem NW.look {N:Nat}{now:List (Int×List Nat)}(h:NW N now){n:Int}{b:List Nat}(I:lookL n now=some b): bV b=true∧∀x∈b,x<256:=h.good _ (kE I)
theorem rF.ec {N:Nat}{ε ε':aF}{now bI:List (Int×List Nat)}{n e:Int}{b:List Nat}(I:rF ε now false n b e bI ε')(h:EC N ε)(hp:∀f∈ε.1.ah,f.pins=0): EC N ε'∧(∀m,pgA ε' m=pgA ε m) ∧
  (¬(0≤n∧n<N)→e=1∧bI=now)∧(0≤n→n<N→bV b=false→e=4∧bI=now)∧(0≤n→n<N→bV b=true→e=0∧bI=dc n b now):=by
 cases I with
 | may e c ε' I he =>
  obtain ⟨k1,k2,k3,J⟩:=I.ec h hp
  exact ⟨k1,k2,fun hn=>⟨J hn,rfl⟩,fun a b _=>absurd (k3 a b).1 he,fun a b _=>absurd (k3 a b).1 he⟩
 | bad c ε' I hg =>
  obtain ⟨k1,k2,k3,J⟩:=I.ec h hp
  exact ⟨k1,k2,fun hn=>absurd (J hn) (by decide),fun _ _ _=>⟨rfl,rfl⟩,fun _ _ hq=>by rw [hg] at hq; cases hq⟩
 | done c ε' I hg =>
  obtain ⟨k1,k2,k3,J⟩:=I.ec h hp
  exact ⟨k1,k2,fun hn=>absurd (J hn) (by decide),fun _ _ hq=>(by rw [hg] at hq; cases hq),fun _ _ _=>⟨rfl,rfl⟩⟩
theorem jN.ec {N:Nat}{now:List (Int×List Nat)}{l:List Int}{ε ε':aF}{e:Int}{cs:List dr}(I:jN now l ε e cs ε'): EC N ε→iT ε→(∀n∈l,0≤n∧n<N)→EC N ε'∧(∀m,pgA ε' m=pgA ε m)∧e=0:=by
 induction I with
 | nil ε=>intro h _ _; exact ⟨h,fun _=>rfl,rfl⟩
 | err n l ε e b ε' I he =>
  intro h J hl
  obtain ⟨k1,k2,k3,k4⟩:=I.ec h J.pins
  have:=hl n ct
  exact absurd (k3 this.1 this.2).1 he
 | part n l ε c6 b ε' c e cs kF I hb hd hc ik ht ih =>
  intro h J hl
  obtain ⟨k1,k2,k3,k4⟩:=I.ec h J.pins
  obtain ⟨i1,i2,i3⟩:=ih k1 (I.mE J) fun m hm=>hl m (cr _ hm)
  exact ⟨i1,fun m=>by rw [i2,k2],i3⟩
 | whole n l ε c6 b ε' e cs kF I hb hd ht ih =>
  intro h J hl
  obtain ⟨k1,k2,k3,k4⟩:=I.ec h J.pins
  obtain ⟨i1,i2,i3⟩:=ih k1 (I.mE J) fun m hm=>hl m (cr _ hm)
  exact ⟨i1,fun m=>by rw [i2,k2],i3⟩
theorem EC.log {N:Nat}{ε:aF}{x:LD}(h:EC N ε)(k:DK ε.2.2 x.2): EC N (ε.1,x)∧∀m,pgA (ε.1,x) m=pgA ε m:=by
 refine ⟨⟨h.dk.of k,h.nodup,h.lN,fun i f J => ?_,h.yQ,h.Er⟩,fun m => ?_⟩
 ·rcases h.back i f J with I | I
  ·exact .inl I
  ·exact .inr ⟨I.lt,I.here,I.bf,fun hc=>by rw [k.at]; exact I.same hc,I.o5⟩
 ·unfold pgA
  simp only [k.at]
theorem EC.put {N:Nat}{ε:aF}{n:Int}{i:Nat}{f:Fm}{b:List Nat}{aP:Nat}(h:EC N ε)(hl:lookL n ε.1.bu=some (i:Int))(hf:ε.1.ah[i]?=some f)(hg:bV b=true)(hb:∀x∈b,x<256)(h0:0≤n)(h1:n<N):
  EC N (yP ε.1 n i f b aP,ε.2)∧∀m,pgA (yP ε.1 n i f b aP,ε.2) m=if m=n then cX b aP else pgA ε m:=by
 obtain ⟨s1,s2,s3⟩:=KZ (n:=aP) hg hb
 have hi:=(List.getElem?_eq_some_iff.1 hf).1
 have hp:f.bg=n:=by
  obtain ⟨_,j,x,xT,J,wq⟩:=h.lN n i hl
  have:i=j:=by omega
  subst this
  rw [hf] at J
  rw [bE J]; exact wq
 have ho:=(h.back i f hf).resolve_left (by omega)
 refine ⟨h.set (y:=ε.2.1) (δ:=ε.2.2) hf rfl h.dk (.inr ⟨ho.lt,ho.here,s1,fun hq=>(by cases hq),fun _=>s2⟩) (fun _ _ _ _ _=>rfl) (fun k hk => ?_) (kK h.Er),fun m => ?_⟩
 ·rcases ru.1 hk with rfl | hk
  ·exact ⟨h0,h1⟩
  ·exact h.yQ k hk
 ·by_cases hm:m=n
  ·subst hm
   rw [ax rfl]
   exact mO (ε:=(yP ε.1 m i f b aP,ε.2)) hl (gW hi)
  ·rw [ai hm]
   rcases h.cases m with ⟨j,x,I,J,wq,_,_,e2⟩ | ⟨I,e2⟩
   ·rw [e2]
    refine mO (ε:=(yP ε.1 n i f b aP,ε.2)) I ?_
    show (ε.1.ah.set i _)[j]?=some x
    rw [fZ]
    ·exact J
    ·rintro rfl
     rw [hf] at J
     have:=bE J
     subst this
     omega
   ·rw [e2]
    exact lP (ε:=(yP ε.1 n i f b aP,ε.2)) I
theorem o8.ec {N:Nat}{now:List (Int×List Nat)}{aP:Nat}{l:List Int}{ε ε':aF}{e:Int}(I:o8 now aP l ε e ε'): EC N ε→iT ε→NW N now→(∀n∈l,0≤n∧n<N)→EC N ε'∧e=0 ∧
  ∀m,pgA ε' m=if m∈l then (match lookL m now with | some b=>cX b aP | none=>pgA ε m) else pgA ε m:=by
 induction I with
 | nil ε=>intro h _ _ _; exact ⟨h,rfl,fun m=>by rw [ai (by simp)]⟩
 | gU n l ε e b ε' I he =>
  intro h h3 hn hl
  have:=hl n ct
  exact absurd ((I.ec h).2.2.1 this.1 this.2).1 he
 | bad n l ε b0 b ε' I hb he =>
  intro h h3 hn hl
  exact absurd ((I.put (b:=b) (aP:=aP) h3).2.2 (hn.look hb).1) he
 | put n l ε b0 b ε' e kF I hb he ht ih =>
  intro h h3 hn hl
  have OF:=hl n ct
  obtain ⟨k1,k2,k3,k4⟩:=I.ec h
  obtain ⟨i,f,p1,p2,p3,p4,p5⟩:=I.at h3.pins
  have hg:=hn.look hb
  have e1:=AM (aP:=aP) p1 p2 p3 hg.1
  obtain ⟨q1,q2⟩:=k1.put (aP:=aP) p1 p2 hg.1 hg.2 OF.1 OF.2
  have NR:=(I.put (b:=b) (aP:=aP) h3).1
  rw [e1] at ih NR
  obtain ⟨i1,i2,i3⟩:=ih q1 NR hn fun m hm=>hl m (cr _ hm)
  refine ⟨i1,i2,fun m => ?_⟩
  rw [i3,q2]
  by_cases hm:m=n
  ·subst hm
   rw [ax rfl,ax (ct)]
   split
   ·rw [hb]
   ·rw [hb]
  ·rw [ai hm,k2]
   by_cases J:m∈l
   ·rw [ax J,ax (cr _ J)]
   ·rw [ai J,ai (by simp [hm,J])]
structure EL (K:Nat)(x:LD): Prop where
 log:x.1.b=x.2.log
 cert:x.1.forced≤x.2.eu
 size:x.1.base+x.1.b.length≤K
theorem EL.force {K:Nat}{x:LD}{n:Nat}(h:EL K x): EL K (bT x n).2:=by
 unfold bT Dk.gn
 split
 ·exact h
 ·by_cases hd:x.2.dead=true
  ·rw [ax hd,ax (show (9:Int)≠0 by decide)]; exact h
  ·rw [ai hd]
   by_cases I:x.2.bS=0
   ·rw [ax I,ax (show (9:Int)≠0 by decide)]; exact ⟨h.log,h.cert,h.size⟩
   ·rw [ai I,ai (show ¬(0:Int)≠0 by decide)]; exact ⟨h.log,by show x.1.b.length≤x.2.log.length; rw [h.log]; exact aD _,h.size⟩
theorem EL.write {K:Nat}{x:LD}{n:Int}{b:List Nat}(h:EL K x): EL K (x.1,(x.2.cU n b).2):=by
 unfold Dk.cU
 split
 ·exact h
 ·split
  ·exact h
  ·split <;> exact ⟨h.log,h.cert,h.size⟩
theorem tS (K:Nat): kL (EL K):=⟨fun _ _ h=>h.force,fun _ _ _ h=>h.write⟩
theorem k9.el {K:Nat}{ε ε':aF}{n e:Int}{b:List Nat}(I:k9 ε n e b ε')(h:EL K ε.2): EL K ε'.2:=(tS K).rd I h
theorem nj.el {K:Nat}{ε ε':aF}{now:List (Int×List Nat)}{bL:Bool}{n e:Int}{b:List Nat}(I:nj ε now bL n e b ε')(h:EL K ε.2): EL K ε'.2:=(tS K).wm I h
theorem rF.el {K:Nat}{ε ε':aF}{now bI:List (Int×List Nat)}{bL:Bool}{n e:Int}{b:List Nat}(I:rF ε now bL n b e bI ε')(h:EL K ε.2): EL K ε'.2:=(tS K).KS I h
theorem jN.el {K:Nat}{now:List (Int×List Nat)}{l:List Int}{ε ε':aF}{e:Int}{cs:List dr}(I:jN now l ε e cs ε')(h:EL K ε.2): EL K ε'.2:=(tS K).ch I h
theorem o8.el {K:Nat}{now:List (Int×List Nat)}{aP:Nat}{l:List Int}{ε ε':aF}{e:Int}(I:o8 now aP l ε e ε')(h:EL K ε.2): EL K ε'.2:=(tS K).pt I h
structure EI (N B:Nat)(ε:aF): Prop where
 ok:iT ε
 ec:EC N ε
 el:EL (B*1048600) ε.2
 cA:cA ε≤B*65536
theorem EI.more {N B:Nat}{ε:aF}(h:EI N B ε){I:Nat}(J:B≤I): EI N I ε :=
 ⟨h.ok,h.ec,⟨h.el.log,h.el.cert,cg h.el.size (ql _ J)⟩,cg h.cA (ql _ J)⟩
theorem EI.rd {N B:Nat}{ε ε':aF}{n e:Int}{b:List Nat}(h:EI N B ε)(I:k9 ε n e b ε'): EI N B ε' :=
 ⟨I.mE h.ok,(I.ec h.ec h.ok.pins).1,I.el h.el,cg I.cA h.cA⟩
theorem EI.wm {N B:Nat}{ε ε':aF}{now:List (Int×List Nat)}{n e:Int}{b:List Nat}(h:EI N B ε)(I:nj ε now false n e b ε'): EI N B ε' :=
 ⟨I.mE h.ok,(I.ec h.ec h.ok.pins).1,I.el h.el,cg I.cA h.cA⟩
theorem EI.KS {N B:Nat}{ε ε':aF}{now bI:List (Int×List Nat)}{n e:Int}{b:List Nat}(h:EI N B ε)(I:rF ε now false n b e bI ε'): EI N B ε' :=
 ⟨I.mE h.ok,(I.ec h.ec h.ok.pins).1,I.el h.el,cg I.cA h.cA⟩
theorem EI.many {N B:Nat}{ε:aF}(h:EI N B ε): N≤65536:=by
 have:=h.ok.ok.dk.many
 rwa [h.ec.dk.bh] at this
theorem EI.app {N B:Nat}{ε:aF}{kd:Int}{tx pv nx:Nat}{data:List Nat}{c:List dr}(h:EI N B ε)(hB:B≤1000)(hg:dZ kd c=true):
  EI N (B+1) (ε.1,(bx ε.2 kd tx pv nx data c).2)∧(∀m,pgA (ε.1,(bx ε.2 kd tx pv nx data c).2) m=pgA ε m) ∧
  (((bx ε.2 kd tx pv nx data c).1.2=0∧bx ε.2 kd tx pv nx data c=((ε.2.1.base+ε.2.1.b.length,0),(ε.2.1.app (dB ε.2.1 kd tx pv nx data c),{ ε.2.2 with log:=ε.2.2.log++dB ε.2.1 kd tx pv nx data c }))) ∨
   (bx ε.2 kd tx pv nx data c).1.2=7∨((bx ε.2 kd tx pv nx data c).1.2=2∧1048576<(eD kd tx pv nx data c).length)):=by
 have hs:=h.el.size
 have I:=yt (kd:=kd) (tx:=tx) (pv:=pv) (nx:=nx) (data:=data) (c:=c) h.ok.ok.lg h.ok.ok.dk h.el.log (by omega)
 have wj:Am.cA (ε.1,(bx ε.2 kd tx pv nx data c).2)≤(B+1)*65536:=by
  have e:Am.cA (ε.1,(bx ε.2 kd tx pv nx data c).2)=Am.cA ε:=by simp only [Am.cA,I.2.2.2.2.2.1]
  rw [e]
  exact cg h.cA (ql _ (qA B))
 have eA:(bx ε.2 kd tx pv nx data c).2.1.base+(bx ε.2 kd tx pv nx data c).2.1.b.length≤(B+1)*1048600:=by
  have h1:=I.2.2.2.1
  have h2:=I.2.2.2.2.1
  omega
 have main:∀(hk:DK ε.2.2 (bx ε.2 kd tx pv nx data c).2.2) (hc:(bx ε.2 kd tx pv nx data c).2.1.forced≤(bx ε.2 kd tx pv nx data c).2.2.eu),EI N (B+1) (ε.1,(bx ε.2 kd tx pv nx data c).2)∧∀m,pgA (ε.1,(bx ε.2 kd tx pv nx data c).2) m=pgA ε m:=fun hk hc=>by
  obtain ⟨l1,l2⟩:=h.ec.log hk
  exact ⟨⟨⟨⟨h.ok.ok.pl,I.1,I.2.1⟩,h.ok.pins,h.ok.full⟩,l1,⟨I.2.2.1,hc,eA⟩,wj⟩,l2⟩
 rcases mc ε.2 kd tx pv nx data c with ⟨e,he,hc,J⟩ | ⟨hd,hf,J⟩ | ⟨_,_,hd,eS,hf,J⟩
 ·obtain ⟨m1,m2⟩:=main (by rw [J]; exact DK.refl _) (by rw [J]; exact h.el.cert)
  refine ⟨m1,m2,.inr ?_⟩
  rw [J]
  rcases hc with ⟨_,hb⟩ | ⟨rfl,hb⟩ | ⟨_,hb⟩ | ⟨rfl,hb⟩
  ·rw [hg] at hb; cases hb
  ·exact .inr ⟨rfl,hb⟩
  ·rw [h.ec.dk.alive] at hb; cases hb
  ·exact .inl rfl
 ·have:=h.ec.dk.bS; omega
 ·rw [Ep h.ec.dk.bS] at J
  obtain ⟨m1,m2⟩:=main (by rw [J]; exact ⟨rfl,rfl,rfl,rfl⟩) (by rw [J]; exact h.el.cert)
  exact ⟨m1,m2,.inl ⟨by rw [J],J⟩⟩
theorem EI.done {N B:Nat}{ε ε':aF}{now:List (Int×List Nat)}{kd:Int}{tx pv nx aP:Nat}{data:List Nat}{e:Int}{cl:Bool}(h:EI N B ε)(hB:B≤1000)(hn:NW N now)(h1:1≤kd)(h2:kd≤7)(hr:wk ε now kd tx pv nx data 0 aP e cl ε'):
  (cl=false∧(e=7∨e=2)∧EI N (B+2) ε'∧∀m,pgA ε' m=pgA ε m) ∨
  (cl=true∧e=0∧EI N (B+2) ε'∧∀m,pgA ε' m=match lookL m now with | some b=>cX b aP | none=>pgA ε m):=by
 have I:∀n∈ei now,0≤n∧n<N:=fun n hq=>hn.keys n (o7.1 hq)
 have hN:=h.many
 have eS:∀ {c:List dr} {ε':aF} {e:Int},jN now (ei now) ε e c ε'→dZ kd c=true:=fun J=>by
  refine Em ⟨h1,by omega⟩ (J.fit (fun x hx=>g9 (hn.good x hx).1) fun n hq => ?_)
  have:=I n hq
  omega
 cases hr with
 | arg hq=>omega
 | dead _ _ _ hd=>rw [h.ec.dk.alive] at hd; cases hd
 | o5 e c ε' _ _ _ hd J he=>exact absurd (J.ec h.ec h.ok I).2.2 he
 | app c ε' _ _ _ hd J he =>
  obtain ⟨c1,c2,c3⟩:=J.ec h.ec h.ok I
  have hi:EI N B ε':=⟨J.mE h.ok,c1,J.el h.el,cg J.cA h.cA⟩
  obtain ⟨a1,a2,a3⟩:=hi.app (kd:=kd) (tx:=tx) (pv:=pv) (nx:=nx) (data:=data) (c:=c) hB (eS J)
  refine .inl ⟨rfl,?_,a1.more (by omega),fun m=>by rw [a2,c2]⟩
  rcases a3 with a3 | a3 | a3
  ·exact absurd a3.1 he
  ·exact .inl a3
  ·exact .inr a3.1
 | put c ε' e kF _ _ _ hd J ha hp =>
  obtain ⟨c1,c2,c3⟩:=J.ec h.ec h.ok I
  have hi:EI N B ε':=⟨J.mE h.ok,c1,J.el h.el,cg J.cA h.cA⟩
  obtain ⟨a1,a2,a3⟩:=hi.app (kd:=kd) (tx:=tx) (pv:=pv) (nx:=nx) (data:=data) (c:=c) hB (eS J)
  obtain ⟨p1,p2,p3⟩:=hp.ec a1.ec a1.ok hn I
  have hl:(ei now).length≤N:=by
   have:=hn.len
   rw [ei,(fG _).length_eq,er]; exact this
  have UJ:=hp.cA a1.ok
  have ny:=a1.cA
  refine .inr ⟨rfl,p2,⟨hp.mE a1.ok,p1,?_,by omega⟩,fun m => ?_⟩
  ·have:=hp.el a1.el
   exact ⟨this.log,this.cert,cg this.size (ql _ (by omega))⟩
  ·rw [ax p2,p3]
   by_cases hm:m∈ei now
   ·rw [ax hm]
    cases hq:lookL m now with
    | some b=>rfl
    | none=>exact absurd (o7.1 hm) (nI.1 hq)
   ·rw [ai hm,a2,c2]
    have:lookL m now=none:=nI.2 fun hq=>hm (o7.2 hq)
    rw [this]
end Go.Proofs.YtefepnnfphdkpaaGreat.Am
