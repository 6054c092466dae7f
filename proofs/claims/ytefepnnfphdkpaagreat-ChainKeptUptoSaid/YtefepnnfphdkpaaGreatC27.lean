/- ChainKept: a part of its proof; conditions: its statement's. -/
import Derived.Test.YtefepnnfphdkpaaGreatC26
namespace Go.Proofs.YtefepnnfphdkpaaGreat.Am
open Go
section
variable {P:Program} {h:H} {S:List aq} {k:Nat}
theorem Ph (s:Sat h S){t e:TypeId}{z:V}(hu:P.underlying t=some (.slice e))(I:zeroT P e=some z)(J:bj P e=some k)(hl:z.cells.length=k)(h1:1≤k):
  ∃h',buildSliceV P h t 0 []=some (.sl h.next 0 0 (.exact 0),h')∧Sat h' (pt h.next (.cells 0 [] false)::S):=by
 refine ⟨newRow h [],?_,s.new _⟩
 simp only [buildSliceV,hu,J,I]
 rw [show (Nat.beq z.cells.length k&&Nat.ble (0*k) 65536&&Nat.ble 1 k)=true by rw [hl,c_,aE.2 (by omega),aE.2 h1]; rfl,af]
 simp only [repeatL,fillV,iR,af]
theorem Pj {id:Nat}(s:Sat h (pt id (.cells 0 [] false)::S)): Sat h (aR (.sl id 0 0 (.exact 0)) []::S) :=
 s.hU fun m r hm=>⟨by simp,.inr (.inl ⟨id,[],0,rfl,hm,rfl⟩)⟩
end
section
variable {told:cN} {h:H} {S:List aq} {X Y:aq} {r k q p bM a g bz:Nat} {op v x u wh di:V} {l b c7 data lS:List Nat} {μ:Lg} {δ:Dk}
end
section
variable {told:cN} {h:H} {S:List aq} {X Y:aq} {r k q p bM a g bz:Nat} {op v x u wh di:V} {l b c7 data lS:List Nat} {μ:Lg} {δ:Dk}
end
section
variable {told:cN} {h:H} {S:List aq} {X Y:aq} {r k q p bM a g bz:Nat} {op v x u wh di:V} {l b c7 data lS:List Nat} {μ:Lg} {δ:Dk}
end
section
variable {told:cN} {h:H} {S:List aq} {X Y:aq} {r k q p bM a g bz:Nat} {op v x u wh di:V} {l b c7 data lS:List Nat} {μ:Lg} {δ:Dk}
end
section
variable {told:cN} {h:H} {S:List aq} {X Y:aq} {r k q p bM a g bz:Nat} {op v x u wh di:V} {l b c7 data lS:List Nat} {now:List (Int×List Nat)} {bK:Bool} {ε:aF} {μ:Lg} {δ:Dk} {π:Pl}
end
section
variable {told:cN} {h:H} {S:List aq} {X Y:aq} {r k q p bM a g bz:Nat} {op v x u wh di:V} {l b c7 data lS:List Nat} {ε:aF}
end
section
variable {told:cN} {h:H} {S:List aq} {X:aq} {k:Nat} {v:V} {l:List Nat}
end
theorem H8 : ∀ {l:List Nat},(∀b∈l,b<256)→bytesOf (ofBytes l)=some l:=by
 intro l
 induction l with
 | nil=>intro _; rfl
 | cons b l J =>
  intro h
  have I:=J fun x hx=>h x (cj _ hx)
  have h2:=h b cz
  rw [ofBytes] at I
  simp only [ofBytes,cm,bytesOf,I,aj,vV,sI]
  omega
theorem DW {h:H}{v:V}{l:List Nat}(hv:View h v l): convV Tryz.prog h 28 9 v=some (.str l,h):=by
 obtain ⟨I,(⟨rfl | ⟨ea,rfl⟩,rfl⟩ | ⟨id,off,cap,n,cs,st,rfl,J,hl,ho,hc,_⟩)⟩:=hv
 ·simp only [convV,aG,qH,Tryz.underlying5]
 ·simp only [convV,aG,qH,Tryz.underlying5]
 ·have e:rdN h id off l.length=some (ofBytes l):=by rw [zH J hl ho,hc]
  simp only [convV,aG,qH,Tryz.underlying5,e,H8 I]
def NR (l:List Nat): List Nat:=if l.length≠512∨l=List.replicate 512 0 then [] else l.drop 12
section
variable {told:cN} {h:H} {S:List aq} {X:aq} {r k q p a g bz:Nat} {op v x:V} {l data:List Nat} {now:List (Int×List Nat)} {bK:Bool} {ε:aF}
end
structure DK (δ Tb:Dk): Prop where
 dead:Tb.dead=δ.dead
 bP:Tb.bP=δ.bP
 bg:Tb.bg=δ.bg
 now:Tb.now=δ.now
theorem DK.refl (δ:Dk): DK δ δ:=⟨rfl,rfl,rfl,rfl⟩
theorem DK.at {δ I:Dk}(h:DK δ I)(n:Int): I.at n=δ.at n:=by rw [Dk.at,Dk.at,h.now,h.bg]
structure DA (N:Nat)(δ:Dk): Prop where
 alive:δ.dead=false
 bP:δ.bP<0
 bg:δ.bg.length=N
 keys:∀k:Int,k∈δ.now.map (·.1)→0≤k∧k<N
 nodup:(δ.now.map (·.1)).Nodup
 good:∀n:Int,0≤n→n<N→gv (δ.at n)=0
theorem DA.of {N:Nat}{δ I:Dk}(h:DA N δ)(k:DK δ I): DA N I :=
 ⟨k.dead.trans h.alive,by rw [k.bP]; exact h.bP,by rw [k.bg]; exact h.bg,by rw [k.now]; exact h.keys,by rw [k.now]; exact h.nodup,fun n a b=>by rw [k.at]; exact h.good n a b⟩
theorem DX {δ:Dk}(h:δ.bP<0): δ.fZ=δ:=by
 have:(if 0<δ.bP then δ.bP-1 else δ.bP)=δ.bP:=ai (by omega)
 rw [Dk.fZ,this]
theorem Mu {N:Nat}{δ:Dk}(h:DA N δ): δ.f_=(0,{ δ with ey:=δ.log.length }):=by
 rw [Dk.f_,ai (by rw [h.alive]; decide),ai (by have:=h.bP; omega),DX h.bP]
theorem Ki {N:Nat}{x:LD}{n:Nat}(h:DA N x.2): (bR x n).1=0∧DK x.2 (bR x n).2.2:=by
 unfold bR
 split
 ·exact ⟨rfl,DK.refl _⟩
 ·rw [Mu h,ai (by simp)]
  exact ⟨rfl,rfl,rfl,rfl,rfl⟩
theorem Mv {N:Nat}{δ:Dk}{n:Int}{b:List Nat}(h:DA N δ)(h0:0≤n)(h1:n<N)(hb:b.length=512)(hc:gv b=0):
  (δ.cS n b).1=0∧DA N (δ.cS n b).2∧∀m,(δ.cS n b).2.at m=if n=m then b else δ.at m:=by
 have e:δ.cS n b=(0,δ.wr n b):=by
  rw [Dk.cS,ai (by rw [h.alive]; decide),ai (not_not_intro ⟨h0,by rw [h.bg]; exact h1,hb⟩),ai (by have:=h.bP; omega)]
 have I:(δ.wr n b).now=dg n b δ.now:=rfl
 have lU:(δ.wr n b).bg=δ.bg:=rfl
 have J:∀m,(δ.wr n b).at m=if n=m then b else δ.at m:=fun m=>by
  rw [Dk.at,Dk.at,I,lU,oF]
  by_cases hm:n=m
  ·rw [au hm,au hm]
  ·rw [ai hm,ai hm]
 have Kj:(δ.wr n b).bP=δ.bP:=by
  show δ.fZ.bP=δ.bP
  rw [DX h.bP]
 rw [e]
 refine ⟨rfl,⟨h.alive,by rw [Kj]; exact h.bP,h.bg,fun x hx => ?_,?_,fun m a c => ?_⟩,J⟩
 ·rw [I] at hx
  rcases qF.1 hx with rfl | hx
  ·exact ⟨h0,h1⟩
  ·exact h.keys x hx
 ·rw [I]; exact kq h.nodup
 ·rw [J]
  by_cases hm:n=m
  ·rw [au hm]; exact hc
  ·rw [ai hm]; exact h.good m a c
theorem xD {l m:List Nat}{a b:Nat}(J:a+m.length≤l.length)(h2:a+m.length≤b): (aZ l a m).drop b=l.drop b:=by
 have I:(l.take a).length=a:=by rw [e_]; omega
 rw [aZ,←eu,vU,gy (by rw [bD,I]; omega),cV,nP,bD,I]
 congr 1; omega
theorem Aj {l m:List Nat}{a i:Nat}(h:a+m.length≤l.length): (aZ l a m)[i]?=if a≤i∧i<a+m.length then m[i-a]? else l[i]?:=by
 have I:(l.take a).length=a:=by rw [e_]; omega
 rw [aZ]
 by_cases J:i<a
 ·rw [gx (by omega),ai (by omega),jj,au J]
 ·rw [iP (by omega),I]
  by_cases h2:i-a<m.length
  ·rw [gx h2,au (by omega)]
  ·rw [iP (by omega),ai (by omega),jk]
   congr 1; omega
theorem qP {l m:List Nat}{a z:Nat}(I:l.drop 12=m.drop 12)(J:12≤a): cP l a z=cP m a z:=by
 have e:∀l:List Nat,(l.take (a+z)).drop a=((l.drop 12).drop (a-12)).take z:=fun l=>by
  rw [nP,show 12+(a-12)=a by omega,pS]
  congr 1; omega
 rw [cP,cP,e,e,I]
theorem Ff {l m:List Nat}(I:l.drop 12=m.drop 12){low:Nat}: ∀(n i:Nat) (t:List Bool),cellsL l low n i t=cellsL m low n i t:=by
 intro n
 induction n with
 | zero=>intro i t; rfl
 | succ n J =>
  intro i t
  have e1:cM l i=cM m i:=qP I (by omega)
  have e2:gu l i=gu m i:=qP I (by omega)
  simp only [cellsL,e1,e2,J]
theorem H9 {l m:List Nat}(J:l.length=m.length)(I:l.drop 12=m.drop 12): bU l=bU m:=by
 have e1:jh l=jh m:=qP I (by omega)
 have e2:gr l=gr m:=qP I (by omega)
 have e3:l.getD 13 0=m.getD 13 0:=by
  have:∀l:List Nat,l[13]?=(l.drop 12)[1]?:=fun l=>by rw [jk]
  rw [er,er,this,this,I]
 simp only [bU,J,e1,e2,e3,Ff I]
theorem Kk : ∀(k n:Nat),leN (le k n)=n%256^k:=by
 intro k
 induction k with
 | zero=>intro n; rw [Nat.pow_zero,Nat.mod_one]; rfl
 | succ k I =>
  intro n
  rw [le,leN,I,sG,sE (256^k) 256,Nat.mod_mul]
theorem B6 {b:List Nat}{n:Nat}(J:b.length=512): (cZ b n).drop 12=b.drop 12∧(cZ b n).length=512∧(cZ b n).drop 4=(lW b n).drop 4∧cP (cZ b n) 0 4=vk 0 ((lW b n).drop 4)%4294967296:=by
 have h1:=tS (n:=n) J
 have h2:(cZ b n).length=512:=by rw [cZ,cH (by rw [dG]; omega),h1]
 have I:(cZ b n).drop 4=(lW b n).drop 4:=by rw [cZ]; exact xD (by rw [dG]; omega) (by rw [dG]; omega)
 have h4:(lW b n).drop 12=b.drop 12:=by rw [lW]; exact xD (by rw [dG]; omega) (by rw [dG]; omega)
 refine ⟨?_,h2,I,?_⟩
 ·have:=fb (List.drop 8) I
  rw [nP,nP] at this
  exact this.trans h4
 ·have e:(cZ b n).take 4=le 4 (vk 0 ((lW b n).drop 4)):=by
   rw [cZ,aZ,jT,cV,r7 (by rw [dG]; omega),dO (by rw [dG]; omega)]
  rw [cP,dJ,eS,e,Kk]
theorem Pk {b:List Nat}{n:Nat}(I:∀x∈b,x<256): ∀x∈lW b n,x<256:=BR I (HG _ _)
theorem Kl {b:List Nat}{n:Nat}(hg:bU b=true)(hb:∀x∈b,x<256): gv (cZ b n)=0∧bU (cZ b n)=true∧NR (cZ b n)=b.drop 12:=by
 have hl:=gQ hg
 obtain ⟨h1,h2,h3,h4⟩:=B6 (n:=n) hl
 have I:bU (cZ b n)=true:=by rw [H9 (h2.trans hl.symm) h1]; exact hg
 have hz:bU (List.replicate 512 0)=false:=by decide +kernel
 have J:cZ b n≠List.replicate 512 0:=fun e=>by rw [e,hz] at I; cases I
 have hc:vk 0 ((lW b n).drop 4)<4294967296:=xQ (by decide) fun x hx=>Pk hb x (gI hx)
 refine ⟨?_,I,?_⟩
 ·rw [gv,ai J,ai (by rw [I]; decide),ai]
  rw [h4,h3,jR hc]; exact not_not_intro rfl
 ·rw [NR,ai (by rintro (h | h); exact h h2; exact J h),h1]
def pgA (ε:aF)(n:Int): List Nat:=match lookL n ε.1.br with
 | some i=>match ε.1.ah[i.toNat]? with
  | some f=>f.b
  | none=>ε.2.2.at n
 | none=>ε.2.2.at n
structure Mw (N:Nat)(δ:Dk)(br:List (Int×Int))(i:Nat)(f:Fm): Prop where
 lt:f.bf<N
 here:lookL f.bf br=some (i:Int)
 bz:gv f.b=0
 same:f.changed=false→f.b=δ.at f.bf
 oK:f.changed=true→bU f.b=true
structure EC (N:Nat)(ε:aF): Prop where
 dk:DA N ε.2.2
 nodup:(ε.1.br.map (·.1)).Nodup
 lq:∀(n i:Int),lookL n ε.1.br=some i→0≤n∧∃(j:Nat) (f:Fm),i=j∧ε.1.ah[j]?=some f∧f.bf=n
 back:∀(i:Nat) (f:Fm),ε.1.ah[i]?=some f→f.bf<0∨Mw N ε.2.2 ε.1.br i f
 ya:∀k:Int,k∈ε.1.b_.map (·.1)→0≤k∧k<N
 DY:(ε.1.b_.map (·.1)).Nodup
theorem mw {ε:aF}{n:Int}{j:Nat}{f:Fm}(h:lookL n ε.1.br=some (j:Int))(I:ε.1.ah[j]?=some f): pgA ε n=f.b:=by
 simp only [pgA,h,ck,I]
theorem lu {ε:aF}{n:Int}(h:lookL n ε.1.br=none): pgA ε n=ε.2.2.at n:=by simp only [pgA,h]
theorem EC.cases {N:Nat}{ε:aF}(h:EC N ε)(n:Int): (∃(j:Nat) (f:Fm),lookL n ε.1.br=some (j:Int)∧ε.1.ah[j]?=some f∧f.bf=n∧0≤n∧Mw N ε.2.2 ε.1.br j f∧pgA ε n=f.b)∨(lookL n ε.1.br=none∧pgA ε n=ε.2.2.at n):=by
 cases I:lookL n ε.1.br with
 | none=>exact .inr ⟨rfl,lu I⟩
 | some i =>
  obtain ⟨h0,j,f,rfl,J,hp⟩:=h.lq n i I
  refine .inl ⟨j,f,rfl,J,hp,h0,?_,mw I J⟩
  rcases h.back j f J with h1 | h1
  ·omega
  ·exact h1
theorem rQ {m:List Fm}{i j:Nat}{f g x:Fm}(hf:m[i]?=some f)(J:(m.set i g)[j]?=some x): (i=j∧x=g)∨(i≠j∧m[j]?=some x):=by
 by_cases I:i=j
 ·subst I
  rw [gH (List.getElem?_eq_some_iff.1 hf).1] at J
  exact .inl ⟨rfl,(bI J).symm⟩
 ·rw [fT I] at J
  exact .inr ⟨I,J⟩
theorem EC.set {N:Nat}{ε:aF}{i:Nat}{f g:Fm}{y:Lg}{δ:Dk}{d:List (Int×(Nat×Bool))}(h:EC N ε)(hf:ε.1.ah[i]?=some f)(hp:g.bf=f.bf)(DI:DA N δ)
 (hg:g.bf<0∨Mw N δ ε.1.br i g)(ho:∀(j:Nat) (x:Fm),i≠j→ε.1.ah[j]?=some x→0≤x.bf→δ.at x.bf=ε.2.2.at x.bf)(hd:∀k:Int,k∈d.map (·.1)→0≤k∧k<N)(RE:(d.map (·.1)).Nodup):
  EC N ({ ε.1 with ah:=ε.1.ah.set i g,b_:=d },(y,δ)):=by
 have hi:=(List.getElem?_eq_some_iff.1 hf).1
 refine ⟨DI,h.nodup,fun n k hk => ?_,fun j x J => ?_,hd,RE⟩
 ·obtain ⟨h0,j,x,rfl,J,vE⟩:=h.lq n k hk
  refine ⟨h0,j,?_⟩
  by_cases I:i=j
  ·subst I
   rw [hf] at J
   have:=bI J
   subst this
   exact ⟨g,rfl,gH hi,hp.trans vE⟩
  ·exact ⟨x,rfl,by show (ε.1.ah.set i g)[j]?=some x; rw [fT I]; exact J,vE⟩
 ·rcases rQ hf J with ⟨rfl,rfl⟩ | ⟨I,J⟩
  ·exact hg
  ·rcases h.back j x J with h1 | h1
   ·exact .inl h1
   ·by_cases h2:x.bf<0
    ·exact .inl h2
    ·refine .inr ⟨h1.lt,h1.here,h1.bz,fun hc => ?_,h1.oK⟩
     rw [ho j x I J (by omega)]; exact h1.same hc
theorem Gn {ε:aF}{i:Nat}{f g:Fm}{x:LD}{d:List (Int×(Nat×Bool))}(hf:ε.1.ah[i]?=some f)(hb:g.b=f.b){n:Int}(hx:lookL n ε.1.br=none→x.2.at n=ε.2.2.at n)(hy:∀j:Int,lookL n ε.1.br=some j→∃f',ε.1.ah[j.toNat]?=some f'):
  pgA ({ ε.1 with ah:=ε.1.ah.set i g,b_:=d },x) n=pgA ε n:=by
 unfold pgA
 simp only
 cases hl:lookL n ε.1.br with
 | none=>exact hx hl
 | some j =>
  simp only
  obtain ⟨f',J⟩:=hy j hl
  by_cases I:i=j.toNat
  ·subst I
   rw [gH (List.getElem?_eq_some_iff.1 hf).1,hf]
   exact hb
  ·rw [fT I,J]
theorem EC.there {N:Nat}{ε:aF}(h:EC N ε){n:Int}: ∀j:Int,lookL n ε.1.br=some j→∃f',ε.1.ah[j.toNat]?=some f':=fun j I=>by
 obtain ⟨_,k,f,rfl,J,_⟩:=h.lq n j I
 exact ⟨f,by rw [ck]; exact J⟩
theorem EC.out {N:Nat}{ε:aF}{i:Nat}{f:Fm}(h:EC N ε)(I:ε.1.ah[i]?=some f):
  (outF ε i).1=0∧EC N (outF ε i).2∧(∀n,pgA (outF ε i).2 n=pgA ε n)∧(outF ε i).2.1.br=ε.1.br∧∃g,(outF ε i).2.1.ah[i]?=some g∧g.bf=f.bf∧(0≤g.bf→g.changed=false):=by
 have hi:=(List.getElem?_eq_some_iff.1 I).1
 unfold outF
 rw [I]
 simp only
 by_cases hc:f.bf<0∨f.changed=false
 ·rw [au hc]
  exact ⟨rfl,h,fun n=>rfl,rfl,f,I,rfl,fun h0=>hc.resolve_left (by omega)⟩
 ·rw [ai hc]
  have J:0≤f.bf:=by omega
  have oW:f.changed=true:=by cases hq:f.changed <;> simp [hq] at hc ⊢
  have ho:=(h.back i f I).resolve_left (by omega)
  have hg:=ho.oK oW
  rw [ai (by rw [hg]; decide)]
  obtain ⟨e1,k1⟩:=Ki (x:=ε.2) (n:=cP f.b 4 8) h.dk
  rw [ai (by rw [e1]; decide)]
  obtain ⟨e2,k2,k3⟩:=Mv (h.dk.of k1) J ho.lt (gQ hg) ho.bz
  rw [ai (by rw [e2]; decide)]
  have xA:∀m,f.bf≠m→((bR ε.2 (cP f.b 4 8)).2.2.cS f.bf f.b).2.at m=ε.2.2.at m:=fun m hm=>by rw [k3,ai hm,k1.at]
  refine ⟨rfl,h.set I rfl k2 (.inr ⟨ho.lt,ho.here,ho.bz,fun _ => ?_,fun hq=>(by cases hq)⟩) (fun j x w_ hx h0=>xA _ fun DZ => ?_) (fun k hk => ?_) (kq h.DY),fun n => ?_,rfl,_,gH hi,rfl,fun _=>rfl⟩
  ·simp only; rw [k3,au rfl]
  ·rcases h.back j x hx with h1 | h1
   ·omega
   ·have:=h1.here
    rw [←DZ,ho.here] at this
    have:=bI this
    omega
  ·rcases qF.1 hk with rfl | hk
   ·exact ⟨J,ho.lt⟩
   ·exact h.ya k hk
  ·exact Gn I (by rfl) (fun hn=>xA n fun e=>by rw [←e,ho.here] at hn; cases hn) h.there
theorem eN.back {π I:Pl}(J:eN π I){i:Nat}{x:Fm}(hx:I.ah[i]?=some x): ∃f t,π.ah[i]?=some f∧x={ f with dK:=t }:=by
 have hi:=(List.getElem?_eq_some_iff.1 hx).1
 rw [J.len] at hi
 have hf:π.ah[i]?=some (π.ah[i]'hi):=aN _
 obtain ⟨t,ht⟩:=J.get i _ hf
 rw [hx] at ht
 exact ⟨_,t,hf,bI ht⟩
theorem EC.om {N:Nat}{ε:aF}{J:Pl}(h:EC N ε)(I:eN ε.1 J): EC N (J,ε.2)∧∀n,pgA (J,ε.2) n=pgA ε n:=by
 refine ⟨⟨h.dk,by rw [I.br]; exact h.nodup,fun n i hi => ?_,fun i x hx => ?_,by rw [I.b_]; exact h.ya,by rw [I.b_]; exact h.DY⟩,fun n => ?_⟩
 ·rw [I.br] at hi
  obtain ⟨h0,j,f,rfl,hf,hp⟩:=h.lq n i hi
  obtain ⟨t,ht⟩:=I.get j f hf
  exact ⟨h0,j,_,rfl,ht,hp⟩
 ·obtain ⟨f,t,hf,rfl⟩:=I.back hx
  rcases h.back i f hf with h1 | h1
  ·exact .inl h1
  ·exact .inr ⟨h1.lt,by rw [I.br]; exact h1.here,h1.bz,h1.same,h1.oK⟩
 ·unfold pgA
  simp only [I.br]
  cases hl:lookL n ε.1.br with
  | none=>rfl
  | some i =>
   obtain ⟨h0,j,f,rfl,hf,hp⟩:=h.lq n i hl
   obtain ⟨t,ht⟩:=I.get j f hf
   simp only [ck,ht,hf]
theorem EC.cK {N:Nat}{ε:aF}{i:Nat}{f g:Fm}(h:EC N ε)(hg:ε.1.ah[i]?=some g)(hp:g.bf=f.bf)(hc:0≤g.bf→g.changed=false): EC N (cK ε.1 i f,ε.2)∧(∀n,pgA (cK ε.1 i f,ε.2) n=pgA ε n) ∧
  (cK ε.1 i f).ah[i]?=some dH∧∀n,lookL n ε.1.br=none→lookL n (cK ε.1 i f).br=none:=by
 have hi:=(List.getElem?_eq_some_iff.1 hg).1
 have Tc:(ε.1.ah.set i dH)[i]?=some dH:=gH hi
 have I:∀n,lookL n (Am.cK ε.1 i f).br=if 0≤f.bf∧f.bf=n then none else lookL n ε.1.br:=fun n=>by
  rw [Am.cK]
  by_cases h0:f.bf<0
  ·rw [au h0,ai (by omega)]
  ·rw [ai h0,BV h.nodup]
   by_cases hn:f.bf=n
   ·rw [au hn,au ⟨by omega,hn⟩]
   ·rw [ai hn,ai (by omega)]
 refine ⟨⟨h.dk,?_,fun n k hk => ?_,fun j x J => ?_,h.ya,h.DY⟩,fun n => ?_,Tc,fun n hn => ?_⟩
 ·rw [Am.cK]
  by_cases h0:f.bf<0
  ·rw [au h0]; exact h.nodup
  ·rw [ai h0]; exact tQ h.nodup
 ·rw [I] at hk
  split at hk
  ·cases hk
  ·rename_i dh
   obtain ⟨h0,j,x,rfl,J,vE⟩:=h.lq n k hk
   refine ⟨h0,j,x,rfl,?_,vE⟩
   show (ε.1.ah.set i dH)[j]?=some x
   rw [fT]
   ·exact J
   ·rintro rfl
    rw [hg] at J
    have:=bI J
    subst this
    omega
 ·rcases rQ hg J with ⟨rfl,rfl⟩ | ⟨w_,J⟩
  ·exact .inl (by decide)
  ·rcases h.back j x J with h1 | h1
   ·exact .inl h1
   ·by_cases Xj:x.bf<0
    ·exact .inl Xj
    refine .inr ⟨h1.lt,?_,h1.bz,h1.same,h1.oK⟩
    rw [I,ai]
    ·exact h1.here
    ·rintro ⟨h0,DZ⟩
     rcases h.back i g hg with h2 | h2
     ·omega
     ·have e:=h2.here
      rw [hp,DZ,h1.here] at e
      have:=bI e
      omega
 ·rcases h.cases n with ⟨j,x,hl,J,vE,h0,ho,e⟩ | ⟨hl,e⟩
  ·rw [e]
   by_cases DZ:f.bf=n
   ·have w_:i=j:=by
     rcases h.back i g hg with h2 | h2
     ·omega
     ·have e:=h2.here
      rw [hp,DZ,hl] at e
      have:=bI e
      omega
    subst w_
    rw [hg] at J
    have:=bI J
    subst this
    rw [lu (by rw [I,au ⟨by omega,DZ⟩])]
    rw [ho.same (hc (by omega)),hp,DZ]
   ·refine mw (j:=j) (by rw [I,ai (by omega)]; exact hl) ?_
    show (ε.1.ah.set i dH)[j]?=some x
    rw [fT]
    ·exact J
    ·rintro rfl
     rw [hg] at J
     have:=bI J
     subst this
     omega
  ·rw [e,lu (by rw [I]; split; rfl; exact hl)]
 ·rw [I]; split; rfl; exact hn
theorem EC.ic {N:Nat}{ε:aF}{i:Nat}{e:Fm}{n:Int}(h:EC N ε)(he:ε.1.ah[i]?=some e)(hp:e.bf<0)(hl:lookL n ε.1.br=none)(h0:0≤n)(h1:n<N): EC N (ic ε.1 i n (ε.2.2.at n),ε.2)∧∀m,pgA (ic ε.1 i n (ε.2.2.at n),ε.2) m=pgA ε m:=by
 have hi:=(List.getElem?_eq_some_iff.1 he).1
 have J:(ε.1.ah.set i ⟨n,ε.2.2.at n,1,true,false⟩)[i]?=some ⟨n,ε.2.2.at n,1,true,false⟩:=gH hi
 have I:∀m,lookL m (Am.ic ε.1 i n (ε.2.2.at n)).br=if n=m then some (i:Int) else lookL m ε.1.br:=fun m=>oF _
 refine ⟨⟨h.dk,kq h.nodup,fun m k hk => ?_,fun j x hx => ?_,h.ya,h.DY⟩,fun m => ?_⟩
 ·rw [I] at hk
  split at hk
  ·rename_i Km
   have:=bI hk
   subst this
   subst Km
   exact ⟨h0,i,_,rfl,J,rfl⟩
  ·rename_i dh
   obtain ⟨h0,j,x,rfl,hx,vE⟩:=h.lq m k hk
   refine ⟨h0,j,x,rfl,?_,vE⟩
   show (ε.1.ah.set i _)[j]?=some x
   rw [fT]
   ·exact hx
   ·rintro rfl
    rw [he] at hx
    have:=bI hx
    subst this
    omega
 ·rcases rQ he hx with ⟨rfl,rfl⟩ | ⟨w_,hx⟩
  ·exact .inr ⟨h1,by rw [I,au rfl],h.dk.good n h0 h1,fun _=>rfl,fun hq=>(by cases hq)⟩
  ·rcases h.back j x hx with h2 | h2
   ·exact .inl h2
   ·refine .inr ⟨h2.lt,?_,h2.bz,h2.same,h2.oK⟩
    rw [I,ai]
    ·exact h2.here
    ·rintro rfl
     rw [h2.here] at hl; cases hl
 ·by_cases Km:n=m
  ·subst Km
   rw [mw (j:=i) (by rw [I,au rfl]) J,lu hl]
  ·rcases h.cases m with ⟨j,x,jy,hx,vE,_,ho,e2⟩ | ⟨jy,e2⟩
   ·rw [e2]
    refine mw (j:=j) (by rw [I,ai Km]; exact jy) ?_
    show (ε.1.ah.set i _)[j]?=some x
    rw [fT]
    ·exact hx
    ·rintro rfl
     rw [he] at hx
     have:=bI hx
     subst this
     omega
   ·rw [e2,lu (by rw [I,ai Km]; exact jy)]
theorem EC.frame {N:Nat}{ε:aF}{i:Nat}{f g:Fm}(h:EC N ε)(hf:ε.1.ah[i]?=some f)(J:g.bf=f.bf)(hb:g.b=f.b)(hc:g.changed=f.changed): EC N ({ ε.1 with ah:=ε.1.ah.set i g },ε.2)∧∀n,pgA ({ ε.1 with ah:=ε.1.ah.set i g },ε.2) n=pgA ε n:=by
 refine ⟨h.set (y:=ε.2.1) (δ:=ε.2.2) hf J h.dk ?_ (fun _ _ _ _ _=>rfl) h.ya h.DY,fun n=>Gn hf hb (fun _=>rfl) h.there⟩
 rcases h.back i f hf with I | I
 ·exact .inl (by omega)
 ·exact .inr ⟨by rw [J]; exact I.lt,by rw [J]; exact I.here,by rw [hb]; exact I.bz,by rw [J,hb,hc]; exact I.same,by rw [hb,hc]; exact I.oK⟩
theorem eO.ec {N:Nat}{ε ε':aF}{n e:Int}{b:List Nat}(hr:eO ε n e b ε')(h:EC N ε): EC N ε'∧(∀m,pgA ε' m=pgA ε m)∧(0≤n→n<N→e=0∧b=pgA ε n)∧(¬(0≤n∧n<N)→e=1∧ε'=ε):=by
 have lU:=h.dk.bg
 cases hr with
 | arg I=>rw [lU] at I; exact ⟨h,fun _=>rfl,fun a b=>absurd ⟨a,b⟩ I,fun _=>⟨rfl,rfl⟩⟩
 | Ab i f h1 J hl hf =>
  rw [lU] at J
  obtain ⟨k1,k2⟩:=h.frame (g:={ f with dK:=true,pins:=f.pins+1 }) hf rfl rfl rfl
  exact ⟨k1,k2,fun _ _=>⟨rfl,(mw hl hf).symm⟩,fun I=>absurd ⟨h1,J⟩ I⟩
 | out fB i f h1 J hl I hf hh he=>exact absurd ((h.om I).1.out hf).1 he
 | read fB i f h1 J hl I hf hh he hr =>
  obtain ⟨k1,k2,k3,k4,g,k5,k6,k7⟩:=(h.om I).1.out hf
  refine absurd ?_ hr
  rw [lU] at J
  rw [Dk.ow,ai (by rw [k2.dk.alive]; decide),ai (by rw [k2.dk.bg]; exact not_not_intro ⟨h1,J⟩)]
 | bad fB i f h1 J hl I hf hh he hr hc =>
  obtain ⟨k1,k2,k3,k4,g,k5,k6,k7⟩:=(h.om I).1.out hf
  rw [lU] at J
  exact absurd (k2.dk.good n h1 J) hc
 | load fB i f h1 J hl I hf hh he hr hc =>
  obtain ⟨n1,n2⟩:=h.om I
  obtain ⟨k1,k2,k3,k4,g,k5,k6,k7⟩:=n1.out hf
  rw [lU] at J
  obtain ⟨f1,f2,f3,f4⟩:=k2.cK k5 k6 k7
  have jy:lookL n (outF (fB,ε.2) i).2.1.br=none:=by rw [k4]; show lookL n fB.br=none; rw [I.br]; exact hl
  obtain ⟨l1,l2⟩:=f1.ic f3 (by decide) (f4 n jy) h1 J
  exact ⟨l1,fun m=>by rw [l2,f2,k3,n2],fun _ _=>⟨rfl,by rw [←n2,←k3,lu jy]⟩,fun I=>absurd ⟨h1,J⟩ I⟩
theorem Kn {N:Nat}{π:Pl}{x:LD}{n:Int}(h:EC N (π,x)): EC N ((unpinF π n).2,x)∧∀m,pgA ((unpinF π n).2,x) m=pgA (π,x) m:=by
 unfold unpinF
 split
 ·exact ⟨h,fun _=>rfl⟩
 ·split
  ·exact ⟨h,fun _=>rfl⟩
  ·rename_i i hi f I
   exact h.frame (g:={ f with pins:=f.pins-1 }) I rfl rfl rfl
theorem kK.ec {N:Nat}{ε ε':aF}{n e:Int}{b:List Nat}(I:kK ε n e b ε')(h:EC N ε)(hp:∀f∈ε.1.ah,f.pins=0): EC N ε'∧(∀m,pgA ε' m=pgA ε m)∧(0≤n→n<N→e=0∧b=pgA ε n)∧(¬(0≤n∧n<N)→e=1∧ε'=ε):=by
 cases I with
 | dead hd=>rw [h.dk.alive] at hd; cases hd
 | gG e b ε' hd I he =>
  obtain ⟨k1,k2,J,k4⟩:=I.ec h
  exact ⟨k1,k2,fun a b=>absurd (J a b).1 he,k4⟩
 | pK b ε' hd I he=>exact absurd (I.xX hp).1 he
 | read b ε' hd I he =>
  obtain ⟨k1,k2,J,k4⟩:=I.ec h
  obtain ⟨u1,u2⟩:=Kn (n:=n) k1
  refine ⟨u1,fun m=>by rw [u2]; exact k2 m,J,fun hn=>absurd (k4 hn).1 (by decide)⟩
theorem mS.ec {N:Nat}{ε ε':aF}{now:List (Int×List Nat)}{n e:Int}{b:List Nat}(hr:mS ε now false n e b ε')(h:EC N ε)(hp:∀f∈ε.1.ah,f.pins=0): EC N ε'∧(∀m,pgA ε' m=pgA ε m) ∧
  (0≤n→n<N→e=0∧b=(match lookL n now with | some b=>b | none=>pgA ε n))∧(¬(0≤n∧n<N)→e=1):=by
 have I:=h.dk.bg
 cases hr with
 | arg J=>rw [I] at J; exact ⟨h,fun _=>rfl,fun a b=>absurd ⟨a,b⟩ J,fun _=>rfl⟩
 | bK _ _ ho=>cases ho
 | own b h1 h2 _ hl=>rw [I] at h2; exact ⟨h,fun _=>rfl,fun _ _=>⟨rfl,by rw [hl]⟩,fun J=>absurd ⟨h1,h2⟩ J⟩
 | read e b ε' h1 h2 _ hl hr =>
  rw [I] at h2
  obtain ⟨k1,k2,k3,k4⟩:=hr.ec h hp
  exact ⟨k1,k2,fun a b=>by rw [hl]; exact k3 a b,fun J=>absurd ⟨h1,h2⟩ J⟩
theorem Ko : ∀(N:Nat) (l:List Int),l.Nodup→(∀n∈l,0≤n∧n<N)→l.length≤N:=by
 intro N
 induction N with
 | zero =>
  intro l _ h
  cases l with
  | nil=>exact aD _
  | cons n l=>have:=h n cz; omega
 | succ N J =>
  intro l hd h
  have h1:=J (l.erase (N:Int)) (hd.erase _) fun n hn=>by
   have I:=(hd.mem_erase_iff).1 hn
   have:=h n I.2
   have:=I.1
   omega
  have I:l.length≤(l.erase (N:Int)).length+1:=by
   rw [List.length_erase]; split <;> omega
  omega
structure NW (N:Nat)(now:List (Int×List Nat)): Prop where
 good:∀e∈now,bU e.2=true∧∀x∈e.2,x<256
 keys:∀k:Int,k∈now.map (·.1)→0≤k∧k<N
 nodup:(now.map (·.1)).Nodup
theorem NW.nil (N:Nat): NW N []:=⟨fun e h=>(by cases h),fun k h=>(by cases h),pU⟩
theorem H_ {α:Type}{n:Int}{a:α}: ∀ {l:List (Int×α)} {e:Int×α},e∈dg n a l→e=(n,a)∨e∈l:=by
 intro l
 induction l with
 | nil=>intro e h; simp only [dg,sq] at h; exact .inl h
 | cons x l I =>
  intro e h
  simp only [dg] at h
  split at h
  ·rcases List.mem_cons.1 h with h | h
   ·exact .inl h
   ·exact .inr (cj _ h)
  ·rcases List.mem_cons.1 h with h | h
   ·exact .inr (by rw [h]; exact cz)
   ·rcases I h with h | h
    ·exact .inl h
    ·exact .inr (cj _ h)
theorem NW.put {N:Nat}{now:List (Int×List Nat)}{n:Int}{b:List Nat}(h:NW N now)(J:0≤n)(h1:n<N)(hg:bU b=true)(hb:∀x∈b,x<256): NW N (dg n b now):=by
 refine ⟨fun e he => ?_,fun k I => ?_,kq h.nodup⟩
 ·rcases H_ he with rfl | he
  ·exact ⟨hg,hb⟩
  ·exact h.good e he
 ·rcases qF.1 I with rfl | I
  ·exact ⟨J,h1⟩
  ·exact h.keys k I
theorem NW.len {N:Nat}{now:List (Int×List Nat)}(h:NW N now): now.length≤N:=by
 have:=Ko N _ h.nodup h.keys
 rwa [ew] at this
theorem NW.look {N:Nat}{now:List (Int×List Nat)}(h:NW N now){n:Int}{b:List Nat}(I:lookL n now=some b): bU b=true∧∀x∈b,x<256:=h.good _ (ki I)
theorem qN.ec {N:Nat}{ε ε':aF}{now b6:List (Int×List Nat)}{n e:Int}{b:List Nat}(I:qN ε now false n b e b6 ε')(h:EC N ε)(hp:∀f∈ε.1.ah,f.pins=0): EC N ε'∧(∀m,pgA ε' m=pgA ε m) ∧
  (¬(0≤n∧n<N)→e=1∧b6=now)∧(0≤n→n<N→bU b=false→e=4∧b6=now)∧(0≤n→n<N→bU b=true→e=0∧b6=dg n b now):=by
 cases I with
 | may e c ε' I he =>
  obtain ⟨k1,k2,k3,J⟩:=I.ec h hp
  exact ⟨k1,k2,fun hn=>⟨J hn,rfl⟩,fun a b _=>absurd (k3 a b).1 he,fun a b _=>absurd (k3 a b).1 he⟩
 | bad c ε' I hg =>
  obtain ⟨k1,k2,k3,J⟩:=I.ec h hp
  exact ⟨k1,k2,fun hn=>absurd (J hn) (by decide),fun _ _ _=>⟨rfl,rfl⟩,fun _ _ hq=>by rw [hg] at hq; cases hq⟩
 | done c ε' I hg =>
  obtain ⟨k1,k2,k3,J⟩:=I.ec h hp
  exact ⟨k1,k2,fun hn=>absurd (J hn) (by decide),fun _ _ hq=>(by rw [hg] at hq; cases hq),fun _ _ _=>⟨rfl,rfl⟩⟩
theorem jA.ec {N:Nat}{now:List (Int×List Nat)}{l:List Int}{ε ε':aF}{e:Int}{cs:List dn}(I:jA now l ε e cs ε'): EC N ε→iJ ε→(∀n∈l,0≤n∧n<N)→EC N ε'∧(∀m,pgA ε' m=pgA ε m)∧e=0:=by
 induction I with
 | nil ε=>intro h _ _; exact ⟨h,fun _=>rfl,rfl⟩
 | err n l ε e b ε' I he =>
  intro h J hl
  obtain ⟨k1,k2,k3,k4⟩:=I.ec h J.pins
  have:=hl n cz
  exact absurd (k3 this.1 this.2).1 he
 | part n l ε c7 b ε' c e cs jg I hb hd hc jf ht ih =>
  intro h J hl
  obtain ⟨k1,k2,k3,k4⟩:=I.ec h J.pins
  obtain ⟨i1,i2,i3⟩:=ih k1 (I.l_ J) fun m hm=>hl m (cj _ hm)
  exact ⟨i1,fun m=>by rw [i2,k2],i3⟩
 | whole n l ε c7 b ε' e cs jg I hb hd ht ih =>
  intro h J hl
  obtain ⟨k1,k2,k3,k4⟩:=I.ec h J.pins
  obtain ⟨i1,i2,i3⟩:=ih k1 (I.l_ J) fun m hm=>hl m (cj _ hm)
  exact ⟨i1,fun m=>by rw [i2,k2],i3⟩
theorem EC.log {N:Nat}{ε:aF}{x:LD}(h:EC N ε)(k:DK ε.2.2 x.2): EC N (ε.1,x)∧∀m,pgA (ε.1,x) m=pgA ε m:=by
 refine ⟨⟨h.dk.of k,h.nodup,h.lq,fun i f J => ?_,h.ya,h.DY⟩,fun m => ?_⟩
 ·rcases h.back i f J with I | I
  ·exact .inl I
  ·exact .inr ⟨I.lt,I.here,I.bz,fun hc=>by rw [k.at]; exact I.same hc,I.oK⟩
 ·unfold pgA
  simp only [k.at]
theorem EC.put {N:Nat}{ε:aF}{n:Int}{i:Nat}{f:Fm}{b:List Nat}{aQ:Nat}(h:EC N ε)(hl:lookL n ε.1.br=some (i:Int))(hf:ε.1.ah[i]?=some f)(hg:bU b=true)(hb:∀x∈b,x<256)(h0:0≤n)(h1:n<N):
  EC N (x_ ε.1 n i f b aQ,ε.2)∧∀m,pgA (x_ ε.1 n i f b aQ,ε.2) m=if m=n then cZ b aQ else pgA ε m:=by
 obtain ⟨s1,s2,s3⟩:=Kl (n:=aQ) hg hb
 have hi:=(List.getElem?_eq_some_iff.1 hf).1
 have hp:f.bf=n:=by
  obtain ⟨_,j,x,w_,J,vE⟩:=h.lq n i hl
  have:i=j:=by omega
  subst this
  rw [hf] at J
  rw [bI J]; exact vE
 have ho:=(h.back i f hf).resolve_left (by omega)
 refine ⟨h.set (y:=ε.2.1) (δ:=ε.2.2) hf rfl h.dk (.inr ⟨ho.lt,ho.here,s1,fun hq=>(by cases hq),fun _=>s2⟩) (fun _ _ _ _ _=>rfl) (fun k hk => ?_) (kq h.DY),fun m => ?_⟩
 ·rcases qF.1 hk with rfl | hk
  ·exact ⟨h0,h1⟩
  ·exact h.ya k hk
 ·by_cases hm:m=n
  ·subst hm
   rw [au rfl]
   exact mw (ε:=(x_ ε.1 m i f b aQ,ε.2)) hl (gH hi)
  ·rw [ai hm]
   rcases h.cases m with ⟨j,x,I,J,vE,_,_,e2⟩ | ⟨I,e2⟩
   ·rw [e2]
    refine mw (ε:=(x_ ε.1 n i f b aQ,ε.2)) I ?_
    show (ε.1.ah.set i _)[j]?=some x
    rw [fT]
    ·exact J
    ·rintro rfl
     rw [hf] at J
     have:=bI J
     subst this
     omega
   ·rw [e2]
    exact lu (ε:=(x_ ε.1 n i f b aQ,ε.2)) I
theorem oM.ec {N:Nat}{now:List (Int×List Nat)}{aQ:Nat}{l:List Int}{ε ε':aF}{e:Int}(I:oM now aQ l ε e ε'): EC N ε→iJ ε→NW N now→(∀n∈l,0≤n∧n<N)→EC N ε'∧e=0 ∧
  ∀m,pgA ε' m=if m∈l then (match lookL m now with | some b=>cZ b aQ | none=>pgA ε m) else pgA ε m:=by
 induction I with
 | nil ε=>intro h _ _ _; exact ⟨h,rfl,fun m=>by rw [ai (by simp)]⟩
 | gG n l ε e b ε' I he =>
  intro h h3 hn hl
  have:=hl n cz
  exact absurd ((I.ec h).2.2.1 this.1 this.2).1 he
 | bad n l ε b0 b ε' I hb he =>
  intro h h3 hn hl
  exact absurd ((I.put (b:=b) (aQ:=aQ) h3).2.2 (hn.look hb).1) he
 | put n l ε b0 b ε' e jg I hb he ht ih =>
  intro h h3 hn hl
  have NS:=hl n cz
  obtain ⟨k1,k2,k3,k4⟩:=I.ec h
  obtain ⟨i,f,p1,p2,p3,p4,p5⟩:=I.at h3.pins
  have hg:=hn.look hb
  have e1:=Ai (aQ:=aQ) p1 p2 p3 hg.1
  obtain ⟨q1,q2⟩:=k1.put (aQ:=aQ) p1 p2 hg.1 hg.2 NS.1 NS.2
  have M9:=(I.put (b:=b) (aQ:=aQ) h3).1
  rw [e1] at ih M9
  obtain ⟨i1,i2,i3⟩:=ih q1 M9 hn fun m hm=>hl m (cj _ hm)
  refine ⟨i1,i2,fun m => ?_⟩
  rw [i3,q2]
  by_cases hm:m=n
  ·subst hm
   rw [au rfl,au (cz)]
   split
   ·rw [hb]
   ·rw [hb]
  ·rw [ai hm,k2]
   by_cases J:m∈l
   ·rw [au J,au (cj _ J)]
   ·rw [ai J,ai (by simp [hm,J])]
structure EL (K:Nat)(x:LD): Prop where
 log:x.1.b=x.2.log
 cert:x.1.forced≤x.2.ey
 size:x.1.base+x.1.b.length≤K
theorem EL.force {K:Nat}{x:LD}{n:Nat}(h:EL K x): EL K (bR x n).2:=by
 unfold bR Dk.f_
 split
 ·exact h
 ·by_cases hd:x.2.dead=true
  ·rw [au hd,au (show (9:Int)≠0 by decide)]; exact h
  ·rw [ai hd]
   by_cases I:x.2.bP=0
   ·rw [au I,au (show (9:Int)≠0 by decide)]; exact ⟨h.log,h.cert,h.size⟩
   ·rw [ai I,ai (show ¬(0:Int)≠0 by decide)]; exact ⟨h.log,by show x.1.b.length≤x.2.log.length; rw [h.log]; exact aD _,h.size⟩
theorem EL.write {K:Nat}{x:LD}{n:Int}{b:List Nat}(h:EL K x): EL K (x.1,(x.2.cS n b).2):=by
 unfold Dk.cS
 split
 ·exact h
 ·split
  ·exact h
  ·split <;> exact ⟨h.log,h.cert,h.size⟩
theorem tg (K:Nat): kr (EL K):=⟨fun _ _ h=>h.force,fun _ _ _ h=>h.write⟩
theorem kK.el {K:Nat}{ε ε':aF}{n e:Int}{b:List Nat}(I:kK ε n e b ε')(h:EL K ε.2): EL K ε'.2:=(tg K).rd I h
theorem mS.el {K:Nat}{ε ε':aF}{now:List (Int×List Nat)}{bK:Bool}{n e:Int}{b:List Nat}(I:mS ε now bK n e b ε')(h:EL K ε.2): EL K ε'.2:=(tg K).vD I h
theorem qN.el {K:Nat}{ε ε':aF}{now b6:List (Int×List Nat)}{bK:Bool}{n e:Int}{b:List Nat}(I:qN ε now bK n b e b6 ε')(h:EL K ε.2): EL K ε'.2:=(tg K).Kf I h
theorem jA.el {K:Nat}{now:List (Int×List Nat)}{l:List Int}{ε ε':aF}{e:Int}{cs:List dn}(I:jA now l ε e cs ε')(h:EL K ε.2): EL K ε'.2:=(tg K).ch I h
theorem oM.el {K:Nat}{now:List (Int×List Nat)}{aQ:Nat}{l:List Int}{ε ε':aF}{e:Int}(I:oM now aQ l ε e ε')(h:EL K ε.2): EL K ε'.2:=(tg K).pt I h
structure EI (N B:Nat)(ε:aF): Prop where
 ok:iJ ε
 ec:EC N ε
 el:EL (B*1048600) ε.2
 cy:cy ε≤B*65536
theorem EI.more {N B:Nat}{ε:aF}(h:EI N B ε){I:Nat}(J:B≤I): EI N I ε :=
 ⟨h.ok,h.ec,⟨h.el.log,h.el.cert,cn h.el.size (pM _ J)⟩,cn h.cy (pM _ J)⟩
theorem EI.rd {N B:Nat}{ε ε':aF}{n e:Int}{b:List Nat}(h:EI N B ε)(I:kK ε n e b ε'): EI N B ε' :=
 ⟨I.l_ h.ok,(I.ec h.ec h.ok.pins).1,I.el h.el,cn I.cy h.cy⟩
theorem EI.vD {N B:Nat}{ε ε':aF}{now:List (Int×List Nat)}{n e:Int}{b:List Nat}(h:EI N B ε)(I:mS ε now false n e b ε'): EI N B ε' :=
 ⟨I.l_ h.ok,(I.ec h.ec h.ok.pins).1,I.el h.el,cn I.cy h.cy⟩
theorem EI.Kf {N B:Nat}{ε ε':aF}{now b6:List (Int×List Nat)}{n e:Int}{b:List Nat}(h:EI N B ε)(I:qN ε now false n b e b6 ε'): EI N B ε' :=
 ⟨I.l_ h.ok,(I.ec h.ec h.ok.pins).1,I.el h.el,cn I.cy h.cy⟩
theorem EI.many {N B:Nat}{ε:aF}(h:EI N B ε): N≤65536:=by
 have:=h.ok.ok.dk.many
 rwa [h.ec.dk.bg] at this
theorem EI.app {N B:Nat}{ε:aF}{kd:Int}{tx pv nx:Nat}{data:List Nat}{c:List dn}(h:EI N B ε)(hB:B≤1000)(hg:dZ kd c=true):
  EI N (B+1) (ε.1,(bu ε.2 kd tx pv nx data c).2)∧(∀m,pgA (ε.1,(bu ε.2 kd tx pv nx data c).2) m=pgA ε m) ∧
  (((bu ε.2 kd tx pv nx data c).1.2=0∧bu ε.2 kd tx pv nx data c=((ε.2.1.base+ε.2.1.b.length,0),(ε.2.1.app (dz ε.2.1 kd tx pv nx data c),{ ε.2.2 with log:=ε.2.2.log++dz ε.2.1 kd tx pv nx data c }))) ∨
   (bu ε.2 kd tx pv nx data c).1.2=7∨((bu ε.2 kd tx pv nx data c).1.2=2∧1048576<(eE kd tx pv nx data c).length)):=by
 have hs:=h.el.size
 have I:=xC (kd:=kd) (tx:=tx) (pv:=pv) (nx:=nx) (data:=data) (c:=c) h.ok.ok.lg h.ok.ok.dk h.el.log (by omega)
 have vA:Am.cy (ε.1,(bu ε.2 kd tx pv nx data c).2)≤(B+1)*65536:=by
  have e:Am.cy (ε.1,(bu ε.2 kd tx pv nx data c).2)=Am.cy ε:=by simp only [Am.cy,I.2.2.2.2.2.1]
  rw [e]
  exact cn h.cy (pM _ (pY B))
 have eC:(bu ε.2 kd tx pv nx data c).2.1.base+(bu ε.2 kd tx pv nx data c).2.1.b.length≤(B+1)*1048600:=by
  have h1:=I.2.2.2.1
  have h2:=I.2.2.2.2.1
  omega
 have main:∀(hk:DK ε.2.2 (bu ε.2 kd tx pv nx data c).2.2) (hc:(bu ε.2 kd tx pv nx data c).2.1.forced≤(bu ε.2 kd tx pv nx data c).2.2.ey),EI N (B+1) (ε.1,(bu ε.2 kd tx pv nx data c).2)∧∀m,pgA (ε.1,(bu ε.2 kd tx pv nx data c).2) m=pgA ε m:=fun hk hc=>by
  obtain ⟨l1,l2⟩:=h.ec.log hk
  exact ⟨⟨⟨⟨h.ok.ok.pl,I.1,I.2.1⟩,h.ok.pins,h.ok.full⟩,l1,⟨I.2.2.1,hc,eC⟩,vA⟩,l2⟩
 rcases lR ε.2 kd tx pv nx data c with ⟨e,he,hc,J⟩ | ⟨hd,hf,J⟩ | ⟨_,_,hd,fg,hf,J⟩
 ·obtain ⟨m1,m2⟩:=main (by rw [J]; exact DK.refl _) (by rw [J]; exact h.el.cert)
  refine ⟨m1,m2,.inr ?_⟩
  rw [J]
  rcases hc with ⟨_,hb⟩ | ⟨rfl,hb⟩ | ⟨_,hb⟩ | ⟨rfl,hb⟩
  ·rw [hg] at hb; cases hb
  ·exact .inr ⟨rfl,hb⟩
  ·rw [h.ec.dk.alive] at hb; cases hb
  ·exact .inl rfl
 ·have:=h.ec.dk.bP; omega
 ·rw [DX h.ec.dk.bP] at J
  obtain ⟨m1,m2⟩:=main (by rw [J]; exact ⟨rfl,rfl,rfl,rfl⟩) (by rw [J]; exact h.el.cert)
  exact ⟨m1,m2,.inl ⟨by rw [J],J⟩⟩
theorem EI.done {N B:Nat}{ε ε':aF}{now:List (Int×List Nat)}{kd:Int}{tx pv nx aQ:Nat}{data:List Nat}{e:Int}{cl:Bool}(h:EI N B ε)(hB:B≤1000)(hn:NW N now)(h1:1≤kd)(h2:kd≤7)(hr:vC ε now kd tx pv nx data 0 aQ e cl ε'):
  (cl=false∧(e=7∨e=2)∧EI N (B+2) ε'∧∀m,pgA ε' m=pgA ε m) ∨
  (cl=true∧e=0∧EI N (B+2) ε'∧∀m,pgA ε' m=match lookL m now with | some b=>cZ b aQ | none=>pgA ε m):=by
 have I:∀n∈ei now,0≤n∧n<N:=fun n hq=>hn.keys n (oL.1 hq)
 have hN:=h.many
 have fg:∀ {c:List dn} {ε':aF} {e:Int},jA now (ei now) ε e c ε'→dZ kd c=true:=fun J=>by
  refine DS ⟨h1,by omega⟩ (J.fit (fun x hx=>gQ (hn.good x hx).1) fun n hq => ?_)
  have:=I n hq
  omega
 cases hr with
 | arg hq=>omega
 | dead _ _ _ hd=>rw [h.ec.dk.alive] at hd; cases hd
 | oK e c ε' _ _ _ hd J he=>exact absurd (J.ec h.ec h.ok I).2.2 he
 | app c ε' _ _ _ hd J he =>
  obtain ⟨c1,c2,c3⟩:=J.ec h.ec h.ok I
  have hi:EI N B ε':=⟨J.l_ h.ok,c1,J.el h.el,cn J.cy h.cy⟩
  obtain ⟨a1,a2,a3⟩:=hi.app (kd:=kd) (tx:=tx) (pv:=pv) (nx:=nx) (data:=data) (c:=c) hB (fg J)
  refine .inl ⟨rfl,?_,a1.more (by omega),fun m=>by rw [a2,c2]⟩
  rcases a3 with a3 | a3 | a3
  ·exact absurd a3.1 he
  ·exact .inl a3
  ·exact .inr a3.1
 | put c ε' e jg _ _ _ hd J ha hp =>
  obtain ⟨c1,c2,c3⟩:=J.ec h.ec h.ok I
  have hi:EI N B ε':=⟨J.l_ h.ok,c1,J.el h.el,cn J.cy h.cy⟩
  obtain ⟨a1,a2,a3⟩:=hi.app (kd:=kd) (tx:=tx) (pv:=pv) (nx:=nx) (data:=data) (c:=c) hB (fg J)
  obtain ⟨p1,p2,p3⟩:=hp.ec a1.ec a1.ok hn I
  have hl:(ei now).length≤N:=by
   have:=hn.len
   rw [ei,(fA _).length_eq,ew]; exact this
  have TQ:=hp.cy a1.ok
  have qu:=a1.cy
  refine .inr ⟨rfl,p2,⟨hp.l_ a1.ok,p1,?_,by omega⟩,fun m => ?_⟩
  ·have:=hp.el a1.el
   exact ⟨this.log,this.cert,cn this.size (pM _ (by omega))⟩
  ·rw [au p2,p3]
   by_cases hm:m∈ei now
   ·rw [au hm]
    cases hq:lookL m now with
    | some b=>rfl
    | none=>exact absurd (oL.1 hm) (nj.1 hq)
   ·rw [ai hm,a2,c2]
    have:lookL m now=none:=nj.2 fun hq=>hm (oL.2 hq)
    rw [this]
end Go.Proofs.YtefepnnfphdkpaaGreat.Am
