/- SpaceRoots: a part of its proof; conditions: its statement's. -/
import Derived.Test.YtefepnnfphdkpaaGreatF27
namespace Go.Proofs.YtefepnnfphdkpaaGreat.Am
open Go
section
variable {P:Program} {h:H} {S:List au} {k:Nat}
end
section
variable {told:cQ} {h:H} {S:List au} {X Y:au} {r k q p ct a g aH:Nat} {op v x u wh di:V} {l b cX data ob:List Nat} {μ:Lg} {δ:Dk}
end
section
variable {told:cQ} {h:H} {S:List au} {X Y:au} {r k q p ct a g aH:Nat} {op v x u wh di:V} {l b cX data ob:List Nat} {μ:Lg} {δ:Dk}
end
section
variable {told:cQ} {h:H} {S:List au} {X Y:au} {r k q p ct a g aH:Nat} {op v x u wh di:V} {l b cX data ob:List Nat} {μ:Lg} {δ:Dk}
end
section
variable {told:cQ} {h:H} {S:List au} {X Y:au} {r k q p ct a g aH:Nat} {op v x u wh di:V} {l b cX data ob:List Nat} {μ:Lg} {δ:Dk}
end
section
variable {told:cQ} {h:H} {S:List au} {X Y:au} {r k q p ct a g aH:Nat} {op v x u wh di:V} {l b cX data ob:List Nat} {now:List (Int×List Nat)} {b_:Bool} {ε:aI} {μ:Lg} {δ:Dk} {π:Pl}
end
section
variable {told:cQ} {h:H} {S:List au} {X Y:au} {r k q p ct a g aH:Nat} {op v x u wh di:V} {l b cX data ob:List Nat} {ε:aI}
end
theorem FQ : ∃i,Tryz.prog.info? 4=some i∧i.size=1∧i.bytes=1 :=
 ⟨_,(show Tryz.prog.info? 4=some ((Tryz.prog.info? 4).getD default) by kernel_rfl),by kernel_rfl,by kernel_rfl⟩
theorem U1 : ∀n:Nat,repeatL [V.bool false] n=fV (List.replicate n false):=by
 intro n
 induction n with
 | zero=>rfl
 | succ n I=>simp only [repeatL,I,fV,vN,b6]; rfl
section
variable {told:cQ} {h:H} {S:List au} {X:au} {k:Nat} {v:V} {l:List Nat}
end
theorem MG : ∀ {l:List Nat},(∀b∈l,b<256)→bytesOf (ofBytes l)=some l:=by
 intro l
 induction l with
 | nil=>intro _; rfl
 | cons b l J =>
  intro h
  have I:=J fun x hx=>h x (bn _ hx)
  have h2:=h b bu
  rw [ofBytes] at I
  simp only [ofBytes,b6,bytesOf,I,aq,vV,v7]
  omega
theorem Z_ {h:H}{v:V}{l:List Nat}(hv:View h v l): convV Tryz.prog h 28 9 v=some (.str l,h):=by
 obtain ⟨I,(⟨rfl | ⟨ea,rfl⟩,rfl⟩ | ⟨id,off,cap,n,cs,st,rfl,J,hl,ho,hc,_⟩)⟩:=hv
 ·simp only [convV,aG,wJ,Tryz.underlying5]
 ·simp only [convV,aG,wJ,Tryz.underlying5]
 ·have e:rdN h id off l.length=some (ofBytes l):=by rw [zB J hl ho,hc]
  simp only [convV,aG,wJ,Tryz.underlying5,e,MG I]
def TE (l:List Nat): List Nat:=if l.length≠512∨l=List.replicate 512 0 then [] else l.drop 12
section
variable {told:cQ} {h:H} {S:List au} {X:au} {r k q p a g aH:Nat} {op v x:V} {l data:List Nat} {now:List (Int×List Nat)} {b_:Bool} {ε:aI}
end
structure DK (δ Y1:Dk): Prop where
 dead:Y1.dead=δ.dead
 aP:Y1.aP=δ.aP
 ax:Y1.ax=δ.ax
 now:Y1.now=δ.now
theorem DK.refl (δ:Dk): DK δ δ:=⟨rfl,rfl,rfl,rfl⟩
theorem DK.at {δ I:Dk}(h:DK δ I)(n:Int): I.at n=δ.at n:=by rw [Dk.at,Dk.at,h.now,h.ax]
structure DA (N:Nat)(δ:Dk): Prop where
 alive:δ.dead=false
 aP:δ.aP<0
 ax:δ.ax.length=N
 keys:∀k:Int,k∈δ.now.map (·.1)→0≤k∧k<N
 nodup:(δ.now.map (·.1)).Nodup
 good:∀n:Int,0≤n→n<N→gr (δ.at n)=0
theorem DA.of {N:Nat}{δ I:Dk}(h:DA N δ)(k:DK δ I): DA N I :=
 ⟨k.dead.trans h.alive,by rw [k.aP]; exact h.aP,by rw [k.ax]; exact h.ax,by rw [k.now]; exact h.keys,by rw [k.now]; exact h.nodup,fun n a b=>by rw [k.at]; exact h.good n a b⟩
theorem j4 {δ:Dk}(h:δ.aP<0): δ.c8=δ:=by
 have:(if 0<δ.aP then δ.aP-1 else δ.aP)=δ.aP:=ah (by omega)
 rw [Dk.c8,this]
theorem RK {N:Nat}{δ:Dk}(h:DA N δ): δ.cK=(0,{ δ with bp:=δ.log.length }):=by
 rw [Dk.cK,ah (by rw [h.alive]; decide),ah (by have:=h.aP; omega),j4 h.aP]
theorem FR {N:Nat}{x:LD}{n:Nat}(h:DA N x.2): (bE x n).1=0∧DK x.2 (bE x n).2.2:=by
 unfold bE
 split
 ·exact ⟨rfl,DK.refl _⟩
 ·rw [RK h,ah (by simp)]
  exact ⟨rfl,rfl,rfl,rfl,rfl⟩
theorem RL {N:Nat}{δ:Dk}{n:Int}{b:List Nat}(h:DA N δ)(h0:0≤n)(h1:n<N)(hb:b.length=512)(hc:gr b=0):
  (δ.bK n b).1=0∧DA N (δ.bK n b).2∧∀m,(δ.bK n b).2.at m=if n=m then b else δ.at m:=by
 have e:δ.bK n b=(0,δ.wr n b):=by
  rw [Dk.bK,ah (by rw [h.alive]; decide),ah (not_not_intro ⟨h0,by rw [h.ax]; exact h1,hb⟩),ah (by have:=h.aP; omega)]
 have I:(δ.wr n b).now=cB n b δ.now:=rfl
 have kG:(δ.wr n b).ax=δ.ax:=rfl
 have J:∀m,(δ.wr n b).at m=if n=m then b else δ.at m:=fun m=>by
  rw [Dk.at,Dk.at,I,kG,gS]
  by_cases hm:n=m
  ·rw [aj hm,aj hm]
  ·rw [ah hm,ah hm]
 have Du:(δ.wr n b).aP=δ.aP:=by
  show δ.c8.aP=δ.aP
  rw [j4 h.aP]
 rw [e]
 refine ⟨rfl,⟨h.alive,by rw [Du]; exact h.aP,h.ax,fun x hx => ?_,?_,fun m a c => ?_⟩,J⟩
 ·rw [I] at hx
  rcases oQ.1 hx with rfl | hx
  ·exact ⟨h0,h1⟩
  ·exact h.keys x hx
 ·rw [I]; exact iL h.nodup
 ·rw [J]
  by_cases hm:n=m
  ·rw [aj hm]; exact hc
  ·rw [ah hm]; exact h.good m a c
theorem laidP_get : ∀ {l:List (Int×List Nat)} {m:List (Option (List Nat))} {n:Int} {N:Nat},m.length=N→(l.map (·.1)).Nodup→(∀k:Int,k∈l.map (·.1)→0≤k∧k<N)→0≤n→(laidP l m)[n.toNat]?=match lookL n l with
  | some b=>some (some b)
  | none=>m[n.toNat]?:=by
 intro l
 induction l with
 | nil=>intro m n N _ _ _ _; rfl
 | cons e l ih =>
  intro m n N hm hd J hn
  have I:e.1∉l.map (·.1)∧(l.map (·.1)).Nodup:=List.nodup_cons.1 hd
  have h1:=J e.1 (by simp)
  rw [laidP,ih (N:=N) (by rw [bW]; exact hm) I.2 (fun x hx=>J x (by simp only [b6,fq]; exact .inr hx)) hn]
  simp only [lookL]
  by_cases he:e.1=n
  ·rw [aj he]
   have:lookL n l=none:=j8.2 (by rw [←he]; exact I.1)
   rw [this]
   simp only
   rw [he,gw (by rw [hm]; omega)]
  ·rw [ah he]
   cases hq:lookL n l with
   | some b=>rfl
   | none=>simp only; rw [ff (by omega)]
theorem BM {l m:List Nat}{a b:Nat}(J:a+m.length≤l.length)(h2:a+m.length≤b): (aV l a m).drop b=l.drop b:=by
 have I:(l.take a).length=a:=by rw [dM]; omega
 rw [aV,←bS,Az,je (by rw [bx,I]; omega),cZ,qN,bx,I]
 congr 1; omega
theorem xO {l m:List Nat}{a i:Nat}(h:a+m.length≤l.length): (aV l a m)[i]?=if a≤i∧i<a+m.length then m[i-a]? else l[i]?:=by
 have I:(l.take a).length=a:=by rw [dM]; omega
 rw [aV]
 by_cases J:i<a
 ·rw [jL (by omega),ah (by omega),jM,aj J]
 ·rw [mS (by omega),I]
  by_cases h2:i-a<m.length
  ·rw [jL h2,aj (by omega)]
  ·rw [mS (by omega),ah (by omega),iU]
   congr 1; omega
theorem uM {l m:List Nat}{a z:Nat}(I:l.drop 12=m.drop 12)(J:12≤a): dn l a z=dn m a z:=by
 have e:∀l:List Nat,(l.take (a+z)).drop a=((l.drop 12).drop (a-12)).take z:=fun l=>by
  rw [qN,show 12+(a-12)=a by omega,qL]
  congr 1; omega
 rw [dn,dn,e,e,I]
theorem JW {l m:List Nat}(I:l.drop 12=m.drop 12){low:Nat}: ∀(n i:Nat) (t:List Bool),cellsL l low n i t=cellsL m low n i t:=by
 intro n
 induction n with
 | zero=>intro i t; rfl
 | succ n J =>
  intro i t
  have e1:dJ l i=dJ m i:=uM I (by omega)
  have e2:iN l i=iN m i:=uM I (by omega)
  simp only [cellsL,e1,e2,J]
theorem Dv {l m:List Nat}(J:l.length=m.length)(I:l.drop 12=m.drop 12): b7 l=b7 m:=by
 have e1:kI l=kI m:=uM I (by omega)
 have e2:iM l=iM m:=uM I (by omega)
 have e3:l.getD 13 0=m.getD 13 0:=by
  have:∀l:List Nat,l[13]?=(l.drop 12)[1]?:=fun l=>by rw [iU]
  rw [dU,dU,this,this,I]
 simp only [b7,J,e1,e2,e3,JW I]
theorem r7 : ∀(k n:Nat),leN (le k n)=n%256^k:=by
 intro k
 induction k with
 | zero=>intro n; rw [Nat.pow_zero,Nat.mod_one]; rfl
 | succ k I =>
  intro n
  rw [le,leN,I,o7,qQ (256^k) 256,Nat.mod_mul]
theorem nJ {b:List Nat}{n:Nat}(J:b.length=512): (cM b n).drop 12=b.drop 12∧(cM b n).length=512∧(cM b n).drop 4=(nf b n).drop 4∧dn (cM b n) 0 4=zH 0 ((nf b n).drop 4)%4294967296:=by
 have h1:=xD (n:=n) J
 have h2:(cM b n).length=512:=by rw [cM,cz (by rw [cy]; omega),h1]
 have I:(cM b n).drop 4=(nf b n).drop 4:=by rw [cM]; exact BM (by rw [cy]; omega) (by rw [cy]; omega)
 have h4:(nf b n).drop 12=b.drop 12:=by rw [nf]; exact BM (by rw [cy]; omega) (by rw [cy]; omega)
 refine ⟨?_,h2,I,?_⟩
 ·have:=gy (List.drop 8) I
  rw [qN,qN] at this
  exact this.trans h4
 ·have e:(cM b n).take 4=le 4 (zH 0 ((nf b n).drop 4)):=by
   rw [cM,aV,mX,cZ,nO (by rw [cy]; omega),dO (by rw [cy]; omega)]
  rw [dn,dH,eu,e,r7]
theorem U2 {b:List Nat}{n:Nat}(I:∀x∈b,x<256): ∀x∈nf b n,x<256:=zu I (Mm _ _)
theorem FT {b:List Nat}{n:Nat}(hg:b7 b=true)(hb:∀x∈b,x<256): gr (cM b n)=0∧b7 (cM b n)=true∧TE (cM b n)=b.drop 12:=by
 have hl:=eX hg
 obtain ⟨h1,h2,h3,h4⟩:=nJ (n:=n) hl
 have I:b7 (cM b n)=true:=by rw [Dv (h2.trans hl.symm) h1]; exact hg
 have hz:b7 (List.replicate 512 0)=false:=by decide +kernel
 have J:cM b n≠List.replicate 512 0:=fun e=>by rw [e,hz] at I; cases I
 have hc:zH 0 ((nf b n).drop 4)<4294967296:=B5 (by decide) fun x hx=>U2 hb x (iT hx)
 refine ⟨?_,I,?_⟩
 ·rw [gr,ah J,ah (by rw [I]; decide),ah]
  rw [h4,h3,gY hc]; exact not_not_intro rfl
 ·rw [TE,ah (by rintro (h | h); exact h h2; exact J h),h1]
def pgA (ε:aI)(n:Int): List Nat:=match lookL n ε.1.bM with
 | some i=>match ε.1.ak[i.toNat]? with
  | some f=>f.b
  | none=>ε.2.2.at n
 | none=>ε.2.2.at n
structure RM (N:Nat)(δ:Dk)(bM:List (Int×Int))(i:Nat)(f:Fm): Prop where
 lt:f.aL<N
 here:lookL f.aL bM=some (i:Int)
 aH:gr f.b=0
 same:f.changed=false→f.b=δ.at f.aL
 nF:f.changed=true→b7 f.b=true
structure EC (N:Nat)(ε:aI): Prop where
 dk:DA N ε.2.2
 nodup:(ε.1.bM.map (·.1)).Nodup
 mI:∀(n i:Int),lookL n ε.1.bM=some i→0≤n∧∃(j:Nat) (f:Fm),i=j∧ε.1.ak[j]?=some f∧f.aL=n
 back:∀(i:Nat) (f:Fm),ε.1.ak[i]?=some f→f.aL<0∨RM N ε.2.2 ε.1.bM i f
 Ab:∀k:Int,k∈ε.1.bI.map (·.1)→0≤k∧k<N
 FU:(ε.1.bI.map (·.1)).Nodup
theorem oU {ε:aI}{n:Int}{j:Nat}{f:Fm}(h:lookL n ε.1.bM=some (j:Int))(I:ε.1.ak[j]?=some f): pgA ε n=f.b:=by
 simp only [pgA,h,b9,I]
theorem mJ {ε:aI}{n:Int}(h:lookL n ε.1.bM=none): pgA ε n=ε.2.2.at n:=by simp only [pgA,h]
theorem EC.cases {N:Nat}{ε:aI}(h:EC N ε)(n:Int): (∃(j:Nat) (f:Fm),lookL n ε.1.bM=some (j:Int)∧ε.1.ak[j]?=some f∧f.aL=n∧0≤n∧RM N ε.2.2 ε.1.bM j f∧pgA ε n=f.b)∨(lookL n ε.1.bM=none∧pgA ε n=ε.2.2.at n):=by
 cases I:lookL n ε.1.bM with
 | none=>exact .inr ⟨rfl,mJ I⟩
 | some i =>
  obtain ⟨h0,j,f,rfl,J,hp⟩:=h.mI n i I
  refine .inl ⟨j,f,rfl,J,hp,h0,?_,oU I J⟩
  rcases h.back j f J with h1 | h1
  ·omega
  ·exact h1
theorem pN {m:List Fm}{i j:Nat}{f g x:Fm}(hf:m[i]?=some f)(J:(m.set i g)[j]?=some x): (i=j∧x=g)∨(i≠j∧m[j]?=some x):=by
 by_cases I:i=j
 ·subst I
  rw [gw (List.getElem?_eq_some_iff.1 hf).1] at J
  exact .inl ⟨rfl,(bk J).symm⟩
 ·rw [ff I] at J
  exact .inr ⟨I,J⟩
theorem EC.set {N:Nat}{ε:aI}{i:Nat}{f g:Fm}{y:Lg}{δ:Dk}{d:List (Int×(Nat×Bool))}(h:EC N ε)(hf:ε.1.ak[i]?=some f)(hp:g.aL=f.aL)(mg:DA N δ)
 (hg:g.aL<0∨RM N δ ε.1.bM i g)(ho:∀(j:Nat) (x:Fm),i≠j→ε.1.ak[j]?=some x→0≤x.aL→δ.at x.aL=ε.2.2.at x.aL)(hd:∀k:Int,k∈d.map (·.1)→0≤k∧k<N)(Xq:(d.map (·.1)).Nodup):
  EC N ({ ε.1 with ak:=ε.1.ak.set i g,bI:=d },(y,δ)):=by
 have hi:=(List.getElem?_eq_some_iff.1 hf).1
 refine ⟨mg,h.nodup,fun n k hk => ?_,fun j x J => ?_,hd,Xq⟩
 ·obtain ⟨h0,j,x,rfl,J,wP⟩:=h.mI n k hk
  refine ⟨h0,j,?_⟩
  by_cases I:i=j
  ·subst I
   rw [hf] at J
   have:=bk J
   subst this
   exact ⟨g,rfl,gw hi,hp.trans wP⟩
  ·exact ⟨x,rfl,by show (ε.1.ak.set i g)[j]?=some x; rw [ff I]; exact J,wP⟩
 ·rcases pN hf J with ⟨rfl,rfl⟩ | ⟨I,J⟩
  ·exact hg
  ·rcases h.back j x J with h1 | h1
   ·exact .inl h1
   ·by_cases h2:x.aL<0
    ·exact .inl h2
    ·refine .inr ⟨h1.lt,h1.here,h1.aH,fun hc => ?_,h1.nF⟩
     rw [ho j x I J (by omega)]; exact h1.same hc
theorem K7 {ε:aI}{i:Nat}{f g:Fm}{x:LD}{d:List (Int×(Nat×Bool))}(hf:ε.1.ak[i]?=some f)(hb:g.b=f.b){n:Int}(hx:lookL n ε.1.bM=none→x.2.at n=ε.2.2.at n)(hy:∀j:Int,lookL n ε.1.bM=some j→∃f',ε.1.ak[j.toNat]?=some f'):
  pgA ({ ε.1 with ak:=ε.1.ak.set i g,bI:=d },x) n=pgA ε n:=by
 unfold pgA
 simp only
 cases hl:lookL n ε.1.bM with
 | none=>exact hx hl
 | some j =>
  simp only
  obtain ⟨f',J⟩:=hy j hl
  by_cases I:i=j.toNat
  ·subst I
   rw [gw (List.getElem?_eq_some_iff.1 hf).1,hf]
   exact hb
  ·rw [ff I,J]
theorem EC.there {N:Nat}{ε:aI}(h:EC N ε){n:Int}: ∀j:Int,lookL n ε.1.bM=some j→∃f',ε.1.ak[j.toNat]?=some f':=fun j I=>by
 obtain ⟨_,k,f,rfl,J,_⟩:=h.mI n j I
 exact ⟨f,by rw [b9]; exact J⟩
theorem EC.out {N:Nat}{ε:aI}{i:Nat}{f:Fm}(h:EC N ε)(I:ε.1.ak[i]?=some f):
  (outF ε i).1=0∧EC N (outF ε i).2∧(∀n,pgA (outF ε i).2 n=pgA ε n)∧(outF ε i).2.1.bM=ε.1.bM∧∃g,(outF ε i).2.1.ak[i]?=some g∧g.aL=f.aL∧(0≤g.aL→g.changed=false):=by
 have hi:=(List.getElem?_eq_some_iff.1 I).1
 unfold outF
 rw [I]
 simp only
 by_cases hc:f.aL<0∨f.changed=false
 ·rw [aj hc]
  exact ⟨rfl,h,fun n=>rfl,rfl,f,I,rfl,fun h0=>hc.resolve_left (by omega)⟩
 ·rw [ah hc]
  have J:0≤f.aL:=by omega
  have rQ:f.changed=true:=by cases hq:f.changed <;> simp [hq] at hc ⊢
  have ho:=(h.back i f I).resolve_left (by omega)
  have hg:=ho.nF rQ
  rw [ah (by rw [hg]; decide)]
  obtain ⟨e1,k1⟩:=FR (x:=ε.2) (n:=dn f.b 4 8) h.dk
  rw [ah (by rw [e1]; decide)]
  obtain ⟨e2,k2,k3⟩:=RL (h.dk.of k1) J ho.lt (eX hg) ho.aH
  rw [ah (by rw [e2]; decide)]
  have BJ:∀m,f.aL≠m→((bE ε.2 (dn f.b 4 8)).2.2.bK f.aL f.b).2.at m=ε.2.2.at m:=fun m hm=>by rw [k3,ah hm,k1.at]
  refine ⟨rfl,h.set I rfl k2 (.inr ⟨ho.lt,ho.here,ho.aH,fun _ => ?_,fun hq=>(by cases hq)⟩) (fun j x tQ hx h0=>BJ _ fun Dw => ?_) (fun k hk => ?_) (iL h.FU),fun n => ?_,rfl,_,gw hi,rfl,fun _=>rfl⟩
  ·simp only; rw [k3,aj rfl]
  ·rcases h.back j x hx with h1 | h1
   ·omega
   ·have:=h1.here
    rw [←Dw,ho.here] at this
    have:=bk this
    omega
  ·rcases oQ.1 hk with rfl | hk
   ·exact ⟨J,ho.lt⟩
   ·exact h.Ab k hk
  ·exact K7 I (by rfl) (fun hn=>BJ n fun e=>by rw [←e,ho.here] at hn; cases hn) h.there
theorem fX.back {π I:Pl}(J:fX π I){i:Nat}{x:Fm}(hx:I.ak[i]?=some x): ∃f t,π.ak[i]?=some f∧x={ f with eY:=t }:=by
 have hi:=(List.getElem?_eq_some_iff.1 hx).1
 rw [J.len] at hi
 have hf:π.ak[i]?=some (π.ak[i]'hi):=bf _
 obtain ⟨t,ht⟩:=J.get i _ hf
 rw [hx] at ht
 exact ⟨_,t,hf,bk ht⟩
theorem EC.rB {N:Nat}{ε:aI}{J:Pl}(h:EC N ε)(I:fX ε.1 J): EC N (J,ε.2)∧∀n,pgA (J,ε.2) n=pgA ε n:=by
 refine ⟨⟨h.dk,by rw [I.bM]; exact h.nodup,fun n i hi => ?_,fun i x hx => ?_,by rw [I.bI]; exact h.Ab,by rw [I.bI]; exact h.FU⟩,fun n => ?_⟩
 ·rw [I.bM] at hi
  obtain ⟨h0,j,f,rfl,hf,hp⟩:=h.mI n i hi
  obtain ⟨t,ht⟩:=I.get j f hf
  exact ⟨h0,j,_,rfl,ht,hp⟩
 ·obtain ⟨f,t,hf,rfl⟩:=I.back hx
  rcases h.back i f hf with h1 | h1
  ·exact .inl h1
  ·exact .inr ⟨h1.lt,by rw [I.bM]; exact h1.here,h1.aH,h1.same,h1.nF⟩
 ·unfold pgA
  simp only [I.bM]
  cases hl:lookL n ε.1.bM with
  | none=>rfl
  | some i =>
   obtain ⟨h0,j,f,rfl,hf,hp⟩:=h.mI n i hl
   obtain ⟨t,ht⟩:=I.get j f hf
   simp only [b9,ht,hf]
theorem EC.dF {N:Nat}{ε:aI}{i:Nat}{f g:Fm}(h:EC N ε)(hg:ε.1.ak[i]?=some g)(hp:g.aL=f.aL)(hc:0≤g.aL→g.changed=false): EC N (dF ε.1 i f,ε.2)∧(∀n,pgA (dF ε.1 i f,ε.2) n=pgA ε n) ∧
  (dF ε.1 i f).ak[i]?=some eR∧∀n,lookL n ε.1.bM=none→lookL n (dF ε.1 i f).bM=none:=by
 have hi:=(List.getElem?_eq_some_iff.1 hg).1
 have Y2:(ε.1.ak.set i eR)[i]?=some eR:=gw hi
 have I:∀n,lookL n (Am.dF ε.1 i f).bM=if 0≤f.aL∧f.aL=n then none else lookL n ε.1.bM:=fun n=>by
  rw [Am.dF]
  by_cases h0:f.aL<0
  ·rw [aj h0,ah (by omega)]
  ·rw [ah h0,Fy h.nodup]
   by_cases hn:f.aL=n
   ·rw [aj hn,aj ⟨by omega,hn⟩]
   ·rw [ah hn,ah (by omega)]
 refine ⟨⟨h.dk,?_,fun n k hk => ?_,fun j x J => ?_,h.Ab,h.FU⟩,fun n => ?_,Y2,fun n hn => ?_⟩
 ·rw [Am.dF]
  by_cases h0:f.aL<0
  ·rw [aj h0]; exact h.nodup
  ·rw [ah h0]; exact xx h.nodup
 ·rw [I] at hk
  split at hk
  ·cases hk
  ·rename_i dS
   obtain ⟨h0,j,x,rfl,J,wP⟩:=h.mI n k hk
   refine ⟨h0,j,x,rfl,?_,wP⟩
   show (ε.1.ak.set i eR)[j]?=some x
   rw [ff]
   ·exact J
   ·rintro rfl
    rw [hg] at J
    have:=bk J
    subst this
    omega
 ·rcases pN hg J with ⟨rfl,rfl⟩ | ⟨tQ,J⟩
  ·exact .inl (by decide)
  ·rcases h.back j x J with h1 | h1
   ·exact .inl h1
   ·by_cases hx0:x.aL<0
    ·exact .inl hx0
    refine .inr ⟨h1.lt,?_,h1.aH,h1.same,h1.nF⟩
    rw [I,ah]
    ·exact h1.here
    ·rintro ⟨h0,Dw⟩
     rcases h.back i g hg with h2 | h2
     ·omega
     ·have e:=h2.here
      rw [hp,Dw,h1.here] at e
      have:=bk e
      omega
 ·rcases h.cases n with ⟨j,x,hl,J,wP,h0,ho,e⟩ | ⟨hl,e⟩
  ·rw [e]
   by_cases Dw:f.aL=n
   ·have tQ:i=j:=by
     rcases h.back i g hg with h2 | h2
     ·omega
     ·have e:=h2.here
      rw [hp,Dw,hl] at e
      have:=bk e
      omega
    subst tQ
    rw [hg] at J
    have:=bk J
    subst this
    rw [mJ (by rw [I,aj ⟨by omega,Dw⟩])]
    rw [ho.same (hc (by omega)),hp,Dw]
   ·refine oU (j:=j) (by rw [I,ah (by omega)]; exact hl) ?_
    show (ε.1.ak.set i eR)[j]?=some x
    rw [ff]
    ·exact J
    ·rintro rfl
     rw [hg] at J
     have:=bk J
     subst this
     omega
  ·rw [e,mJ (by rw [I]; split; rfl; exact hl)]
 ·rw [I]; split; rfl; exact hn
theorem EC.jI {N:Nat}{ε:aI}{i:Nat}{e:Fm}{n:Int}(h:EC N ε)(he:ε.1.ak[i]?=some e)(hp:e.aL<0)(hl:lookL n ε.1.bM=none)(h0:0≤n)(h1:n<N): EC N (jI ε.1 i n (ε.2.2.at n),ε.2)∧∀m,pgA (jI ε.1 i n (ε.2.2.at n),ε.2) m=pgA ε m:=by
 have hi:=(List.getElem?_eq_some_iff.1 he).1
 have J:(ε.1.ak.set i ⟨n,ε.2.2.at n,1,true,false⟩)[i]?=some ⟨n,ε.2.2.at n,1,true,false⟩:=gw hi
 have I:∀m,lookL m (Am.jI ε.1 i n (ε.2.2.at n)).bM=if n=m then some (i:Int) else lookL m ε.1.bM:=fun m=>gS _
 refine ⟨⟨h.dk,iL h.nodup,fun m k hk => ?_,fun j x hx => ?_,h.Ab,h.FU⟩,fun m => ?_⟩
 ·rw [I] at hk
  split at hk
  ·rename_i Ie
   have:=bk hk
   subst this
   subst Ie
   exact ⟨h0,i,_,rfl,J,rfl⟩
  ·rename_i dS
   obtain ⟨h0,j,x,rfl,hx,wP⟩:=h.mI m k hk
   refine ⟨h0,j,x,rfl,?_,wP⟩
   show (ε.1.ak.set i _)[j]?=some x
   rw [ff]
   ·exact hx
   ·rintro rfl
    rw [he] at hx
    have:=bk hx
    subst this
    omega
 ·rcases pN he hx with ⟨rfl,rfl⟩ | ⟨tQ,hx⟩
  ·exact .inr ⟨h1,by rw [I,aj rfl],h.dk.good n h0 h1,fun _=>rfl,fun hq=>(by cases hq)⟩
  ·rcases h.back j x hx with h2 | h2
   ·exact .inl h2
   ·refine .inr ⟨h2.lt,?_,h2.aH,h2.same,h2.nF⟩
    rw [I,ah]
    ·exact h2.here
    ·rintro rfl
     rw [h2.here] at hl; cases hl
 ·by_cases Ie:n=m
  ·subst Ie
   rw [oU (j:=i) (by rw [I,aj rfl]) J,mJ hl]
  ·rcases h.cases m with ⟨j,x,jo,hx,wP,_,ho,e2⟩ | ⟨jo,e2⟩
   ·rw [e2]
    refine oU (j:=j) (by rw [I,ah Ie]; exact jo) ?_
    show (ε.1.ak.set i _)[j]?=some x
    rw [ff]
    ·exact hx
    ·rintro rfl
     rw [he] at hx
     have:=bk hx
     subst this
     omega
   ·rw [e2,mJ (by rw [I,ah Ie]; exact jo)]
theorem EC.frame {N:Nat}{ε:aI}{i:Nat}{f g:Fm}(h:EC N ε)(hf:ε.1.ak[i]?=some f)(J:g.aL=f.aL)(hb:g.b=f.b)(hc:g.changed=f.changed): EC N ({ ε.1 with ak:=ε.1.ak.set i g },ε.2)∧∀n,pgA ({ ε.1 with ak:=ε.1.ak.set i g },ε.2) n=pgA ε n:=by
 refine ⟨h.set (y:=ε.2.1) (δ:=ε.2.2) hf J h.dk ?_ (fun _ _ _ _ _=>rfl) h.Ab h.FU,fun n=>K7 hf hb (fun _=>rfl) h.there⟩
 rcases h.back i f hf with I | I
 ·exact .inl (by omega)
 ·exact .inr ⟨by rw [J]; exact I.lt,by rw [J]; exact I.here,by rw [hb]; exact I.aH,by rw [J,hb,hc]; exact I.same,by rw [hb,hc]; exact I.nF⟩
theorem fY.ec {N:Nat}{ε ε':aI}{n e:Int}{b:List Nat}(hr:fY ε n e b ε')(h:EC N ε): EC N ε'∧(∀m,pgA ε' m=pgA ε m)∧(0≤n→n<N→e=0∧b=pgA ε n)∧(¬(0≤n∧n<N)→e=1∧ε'=ε):=by
 have kG:=h.dk.ax
 cases hr with
 | arg I=>rw [kG] at I; exact ⟨h,fun _=>rfl,fun a b=>absurd ⟨a,b⟩ I,fun _=>⟨rfl,rfl⟩⟩
 | Dj i f h1 J hl hf =>
  rw [kG] at J
  obtain ⟨k1,k2⟩:=h.frame (g:={ f with eY:=true,pins:=f.pins+1 }) hf rfl rfl rfl
  exact ⟨k1,k2,fun _ _=>⟨rfl,(oU hl hf).symm⟩,fun I=>absurd ⟨h1,J⟩ I⟩
 | out gV i f h1 J hl I hf hh he=>exact absurd ((h.rB I).1.out hf).1 he
 | read gV i f h1 J hl I hf hh he hr =>
  obtain ⟨k1,k2,k3,k4,g,k5,k6,k7⟩:=(h.rB I).1.out hf
  refine absurd ?_ hr
  rw [kG] at J
  rw [Dk.rK,ah (by rw [k2.dk.alive]; decide),ah (by rw [k2.dk.ax]; exact not_not_intro ⟨h1,J⟩)]
 | bad gV i f h1 J hl I hf hh he hr hc =>
  obtain ⟨k1,k2,k3,k4,g,k5,k6,k7⟩:=(h.rB I).1.out hf
  rw [kG] at J
  exact absurd (k2.dk.good n h1 J) hc
 | load gV i f h1 J hl I hf hh he hr hc =>
  obtain ⟨n1,n2⟩:=h.rB I
  obtain ⟨k1,k2,k3,k4,g,k5,k6,k7⟩:=n1.out hf
  rw [kG] at J
  obtain ⟨f1,f2,f3,f4⟩:=k2.dF k5 k6 k7
  have jo:lookL n (outF (gV,ε.2) i).2.1.bM=none:=by rw [k4]; show lookL n gV.bM=none; rw [I.bM]; exact hl
  obtain ⟨l1,l2⟩:=f1.jI f3 (by decide) (f4 n jo) h1 J
  exact ⟨l1,fun m=>by rw [l2,f2,k3,n2],fun _ _=>⟨rfl,by rw [←n2,←k3,mJ jo]⟩,fun I=>absurd ⟨h1,J⟩ I⟩
theorem Pd {N:Nat}{π:Pl}{x:LD}{n:Int}(h:EC N (π,x)): EC N ((unpinF π n).2,x)∧∀m,pgA ((unpinF π n).2,x) m=pgA (π,x) m:=by
 unfold unpinF
 split
 ·exact ⟨h,fun _=>rfl⟩
 ·split
  ·exact ⟨h,fun _=>rfl⟩
  ·rename_i i hi f I
   exact h.frame (g:={ f with pins:=f.pins-1 }) I rfl rfl rfl
theorem nk.ec {N:Nat}{ε ε':aI}{n e:Int}{b:List Nat}(I:nk ε n e b ε')(h:EC N ε)(hp:∀f∈ε.1.ak,f.pins=0): EC N ε'∧(∀m,pgA ε' m=pgA ε m)∧(0≤n→n<N→e=0∧b=pgA ε n)∧(¬(0≤n∧n<N)→e=1∧ε'=ε):=by
 cases I with
 | dead J=>rw [h.dk.alive] at J; cases J
 | iP e b ε' J I he =>
  obtain ⟨k1,k2,k3,k4⟩:=I.ec h
  exact ⟨k1,k2,fun a b=>absurd (k3 a b).1 he,k4⟩
 | sO b ε' J I he=>exact absurd (I.Cd hp).1 he
 | read b ε' J I he =>
  obtain ⟨k1,k2,k3,k4⟩:=I.ec h
  obtain ⟨u1,u2⟩:=Pd (n:=n) k1
  refine ⟨u1,fun m=>by rw [u2]; exact k2 m,k3,fun hn=>absurd (k4 hn).1 (by decide)⟩
theorem pL.ec {N:Nat}{ε ε':aI}{now:List (Int×List Nat)}{n e:Int}{b:List Nat}(hr:pL ε now false n e b ε')(h:EC N ε)(hp:∀f∈ε.1.ak,f.pins=0): EC N ε'∧(∀m,pgA ε' m=pgA ε m) ∧
  (0≤n→n<N→e=0∧b=(match lookL n now with | some b=>b | none=>pgA ε n))∧(¬(0≤n∧n<N)→e=1):=by
 have I:=h.dk.ax
 cases hr with
 | arg J=>rw [I] at J; exact ⟨h,fun _=>rfl,fun a b=>absurd ⟨a,b⟩ J,fun _=>rfl⟩
 | b_ _ _ ho=>cases ho
 | own b h1 h2 _ hl=>rw [I] at h2; exact ⟨h,fun _=>rfl,fun _ _=>⟨rfl,by rw [hl]⟩,fun J=>absurd ⟨h1,h2⟩ J⟩
 | read e b ε' h1 h2 _ hl hr =>
  rw [I] at h2
  obtain ⟨k1,k2,k3,k4⟩:=hr.ec h hp
  exact ⟨k1,k2,fun a b=>by rw [hl]; exact k3 a b,fun J=>absurd ⟨h1,h2⟩ J⟩
theorem FW : ∀(N:Nat) (l:List Int),l.Nodup→(∀n∈l,0≤n∧n<N)→l.length≤N:=by
 intro N
 induction N with
 | zero =>
  intro l _ h
  cases l with
  | nil=>exact aD _
  | cons n l=>have:=h n bu; omega
 | succ N ih =>
  intro l J h
  have h1:=ih (l.erase (N:Int)) (J.erase _) fun n hn=>by
   have I:=(J.mem_erase_iff).1 hn
   have:=h n I.2
   have:=I.1
   omega
  have I:l.length≤(l.erase (N:Int)).length+1:=by
   rw [List.length_erase]; split <;> omega
  omega
structure NW (N:Nat)(now:List (Int×List Nat)): Prop where
 good:∀e∈now,b7 e.2=true∧∀x∈e.2,x<256
 keys:∀k:Int,k∈now.map (·.1)→0≤k∧k<N
 nodup:(now.map (·.1)).Nodup
theorem NW.nil (N:Nat): NW N []:=⟨fun e h=>(by cases h),fun k h=>(by cases h),kL⟩
theorem Dx {α:Type}{n:Int}{a:α}: ∀ {l:List (Int×α)} {e:Int×α},e∈cB n a l→e=(n,a)∨e∈l:=by
 intro l
 induction l with
 | nil=>intro e h; simp only [cB,vO] at h; exact .inl h
 | cons x l I =>
  intro e h
  simp only [cB] at h
  split at h
  ·rcases List.mem_cons.1 h with h | h
   ·exact .inl h
   ·exact .inr (bn _ h)
  ·rcases List.mem_cons.1 h with h | h
   ·exact .inr (by rw [h]; exact bu)
   ·rcases I h with h | h
    ·exact .inl h
    ·exact .inr (bn _ h)
theorem NW.put {N:Nat}{now:List (Int×List Nat)}{n:Int}{b:List Nat}(h:NW N now)(J:0≤n)(h1:n<N)(hg:b7 b=true)(hb:∀x∈b,x<256): NW N (cB n b now):=by
 refine ⟨fun e he => ?_,fun k I => ?_,iL h.nodup⟩
 ·rcases Dx he with rfl | he
  ·exact ⟨hg,hb⟩
  ·exact h.good e he
 ·rcases oQ.1 I with rfl | I
  ·exact ⟨J,h1⟩
  ·exact h.keys k I
theorem NW.len {N:Nat}{now:List (Int×List Nat)}(h:NW N now): now.length≤N:=by
 have:=FW N _ h.nodup h.keys
 rwa [fS] at this
theorem NW.look {N:Nat}{now:List (Int×List Nat)}(h:NW N now){n:Int}{b:List Nat}(I:lookL n now=some b): b7 b=true∧∀x∈b,x<256:=h.good _ (gU I)
theorem uF.ec {N:Nat}{ε ε':aI}{now cS:List (Int×List Nat)}{n e:Int}{b:List Nat}(I:uF ε now false n b e cS ε')(h:EC N ε)(hp:∀f∈ε.1.ak,f.pins=0): EC N ε'∧(∀m,pgA ε' m=pgA ε m) ∧
  (¬(0≤n∧n<N)→e=1∧cS=now)∧(0≤n→n<N→b7 b=false→e=4∧cS=now)∧(0≤n→n<N→b7 b=true→e=0∧cS=cB n b now):=by
 cases I with
 | may e c ε' I he =>
  obtain ⟨k1,k2,k3,J⟩:=I.ec h hp
  exact ⟨k1,k2,fun hn=>⟨J hn,rfl⟩,fun a b _=>absurd (k3 a b).1 he,fun a b _=>absurd (k3 a b).1 he⟩
 | bad c ε' I hg =>
  obtain ⟨k1,k2,k3,J⟩:=I.ec h hp
  exact ⟨k1,k2,fun hn=>absurd (J hn) (by decide),fun _ _ _=>⟨rfl,rfl⟩,fun _ _ hq=>by rw [hg] at hq; cases hq⟩
 | done c ε' I hg =>
  obtain ⟨k1,k2,k3,J⟩:=I.ec h hp
  exact ⟨k1,k2,fun hn=>absurd (J hn) (by decide),fun _ _ hq=>(by rw [hg] at hq; cases hq),fun _ _ _=>⟨rfl,rfl⟩⟩
theorem js.ec {N:Nat}{now:List (Int×List Nat)}{l:List Int}{ε ε':aI}{e:Int}{cs:List cq}(I:js now l ε e cs ε'): EC N ε→jk ε→(∀n∈l,0≤n∧n<N)→EC N ε'∧(∀m,pgA ε' m=pgA ε m)∧e=0:=by
 induction I with
 | nil ε=>intro h _ _; exact ⟨h,fun _=>rfl,rfl⟩
 | err n l ε e b ε' I he =>
  intro h J hl
  obtain ⟨k1,k2,k3,k4⟩:=I.ec h J.pins
  have:=hl n bu
  exact absurd (k3 this.1 this.2).1 he
 | part n l ε cX b ε' c e cs kE I hb hd hc iG ht ih =>
  intro h J hl
  obtain ⟨k1,k2,k3,k4⟩:=I.ec h J.pins
  obtain ⟨i1,i2,i3⟩:=ih k1 (I.mj J) fun m hm=>hl m (bn _ hm)
  exact ⟨i1,fun m=>by rw [i2,k2],i3⟩
 | whole n l ε cX b ε' e cs kE I hb hd ht ih =>
  intro h J hl
  obtain ⟨k1,k2,k3,k4⟩:=I.ec h J.pins
  obtain ⟨i1,i2,i3⟩:=ih k1 (I.mj J) fun m hm=>hl m (bn _ hm)
  exact ⟨i1,fun m=>by rw [i2,k2],i3⟩
theorem EC.log {N:Nat}{ε:aI}{x:LD}(h:EC N ε)(k:DK ε.2.2 x.2): EC N (ε.1,x)∧∀m,pgA (ε.1,x) m=pgA ε m:=by
 refine ⟨⟨h.dk.of k,h.nodup,h.mI,fun i f J => ?_,h.Ab,h.FU⟩,fun m => ?_⟩
 ·rcases h.back i f J with I | I
  ·exact .inl I
  ·exact .inr ⟨I.lt,I.here,I.aH,fun hc=>by rw [k.at]; exact I.same hc,I.nF⟩
 ·unfold pgA
  simp only [k.at]
theorem EC.put {N:Nat}{ε:aI}{n:Int}{i:Nat}{f:Fm}{b:List Nat}{aK:Nat}(h:EC N ε)(hl:lookL n ε.1.bM=some (i:Int))(hf:ε.1.ak[i]?=some f)(hg:b7 b=true)(hb:∀x∈b,x<256)(h0:0≤n)(h1:n<N):
  EC N (uK ε.1 n i f b aK,ε.2)∧∀m,pgA (uK ε.1 n i f b aK,ε.2) m=if m=n then cM b aK else pgA ε m:=by
 obtain ⟨s1,s2,s3⟩:=FT (n:=aK) hg hb
 have hi:=(List.getElem?_eq_some_iff.1 hf).1
 have hp:f.aL=n:=by
  obtain ⟨_,j,x,tQ,J,wP⟩:=h.mI n i hl
  have:i=j:=by omega
  subst this
  rw [hf] at J
  rw [bk J]; exact wP
 have ho:=(h.back i f hf).resolve_left (by omega)
 refine ⟨h.set (y:=ε.2.1) (δ:=ε.2.2) hf rfl h.dk (.inr ⟨ho.lt,ho.here,s1,fun hq=>(by cases hq),fun _=>s2⟩) (fun _ _ _ _ _=>rfl) (fun k hk => ?_) (iL h.FU),fun m => ?_⟩
 ·rcases oQ.1 hk with rfl | hk
  ·exact ⟨h0,h1⟩
  ·exact h.Ab k hk
 ·by_cases hm:m=n
  ·subst hm
   rw [aj rfl]
   exact oU (ε:=(uK ε.1 m i f b aK,ε.2)) hl (gw hi)
  ·rw [ah hm]
   rcases h.cases m with ⟨j,x,I,J,wP,_,_,e2⟩ | ⟨I,e2⟩
   ·rw [e2]
    refine oU (ε:=(uK ε.1 n i f b aK,ε.2)) I ?_
    show (ε.1.ak.set i _)[j]?=some x
    rw [ff]
    ·exact J
    ·rintro rfl
     rw [hf] at J
     have:=bk J
     subst this
     omega
   ·rw [e2]
    exact mJ (ε:=(uK ε.1 n i f b aK,ε.2)) I
theorem qm.ec {N:Nat}{now:List (Int×List Nat)}{aK:Nat}{l:List Int}{ε ε':aI}{e:Int}(I:qm now aK l ε e ε'): EC N ε→jk ε→NW N now→(∀n∈l,0≤n∧n<N)→EC N ε'∧e=0 ∧
  ∀m,pgA ε' m=if m∈l then (match lookL m now with | some b=>cM b aK | none=>pgA ε m) else pgA ε m:=by
 induction I with
 | nil ε=>intro h _ _ _; exact ⟨h,rfl,fun m=>by rw [ah (by simp)]⟩
 | iP n l ε e b ε' I he =>
  intro h h3 hn hl
  have:=hl n bu
  exact absurd ((I.ec h).2.2.1 this.1 this.2).1 he
 | bad n l ε b0 b ε' I hb he =>
  intro h h3 hn hl
  exact absurd ((I.put (b:=b) (aK:=aK) h3).2.2 (hn.look hb).1) he
 | put n l ε b0 b ε' e kE I hb he ht ih =>
  intro h h3 hn hl
  have lW:=hl n bu
  obtain ⟨k1,k2,k3,k4⟩:=I.ec h
  obtain ⟨i,f,p1,p2,p3,p4,p5⟩:=I.at h3.pins
  have hg:=hn.look hb
  have e1:=xL (aK:=aK) p1 p2 p3 hg.1
  obtain ⟨q1,q2⟩:=k1.put (aK:=aK) p1 p2 hg.1 hg.2 lW.1 lW.2
  have GX:=(I.put (b:=b) (aK:=aK) h3).1
  rw [e1] at ih GX
  obtain ⟨i1,i2,i3⟩:=ih q1 GX hn fun m hm=>hl m (bn _ hm)
  refine ⟨i1,i2,fun m => ?_⟩
  rw [i3,q2]
  by_cases hm:m=n
  ·subst hm
   rw [aj rfl,aj (bu)]
   split
   ·rw [hb]
   ·rw [hb]
  ·rw [ah hm,k2]
   by_cases J:m∈l
   ·rw [aj J,aj (bn _ J)]
   ·rw [ah J,ah (by simp [hm,J])]
structure EL (K:Nat)(x:LD): Prop where
 log:x.1.b=x.2.log
 cert:x.1.forced≤x.2.bp
 size:x.1.base+x.1.b.length≤K
theorem EL.force {K:Nat}{x:LD}{n:Nat}(h:EL K x): EL K (bE x n).2:=by
 unfold bE Dk.cK
 split
 ·exact h
 ·by_cases I:x.2.dead=true
  ·rw [aj I,aj (show (9:Int)≠0 by decide)]; exact h
  ·rw [ah I]
   by_cases J:x.2.aP=0
   ·rw [aj J,aj (show (9:Int)≠0 by decide)]; exact ⟨h.log,h.cert,h.size⟩
   ·rw [ah J,ah (show ¬(0:Int)≠0 by decide)]; exact ⟨h.log,by show x.1.b.length≤x.2.log.length; rw [h.log]; exact aD _,h.size⟩
theorem EL.write {K:Nat}{x:LD}{n:Int}{b:List Nat}(h:EL K x): EL K (x.1,(x.2.bK n b).2):=by
 unfold Dk.bK
 split
 ·exact h
 ·split
  ·exact h
  ·split <;> exact ⟨h.log,h.cert,h.size⟩
theorem wQ (K:Nat): kJ (EL K):=⟨fun _ _ h=>h.force,fun _ _ _ h=>h.write⟩
theorem nk.el {K:Nat}{ε ε':aI}{n e:Int}{b:List Nat}(I:nk ε n e b ε')(h:EL K ε.2): EL K ε'.2:=(wQ K).rd I h
theorem pL.el {K:Nat}{ε ε':aI}{now:List (Int×List Nat)}{b_:Bool}{n e:Int}{b:List Nat}(I:pL ε now b_ n e b ε')(h:EL K ε.2): EL K ε'.2:=(wQ K).Aa I h
theorem uF.el {K:Nat}{ε ε':aI}{now cS:List (Int×List Nat)}{b_:Bool}{n e:Int}{b:List Nat}(I:uF ε now b_ n b e cS ε')(h:EL K ε.2): EL K ε'.2:=(wQ K).O_ I h
theorem js.el {K:Nat}{now:List (Int×List Nat)}{l:List Int}{ε ε':aI}{e:Int}{cs:List cq}(I:js now l ε e cs ε')(h:EL K ε.2): EL K ε'.2:=(wQ K).ch I h
theorem qm.el {K:Nat}{now:List (Int×List Nat)}{aK:Nat}{l:List Int}{ε ε':aI}{e:Int}(I:qm now aK l ε e ε')(h:EL K ε.2): EL K ε'.2:=(wQ K).pt I h
structure EI (N B:Nat)(ε:aI): Prop where
 ok:jk ε
 ec:EC N ε
 el:EL (B*1048600) ε.2
 cn:cn ε≤B*65536
theorem EI.more {N B:Nat}{ε:aI}(h:EI N B ε){I:Nat}(J:B≤I): EI N I ε :=
 ⟨h.ok,h.ec,⟨h.el.log,h.el.cert,cC h.el.size (qD _ J)⟩,cC h.cn (qD _ J)⟩
theorem EI.rd {N B:Nat}{ε ε':aI}{n e:Int}{b:List Nat}(h:EI N B ε)(I:nk ε n e b ε'): EI N B ε' :=
 ⟨I.mj h.ok,(I.ec h.ec h.ok.pins).1,I.el h.el,cC I.cn h.cn⟩
theorem EI.Aa {N B:Nat}{ε ε':aI}{now:List (Int×List Nat)}{n e:Int}{b:List Nat}(h:EI N B ε)(I:pL ε now false n e b ε'): EI N B ε' :=
 ⟨I.mj h.ok,(I.ec h.ec h.ok.pins).1,I.el h.el,cC I.cn h.cn⟩
theorem EI.O_ {N B:Nat}{ε ε':aI}{now cS:List (Int×List Nat)}{n e:Int}{b:List Nat}(h:EI N B ε)(I:uF ε now false n b e cS ε'): EI N B ε' :=
 ⟨I.mj h.ok,(I.ec h.ec h.ok.pins).1,I.el h.el,cC I.cn h.cn⟩
theorem EI.many {N B:Nat}{ε:aI}(h:EI N B ε): N≤65536:=by
 have:=h.ok.ok.dk.many
 rwa [h.ec.dk.ax] at this
theorem EI.force {N B:Nat}{ε:aI}{n:Nat}(h:EI N B ε): (bE ε.2 n).1=0∧EI N B (ε.1,(bE ε.2 n).2)∧∀m,pgA (ε.1,(bE ε.2 n).2) m=pgA ε m:=by
 obtain ⟨f1,f2⟩:=FR (n:=n) h.ec.dk
 obtain ⟨I,J⟩:=h.ec.log f2
 refine ⟨f1,⟨⟨⟨h.ok.ok.pl,vB h.ok.ok.lg,qi h.ok.ok.dk⟩,h.ok.pins,h.ok.full⟩,I,h.el.force,?_⟩,J⟩
 have:=h.cn
 simp only [Am.cn,nG] at this ⊢
 exact this
theorem EI.app {N B:Nat}{ε:aI}{kd:Int}{tx pv nx:Nat}{data:List Nat}{c:List cq}(h:EI N B ε)(hB:B≤1000)(hg:dD kd c=true):
  EI N (B+1) (ε.1,(bA ε.2 kd tx pv nx data c).2)∧(∀m,pgA (ε.1,(bA ε.2 kd tx pv nx data c).2) m=pgA ε m) ∧
  (((bA ε.2 kd tx pv nx data c).1.2=0∧bA ε.2 kd tx pv nx data c=((ε.2.1.base+ε.2.1.b.length,0),(ε.2.1.app (dI ε.2.1 kd tx pv nx data c),{ ε.2.2 with log:=ε.2.2.log++dI ε.2.1 kd tx pv nx data c }))) ∨
   (bA ε.2 kd tx pv nx data c).1.2=7∨((bA ε.2 kd tx pv nx data c).1.2=2∧1048576<(dK kd tx pv nx data c).length)):=by
 have hs:=h.el.size
 have I:=BL (kd:=kd) (tx:=tx) (pv:=pv) (nx:=nx) (data:=data) (c:=c) h.ok.ok.lg h.ok.ok.dk h.el.log (by omega)
 have z_:Am.cn (ε.1,(bA ε.2 kd tx pv nx data c).2)≤(B+1)*65536:=by
  have e:Am.cn (ε.1,(bA ε.2 kd tx pv nx data c).2)=Am.cn ε:=by simp only [Am.cn,I.2.2.2.2.2.1]
  rw [e]
  exact cC h.cn (qD _ (qS B))
 have eZ:(bA ε.2 kd tx pv nx data c).2.1.base+(bA ε.2 kd tx pv nx data c).2.1.b.length≤(B+1)*1048600:=by
  have h1:=I.2.2.2.1
  have h2:=I.2.2.2.2.1
  omega
 have main:∀(hk:DK ε.2.2 (bA ε.2 kd tx pv nx data c).2.2) (hc:(bA ε.2 kd tx pv nx data c).2.1.forced≤(bA ε.2 kd tx pv nx data c).2.2.bp),EI N (B+1) (ε.1,(bA ε.2 kd tx pv nx data c).2)∧∀m,pgA (ε.1,(bA ε.2 kd tx pv nx data c).2) m=pgA ε m:=fun hk hc=>by
  obtain ⟨l1,l2⟩:=h.ec.log hk
  exact ⟨⟨⟨⟨h.ok.ok.pl,I.1,I.2.1⟩,h.ok.pins,h.ok.full⟩,l1,⟨I.2.2.1,hc,eZ⟩,z_⟩,l2⟩
 rcases jl ε.2 kd tx pv nx data c with ⟨e,he,hc,J⟩ | ⟨hd,hf,J⟩ | ⟨_,_,hd,dZ,hf,J⟩
 ·obtain ⟨m1,m2⟩:=main (by rw [J]; exact DK.refl _) (by rw [J]; exact h.el.cert)
  refine ⟨m1,m2,.inr ?_⟩
  rw [J]
  rcases hc with ⟨_,hb⟩ | ⟨rfl,hb⟩ | ⟨_,hb⟩ | ⟨rfl,hb⟩
  ·rw [hg] at hb; cases hb
  ·exact .inr ⟨rfl,hb⟩
  ·rw [h.ec.dk.alive] at hb; cases hb
  ·exact .inl rfl
 ·have:=h.ec.dk.aP; omega
 ·rw [j4 h.ec.dk.aP] at J
  obtain ⟨m1,m2⟩:=main (by rw [J]; exact ⟨rfl,rfl,rfl,rfl⟩) (by rw [J]; exact h.el.cert)
  exact ⟨m1,m2,.inl ⟨by rw [J],J⟩⟩
theorem EI.done {N B:Nat}{ε ε':aI}{now:List (Int×List Nat)}{kd:Int}{tx pv nx aK:Nat}{data:List Nat}{e:Int}{cl:Bool}(h:EI N B ε)(hB:B≤1000)(hn:NW N now)(h1:1≤kd)(h2:kd≤7)(hr:pM ε now kd tx pv nx data 0 aK e cl ε'):
  (cl=false∧(e=7∨e=2)∧EI N (B+2) ε'∧∀m,pgA ε' m=pgA ε m) ∨
  (cl=true∧e=0∧EI N (B+2) ε'∧∀m,pgA ε' m=match lookL m now with | some b=>cM b aK | none=>pgA ε m):=by
 have I:∀n∈bU now,0≤n∧n<N:=fun n hq=>hn.keys n (jJ.1 hq)
 have hN:=h.many
 have dZ:∀ {c:List cq} {ε':aI} {e:Int},js now (bU now) ε e c ε'→dD kd c=true:=fun J=>by
  refine uL ⟨h1,by omega⟩ (J.fit (fun x hx=>eX (hn.good x hx).1) fun n hq => ?_)
  have:=I n hq
  omega
 cases hr with
 | arg hq=>omega
 | dead _ _ _ hd=>rw [h.ec.dk.alive] at hd; cases hd
 | nF e c ε' _ _ _ hd J he=>exact absurd (J.ec h.ec h.ok I).2.2 he
 | app c ε' _ _ _ hd J he =>
  obtain ⟨c1,c2,c3⟩:=J.ec h.ec h.ok I
  have hi:EI N B ε':=⟨J.mj h.ok,c1,J.el h.el,cC J.cn h.cn⟩
  obtain ⟨a1,a2,a3⟩:=hi.app (kd:=kd) (tx:=tx) (pv:=pv) (nx:=nx) (data:=data) (c:=c) hB (dZ J)
  refine .inl ⟨rfl,?_,a1.more (by omega),fun m=>by rw [a2,c2]⟩
  rcases a3 with a3 | a3 | a3
  ·exact absurd a3.1 he
  ·exact .inl a3
  ·exact .inr a3.1
 | put c ε' e kE _ _ _ hd J ha hp =>
  obtain ⟨c1,c2,c3⟩:=J.ec h.ec h.ok I
  have hi:EI N B ε':=⟨J.mj h.ok,c1,J.el h.el,cC J.cn h.cn⟩
  obtain ⟨a1,a2,a3⟩:=hi.app (kd:=kd) (tx:=tx) (pv:=pv) (nx:=nx) (data:=data) (c:=c) hB (dZ J)
  obtain ⟨p1,p2,p3⟩:=hp.ec a1.ec a1.ok hn I
  have hl:(bU now).length≤N:=by
   have:=hn.len
   rw [bU,(fc _).length_eq,fS]; exact this
  have Oz:=hp.cn a1.ok
  have pX:=a1.cn
  refine .inr ⟨rfl,p2,⟨hp.mj a1.ok,p1,?_,by omega⟩,fun m => ?_⟩
  ·have:=hp.el a1.el
   exact ⟨this.log,this.cert,cC this.size (qD _ (by omega))⟩
  ·rw [aj p2,p3]
   by_cases hm:m∈bU now
   ·rw [aj hm]
    cases hq:lookL m now with
    | some b=>rfl
    | none=>exact absurd (jJ.1 hm) (j8.1 hq)
   ·rw [ah hm,a2,c2]
    have:lookL m now=none:=j8.2 fun hq=>hm (jJ.2 hq)
    rw [this]
end Go.Proofs.YtefepnnfphdkpaaGreat.Am
