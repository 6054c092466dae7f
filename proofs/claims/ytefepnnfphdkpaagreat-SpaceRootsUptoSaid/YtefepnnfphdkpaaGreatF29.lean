/- SpaceRoots: a part of its proof; conditions: its statement's. -/
import Derived.Test.YtefepnnfphdkpaaGreatF28
namespace Go.Proofs.YtefepnnfphdkpaaGreat.Am
open Go
theorem JX (n:Nat): (digits 9 n).length≤10:=vj 9 n
def kH (π:Pl)(n:Int)(b:List Nat): Prop:=∃(i:Nat) (f:Fm),π.ak[i]?=some f∧f.aL=n∧0≤n∧f.changed=true∧f.b=b
abbrev VP := (Int→List Nat→Prop)→List (Int×(Nat×Bool))→LD→Prop
abbrev vw (P:VP)(ε:aI): Prop:=P (kH ε.1) ε.1.bI ε.2
theorem RN {π I:Pl}(hn:fX π I): kH I=kH π:=by
 funext n b
 refine propext ⟨fun ⟨i,x,hx,J,h0,h2,h3⟩ => ?_,fun ⟨i,f,hf,J,h0,h2,h3⟩ => ?_⟩
 ·obtain ⟨f,t,hf,rfl⟩:=hn.back hx
  exact ⟨i,f,hf,J,h0,h2,h3⟩
 ·obtain ⟨t,ht⟩:=hn.get i f hf
  exact ⟨i,_,ht,J,h0,h2,h3⟩
theorem Bb {π:Pl}{i:Nat}{f g:Fm}(J:π.ak[i]?=some f)(hs:∀n b,(f.aL=n∧0≤n∧f.changed=true∧f.b=b)↔(g.aL=n∧0≤n∧g.changed=true∧g.b=b)){w:List (Int×Int)}{d:List (Int×(Nat×Bool))}{hd:Nat}: kH ⟨π.ak.set i g,w,d,hd⟩=kH π:=by
 have hi:=(List.getElem?_eq_some_iff.1 J).1
 funext n b
 refine propext ⟨fun ⟨j,x,I,h⟩ => ?_,fun ⟨j,x,I,h⟩ => ?_⟩
 ·rcases pN J I with ⟨rfl,rfl⟩ | ⟨_,I⟩
  ·exact ⟨i,f,J,(hs n b).2 h⟩
  ·exact ⟨j,x,I,h⟩
 ·by_cases hj:i=j
  ·subst hj
   rw [J] at I
   have:=bk I
   subst this
   exact ⟨i,g,gw hi,(hs n b).1 h⟩
  ·exact ⟨j,x,by show (π.ak.set i g)[j]?=some x; rw [ff hj]; exact I,h⟩
theorem Pe {π:Pl}{i:Nat}{f g:Fm}(J:π.ak[i]?=some g)(hc:0≤g.aL→g.changed=false): kH (dF π i f)=kH π :=
 Bb J fun n b=>⟨(fun ⟨h1,h0,I,_⟩=>by rw [hc (by omega)] at I; cases I),fun ⟨_,_,I,_⟩=>(by cases I)⟩
theorem MH {π:Pl}{i:Nat}{e:Fm}{n:Int}{b:List Nat}(he:π.ak[i]?=some e)(J:e.aL<0): kH (jI π i n b)=kH π :=
 Bb he fun m c=>⟨fun ⟨h1,h0,_⟩=>by omega,fun ⟨_,_,I,_⟩=>(by cases I)⟩
structure oo (N:Nat)(P:VP): Prop where
 one:∀(ε:aI) (i:Nat) (f:Fm),EC N ε→ε.1.ak[i]?=some f→0≤f.aL→f.changed=true→vw P ε→vw P (outF ε i).2
theorem kJ.vC {R:LD→Prop}(h:kJ R)(N:Nat): oo N (fun _ _ x=>R x):=⟨fun _ _ _ _ _ _ _ hv=>h.out hv⟩
section
variable {N:Nat} {P:VP} {ε ε':aI} {n e:Int} {b:List Nat} {now cS:List (Int×List Nat)} {l:List Int} {cs:List cq}
theorem oo.out (h:oo N P){i:Nat}{f:Fm}(he:EC N ε)(I:ε.1.ak[i]?=some f)(hv:vw P ε): vw P (outF ε i).2:=by
 by_cases J:f.aL<0∨f.changed=false
 ·have e:outF ε i=(0,ε):=by simp only [outF,I,aj J]
  rw [e]; exact hv
 ·exact h.one ε i f he I (by omega) (by cases hq:f.changed with | true=>rfl | false=>exact absurd (.inr hq) J) hv
theorem oo.iP (h:oo N P)(hr:fY ε n e b ε')(he:EC N ε)(hv:vw P ε): vw P ε':=by
 cases hr with
 | arg J=>exact hv
 | Dj i f h1 h2 hl hf =>
  show P (kH ⟨ε.1.ak.set i { f with eY:=true,pins:=f.pins+1 },ε.1.bM,ε.1.bI,ε.1.hand⟩) ε.1.bI ε.2
  rw [Bb hf (g:={ f with eY:=true,pins:=f.pins+1 }) (fun n b=>Iff.rfl)]
  exact hv
 | out I i f h1 h2 hl J hf hh hq=>exact absurd ((he.rB J).1.out hf).1 hq
 | read I i f h1 h2 hl J hf hh hq hr =>
  obtain ⟨k1,k2,k3,k4,g,k5,k6,k7⟩:=(he.rB J).1.out hf
  refine absurd ?_ hr
  rw [he.dk.ax] at h2
  rw [Dk.rK,ah (by rw [k2.dk.alive]; decide),ah (by rw [k2.dk.ax]; exact not_not_intro ⟨h1,h2⟩)]
 | bad I i f h1 h2 hl J hf hh hq hr hc =>
  obtain ⟨k1,k2,k3,k4,g,k5,k6,k7⟩:=(he.rB J).1.out hf
  rw [he.dk.ax] at h2
  exact absurd (k2.dk.good n h1 h2) hc
 | load I i f h1 h2 hl J hf hh hq hr hc =>
  obtain ⟨n1,n2⟩:=he.rB J
  have zP:vw P (I,ε.2):=by show P (kH I) I.bI ε.2; rw [RN J,J.bI]; exact hv
  have um:=h.out (ε:=(I,ε.2)) n1 hf zP
  obtain ⟨k1,k2,k3,k4,g,k5,k6,k7⟩:=n1.out hf
  have e1:=Pe (f:=f) k5 k7
  have hg:(dF (outF (I,ε.2) i).2.1 i f).ak[i]?=some eR:=(k2.dF k5 k6 k7).2.2.1
  show P (kH (jI (dF (outF (I,ε.2) i).2.1 i f) i n ((outF (I,ε.2) i).2.2.2.at n))) (outF (I,ε.2) i).2.1.bI (outF (I,ε.2) i).2.2
  rw [MH hg (by decide),e1]
  exact um
theorem FX {π:Pl}: kH (unpinF π n).2=kH π∧(unpinF π n).2.bI=π.bI:=by
 unfold unpinF
 split
 ·exact ⟨rfl,rfl⟩
 ·split
  ·exact ⟨rfl,rfl⟩
  ·rename_i i hi f I
   exact ⟨Bb I (g:={ f with pins:=f.pins-1 }) (fun n b=>Iff.rfl),rfl⟩
theorem oo.rd (h:oo N P)(I:nk ε n e b ε')(he:EC N ε)(hv:vw P ε): vw P ε':=by
 cases I with
 | dead J=>exact hv
 | iP e b ε' J I _=>exact h.iP I he hv
 | sO b ε' J I _ =>
  have:=h.iP I he hv
  obtain ⟨u1,u2⟩:=FX (π:=ε'.1) (n:=n)
  show P (kH (unpinF ε'.1 n).2) (unpinF ε'.1 n).2.bI ε'.2
  rw [u1,u2]; exact this
 | read b ε' J I _ =>
  have:=h.iP I he hv
  obtain ⟨u1,u2⟩:=FX (π:=ε'.1) (n:=n)
  show P (kH (unpinF ε'.1 n).2) (unpinF ε'.1 n).2.bI ε'.2
  rw [u1,u2]; exact this
theorem oo.Aa (h:oo N P)(I:pL ε now false n e b ε')(he:EC N ε)(hv:vw P ε): vw P ε':=by
 cases I with
 | arg hn=>exact hv
 | b_ _ _ ho=>cases ho
 | own b J h2 _ hl=>exact hv
 | read e b ε' J h2 _ hl I=>exact h.rd I he hv
theorem oo.O_ (h:oo N P)(I:uF ε now false n b e cS ε')(he:EC N ε)(hv:vw P ε): vw P ε':=by
 cases I with
 | may e c ε' I _=>exact h.Aa I he hv
 | bad c ε' I J=>exact h.Aa I he hv
 | done c ε' I J=>exact h.Aa I he hv
theorem oo.ch (h:oo N P)(I:js now l ε e cs ε'): EC N ε→jk ε→vw P ε→vw P ε':=by
 induction I with
 | nil ε=>exact fun _ _ hv=>hv
 | err n l ε e b ε' I _=>exact fun he _ hv=>h.rd I he hv
 | part n l ε cX b ε' c e cs J I hb hd hc iG ht ih=>exact fun he h3 hv=>ih (I.ec he h3.pins).1 (I.mj h3) (h.rd I he hv)
 | whole n l ε cX b ε' e cs J I hb hd ht ih=>exact fun he h3 hv=>ih (I.ec he h3.pins).1 (I.mj h3) (h.rd I he hv)
end
def xP (k:Nat)(v:V)(cs:List V): au:=.xs fun o:Option (Nat×Nat×Nat)=>match o with
 | none=>.pu ((v=.bw∨∃a,v=.sle a)∧cs=[])
 | some (id,len,cap)=>.an (.ro id (.cells cs.length cs true)) (.pu (v=.sl id 0 len (.exact cap)∧cs.length=len*k))
section
variable {P:Program} {h:H} {S:List au} {k j:Nat} {v:V} {cs:List V}
theorem Sat.rowAt (s:Sat h S)(J:getA S j=some (xP k v cs)): ((v=.bw∨∃a,v=.sle a)∧cs=[])∨∃id len cap,v=.sl id 0 len (.exact cap)∧cs.length=len*k∧T.get h.tr id=some (.cells cs.length cs true):=by
 obtain ⟨m,r,h1,h2,o,I⟩:=s.at J
 cases o with
 | none=>exact .inl I
 | some x=>exact .inr ⟨x.1,x.2.1,x.2.2,I.2.1,I.2.2,h2 _ _ I.1⟩
theorem Sat.Pf {n:Nat}{t e:TypeId}(s:Sat h S)(J:getA S j=some (xP k v cs))(I:cs.length=n*k)(hk:1≤k)(hu:P.underlying t=some (.slice e)): lenV P h t v=some (.int .i64 n):=by
 rcases s.rowAt J with ⟨hv,rfl⟩ | ⟨id,len,cap,rfl,hl,_⟩
 ·have:n=0:=by
   cases n with
   | zero=>rfl
   | succ n=>simp only [bT,iw,vY] at I; omega
  subst this
  rcases hv with rfl | ⟨a,rfl⟩
  ·exact Ur hu
  ·simp only [lenV,hu]; rfl
 ·have:n=len:=by
   rw [hl] at I
   exact (Kj (by omega) I).symm
  subst this
  exact C0 hu
theorem Sat.Y3 {t e:TypeId}{i:Nat}(s:Sat h S)(J:getA S j=some (xP k v cs))(hi:i*k+k≤cs.length)(hk:1≤k)(hu:P.underlying t=some (.slice e))(I:bH P e=some k)(ha:cm P e=some true):
  ∃id off,indexAddrV P t v (.int .i64 (i:Int))=some (.ptr id off)∧loadV P h e (.ptr id off)=some (.agg ((cs.drop (i*k)).take k)):=by
 rcases s.rowAt J with ⟨_,rfl⟩ | ⟨id,len,cap,rfl,hl,hg⟩
 ·simp at hi; omega
 ·refine ⟨id,i*k,?_,Ou ha I hg rfl hi⟩
  simp only [indexAddrV,hu,I,b9]
  have:i<len:=by
   have h4:i*k+k=(i+1)*k:=by rw [iw,vY]
   rw [h4,hl] at hi
   exact D7 (DS hi hk)
  rw [show (decide ((0:Int)≤(i:Int))&&decide ((i:Int)<(len:Int)))=true by simp; omega,ag]
  simp
end
section
variable {told:cQ} {h:H} {S:List au} {X:au} {r k q p a g aH N B:Nat} {op v x pv:V} {l data:List Nat} {ε:aI} {ps:List (List Nat)}
end
def tot : List (List Nat)→Nat
 | []=>0
 | c::l=>c.length+tot l
theorem E0 {a b:List (List Nat)}: tot (a++b)=tot a+tot b:=by
 induction a with
 | nil=>simp [tot]
 | cons x a I=>simp only [fg,tot,I]; omega
theorem nK : ∀ {cs:List (List Nat)} {i:Nat} {c:List Nat},cs[i]?=some c→tot (cs.take (i+1))=tot (cs.take i)+c.length:=by
 intro cs
 induction cs with
 | nil=>intro i c h; simp at h
 | cons x cs I =>
  intro i c h
  cases i with
  | zero=>simp at h; subst h; simp [tot]
  | succ i =>
   have:=I (i:=i) (by simpa using h)
   simp only [sR,tot,this]; omega
theorem It {cs:List (List Nat)}{i j:Nat}(h:i≤j): tot (cs.take i)≤tot (cs.take j):=by
 have e:cs.take j=cs.take i++(cs.take j).drop i:=by
  conv=>lhs; rw [←vK i (cs.take j),qM,nQ h]
 rw [e,E0]; omega
theorem nL {cs:List (List Nat)}{i:Nat}: tot (cs.take i)≤tot cs:=by
 have:=E0 (a:=cs.take i) (b:=cs.drop i)
 rw [vK] at this; omega
theorem U3 : ∀ {cs:List (List Nat)} {i:Nat} {c c':List Nat},cs[i]?=some c→c'.length=c.length→∀k,tot ((cs.set i c').take k)=tot (cs.take k):=by
 intro cs
 induction cs with
 | nil=>intro i c c' h; simp at h
 | cons x cs J =>
  intro i c c' h I k
  cases i with
  | zero =>
   simp at h; subst h
   cases k with
   | zero=>rfl
   | succ k=>simp [tot,I]
  | succ i=>cases k with
   | zero=>rfl
   | succ k =>
    have:=J (i:=i) (by simpa using h) I k
    simp only [Ax,sR,tot,this]
theorem iR {l m:List Nat}{a i:Nat}(h:a+m.length≤l.length)(hi:i<a∨a+m.length≤i): (aV l a m)[i]?=l[i]?:=by
 rw [xO h,ah (by omega)]
theorem Ac {l m:List Nat}{a i:Nat}(h:a+m.length≤l.length)(hi:i<m.length): (aV l a m)[a+i]?=m[i]?:=by
 rw [xO h,aj (by omega)]; congr 1; omega
theorem oV {l m:List Nat}{a z:Nat}(h:∀i,a≤i→i<a+z→l[i]?=m[i]?): dn l a z=dn m a z:=by
 unfold dn
 congr 1
 apply qF
 intro i
 simp only [iU,jM]
 by_cases hi:a+i<a+z
 ·rw [aj hi,aj hi,h _ (by omega) hi]
 ·rw [ah hi,ah hi]
theorem Bc {l m:List Nat}{a b z:Nat}(h:a+m.length≤l.length)(I:b+z≤a∨a+m.length≤b): dn (aV l a m) b z=dn l b z :=
 oV fun i J h2=>iR h (by omega)
theorem r8 {l:List Nat}{a z n:Nat}(h:a+z≤l.length)(I:n<256^z): dn (aV l a (le z n)) a z=n:=by
 have e:((aV l a (le z n)).take (a+z)).drop a=le z n:=by
  apply qF
  intro i
  simp only [iU,jM]
  by_cases hi:i<z
  ·rw [aj (by omega),Ac (by rw [cy]; omega) (by rw [cy]; omega)]
  ·rw [ah (by omega),mU (by rw [cy]; omega)]
 rw [dn,e,r7,gY I]
theorem m8 {l m:List Nat}{i:Nat}(h:l[i]?=m[i]?): l.getD i 0=m.getD i 0:=by rw [dU,dU,h]
structure dX (b:List Nat)(k link extra:Nat)(cs:List (List Nat)): Prop where
 len:b.length=512
 Pg:b.getD 13 0=0
 kind:b.getD 12 0=k
 link:dn b 18 4=link
 extra:dn b 22 4=extra
 c8:kI b=cs.length
 low:iM b+tot cs=512
 fits:26+4*cs.length+tot cs≤512
 slot:∀i c,cs[i]?=some c→dJ b i+tot (cs.take (i+1))=512∧iN b i=c.length∧∀j,j<c.length→b[dJ b i+j]?=c[j]?
theorem RO : ∀(z k:Nat) (t:List Bool),k+z≤t.length→(∀j,k≤j→j<k+z→t.getD j false=false)→∃t',markL z k t=some t'∧t'.length=t.length∧∀j,(j<k∨k+z≤j)→t'.getD j false=t.getD j false:=by
 intro z
 induction z with
 | zero=>intro k t _ _; exact ⟨t,rfl,rfl,fun _ _=>rfl⟩
 | succ z J =>
  intro k t h1 I
  have hs:∀j,j≠k→(t.set k true).getD j false=t.getD j false:=fun j hj=>by
   rw [dU,dU,ff (by omega)]
  obtain ⟨t',e1,e2,e3⟩:=J (k+1) (t.set k true) (by rw [bW]; omega) (fun j a b=>by rw [hs j (by omega)]; exact I j (by omega) (by omega))
  refine ⟨t',?_,by rw [e2,bW],fun j hj => ?_⟩
  ·rw [markL,I k (aD _) (by omega),ah (by decide)]; exact e1
  ·rw [e3 j (by omega),hs j (by omega)]
section
variable {b:List Nat} {k link extra:Nat} {cs:List (List Nat)}
theorem dX.cells (h:dX b k link extra cs): ∀(n i:Nat) (t:List Bool),i+n=cs.length→t.length=512→(∀j,j+tot (cs.take i)<512→t.getD j false=false)→cellsL b (iM b) n i t=true:=by
 intro n
 induction n with
 | zero=>intro i t _ _ _; rfl
 | succ n ih =>
  intro i t hi ht J
  have I:cs[i]?=some (cs[i]'(by omega)):=bf _
  generalize (cs[i]'(by omega))=c at I
  obtain ⟨s1,s2,s3⟩:=h.slot i c I
  have h1:=nK I
  have h2:=nL (cs:=cs) (i:=i+1)
  have h3:=h.low
  obtain ⟨t',e1,e2,e3⟩:=RO c.length (dJ b i) t (by omega) (fun j _ _=>J j (by omega))
  rw [cellsL,s2,ah (by omega),e1]
  exact ih (i+1) t' (by omega) (by rw [e2]; exact ht) (fun j hj=>by rw [e3 j (by omega)]; exact J j (by omega))
theorem dX.good (h:dX b k link extra cs): b7 b=true:=by
 have I:=h.low
 have J:=h.fits
 rw [b7,fo h.len,fo h.Pg,fo (by rw [h.c8]; omega),h.cells _ _ _ (by rw [h.c8]; omega) cY fun j hj => ?_]
 ·rfl
 ·rw [dU]
  simp only [Au]
  split <;> rfl
theorem dX.tail (h:dX b k link extra cs){I:List Nat}(hl:I.length=512)(ht:I.drop 12=b.drop 12): dX I k link extra cs:=by
 have hg:∀i,12≤i→I[i]?=b[i]?:=fun i hi=>by
  have:=gy (fun l:List Nat=>l[i-12]?) ht
  simp only [iU] at this
  rw [show 12+(i-12)=i by omega] at this; exact this
 have J:∀a z,12≤a→dn I a z=dn b a z:=fun a z q=>uM ht q
 refine ⟨hl,?_,?_,?_,?_,?_,?_,h.fits,fun i c hc => ?_⟩
 ·rw [m8 (hg 13 (by decide))]; exact h.Pg
 ·rw [m8 (hg 12 (by decide))]; exact h.kind
 ·rw [J _ _ (by decide)]; exact h.link
 ·rw [J _ _ (by decide)]; exact h.extra
 ·rw [kI,J _ _ (by decide)]; exact h.c8
 ·rw [iM,J _ _ (by decide)]; exact h.low
 ·obtain ⟨s1,s2,s3⟩:=h.slot i c hc
  have e1:dJ I i=dJ b i:=J _ _ (by omega)
  have e2:iN I i=iN b i:=J _ _ (by omega)
  have uz:=h.low
  have dZ:=h.fits
  have BH:=nL (cs:=cs) (i:=i+1)
  rw [e1,e2]
  exact ⟨s1,s2,fun j hj=>by rw [hg _ (by omega)]; exact s3 j hj⟩
def vD (k:Nat): List Nat:=aV ((List.replicate 512 0).set 12 k) 16 (le 2 512)
theorem dX.new : dX (vD k) k 0 0 []:=by
 have hl:((List.replicate 512 0).set 12 k).length=512:=by rw [bW,cY]
 have hle:∀n,(le 2 n).length=2:=fun n=>cy 2 n
 have I:∀i,i<16∨18≤i→(vD k)[i]?=((List.replicate 512 0).set 12 k)[i]?:=fun i hi=>iR (by rw [hle]; omega) (by rw [hle]; omega)
 have hz:∀i,i≠12→((List.replicate 512 0).set 12 k)[i]?=(List.replicate 512 0)[i]?:=fun i hi=>ff (by omega)
 have J:∀a z,a+z≤512→(18≤a∨(13≤a∧a+z≤16))→dn (vD k) a z=dn (List.replicate 512 0) a z:=fun a z h1 h2=>oV fun i h3 h4=>by rw [I i (by omega),hz i (by omega)]
 refine ⟨by rw [vD,cz (by rw [hle]; omega),hl],?_,?_,?_,?_,?_,?_,by decide,fun i c hc=>(by simp at hc)⟩
 ·rw [m8 ((I 13 (by decide)).trans (hz 13 (by decide)))]; decide +kernel
 ·rw [m8 (I 12 (by decide)),dU,gw (by rw [cY]; decide)]; rfl
 ·rw [J _ _ (by decide) (by decide)]; decide +kernel
 ·rw [J _ _ (by decide) (by decide)]; decide +kernel
 ·rw [kI,J _ _ (by decide) (by decide)]; decide +kernel
 ·rw [iM,vD,r8 (by omega) (by decide)]; rfl
def vE (b:List Nat)(x y:Nat): List Nat:=aV (aV b 18 (le 4 x)) 22 (le 4 y)
theorem dX.set (h:dX b k link extra cs){x y:Nat}(hx:x<4294967296)(hy:y<4294967296): dX (vE b x y) k x y cs:=by
 have hlen:=h.len
 have hle:∀n,(le 4 n).length=4:=fun n=>cy 4 n
 have l1:(aV b 18 (le 4 x)).length=512:=by rw [cz (by rw [hle]; omega),hlen]
 have l2:(vE b x y).length=512:=by rw [vE,cz (by rw [hle]; omega),l1]
 have I:∀i,i<18∨26≤i→(vE b x y)[i]?=b[i]?:=fun i hi=>by
  rw [vE,iR (by rw [hle]; omega) (by rw [hle]; omega),iR (by rw [hle]; omega) (by rw [hle]; omega)]
 have J:∀a z,a+z≤18∨26≤a→dn (vE b x y) a z=dn b a z:=fun a z h2=>oV fun i h3 h4=>I i (by omega)
 refine ⟨l2,?_,?_,?_,?_,?_,?_,h.fits,fun i c hc => ?_⟩
 ·rw [m8 (I 13 (by decide))]; exact h.Pg
 ·rw [m8 (I 12 (by decide))]; exact h.kind
 ·rw [vE,Bc (by rw [hle]; omega) (.inl (by decide)),r8 (by omega) (by omega)]
 ·rw [vE,r8 (by omega) (by omega)]
 ·rw [kI,J _ _ (by decide)]; exact h.c8
 ·rw [iM,J _ _ (by decide)]; exact h.low
 ·obtain ⟨s1,s2,s3⟩:=h.slot i c hc
  have e1:dJ (vE b x y) i=dJ b i:=J _ _ (by omega)
  have e2:iN (vE b x y) i=iN b i:=J _ _ (by omega)
  have uz:=h.low
  have dZ:=h.fits
  have BH:=nL (cs:=cs) (i:=i+1)
  rw [e1,e2]
  exact ⟨s1,s2,fun j hj=>by rw [I _ (by omega)]; exact s3 j hj⟩
def yq (b:List Nat)(i f z:Nat): List Nat:=aV (aV b (26+4*i) (le 2 f)) (26+4*i+2) (le 2 z)
section
variable {i f z:Nat}
theorem K8 (I:b.length=512)(hi:30+4*i≤512): (yq b i f z).length=512:=by
 have hle:∀n,(le 2 n).length=2:=fun n=>cy 2 n
 rw [yq,cz (by rw [hle,cz (by rw [hle]; omega)]; omega),cz (by rw [hle]; omega),I]
theorem K9 (I:b.length=512)(hi:30+4*i≤512){j:Nat}(J:j<26+4*i∨30+4*i≤j): (yq b i f z)[j]?=b[j]?:=by
 have hle:∀n,(le 2 n).length=2:=fun n=>cy 2 n
 rw [yq,iR (by rw [hle,cz (by rw [hle]; omega)]; omega) (by rw [hle]; omega),iR (by rw [hle]; omega) (by rw [hle]; omega)]
theorem Ph (I:b.length=512)(hi:30+4*i≤512)(J:f<65536)(hz:z<65536): dJ (yq b i f z) i=f∧iN (yq b i f z) i=z:=by
 have hle:∀n,(le 2 n).length=2:=fun n=>cy 2 n
 have l1:(aV b (26+4*i) (le 2 f)).length=512:=by rw [cz (by rw [hle]; omega),I]
 constructor
 ·rw [dJ,yq,Bc (by rw [hle]; omega) (by omega),r8 (by omega) (by omega)]
 ·rw [iN,yq,r8 (by omega) (by omega)]
end
def uN (b:List Nat)(n lo:Nat)(c:List Nat): List Nat:=yq (aV (aV (aV b 14 (le 2 (n+1))) lo c) 16 (le 2 lo)) n lo c.length
theorem dX.ins (h:dX b k link extra cs){c:List Nat}{lo:Nat}(hf:26+4*(cs.length+1)+(tot cs+c.length)≤512)(uO:lo+(tot cs+c.length)=512): dX (uN b cs.length lo c) k link extra (cs++[c]):=by
 have hlen:=h.len
 have hle:∀n,(le 2 n).length=2:=fun n=>cy 2 n
 have l1:(aV b 14 (le 2 (cs.length+1))).length=512:=by rw [cz (by rw [hle]; omega),hlen]
 have l2:(aV (aV b 14 (le 2 (cs.length+1))) lo c).length=512:=by rw [cz (by omega),l1]
 have l3:(aV (aV (aV b 14 (le 2 (cs.length+1))) lo c) 16 (le 2 lo)).length=512:=by rw [cz (by rw [hle]; omega),l2]
 have l4:(uN b cs.length lo c).length=512:=K8 l3 (by omega)
 have o3:∀i,i<16∨18≤i→(aV (aV (aV b 14 (le 2 (cs.length+1))) lo c) 16 (le 2 lo))[i]?=(aV (aV b 14 (le 2 (cs.length+1))) lo c)[i]?:=fun i hi=>iR (by rw [hle]; omega) (by rw [hle]; omega)
 have o4:∀i,i<26+4*cs.length∨30+4*cs.length≤i→(uN b cs.length lo c)[i]?=(aV (aV (aV b 14 (le 2 (cs.length+1))) lo c) 16 (le 2 lo))[i]?:=fun i hi=>K9 l3 (by omega) hi
 -- what is neither count, low, the slot nor the cell
 have I:∀i,(i<14∨18≤i)→(i<26+4*cs.length∨30+4*cs.length≤i)→(i<lo∨lo+c.length≤i)→(uN b cs.length lo c)[i]?=b[i]?:=fun i h1 h2 h3=>by
  rw [o4 i h2,o3 i (by omega),iR (by omega) h3,iR (by rw [hle]; omega) (by rw [hle]; omega)]
 have BJ:∀a z,(a+z≤14∨18≤a)→a+z≤26+4*cs.length→dn (uN b cs.length lo c) a z=dn b a z:=fun a z h1 h2=>oV fun i h3 h4=>I i (by omega) (by omega) (by omega)
 have ku:dJ (uN b cs.length lo c) cs.length=lo∧iN (uN b cs.length lo c) cs.length=c.length:=Ph l3 (by omega) (by omega) (by omega)
 have J:tot (cs++[c])=tot cs+c.length:=by rw [E0]; simp [tot]
 refine ⟨l4,?_,?_,?_,?_,?_,?_,by rw [J,bx]; exact hf,fun i x hx => ?_⟩
 ·rw [m8 (I 13 (by omega) (by omega) (by omega))]; exact h.Pg
 ·rw [m8 (I 12 (by omega) (by omega) (by omega))]; exact h.kind
 ·rw [BJ _ _ (by omega) (by omega)]; exact h.link
 ·rw [BJ _ _ (by omega) (by omega)]; exact h.extra
 ·have e:dn (uN b cs.length lo c) 14 2=dn (aV b 14 (le 2 (cs.length+1))) 14 2:=oV fun i h1 h2=>by
   rw [o4 i (by omega),o3 i (by omega),iR (by omega) (by omega)]
  rw [kI,e,r8 (by omega) (by omega),bx]; rfl
 ·have e:dn (uN b cs.length lo c) 16 2=dn (aV (aV (aV b 14 (le 2 (cs.length+1))) lo c) 16 (le 2 lo)) 16 2:=oV fun i h1 h2=>o4 i (by omega)
  rw [iM,e,r8 (by omega) (by omega),J]; exact uO
 ·by_cases hi:i<cs.length
  ·rw [jL hi] at hx
   obtain ⟨s1,s2,s3⟩:=h.slot i x hx
   have e1:dJ (uN b cs.length lo c) i=dJ b i:=BJ _ _ (by omega) (by omega)
   have e2:iN (uN b cs.length lo c) i=iN b i:=BJ _ _ (by omega) (by omega)
   have BH:=nL (cs:=cs) (i:=i+1)
   rw [e1,e2,nO (by omega)]
   exact ⟨s1,s2,fun j hj=>by rw [I _ (by omega) (by omega) (by omega)]; exact s3 j hj⟩
  ·have jF:i=cs.length:=by
    have:=(List.getElem?_eq_some_iff.1 hx).1
    rw [bx] at this
    simp at this; omega
   subst jF
   rw [mS (aD _),td] at hx
   have hx:c=x:=bk hx
   subst hx
   rw [ku.1,ku.2,dO (by rw [bx]; exact aD _),J]
   exact ⟨uO,rfl,fun j hj=>by rw [o4 _ (by omega),o3 _ (by omega),Ac (by omega) hj]⟩
def xQ (b:List Nat)(i f:Nat)(c:List Nat): List Nat:=yq (aV b f c) i f c.length
theorem dX.rep (h:dX b k link extra cs){i:Nat}{c c':List Nat}(hc:cs[i]?=some c)(hl:c'.length=c.length): dX (xQ b i (dJ b i) c') k link extra (cs.set i c'):=by
 obtain ⟨s1,s2,s3⟩:=h.slot i c hc
 have hlen:=h.len
 have hi:=(List.getElem?_eq_some_iff.1 hc).1
 have uz:=h.low
 have dZ:=h.fits
 have BH:=nL (cs:=cs) (i:=i+1)
 have Pj:=nK hc
 have l1:(aV b (dJ b i) c').length=512:=by rw [cz (by omega),hlen]
 have l2:(xQ b i (dJ b i) c').length=512:=K8 l1 (by omega)
 have o2:∀j,j<26+4*i∨30+4*i≤j→(xQ b i (dJ b i) c')[j]?=(aV b (dJ b i) c')[j]?:=fun j hj=>K9 l1 (by omega) hj
 have I:∀j,(j<26+4*i∨30+4*i≤j)→(j<dJ b i∨dJ b i+c.length≤j)→(xQ b i (dJ b i) c')[j]?=b[j]?:=fun j h1 h2=>by rw [o2 j h1,iR (by omega) (by omega)]
 have J:∀a z,(a+z≤26+4*i∨30+4*i≤a)→a+z≤26+4*cs.length→dn (xQ b i (dJ b i) c') a z=dn b a z:=fun a z h1 h2=>oV fun j h3 h4=>I j (by omega) (by omega)
 have ku:dJ (xQ b i (dJ b i) c') i=dJ b i∧iN (xQ b i (dJ b i) c') i=c'.length:=Ph l1 (by omega) (by omega) (by omega)
 have nA:∀k,tot ((cs.set i c').take k)=tot (cs.take k):=U3 hc hl
 have Xr:tot (cs.set i c')=tot cs:=by
  have:=nA cs.length
  rwa [dO (by rw [bW]; exact aD _),dO (aD _)] at this
 refine ⟨l2,?_,?_,?_,?_,?_,?_,by rw [Xr,bW]; exact dZ,fun j x hx => ?_⟩
 ·rw [m8 (I 13 (by omega) (by omega))]; exact h.Pg
 ·rw [m8 (I 12 (by omega) (by omega))]; exact h.kind
 ·rw [J _ _ (by omega) (by omega)]; exact h.link
 ·rw [J _ _ (by omega) (by omega)]; exact h.extra
 ·rw [kI,J _ _ (by omega) (by omega),bW]; exact h.c8
 ·rw [iM,J _ _ (by omega) (by omega),Xr]; exact uz
 ·rw [nA]
  by_cases rV:i=j
  ·subst rV
   rw [gw hi] at hx
   have hx:c'=x:=bk hx
   subst hx
   rw [ku.1,ku.2]
   exact ⟨s1,rfl,fun q hq=>by rw [o2 _ (by omega),Ac (by omega) hq]⟩
  ·rw [ff rV] at hx
   obtain ⟨r1,r2,r3⟩:=h.slot j x hx
   have hj:=(List.getElem?_eq_some_iff.1 hx).1
   have e1:dJ (xQ b i (dJ b i) c') j=dJ b j:=J _ _ (by omega) (by omega)
   have e2:iN (xQ b i (dJ b i) c') j=iN b j:=J _ _ (by omega) (by omega)
   have FY:=nK hx
   have htj:=nL (cs:=cs) (i:=j+1)
   rw [e1,e2]
   refine ⟨r1,r2,fun q hq => ?_⟩
   rw [I _ (by omega) ?_]
   ·exact r3 q hq
   ·rcases Nat.lt_or_gt_of_ne rV with q1 | q1
    ·have:=It (cs:=cs) (i:=i+1) (j:=j) (by omega); omega
    ·have:=It (cs:=cs) (i:=j+1) (j:=i) (by omega); omega
theorem dX.cell (h:dX b k link extra cs){i:Nat}{c:List Nat}(J:cs[i]?=some c): (b.drop (dJ b i)).take c.length=c:=by
 obtain ⟨s1,s2,s3⟩:=h.slot i c J
 apply qF
 intro j
 rw [jM]
 by_cases I:j<c.length
 ·rw [aj I,iU]; exact s3 j I
 ·rw [ah I,mU (by omega)]
end
section
variable {h:H} {S:List au} {X:au} {v w u:V} {l m:List Nat}
theorem Iu {id n a b:Nat}{cap:Cap}(mL:a≤b)(hb:b≤n): ∃off I,slR (.sl id 0 n cap) a b=.sl id off (b-a) I∧off≤n:=by
 cases cap with
 | exact c =>
  simp only [slR]
  by_cases J:c=a
  ·rw [gP J,ag]; exact ⟨0,_,rfl,ew _⟩
  ·rw [dc J,az]; exact ⟨0+a*1,_,rfl,by omega⟩
 | rest e alt=>exact ⟨0+a*1,_,rfl,by omega⟩
theorem K_ {id n off:Nat}{cs:List V}(I:T.get h.tr id=some (.cells n cs false))(ho:off≤n)(hl:cs.length=n): wrN h id off []=some (h.put id (some (.cells n cs false))):=by
 simp only [wrN,I,bT]
 rw [aJ.2 (by omega),ag]
 congr 3
 cases J:(Nat.beq off 0&&Nat.beq 0 n) with
 | true =>
  simp only [aO,beq_iff] at J
  rw [ag]
  rw [lJ (by omega:cs.length=0)]
 | false=>rw [az,cZ,gH,vK]
theorem Pk (s:Sat h (aZ v l::X::S))(hX:cT X (cU w m)){a b:Nat}(mL:a≤b)(hb:b≤l.length)(hl:1≤l.length):
  ∃h',copyV Tryz.prog h 28 (slR v a b) w=some (.int .i64 (min m.length (b-a):Nat),h')∧Sat h' (aZ v (aV l a (m.take (b-a)))::X::S):=by
 by_cases h1:a<b∧1≤m.length
 ·exact B1 s hX h1.1 hb h1.2
 ·have hm:min m.length (b-a)=0:=by omega
  have ht:m.take (b-a)=[]:=lJ (by rw [dM]; omega)
  have FZ:aV l a (m.take (b-a))=l:=by rw [ht,aV]; simp
  have hw:=(s.aE (k:=1) rfl hX).2
  have hv:=(s.buf (k:=0) rfl).view
  obtain ⟨id,c,cap,rest,rfl,s1,hc,hf⟩:=s.fI hl
  obtain ⟨off,yK,e1,e2⟩:=Iu (id:=id) (cap:=cap) mL hb
  rw [e1,FZ,hm]
  have hg:=s1.row (k:=0) rfl
  have zy:=K_ (off:=off) hg (by omega) (by rw [bx,c7]; exact hc)
  have J:Sat (h.put id (some (.cells c (ofBytes l++rest) false))) (aZ (.sl id 0 l.length cap) l::X::S):=hf _ _ rfl hv.1 (s1.put (k:=0) rfl)
  rcases hw with ⟨rfl | ⟨x,rfl⟩,_⟩ | ⟨kZ,I,Xs,n2,Fv,WO,rfl,KL,q1,q2,q3,q4⟩
  ·exact ⟨h,by simp only [copyV,aG,dP]; rfl,s⟩
  ·exact ⟨h,by simp only [copyV,aG,dP]; rfl,s⟩
  ·refine ⟨_,?_,J⟩
   have hr:rdN h kZ I 0=some []:=by
    simp only [rdN,KL,gH]
    rw [aJ.2 (by omega),ag]
    cases hq:(Nat.beq I 0&&Nat.beq 0 n2) with
    | true =>
     simp only [aO,beq_iff] at hq
     rw [ag,lJ (by omega:Fv.length=0)]
    | false=>rw [az,mX]
   simp only [copyV,aG,dP]
   rw [show Nat.min m.length (b-a)=0 from hm,qR,hr]
   simp only
   rw [zy]
theorem Pm (s:Sat h (aZ v l::S)){a b:Nat}(ha:a≤l.length)(hb:b≤l.length)(hl:1≤l.length):
  ∃h',copyV Tryz.prog h 28 (slR v a a) (slR v b b)=some (.int .i64 0,h')∧Sat h' (aZ v l::S):=by
 have hv:=(s.buf (k:=0) rfl).view
 obtain ⟨id,c,cap,rest,rfl,s1,hc,hf⟩:=s.fI hl
 obtain ⟨off,yK,e1,e2⟩:=Iu (id:=id) (cap:=cap) (aD _) ha
 obtain ⟨I,Xs,e3,e4⟩:=Iu (id:=id) (cap:=cap) (aD _) hb
 rw [e1,e3]
 have hg:=s1.row (k:=0) rfl
 have hle:(ofBytes l++rest).length=c:=by rw [bx,c7]; exact hc
 have J:=K_ (off:=off) hg (by omega) hle
 refine ⟨_,?_,hf _ _ rfl hv.1 (s1.put (k:=0) rfl)⟩
 have hr:rdN h id I 0=some []:=by
  simp only [rdN,hg,gH]
  rw [aJ.2 (by omega),ag]
  cases hq:(Nat.beq I 0&&Nat.beq 0 c) with
  | true =>
   simp only [aO,beq_iff] at hq
   rw [ag,lJ (by omega:(ofBytes l++rest).length=0)]
  | false=>rw [az,mX]
 simp only [copyV,aG,dP,td]
 rw [show Nat.min 0 0=0 from rfl,qR,hr]
 simp only
 rw [J]
 rfl
end
section
variable {C:cL} {E:List (Nat×V)} {h:H} {o:Oper} {S:List au} {X:au} {v u:V} {l m:List Nat} {cl:Go.Call}
theorem OpR.TF {a b:Nat}(hP:C.P=Tryz.prog)(s:Sat h (aZ v l::X::S))(hX:cT X (cU u m))(I:o.op=.call cl)(hc:cl.callee=.builtin .copy)(J:cl.argTypes = #[28,28])(ha:lookArgs E cl.args.toList=some [slR v a b,u])
 (mL:a≤b)(hb:b≤l.length)(hl:1≤l.length): OpR C E h o fun _ h₁=>Sat h₁ (aZ v (aV l a (m.take (b-a)))::X::S):=by
 obtain ⟨h₁,e1,e2⟩:=Pk s hX mL hb hl
 refine OpR.builtin I hc ha ⟨.int .i64 (min m.length (b-a):Nat),h₁,?_,e2⟩
 simp only [builtinV,hP,J,e1]
theorem OpR.Y4 {a b:Nat}(hP:C.P=Tryz.prog)(s:Sat h (aZ v l::S))(I:o.op=.call cl)(hc:cl.callee=.builtin .copy)(J:cl.argTypes = #[28,28])(hx:lookArgs E cl.args.toList=some [slR v a a,slR v b b])
 (ha:a≤l.length)(hb:b≤l.length)(hl:1≤l.length): OpR C E h o fun _ h₁=>Sat h₁ (aZ v l::S):=by
 obtain ⟨h₁,e1,e2⟩:=Pm s ha hb hl
 refine OpR.builtin I hc hx ⟨.int .i64 0,h₁,?_,e2⟩
 simp only [builtinV,hP,J,e1]
end
section
variable {told:cQ} {h:H} {S:List au} {X Y:au} {k:Nat} {v x:V} {b l c:List Nat} {kd link extra:Nat} {cs:List (List Nat)}
theorem Dy (I:W told){i f z:Nat}(s:Sat h (aZ v b::S))(hl:b.length=512)(hi:30+4*i≤512)(hf:f<65536)(hz:z<65536):
  Call ⟨Tryz.prog,told⟩ 158 [.agg [v],.int .i64 (i:Int),.int .i64 (f:Int),.int .i64 (z:Int)] h fun r h'=>r=.bj []∧Sat h' (aZ v (yq b i f z)::S):=by
 have hle:∀n,(le 2 n).length=2:=fun n=>cy 2 n
 have l1:(aV b (26+4*i) (le 2 f)).length=512:=by rw [cz (by rw [hle]; omega),hl]
 obtain ⟨qw,_,cap,_,rfl,_⟩:=s.fI (by omega)
 have J:(26:Int)+4*(i:Int)=((26+4*i:Nat):Int):=by omega
 have e2:(26:Int)+4*(i:Int)+2=((26+4*i+2:Nat):Int):=by omega
 refine Call.of_wp (I.free _ rfl) Tryz.func158 rfl rfl (zg rfl ?_)
 refine aA.b5 s rfl rfl rfl (fe rfl rfl) (fun p4 h s => ?_)
 refine zk 4 rfl (zb rfl (by exact kA (aC (by omega) (by omega))) ?_)
 refine zb rfl (by exact br (aC (by omega) (by omega))) ?_
 refine zk 4 rfl (zl rfl (s.cA (k:=0) rfl cG bL) (zk 2 rfl (zo rfl (cJ rfl (by exact iZ bD cE (fD (by omega) (by omega)))) ?_)))
 rw [J]
 refine zc rfl (qg (a:=26+4*i) (z:=2) (n:=f) I (s.ae [1]) (by decide) (by decide) (by omega) (by omega)) ?_
 rintro r h ⟨rfl,s⟩
 have s:=s.ae [1,0]
 refine zk 2 rfl (zl rfl (s.cA (k:=0) rfl cG bL) (zm rfl (zo rfl (af (r:=.int .i64 ((26+4*i+2:Nat):Int)) rfl rfl (by rw [←e2,←J]; exact br (aC (by omega) (by omega)))) ?_)))
 refine zm rfl (zo rfl (cJ rfl (by exact iZ bD cE (fD (by omega) (by omega)))) ?_)
 refine zc rfl (qg (a:=26+4*i+2) (z:=2) (n:=z) I (s.ae [1]) (by decide) (by decide) (by omega) (by omega)) ?_
 rintro r h ⟨rfl,s⟩
 exact zv ⟨aa,_,rfl,rfl,s.del 1⟩
theorem E4 (hT:W told){i:Nat}(s:Sat h S)(hk:getA S k=some X)(hX:cT X (cU v b))(J:dX b kd link extra cs)(hc:cs[i]?=some c):
  Call ⟨Tryz.prog,told⟩ 157 [.agg [v],.int .i64 (i:Int)] h fun r h'=>∃f,r=slR3 v f (f+c.length) (f+c.length)∧cT X (cU r c)∧Sat h' S:=by
 have hv:=s.aE hk hX
 have hl:=J.len
 have hi:=(List.getElem?_eq_some_iff.1 hc).1
 have dZ:=J.fits
 have uz:=J.low
 obtain ⟨s1,s2,s3⟩:=J.slot i c hc
 have BH:=nL (cs:=cs) (i:=i+1)
 have Pj:=nK hc
 have I:=J.cell hc
 generalize hf:dJ b i=f at s1 s3 I
 obtain ⟨pi,po,pc,rfl⟩:=iC hv (by omega)
 refine Call.of_wp (hT.free _ rfl) Tryz.func157 rfl rfl (zg rfl ?_)
 refine aA.b5 s rfl rfl rfl (fe rfl rfl) (fun p2 h s => ?_)
 refine zk 4 rfl (zl rfl (s.cA (k:=0) rfl cG bL) (zm rfl (zc rfl (A8 hT s (m4 hk) hX hl (by omega)) ?_)))
 rintro r h' ⟨rfl,s⟩
 rw [hf,s2]
 refine zk 8 rfl (zf rfl (g8 _ _) (zl rfl (s.ld (k:=0) rfl bJ rfl) (zk 3 rfl (zb rfl (by exact br (aC (by omega) (by omega))) ?_))))
 refine zk 2 rfl (zb rfl (by exact br (aC (by omega) (by omega))) ?_)
 have e1:(f:Int)+(c.length:Int)=((f+c.length:Nat):Int):=by omega
 have ku:=BD (s.aE (m4 hk) hX) (a:=f) (b:=f+c.length) (c:=f+c.length) (by omega) (aD _) (by omega) (by omega)
 rw [e1]
 refine zo rfl (cf (p:=some (.int .i64 (f:Int))) (q:=some (.int .i64 ((f+c.length:Nat):Int))) (m:=some (.int .i64 ((f+c.length:Nat):Int))) (p':=some f) (q':=some (f+c.length)) (m':=some (f+c.length)) rfl rfl rfl rfl (by rw [dm (by omega)]; rfl) (by rw [dm (by omega)]; rfl) (by rw [dm (by omega)]; rfl) ku) ?_
 refine zk 2 rfl (WP.ret ⟨aa,_,rfl,?_⟩)
 refine ⟨f,rfl,?_,s.drop⟩
 have:=Fx hX (a:=f) (b:=f+c.length) (c:=f+c.length) (by omega) (aD _) (by omega) (by omega)
 rw [qL,show f+c.length-f=c.length by omega,I] at this
 exact this
theorem U4 (J:W told)(s:Sat h S)(hk:getA S k=some X)(hX:cT X (cU v b))(I:dX b kd link extra cs):
  Call ⟨Tryz.prog,told⟩ 103 [.agg [v]] h fun r h'=>r=.int .i64 (486-(4*(cs.length:Int)+(tot cs:Int)))∧Sat h' S:=by
 have hv:=s.aE hk hX
 have hl:=I.len
 have dZ:=I.fits
 have uz:=I.low
 obtain ⟨pi,po,pc,rfl⟩:=iC hv (by omega)
 refine Call.of_wp (J.free _ rfl) Tryz.func103 rfl rfl (zg rfl ?_)
 refine aA.b5 s rfl rfl rfl (fe rfl rfl) (fun p1 h s => ?_)
 refine zk 3 rfl ?_
 have s0:=s
 refine WP.drawn [none,none,some (1,2),some (0,2),ai,ai,ai,ai] rfl (by kernel_rfl) (by kernel_rfl) ?_
 refine zL rfl (s.cA (k:=0) rfl cG bL) (aB.any rfl rfl rfl rfl (OpR.call rfl rfl rfl rfl (HT J s (m4 hk) hX hl)) ?_)
 rintro r h' ⟨rfl,s⟩
 have s1:=s
 refine zO rfl (af rfl rfl (by exact jE (aC (by omega) (by omega)))) ?_
 refine zL rfl (s.cA (k:=0) rfl cG bL) (aB.any rfl rfl rfl rfl (OpR.call rfl rfl rfl rfl (lC J s (m4 hk) hX hl)) ?_)
 rintro r h' ⟨rfl,s⟩
 rw [I.c8]
 refine zO rfl (af rfl rfl (by exact kA (aC (by omega) (by omega)))) ?_
 refine zO rfl (af rfl rfl (by exact jE (aC (by omega) (by omega)))) ?_
 refine zA rfl ?_
 refine aB.nil ⟨⟨aa,aa,fun _ _=>.inr ⟨rfl,⟨_,af rfl rfl (by exact jE (aC (by omega) (by omega)))⟩,bq _ rfl⟩,dW (.inr ⟨rfl,⟨_,bh rfl (s0.cA (k:=0) rfl cG bL)⟩,bq _ rfl⟩) (.inr ⟨rfl,⟨_,bh rfl (s1.cA (k:=0) rfl cG bL)⟩,bq _ rfl⟩),aa,aa,aa,aa,aa⟩,?_⟩
 refine WP.ret ⟨aa,_,rfl,?_⟩
 exact ⟨gy (V.int .i64) (by omega),s.drop⟩
noncomputable def pfL : Code:=dB [1,1,0,1,0,0] ((Tryz.f102.body).getD .skip)
theorem MI (hT:W told){J:Nat}{x:V}(hX:cT X (cU x b))(yS:x.cells=[x])(hp:dX b kd link extra cs): ∀(m i:Nat) (h:H) (E:List (Nat×V)) (Q:Ex→List (Nat×V)→H→Prop),i+m=cs.length →
  Sat h (pt J (.cells 1 [x] false)::X::S)→Has E [(1,.ptr J 0),(3,.int .i64 (486-(4*(cs.length:Int)+(tot (cs.take i):Int)))),(12,.int .i64 (cs.length:Int)),(13,.int .i64 (i:Int))] →
  (∀E' h',Has E' [(3,.int .i64 (486-(4*(cs.length:Int)+(tot cs:Int))))]→Sat h' (pt J (.cells 1 [x] false)::X::S)→Q (.exit 0) E' h')→WP ⟨Tryz.prog,told⟩ 27 (.loop pfL) E h Q:=by
 have hl:=hp.len
 have dZ:=hp.fits
 intro m
 induction m with
 | zero =>
  intro i h E Q hi s hE hq
  refine WP.loop (WP.has hE (zg rfl (zh rfl (af rfl rfl aT) (by simp <;> omega) ?_)))
  refine zk 3 rfl (WP.exit ?_)
  refine hq _ _ ⟨?_,aa⟩ s
  rw [show cs.take i=cs from dO (by omega)]
  rfl
 | succ m ih =>
  intro i h E Q hi s hE hq
  have I:cs[i]?=some (cs[i]'(by omega)):=bf _
  generalize (cs[i]'(by omega))=c at I
  obtain ⟨s1,s2,s3⟩:=hp.slot i c I
  have BH:=nL (cs:=cs) (i:=i+1)
  have Pj:=nK I
  refine WP.loop (WP.has hE (zg rfl (zt rfl (af rfl rfl aT) (by simp <;> omega) ?_)))
  refine zk 5 rfl (WP.block (zK 7 rfl (zl rfl (s.cA (k:=0) rfl cG bL) (zm rfl (zc rfl (A8 hT (i:=i) s (k:=1) rfl hX hl (by omega)) ?_)))))
  rintro r h' ⟨rfl,s⟩
  rw [s2]
  refine zk 9 rfl (zb rfl (by exact jE (aC (by omega) (by omega))) ?_)
  refine za rfl (zv (zr rfl (zb rfl (by exact br (aC (by omega) (by omega))) ?_)))
  refine zm rfl (zv ?_)
  refine ih (i+1) _ _ Q (by omega) s ⟨rfl,?_,rfl,rfl,aa⟩ hq
  exact gy (fun z=>some (V.int .i64 z)) (by omega)
theorem RP (J:W told)(s:Sat h (X::S))(hX:cT X (cU v b))(I:dX b kd link extra cs):
  Call ⟨Tryz.prog,told⟩ 102 [.agg [v]] h fun r h'=>r=.int .i64 (486-(4*(cs.length:Int)+(tot cs:Int)))∧Sat h' (X::S):=by
 have hv:=s.aE (k:=0) rfl hX
 have hl:=I.len
 have dZ:=I.fits
 obtain ⟨pi,po,pc,rfl⟩:=iC hv (by omega)
 refine Call.of_wp (J.free _ rfl) Tryz.func102 rfl rfl (zg rfl ?_)
 refine aA.b5 s rfl rfl rfl (fe rfl rfl) (fun p1 h s => ?_)
 refine zk 4 rfl (zl rfl (s.cA (k:=0) rfl cG bL) (zc rfl (lC J s (k:=1) rfl hX hl) ?_))
 rintro r h' ⟨rfl,s⟩
 rw [I.c8]
 refine zb rfl (by exact kA (aC (by omega) (by omega))) ?_
 refine zb rfl (by exact jE (aC (by omega) (by omega))) ?_
 refine zk 5 rfl (zl rfl (s.cA (k:=0) rfl cG bL) (zc rfl (lC J s (k:=1) rfl hX hl) ?_))
 rintro r h' ⟨rfl,s⟩
 rw [I.c8]
 refine zk 2 rfl (WP.block ?_)
 refine MI J hX rfl I cs.length 0 _ _ _ (by omega) s ⟨rfl,?_,rfl,rfl,aa⟩ (fun E' h' hE s' => ?_)
 ·exact gy (fun z=>some (V.int .i64 z)) (by have:tot (cs.take 0)=0:=rfl; omega)
 have s:=s'
 exact WP.has hE (zK 5 rfl (WP.ret ⟨aa,_,rfl,rfl,s.del 0⟩))
theorem RQ (I:W told){i lo:Nat}(s:Sat h (aZ v b::X::S))(J:cT X (cU x c))(hl:b.length=512)(hi:30+4*i≤512)(uO:iM b=lo+c.length)(ace:lo+c.length≤512):
  Call ⟨Tryz.prog,told⟩ 105 [.agg [v],.int .i64 (i:Int),x] h fun r h'=>r=.bj []∧Sat h' (aZ v (yq (aV (aV b lo c) 16 (le 2 lo)) i lo c.length)::X::S):=by
 have hle:∀n,(le 2 n).length=2:=fun n=>cy 2 n
 have l1:(aV b lo c).length=512:=by rw [cz (by omega),hl]
 have l2:(aV (aV b lo c) 16 (le 2 lo)).length=512:=by rw [cz (by rw [hle]; omega),l1]
 obtain ⟨qw,_,cap,_,rfl,_⟩:=s.fI (by omega)
 have hxv:=s.aE (k:=1) rfl J
 have hx:=hxv.cells
 refine Call.of_wp (I.free _ rfl) Tryz.func105 rfl rfl (zg rfl ?_)
 refine aA.b5 s rfl rfl rfl (fe rfl rfl) (fun p3 h s => ?_)
 refine zk 3 rfl (zl rfl (s.cA (k:=0) rfl cG bL) (zc rfl (HT I s (k:=1) rfl (bg _ _) hl) ?_))
 rintro r h' ⟨rfl,s⟩
 rw [uO]
 refine zm rfl (zo rfl (aU rfl rfl rfl (a_ aG (s.aE (k:=2) rfl J))) (zo rfl (af (r:=.int .i64 (lo:Int)) rfl rfl (by rw [show ((lo:Nat):Int)=((lo+c.length:Nat):Int)-(c.length:Int) by omega]; exact jE (aC (by omega) (by omega)))) ?_))
 refine zk 4 rfl (zf rfl (g8 _ _) (zl rfl (s.ld (k:=0) rfl bJ rfl) (zm rfl ?_)))
 have ku:=eO (s.aE (k:=1) rfl (bg _ _)) (a:=lo) (by omega)
 refine zo rfl (cf (p:=some (.int .i64 (lo:Int))) (q:=none) (m:=none) (p':=some lo) (q':=none) (m':=none) rfl rfl rfl rfl (by rw [dm (by omega)]; rfl) rfl rfl ku.1) ?_
 refine zm rfl (aA.any rfl rfl rfl (OpR.TF rfl (s.ae [1,1]) J rfl rfl rfl rfl (by omega) (aD _) (by omega)) ?_)
 intro r h s
 rw [dO (by omega)] at s
 have s:=s.ae [2,0,0]
 refine zk 3 rfl (zl rfl (s.cA (k:=0) rfl cG bL) (zm rfl (zo rfl (cJ rfl (by exact iZ bD cE (fD (by omega) (by omega)))) ?_)))
 refine zc rfl (qg (a:=16) (z:=2) (n:=lo) I (s.ae [1]) (by decide) (by decide) (by omega) (by omega)) ?_
 rintro r h ⟨rfl,s⟩
 have s:=s.ae [1,0,0]
 refine zk 2 rfl (zl rfl (s.cA (k:=0) rfl cG bL) (zk 3 rfl (zo rfl (aU rfl rfl rfl (a_ aG (s.aE (k:=2) rfl J))) (zc rfl (Dy (i:=i) (f:=lo) (z:=c.length) I (s.ae [1]) l2 hi (by omega) (by omega)) ?_))))
 rintro r h ⟨rfl,s⟩
 exact zv ⟨aa,_,rfl,rfl,s.del 1⟩
end
end Go.Proofs.YtefepnnfphdkpaaGreat.Am
