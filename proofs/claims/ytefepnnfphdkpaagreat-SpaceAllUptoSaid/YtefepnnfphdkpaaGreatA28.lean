/- SpaceAll: a part of its proof; conditions: its statement's. -/
import Derived.Test.YtefepnnfphdkpaaGreatA27
namespace Go.Proofs.YtefepnnfphdkpaaGreat.Am
open Go
theorem D7 (n:Nat): (digits 9 n).length≤10:=qJ 9 n
def oz (π:Pl)(n:Int)(b:List Nat): Prop:=∃(i:Nat) (f:Fm),π.ah[i]?=some f∧f.aS=n∧0≤n∧f.changed=true∧f.b=b
abbrev VP := (Int→List Nat→Prop)→List (Int×(Nat×Bool))→LD→Prop
abbrev vw (P:VP)(ε:aH): Prop:=P (oz ε.1) ε.1.bV ε.2
theorem K8 {π I:Pl}(hn:er π I): oz I=oz π:=by
 funext n b
 refine propext ⟨fun ⟨i,x,hx,J,h0,h2,h3⟩ => ?_,fun ⟨i,f,hf,J,h0,h2,h3⟩ => ?_⟩
 ·obtain ⟨f,t,hf,rfl⟩:=hn.back hx
  exact ⟨i,f,hf,J,h0,h2,h3⟩
 ·obtain ⟨t,ht⟩:=hn.get i f hf
  exact ⟨i,_,ht,J,h0,h2,h3⟩
theorem vQ {π:Pl}{i:Nat}{f g:Fm}(J:π.ah[i]?=some f)(hs:∀n b,(f.aS=n∧0≤n∧f.changed=true∧f.b=b)↔(g.aS=n∧0≤n∧g.changed=true∧g.b=b)){w:List (Int×Int)}{d:List (Int×(Nat×Bool))}{hd:Nat}: oz ⟨π.ah.set i g,w,d,hd⟩=oz π:=by
 have hi:=(List.getElem?_eq_some_iff.1 J).1
 funext n b
 refine propext ⟨fun ⟨j,x,I,h⟩ => ?_,fun ⟨j,x,I,h⟩ => ?_⟩
 ·rcases qL J I with ⟨rfl,rfl⟩ | ⟨_,I⟩
  ·exact ⟨i,f,J,(hs n b).2 h⟩
  ·exact ⟨j,x,I,h⟩
 ·by_cases hj:i=j
  ·subst hj
   rw [J] at I
   have:=bH I
   subst this
   exact ⟨i,g,fG hi,(hs n b).1 h⟩
  ·exact ⟨j,x,by show (π.ah.set i g)[j]?=some x; rw [eL hj]; exact I,h⟩
theorem Jb {π:Pl}{i:Nat}{f g:Fm}(J:π.ah[i]?=some g)(hc:0≤g.aS→g.changed=false): oz (cu π i f)=oz π :=
 vQ J fun n b=>⟨(fun ⟨h1,h0,I,_⟩=>by rw [hc (by omega)] at I; cases I),fun ⟨_,_,I,_⟩=>(by cases I)⟩
theorem GM {π:Pl}{i:Nat}{e:Fm}{n:Int}{b:List Nat}(he:π.ah[i]?=some e)(J:e.aS<0): oz (gJ π i n b)=oz π :=
 vQ he fun m c=>⟨fun ⟨h1,h0,_⟩=>by omega,fun ⟨_,_,I,_⟩=>(by cases I)⟩
structure om (N:Nat)(P:VP): Prop where
 one:∀(ε:aH) (i:Nat) (f:Fm),EC N ε→ε.1.ah[i]?=some f→0≤f.aS→f.changed=true→vw P ε→vw P (outF ε i).2
theorem jN.Td {R:LD→Prop}(h:jN R)(N:Nat): om N (fun _ _ x=>R x):=⟨fun _ _ _ _ _ _ _ hv=>h.out hv⟩
section
variable {N:Nat} {P:VP} {ε ε':aH} {n e:Int} {b:List Nat} {now b_:List (Int×List Nat)} {l:List Int} {cs:List cY}
theorem om.out (h:om N P){i:Nat}{f:Fm}(he:EC N ε)(I:ε.1.ah[i]?=some f)(hv:vw P ε): vw P (outF ε i).2:=by
 by_cases J:f.aS<0∨f.changed=false
 ·have e:outF ε i=(0,ε):=by simp only [outF,I,aq J]
  rw [e]; exact hv
 ·exact h.one ε i f he I (by omega) (by cases hq:f.changed with | true=>rfl | false=>exact absurd (.inr hq) J) hv
theorem om.gy (h:om N P)(hr:eu ε n e b ε')(he:EC N ε)(hv:vw P ε): vw P ε':=by
 cases hr with
 | arg J=>exact hv
 | yE i f h1 h2 hl hf =>
  show P (oz ⟨ε.1.ah.set i { f with dz:=true,pins:=f.pins+1 },ε.1.aY,ε.1.bV,ε.1.hand⟩) ε.1.bV ε.2
  rw [vQ hf (g:={ f with dz:=true,pins:=f.pins+1 }) (fun n b=>Iff.rfl)]
  exact hv
 | out I i f h1 h2 hl J hf hh hq=>exact absurd ((he.nD J).1.out hf).1 hq
 | read I i f h1 h2 hl J hf hh hq hr =>
  obtain ⟨k1,k2,k3,k4,g,k5,k6,k7⟩:=(he.nD J).1.out hf
  refine absurd ?_ hr
  rw [he.dk.aT] at h2
  rw [Dk.nM,ai (by rw [k2.dk.alive]; decide),ai (by rw [k2.dk.aT]; exact not_not_intro ⟨h1,h2⟩)]
 | bad I i f h1 h2 hl J hf hh hq hr hc =>
  obtain ⟨k1,k2,k3,k4,g,k5,k6,k7⟩:=(he.nD J).1.out hf
  rw [he.dk.aT] at h2
  exact absurd (k2.dk.good n h1 h2) hc
 | load I i f h1 h2 hl J hf hh hq hr hc =>
  obtain ⟨n1,n2⟩:=he.nD J
  have PA:vw P (I,ε.2):=by show P (oz I) I.bV ε.2; rw [K8 J,J.bV]; exact hv
  have tC:=h.out (ε:=(I,ε.2)) n1 hf PA
  obtain ⟨k1,k2,k3,k4,g,k5,k6,k7⟩:=n1.out hf
  have e1:=Jb (f:=f) k5 k7
  have hg:(cu (outF (I,ε.2) i).2.1 i f).ah[i]?=some dx:=(k2.cu k5 k6 k7).2.2.1
  show P (oz (gJ (cu (outF (I,ε.2) i).2.1 i f) i n ((outF (I,ε.2) i).2.2.2.at n))) (outF (I,ε.2) i).2.1.bV (outF (I,ε.2) i).2.2
  rw [GM hg (by decide),e1]
  exact tC
theorem Bc {π:Pl}: oz (unpinF π n).2=oz π∧(unpinF π n).2.bV=π.bV:=by
 unfold unpinF
 split
 ·exact ⟨rfl,rfl⟩
 ·split
  ·exact ⟨rfl,rfl⟩
  ·rename_i i hi f I
   exact ⟨vQ I (g:={ f with pins:=f.pins-1 }) (fun n b=>Iff.rfl),rfl⟩
theorem om.rd (h:om N P)(I:kf ε n e b ε')(he:EC N ε)(hv:vw P ε): vw P ε':=by
 cases I with
 | dead J=>exact hv
 | gy e b ε' J I _=>exact h.gy I he hv
 | oO b ε' J I _ =>
  have:=h.gy I he hv
  obtain ⟨u1,u2⟩:=Bc (π:=ε'.1) (n:=n)
  show P (oz (unpinF ε'.1 n).2) (unpinF ε'.1 n).2.bV ε'.2
  rw [u1,u2]; exact this
 | read b ε' J I _ =>
  have:=h.gy I he hv
  obtain ⟨u1,u2⟩:=Bc (π:=ε'.1) (n:=n)
  show P (oz (unpinF ε'.1 n).2) (unpinF ε'.1 n).2.bV ε'.2
  rw [u1,u2]; exact this
theorem om.uU (h:om N P)(I:mq ε now false n e b ε')(he:EC N ε)(hv:vw P ε): vw P ε':=by
 cases I with
 | arg hn=>exact hv
 | bE _ _ ho=>cases ho
 | own b J h2 _ hl=>exact hv
 | read e b ε' J h2 _ hl I=>exact h.rd I he hv
theorem om.I1 (h:om N P)(I:ql ε now false n b e b_ ε')(he:EC N ε)(hv:vw P ε): vw P ε':=by
 cases I with
 | may e c ε' I _=>exact h.uU I he hv
 | bad c ε' I J=>exact h.uU I he hv
 | done c ε' I J=>exact h.uU I he hv
end
section
variable {P:Program} {h:H} {S:List au} {k j:Nat} {v:V} {cs:List V}
end
section
variable {told:cX} {h:H} {S:List au} {X:au} {r k q p a g bA N B:Nat} {op v x pv:V} {l data:List Nat} {ε:aH} {ps:List (List Nat)}
end
def tot : List (List Nat)→Nat
 | []=>0
 | c::l=>c.length+tot l
theorem AA {a b:List (List Nat)}: tot (a++b)=tot a+tot b:=by
 induction a with
 | nil=>simp [tot]
 | cons x a I=>simp only [gL,tot,I]; omega
theorem kG : ∀ {cs:List (List Nat)} {i:Nat} {c:List Nat},cs[i]?=some c→tot (cs.take (i+1))=tot (cs.take i)+c.length:=by
 intro cs
 induction cs with
 | nil=>intro i c h; simp at h
 | cons x cs I =>
  intro i c h
  cases i with
  | zero=>simp at h; subst h; simp [tot]
  | succ i =>
   have:=I (i:=i) (by simpa using h)
   simp only [oU,tot,this]; omega
theorem C1 {cs:List (List Nat)}{i j:Nat}(h:i≤j): tot (cs.take i)≤tot (cs.take j):=by
 have e:cs.take j=cs.take i++(cs.take j).drop i:=by
  conv=>lhs; rw [←q_ i (cs.take j),rD,o5 h]
 rw [e,AA]; omega
theorem kH {cs:List (List Nat)}{i:Nat}: tot (cs.take i)≤tot cs:=by
 have:=AA (a:=cs.take i) (b:=cs.drop i)
 rw [q_] at this; omega
theorem Nz : ∀ {cs:List (List Nat)} {i:Nat} {c c':List Nat},cs[i]?=some c→c'.length=c.length→∀k,tot ((cs.set i c').take k)=tot (cs.take k):=by
 intro cs
 induction cs with
 | nil=>intro i c c' h; simp at h
 | cons x cs J =>
  intro i c c' h I k
  cases i with
  | zero =>
   simp at h; subst h
   cases k with
   | zero=>rfl
   | succ k=>simp [tot,I]
  | succ i=>cases k with
   | zero=>rfl
   | succ k =>
    have:=J (i:=i) (by simpa using h) I k
    simp only [y8,oU,tot,this]
theorem fX {l m:List Nat}{a i:Nat}(h:a+m.length≤l.length)(hi:i<a∨a+m.length≤i): (aR l a m)[i]?=l[i]?:=by
 rw [yK h,ai (by omega)]
theorem uW {l m:List Nat}{a i:Nat}(h:a+m.length≤l.length)(hi:i<m.length): (aR l a m)[a+i]?=m[i]?:=by
 rw [yK h,aq (by omega)]; congr 1; omega
theorem lT {l m:List Nat}{a z:Nat}(h:∀i,a≤i→i<a+z→l[i]?=m[i]?): cC l a z=cC m a z:=by
 unfold cC
 congr 1
 apply oW
 intro i
 simp only [ju,iP]
 by_cases hi:a+i<a+z
 ·rw [aq hi,aq hi,h _ (by omega) hi]
 ·rw [ai hi,ai hi]
theorem AB {l m:List Nat}{a b z:Nat}(h:a+m.length≤l.length)(I:b+z≤a∨a+m.length≤b): cC (aR l a m) b z=cC l b z :=
 lT fun i J h2=>fX h (by omega)
theorem qo {l:List Nat}{a z n:Nat}(h:a+z≤l.length)(I:n<256^z): cC (aR l a (le z n)) a z=n:=by
 have e:((aR l a (le z n)).take (a+z)).drop a=le z n:=by
  apply oW
  intro i
  simp only [ju,iP]
  by_cases hi:i<z
  ·rw [aq (by omega),uW (by rw [dw]; omega) (by rw [dw]; omega)]
  ·rw [ai (by omega),qZ (by rw [dw]; omega)]
 rw [cC,e,I7,jv I]
theorem j3 {l m:List Nat}{i:Nat}(h:l[i]?=m[i]?): l.getD i 0=m.getD i 0:=by rw [dF,dF,h]
structure dA (b:List Nat)(k link extra:Nat)(cs:List (List Nat)): Prop where
 len:b.length=512
 Jc:b.getD 13 0=0
 kind:b.getD 12 0=k
 link:cC b 18 4=link
 extra:cC b 22 4=extra
 gi:iO b=cs.length
 low:fU b+tot cs=512
 fits:26+4*cs.length+tot cs≤512
 slot:∀i c,cs[i]?=some c→cA b i+tot (cs.take (i+1))=512∧fV b i=c.length∧∀j,j<c.length→b[cA b i+j]?=c[j]?
theorem K9 : ∀(z k:Nat) (t:List Bool),k+z≤t.length→(∀j,k≤j→j<k+z→t.getD j false=false)→∃t',markL z k t=some t'∧t'.length=t.length∧∀j,(j<k∨k+z≤j)→t'.getD j false=t.getD j false:=by
 intro z
 induction z with
 | zero=>intro k t _ _; exact ⟨t,rfl,rfl,fun _ _=>rfl⟩
 | succ z J =>
  intro k t h1 I
  have hs:∀j,j≠k→(t.set k true).getD j false=t.getD j false:=fun j hj=>by
   rw [dF,dF,eL (by omega)]
  obtain ⟨t',e1,e2,e3⟩:=J (k+1) (t.set k true) (by rw [bI]; omega) (fun j a b=>by rw [hs j (by omega)]; exact I j (by omega) (by omega))
  refine ⟨t',?_,by rw [e2,bI],fun j hj => ?_⟩
  ·rw [markL,I k (aE _) (by omega),ai (by decide)]; exact e1
  ·rw [e3 j (by omega),hs j (by omega)]
section
variable {b:List Nat} {k link extra:Nat} {cs:List (List Nat)}
theorem dA.cells (h:dA b k link extra cs): ∀(n i:Nat) (t:List Bool),i+n=cs.length→t.length=512→(∀j,j+tot (cs.take i)<512→t.getD j false=false)→cellsL b (fU b) n i t=true:=by
 intro n
 induction n with
 | zero=>intro i t _ _ _; rfl
 | succ n ih =>
  intro i t hi ht J
  have I:cs[i]?=some (cs[i]'(by omega)):=aN _
  generalize (cs[i]'(by omega))=c at I
  obtain ⟨s1,s2,s3⟩:=h.slot i c I
  have h1:=kG I
  have h2:=kH (cs:=cs) (i:=i+1)
  have h3:=h.low
  obtain ⟨t',e1,e2,e3⟩:=K9 c.length (cA b i) t (by omega) (fun j _ _=>J j (by omega))
  rw [cellsL,s2,ai (by omega),e1]
  exact ih (i+1) t' (by omega) (by rw [e2]; exact ht) (fun j hj=>by rw [e3 j (by omega)]; exact J j (by omega))
theorem dA.good (h:dA b k link extra cs): bN b=true:=by
 have I:=h.low
 have J:=h.fits
 rw [bN,cK h.len,cK h.Jc,cK (by rw [h.gi]; omega),h.cells _ _ _ (by rw [h.gi]; omega) c8 fun j hj => ?_]
 ·rfl
 ·rw [dF]
  simp only [vb]
  split <;> rfl
theorem dA.tail (h:dA b k link extra cs){I:List Nat}(hl:I.length=512)(ht:I.drop 12=b.drop 12): dA I k link extra cs:=by
 have hg:∀i,12≤i→I[i]?=b[i]?:=fun i hi=>by
  have:=eB (fun l:List Nat=>l[i-12]?) ht
  simp only [ju] at this
  rw [show 12+(i-12)=i by omega] at this; exact this
 have J:∀a z,12≤a→cC I a z=cC b a z:=fun a z q=>qn ht q
 refine ⟨hl,?_,?_,?_,?_,?_,?_,h.fits,fun i c hc => ?_⟩
 ·rw [j3 (hg 13 (by decide))]; exact h.Jc
 ·rw [j3 (hg 12 (by decide))]; exact h.kind
 ·rw [J _ _ (by decide)]; exact h.link
 ·rw [J _ _ (by decide)]; exact h.extra
 ·rw [iO,J _ _ (by decide)]; exact h.gi
 ·rw [fU,J _ _ (by decide)]; exact h.low
 ·obtain ⟨s1,s2,s3⟩:=h.slot i c hc
  have e1:cA I i=cA b i:=J _ _ (by omega)
  have e2:fV I i=fV b i:=J _ _ (by omega)
  have uG:=h.low
  have eU:=h.fits
  have wC:=kH (cs:=cs) (i:=i+1)
  rw [e1,e2]
  exact ⟨s1,s2,fun j hj=>by rw [hg _ (by omega)]; exact s3 j hj⟩
def AD (k:Nat): List Nat:=aR ((List.replicate 512 0).set 12 k) 16 (le 2 512)
theorem dA.new : dA (AD k) k 0 0 []:=by
 have hl:((List.replicate 512 0).set 12 k).length=512:=by rw [bI,c8]
 have hle:∀n,(le 2 n).length=2:=fun n=>dw 2 n
 have I:∀i,i<16∨18≤i→(AD k)[i]?=((List.replicate 512 0).set 12 k)[i]?:=fun i hi=>fX (by rw [hle]; omega) (by rw [hle]; omega)
 have hz:∀i,i≠12→((List.replicate 512 0).set 12 k)[i]?=(List.replicate 512 0)[i]?:=fun i hi=>eL (by omega)
 have J:∀a z,a+z≤512→(18≤a∨(13≤a∧a+z≤16))→cC (AD k) a z=cC (List.replicate 512 0) a z:=fun a z h1 h2=>lT fun i h3 h4=>by rw [I i (by omega),hz i (by omega)]
 refine ⟨by rw [AD,cm (by rw [hle]; omega),hl],?_,?_,?_,?_,?_,?_,by decide,fun i c hc=>(by simp at hc)⟩
 ·rw [j3 ((I 13 (by decide)).trans (hz 13 (by decide)))]; decide +kernel
 ·rw [j3 (I 12 (by decide)),dF,fG (by rw [c8]; decide)]; rfl
 ·rw [J _ _ (by decide) (by decide)]; decide +kernel
 ·rw [J _ _ (by decide) (by decide)]; decide +kernel
 ·rw [iO,J _ _ (by decide) (by decide)]; decide +kernel
 ·rw [fU,AD,qo (by omega) (by decide)]; rfl
def qW (b:List Nat)(x y:Nat): List Nat:=aR (aR b 18 (le 4 x)) 22 (le 4 y)
theorem dA.set (h:dA b k link extra cs){x y:Nat}(hx:x<4294967296)(hy:y<4294967296): dA (qW b x y) k x y cs:=by
 have hlen:=h.len
 have hle:∀n,(le 4 n).length=4:=fun n=>dw 4 n
 have l1:(aR b 18 (le 4 x)).length=512:=by rw [cm (by rw [hle]; omega),hlen]
 have l2:(qW b x y).length=512:=by rw [qW,cm (by rw [hle]; omega),l1]
 have I:∀i,i<18∨26≤i→(qW b x y)[i]?=b[i]?:=fun i hi=>by
  rw [qW,fX (by rw [hle]; omega) (by rw [hle]; omega),fX (by rw [hle]; omega) (by rw [hle]; omega)]
 have J:∀a z,a+z≤18∨26≤a→cC (qW b x y) a z=cC b a z:=fun a z h2=>lT fun i h3 h4=>I i (by omega)
 refine ⟨l2,?_,?_,?_,?_,?_,?_,h.fits,fun i c hc => ?_⟩
 ·rw [j3 (I 13 (by decide))]; exact h.Jc
 ·rw [j3 (I 12 (by decide))]; exact h.kind
 ·rw [qW,AB (by rw [hle]; omega) (.inl (by decide)),qo (by omega) (by omega)]
 ·rw [qW,qo (by omega) (by omega)]
 ·rw [iO,J _ _ (by decide)]; exact h.gi
 ·rw [fU,J _ _ (by decide)]; exact h.low
 ·obtain ⟨s1,s2,s3⟩:=h.slot i c hc
  have e1:cA (qW b x y) i=cA b i:=J _ _ (by omega)
  have e2:fV (qW b x y) i=fV b i:=J _ _ (by omega)
  have uG:=h.low
  have eU:=h.fits
  have wC:=kH (cs:=cs) (i:=i+1)
  rw [e1,e2]
  exact ⟨s1,s2,fun j hj=>by rw [I _ (by omega)]; exact s3 j hj⟩
def tH (b:List Nat)(i f z:Nat): List Nat:=aR (aR b (26+4*i) (le 2 f)) (26+4*i+2) (le 2 z)
section
variable {i f z:Nat}
theorem Fg (I:b.length=512)(hi:30+4*i≤512): (tH b i f z).length=512:=by
 have hle:∀n,(le 2 n).length=2:=fun n=>dw 2 n
 rw [tH,cm (by rw [hle,cm (by rw [hle]; omega)]; omega),cm (by rw [hle]; omega),I]
theorem Fh (I:b.length=512)(hi:30+4*i≤512){j:Nat}(J:j<26+4*i∨30+4*i≤j): (tH b i f z)[j]?=b[j]?:=by
 have hle:∀n,(le 2 n).length=2:=fun n=>dw 2 n
 rw [tH,fX (by rw [hle,cm (by rw [hle]; omega)]; omega) (by rw [hle]; omega),fX (by rw [hle]; omega) (by rw [hle]; omega)]
theorem Jd (I:b.length=512)(hi:30+4*i≤512)(J:f<65536)(hz:z<65536): cA (tH b i f z) i=f∧fV (tH b i f z) i=z:=by
 have hle:∀n,(le 2 n).length=2:=fun n=>dw 2 n
 have l1:(aR b (26+4*i) (le 2 f)).length=512:=by rw [cm (by rw [hle]; omega),I]
 constructor
 ·rw [cA,tH,AB (by rw [hle]; omega) (by omega),qo (by omega) (by omega)]
 ·rw [fV,tH,qo (by omega) (by omega)]
end
def qp (b:List Nat)(n lo:Nat)(c:List Nat): List Nat:=tH (aR (aR (aR b 14 (le 2 (n+1))) lo c) 16 (le 2 lo)) n lo c.length
theorem dA.ins (h:dA b k link extra cs){c:List Nat}{lo:Nat}(hf:26+4*(cs.length+1)+(tot cs+c.length)≤512)(oA:lo+(tot cs+c.length)=512): dA (qp b cs.length lo c) k link extra (cs++[c]):=by
 have hlen:=h.len
 have hle:∀n,(le 2 n).length=2:=fun n=>dw 2 n
 have l1:(aR b 14 (le 2 (cs.length+1))).length=512:=by rw [cm (by rw [hle]; omega),hlen]
 have l2:(aR (aR b 14 (le 2 (cs.length+1))) lo c).length=512:=by rw [cm (by omega),l1]
 have l3:(aR (aR (aR b 14 (le 2 (cs.length+1))) lo c) 16 (le 2 lo)).length=512:=by rw [cm (by rw [hle]; omega),l2]
 have l4:(qp b cs.length lo c).length=512:=Fg l3 (by omega)
 have o3:∀i,i<16∨18≤i→(aR (aR (aR b 14 (le 2 (cs.length+1))) lo c) 16 (le 2 lo))[i]?=(aR (aR b 14 (le 2 (cs.length+1))) lo c)[i]?:=fun i hi=>fX (by rw [hle]; omega) (by rw [hle]; omega)
 have o4:∀i,i<26+4*cs.length∨30+4*cs.length≤i→(qp b cs.length lo c)[i]?=(aR (aR (aR b 14 (le 2 (cs.length+1))) lo c) 16 (le 2 lo))[i]?:=fun i hi=>Fh l3 (by omega) hi
 -- what is neither count, low, the slot nor the cell
 have I:∀i,(i<14∨18≤i)→(i<26+4*cs.length∨30+4*cs.length≤i)→(i<lo∨lo+c.length≤i)→(qp b cs.length lo c)[i]?=b[i]?:=fun i h1 h2 h3=>by
  rw [o4 i h2,o3 i (by omega),fX (by omega) h3,fX (by rw [hle]; omega) (by rw [hle]; omega)]
 have wD:∀a z,(a+z≤14∨18≤a)→a+z≤26+4*cs.length→cC (qp b cs.length lo c) a z=cC b a z:=fun a z h1 h2=>lT fun i h3 h4=>I i (by omega) (by omega) (by omega)
 have j9:cA (qp b cs.length lo c) cs.length=lo∧fV (qp b cs.length lo c) cs.length=c.length:=Jd l3 (by omega) (by omega) (by omega)
 have J:tot (cs++[c])=tot cs+c.length:=by rw [AA]; simp [tot]
 refine ⟨l4,?_,?_,?_,?_,?_,?_,by rw [J,bK]; exact hf,fun i x hx => ?_⟩
 ·rw [j3 (I 13 (by omega) (by omega) (by omega))]; exact h.Jc
 ·rw [j3 (I 12 (by omega) (by omega) (by omega))]; exact h.kind
 ·rw [wD _ _ (by omega) (by omega)]; exact h.link
 ·rw [wD _ _ (by omega) (by omega)]; exact h.extra
 ·have e:cC (qp b cs.length lo c) 14 2=cC (aR b 14 (le 2 (cs.length+1))) 14 2:=lT fun i h1 h2=>by
   rw [o4 i (by omega),o3 i (by omega),fX (by omega) (by omega)]
  rw [iO,e,qo (by omega) (by omega),bK]; rfl
 ·have e:cC (qp b cs.length lo c) 16 2=cC (aR (aR (aR b 14 (le 2 (cs.length+1))) lo c) 16 (le 2 lo)) 16 2:=lT fun i h1 h2=>o4 i (by omega)
  rw [fU,e,qo (by omega) (by omega),J]; exact oA
 ·by_cases hi:i<cs.length
  ·rw [iu hi] at hx
   obtain ⟨s1,s2,s3⟩:=h.slot i x hx
   have e1:cA (qp b cs.length lo c) i=cA b i:=wD _ _ (by omega) (by omega)
   have e2:fV (qp b cs.length lo c) i=fV b i:=wD _ _ (by omega) (by omega)
   have wC:=kH (cs:=cs) (i:=i+1)
   rw [e1,e2,oQ (by omega)]
   exact ⟨s1,s2,fun j hj=>by rw [I _ (by omega) (by omega) (by omega)]; exact s3 j hj⟩
  ·have iq:i=cs.length:=by
    have:=(List.getElem?_eq_some_iff.1 hx).1
    rw [bK] at this
    simp at this; omega
   subst iq
   rw [kK (aE _),rH] at hx
   have hx:c=x:=bH hx
   subst hx
   rw [j9.1,j9.2,eA (by rw [bK]; exact aE _),J]
   exact ⟨oA,rfl,fun j hj=>by rw [o4 _ (by omega),o3 _ (by omega),uW (by omega) hj]⟩
def td (b:List Nat)(i f:Nat)(c:List Nat): List Nat:=tH (aR b f c) i f c.length
theorem dA.rep (h:dA b k link extra cs){i:Nat}{c c':List Nat}(hc:cs[i]?=some c)(hl:c'.length=c.length): dA (td b i (cA b i) c') k link extra (cs.set i c'):=by
 obtain ⟨s1,s2,s3⟩:=h.slot i c hc
 have hlen:=h.len
 have hi:=(List.getElem?_eq_some_iff.1 hc).1
 have uG:=h.low
 have eU:=h.fits
 have wC:=kH (cs:=cs) (i:=i+1)
 have Je:=kG hc
 have l1:(aR b (cA b i) c').length=512:=by rw [cm (by omega),hlen]
 have l2:(td b i (cA b i) c').length=512:=Fg l1 (by omega)
 have o2:∀j,j<26+4*i∨30+4*i≤j→(td b i (cA b i) c')[j]?=(aR b (cA b i) c')[j]?:=fun j hj=>Fh l1 (by omega) hj
 have I:∀j,(j<26+4*i∨30+4*i≤j)→(j<cA b i∨cA b i+c.length≤j)→(td b i (cA b i) c')[j]?=b[j]?:=fun j h1 h2=>by rw [o2 j h1,fX (by omega) (by omega)]
 have J:∀a z,(a+z≤26+4*i∨30+4*i≤a)→a+z≤26+4*cs.length→cC (td b i (cA b i) c') a z=cC b a z:=fun a z h1 h2=>lT fun j h3 h4=>I j (by omega) (by omega)
 have j9:cA (td b i (cA b i) c') i=cA b i∧fV (td b i (cA b i) c') i=c'.length:=Jd l1 (by omega) (by omega) (by omega)
 have kn:∀k,tot ((cs.set i c').take k)=tot (cs.take k):=Nz hc hl
 have PV:tot (cs.set i c')=tot cs:=by
  have:=kn cs.length
  rwa [eA (by rw [bI]; exact aE _),eA (aE _)] at this
 refine ⟨l2,?_,?_,?_,?_,?_,?_,by rw [PV,bI]; exact eU,fun j x hx => ?_⟩
 ·rw [j3 (I 13 (by omega) (by omega))]; exact h.Jc
 ·rw [j3 (I 12 (by omega) (by omega))]; exact h.kind
 ·rw [J _ _ (by omega) (by omega)]; exact h.link
 ·rw [J _ _ (by omega) (by omega)]; exact h.extra
 ·rw [iO,J _ _ (by omega) (by omega),bI]; exact h.gi
 ·rw [fU,J _ _ (by omega) (by omega),PV]; exact uG
 ·rw [kn]
  by_cases tw:i=j
  ·subst tw
   rw [fG hi] at hx
   have hx:c'=x:=bH hx
   subst hx
   rw [j9.1,j9.2]
   exact ⟨s1,rfl,fun q hq=>by rw [o2 _ (by omega),uW (by omega) hq]⟩
  ·rw [eL tw] at hx
   obtain ⟨r1,r2,r3⟩:=h.slot j x hx
   have hj:=(List.getElem?_eq_some_iff.1 hx).1
   have e1:cA (td b i (cA b i) c') j=cA b j:=J _ _ (by omega) (by omega)
   have e2:fV (td b i (cA b i) c') j=fV b j:=J _ _ (by omega) (by omega)
   have WD:=kG hx
   have WE:=kH (cs:=cs) (i:=j+1)
   rw [e1,e2]
   refine ⟨r1,r2,fun q hq => ?_⟩
   rw [I _ (by omega) ?_]
   ·exact r3 q hq
   ·rcases Nat.lt_or_gt_of_ne tw with q1 | q1
    ·have:=C1 (cs:=cs) (i:=i+1) (j:=j) (by omega); omega
    ·have:=C1 (cs:=cs) (i:=j+1) (j:=i) (by omega); omega
theorem dA.cell (h:dA b k link extra cs){i:Nat}{c:List Nat}(J:cs[i]?=some c): (b.drop (cA b i)).take c.length=c:=by
 obtain ⟨s1,s2,s3⟩:=h.slot i c J
 apply oW
 intro j
 rw [iP]
 by_cases I:j<c.length
 ·rw [aq I,ju]; exact s3 j I
 ·rw [ai I,qZ (by omega)]
end
section
variable {h:H} {S:List au} {X:au} {v w u:V} {l m:List Nat}
theorem C2 {id n a b:Nat}{cap:Cap}(l8:a≤b)(hb:b≤n): ∃off I,slR (.sl id 0 n cap) a b=.sl id off (b-a) I∧off≤n:=by
 cases cap with
 | exact c =>
  simp only [slR]
  by_cases J:c=a
  ·rw [gr J,af]; exact ⟨0,_,rfl,eO _⟩
  ·rw [cE J,ay]; exact ⟨0+a*1,_,rfl,by omega⟩
 | rest e alt=>exact ⟨0+a*1,_,rfl,by omega⟩
theorem Fi {id n off:Nat}{cs:List V}(I:T.get h.tr id=some (.cells n cs false))(ho:off≤n)(hl:cs.length=n): wrN h id off []=some (h.put id (some (.cells n cs false))):=by
 simp only [wrN,I,bR]
 rw [aB.2 (by omega),af]
 congr 3
 cases J:(Nat.beq off 0&&Nat.beq 0 n) with
 | true =>
  simp only [aG,beq_iff] at J
  rw [af]
  rw [js (by omega:cs.length=0)]
 | false=>rw [ay,dh,gq,q_]
theorem Jf (s:Sat h (bg v l::X::S))(hX:cN X (cQ w m)){a b:Nat}(l8:a≤b)(hb:b≤l.length)(hl:1≤l.length):
  ∃h',copyV Tryz.prog h 28 (slR v a b) w=some (.int .i64 (min m.length (b-a):Nat),h')∧Sat h' (bg v (aR l a (m.take (b-a)))::X::S):=by
 by_cases h1:a<b∧1≤m.length
 ·exact Cl s hX h1.1 hb h1.2
 ·have hm:min m.length (b-a)=0:=by omega
  have ht:m.take (b-a)=[]:=js (by rw [gM]; omega)
  have Fj:aR l a (m.take (b-a))=l:=by rw [ht,aR]; simp
  have hw:=(s.aK (k:=1) rfl hX).2
  have hv:=(s.buf (k:=0) rfl).view
  obtain ⟨id,c,cap,rest,rfl,s1,hc,hf⟩:=s.eo hl
  obtain ⟨off,tY,e1,e2⟩:=C2 (id:=id) (cap:=cap) l8 hb
  rw [e1,Fj,hm]
  have hg:=s1.row (k:=0) rfl
  have Cm:=Fi (off:=off) hg (by omega) (by rw [bK,bZ]; exact hc)
  have J:Sat (h.put id (some (.cells c (ofBytes l++rest) false))) (bg (.sl id 0 l.length cap) l::X::S):=hf _ _ rfl hv.1 (s1.put (k:=0) rfl)
  rcases hw with ⟨rfl | ⟨x,rfl⟩,_⟩ | ⟨uw,I,Te,n2,Ps,RE,rfl,ES,q1,q2,q3,q4⟩
  ·exact ⟨h,by simp only [copyV,aM,dK]; rfl,s⟩
  ·exact ⟨h,by simp only [copyV,aM,dK]; rfl,s⟩
  ·refine ⟨_,?_,J⟩
   have hr:rdN h uw I 0=some []:=by
    simp only [rdN,ES,gq]
    rw [aB.2 (by omega),af]
    cases hq:(Nat.beq I 0&&Nat.beq 0 n2) with
    | true =>
     simp only [aG,beq_iff] at hq
     rw [af,js (by omega:Ps.length=0)]
    | false=>rw [ay,jx]
   simp only [copyV,aM,dK]
   rw [show Nat.min m.length (b-a)=0 from hm,o8,hr]
   simp only
   rw [Cm]
theorem Jg (s:Sat h (bg v l::S)){a b:Nat}(ha:a≤l.length)(hb:b≤l.length)(hl:1≤l.length):
  ∃h',copyV Tryz.prog h 28 (slR v a a) (slR v b b)=some (.int .i64 0,h')∧Sat h' (bg v l::S):=by
 have hv:=(s.buf (k:=0) rfl).view
 obtain ⟨id,c,cap,rest,rfl,s1,hc,hf⟩:=s.eo hl
 obtain ⟨off,tY,e1,e2⟩:=C2 (id:=id) (cap:=cap) (aE _) ha
 obtain ⟨I,Te,e3,e4⟩:=C2 (id:=id) (cap:=cap) (aE _) hb
 rw [e1,e3]
 have hg:=s1.row (k:=0) rfl
 have hle:(ofBytes l++rest).length=c:=by rw [bK,bZ]; exact hc
 have J:=Fi (off:=off) hg (by omega) hle
 refine ⟨_,?_,hf _ _ rfl hv.1 (s1.put (k:=0) rfl)⟩
 have hr:rdN h id I 0=some []:=by
  simp only [rdN,hg,gq]
  rw [aB.2 (by omega),af]
  cases hq:(Nat.beq I 0&&Nat.beq 0 c) with
  | true =>
   simp only [aG,beq_iff] at hq
   rw [af,js (by omega:(ofBytes l++rest).length=0)]
  | false=>rw [ay,jx]
 simp only [copyV,aM,dK,rH]
 rw [show Nat.min 0 0=0 from rfl,o8,hr]
 simp only
 rw [J]
 rfl
end
section
variable {C:bY} {E:List (Nat×V)} {h:H} {o:Oper} {S:List au} {X:au} {v u:V} {l m:List Nat} {cl:Go.Call}
theorem OpR.Mo {a b:Nat}(hP:C.P=Tryz.prog)(s:Sat h (bg v l::X::S))(hX:cN X (cQ u m))(I:o.op=.call cl)(hc:cl.callee=.builtin .copy)(J:cl.argTypes = #[28,28])(ha:lookArgs E cl.args.toList=some [slR v a b,u])
 (l8:a≤b)(hb:b≤l.length)(hl:1≤l.length): OpR C E h o fun _ h₁=>Sat h₁ (bg v (aR l a (m.take (b-a)))::X::S):=by
 obtain ⟨h₁,e1,e2⟩:=Jf s hX l8 hb hl
 refine OpR.builtin I hc ha ⟨.int .i64 (min m.length (b-a):Nat),h₁,?_,e2⟩
 simp only [builtinV,hP,J,e1]
theorem OpR.Q6 {a b:Nat}(hP:C.P=Tryz.prog)(s:Sat h (bg v l::S))(I:o.op=.call cl)(hc:cl.callee=.builtin .copy)(J:cl.argTypes = #[28,28])(hx:lookArgs E cl.args.toList=some [slR v a a,slR v b b])
 (ha:a≤l.length)(hb:b≤l.length)(hl:1≤l.length): OpR C E h o fun _ h₁=>Sat h₁ (bg v l::S):=by
 obtain ⟨h₁,e1,e2⟩:=Jg s ha hb hl
 refine OpR.builtin I hc hx ⟨.int .i64 0,h₁,?_,e2⟩
 simp only [builtinV,hP,J,e1]
end
section
variable {told:cX} {h:H} {S:List au} {X Y:au} {k:Nat} {v x:V} {b l c:List Nat} {kd link extra:Nat} {cs:List (List Nat)}
theorem yL (I:W told){i f z:Nat}(s:Sat h (bg v b::S))(hl:b.length=512)(hi:30+4*i≤512)(hf:f<65536)(hz:z<65536):
  Call ⟨Tryz.prog,told⟩ 158 [.agg [v],.int .i64 (i:Int),.int .i64 (f:Int),.int .i64 (z:Int)] h fun r h'=>r=.aX []∧Sat h' (bg v (tH b i f z)::S):=by
 have hle:∀n,(le 2 n).length=2:=fun n=>dw 2 n
 have l1:(aR b (26+4*i) (le 2 f)).length=512:=by rw [cm (by rw [hle]; omega),hl]
 obtain ⟨qd,_,cap,_,rfl,_⟩:=s.eo (by omega)
 have J:(26:Int)+4*(i:Int)=((26+4*i:Nat):Int):=by omega
 have e2:(26:Int)+4*(i:Int)+2=((26+4*i+2:Nat):Int):=by omega
 refine Call.of_wp (I.free _ rfl) Tryz.func158 rfl rfl (zg rfl ?_)
 refine az.cx s rfl rfl rfl (fB rfl rfl) (fun p4 h s => ?_)
 refine zk 4 rfl (zb rfl (by exact jD (aA (by omega) (by omega))) ?_)
 refine zb rfl (by exact aV (aA (by omega) (by omega))) ?_
 refine zk 4 rfl (zl rfl (s.cG (k:=0) rfl bM aW) (zk 2 rfl (zo rfl (cM rfl (by exact jf bG cS (fT (by omega) (by omega)))) ?_)))
 rw [J]
 refine zc rfl (mR (a:=26+4*i) (z:=2) (n:=f) I (s.ae [1]) (by decide) (by decide) (by omega) (by omega)) ?_
 rintro r h ⟨rfl,s⟩
 have s:=s.ae [1,0]
 refine zk 2 rfl (zl rfl (s.cG (k:=0) rfl bM aW) (zm rfl (zo rfl (ag (r:=.int .i64 ((26+4*i+2:Nat):Int)) rfl rfl (by rw [←e2,←J]; exact aV (aA (by omega) (by omega)))) ?_)))
 refine zm rfl (zo rfl (cM rfl (by exact jf bG cS (fT (by omega) (by omega)))) ?_)
 refine zc rfl (mR (a:=26+4*i+2) (z:=2) (n:=z) I (s.ae [1]) (by decide) (by decide) (by omega) (by omega)) ?_
 rintro r h ⟨rfl,s⟩
 exact zv ⟨aa,_,rfl,rfl,s.del 1⟩
theorem AE (hT:W told){i:Nat}(s:Sat h S)(hk:getA S k=some X)(hX:cN X (cQ v b))(J:dA b kd link extra cs)(hc:cs[i]?=some c):
  Call ⟨Tryz.prog,told⟩ 157 [.agg [v],.int .i64 (i:Int)] h fun r h'=>∃f,r=slR3 v f (f+c.length) (f+c.length)∧cN X (cQ r c)∧Sat h' S:=by
 have hv:=s.aK hk hX
 have hl:=J.len
 have hi:=(List.getElem?_eq_some_iff.1 hc).1
 have eU:=J.fits
 have uG:=J.low
 obtain ⟨s1,s2,s3⟩:=J.slot i c hc
 have wC:=kH (cs:=cs) (i:=i+1)
 have Je:=kG hc
 have I:=J.cell hc
 generalize hf:cA b i=f at s1 s3 I
 obtain ⟨pi,po,pc,rfl⟩:=gw hv (by omega)
 refine Call.of_wp (hT.free _ rfl) Tryz.func157 rfl rfl (zg rfl ?_)
 refine az.cx s rfl rfl rfl (fB rfl rfl) (fun p2 h s => ?_)
 refine zk 4 rfl (zl rfl (s.cG (k:=0) rfl bM aW) (zm rfl (zc rfl (vO hT s (jY hk) hX hl (by omega)) ?_)))
 rintro r h' ⟨rfl,s⟩
 rw [hf,s2]
 refine zk 8 rfl (zf rfl (fe _ _) (zl rfl (s.ld (k:=0) rfl cy rfl) (zk 3 rfl (zb rfl (by exact aV (aA (by omega) (by omega))) ?_))))
 refine zk 2 rfl (zb rfl (by exact aV (aA (by omega) (by omega))) ?_)
 have e1:(f:Int)+(c.length:Int)=((f+c.length:Nat):Int):=by omega
 have j9:=wq (s.aK (jY hk) hX) (a:=f) (b:=f+c.length) (c:=f+c.length) (by omega) (aE _) (by omega) (by omega)
 rw [e1]
 refine zo rfl (eD (p:=some (.int .i64 (f:Int))) (q:=some (.int .i64 ((f+c.length:Nat):Int))) (m:=some (.int .i64 ((f+c.length:Nat):Int))) (p':=some f) (q':=some (f+c.length)) (m':=some (f+c.length)) rfl rfl rfl rfl (by rw [dZ (by omega)]; rfl) (by rw [dZ (by omega)]; rfl) (by rw [dZ (by omega)]; rfl) j9) ?_
 refine zk 2 rfl (WP.ret ⟨aa,_,rfl,?_⟩)
 refine ⟨f,rfl,?_,s.drop⟩
 have:=A2 hX (a:=f) (b:=f+c.length) (c:=f+c.length) (by omega) (aE _) (by omega) (by omega)
 rw [o6,show f+c.length-f=c.length by omega,I] at this
 exact this
theorem NA (J:W told)(s:Sat h S)(hk:getA S k=some X)(hX:cN X (cQ v b))(I:dA b kd link extra cs):
  Call ⟨Tryz.prog,told⟩ 103 [.agg [v]] h fun r h'=>r=.int .i64 (486-(4*(cs.length:Int)+(tot cs:Int)))∧Sat h' S:=by
 have hv:=s.aK hk hX
 have hl:=I.len
 have eU:=I.fits
 have uG:=I.low
 obtain ⟨pi,po,pc,rfl⟩:=gw hv (by omega)
 refine Call.of_wp (J.free _ rfl) Tryz.func103 rfl rfl (zg rfl ?_)
 refine az.cx s rfl rfl rfl (fB rfl rfl) (fun p1 h s => ?_)
 refine zk 3 rfl ?_
 have s0:=s
 refine WP.drawn [none,none,some (1,2),some (0,2),ak,ak,ak,ak] rfl (by kernel_rfl) (by kernel_rfl) ?_
 refine zL rfl (s.cG (k:=0) rfl bM aW) (aD.any rfl rfl rfl rfl (OpR.call rfl rfl rfl rfl (Cz J s (jY hk) hX hl)) ?_)
 rintro r h' ⟨rfl,s⟩
 have s1:=s
 refine zO rfl (ag rfl rfl (by exact jC (aA (by omega) (by omega)))) ?_
 refine zL rfl (s.cG (k:=0) rfl bM aW) (aD.any rfl rfl rfl rfl (OpR.call rfl rfl rfl rfl (jl J s (jY hk) hX hl)) ?_)
 rintro r h' ⟨rfl,s⟩
 rw [I.gi]
 refine zO rfl (ag rfl rfl (by exact jD (aA (by omega) (by omega)))) ?_
 refine zO rfl (ag rfl rfl (by exact jC (aA (by omega) (by omega)))) ?_
 refine zA rfl ?_
 refine aD.nil ⟨⟨aa,aa,fun _ _=>.inr ⟨rfl,⟨_,ag rfl rfl (by exact jC (aA (by omega) (by omega)))⟩,bP _ rfl⟩,fh (.inr ⟨rfl,⟨_,bp rfl (s0.cG (k:=0) rfl bM aW)⟩,bP _ rfl⟩) (.inr ⟨rfl,⟨_,bp rfl (s1.cG (k:=0) rfl bM aW)⟩,bP _ rfl⟩),aa,aa,aa,aa,aa⟩,?_⟩
 refine WP.ret ⟨aa,_,rfl,?_⟩
 exact ⟨eB (V.int .i64) (by omega),s.drop⟩
noncomputable def U1 : Code:=fC [1,1,0,1,0,0] ((Tryz.f102.body).getD .skip)
theorem GN (hT:W told){J:Nat}{x:V}(hX:cN X (cQ x b))(EA:x.cells=[x])(hp:dA b kd link extra cs): ∀(m i:Nat) (h:H) (E:List (Nat×V)) (Q:Ex→List (Nat×V)→H→Prop),i+m=cs.length →
  Sat h (pt J (.cells 1 [x] false)::X::S)→Has E [(1,.ptr J 0),(3,.int .i64 (486-(4*(cs.length:Int)+(tot (cs.take i):Int)))),(12,.int .i64 (cs.length:Int)),(13,.int .i64 (i:Int))] →
  (∀E' h',Has E' [(3,.int .i64 (486-(4*(cs.length:Int)+(tot cs:Int))))]→Sat h' (pt J (.cells 1 [x] false)::X::S)→Q (.exit 0) E' h')→WP ⟨Tryz.prog,told⟩ 27 (.loop U1) E h Q:=by
 have hl:=hp.len
 have eU:=hp.fits
 intro m
 induction m with
 | zero =>
  intro i h E Q hi s hE hq
  refine WP.loop (WP.has hE (zg rfl (zh rfl (ag rfl rfl aO) (by simp <;> omega) ?_)))
  refine zk 3 rfl (WP.exit ?_)
  refine hq _ _ ⟨?_,aa⟩ s
  rw [show cs.take i=cs from eA (by omega)]
  rfl
 | succ m ih =>
  intro i h E Q hi s hE hq
  have I:cs[i]?=some (cs[i]'(by omega)):=aN _
  generalize (cs[i]'(by omega))=c at I
  obtain ⟨s1,s2,s3⟩:=hp.slot i c I
  have wC:=kH (cs:=cs) (i:=i+1)
  have Je:=kG I
  refine WP.loop (WP.has hE (zg rfl (zt rfl (ag rfl rfl aO) (by simp <;> omega) ?_)))
  refine zk 5 rfl (WP.block (zK 7 rfl (zl rfl (s.cG (k:=0) rfl bM aW) (zm rfl (zc rfl (vO hT (i:=i) s (k:=1) rfl hX hl (by omega)) ?_)))))
  rintro r h' ⟨rfl,s⟩
  rw [s2]
  refine zk 9 rfl (zb rfl (by exact jC (aA (by omega) (by omega))) ?_)
  refine za rfl (zv (zr rfl (zb rfl (by exact aV (aA (by omega) (by omega))) ?_)))
  refine zm rfl (zv ?_)
  refine ih (i+1) _ _ Q (by omega) s ⟨rfl,?_,rfl,rfl,aa⟩ hq
  exact eB (fun z=>some (V.int .i64 z)) (by omega)
theorem K_ (J:W told)(s:Sat h (X::S))(hX:cN X (cQ v b))(I:dA b kd link extra cs):
  Call ⟨Tryz.prog,told⟩ 102 [.agg [v]] h fun r h'=>r=.int .i64 (486-(4*(cs.length:Int)+(tot cs:Int)))∧Sat h' (X::S):=by
 have hv:=s.aK (k:=0) rfl hX
 have hl:=I.len
 have eU:=I.fits
 obtain ⟨pi,po,pc,rfl⟩:=gw hv (by omega)
 refine Call.of_wp (J.free _ rfl) Tryz.func102 rfl rfl (zg rfl ?_)
 refine az.cx s rfl rfl rfl (fB rfl rfl) (fun p1 h s => ?_)
 refine zk 4 rfl (zl rfl (s.cG (k:=0) rfl bM aW) (zc rfl (jl J s (k:=1) rfl hX hl) ?_))
 rintro r h' ⟨rfl,s⟩
 rw [I.gi]
 refine zb rfl (by exact jD (aA (by omega) (by omega))) ?_
 refine zb rfl (by exact jC (aA (by omega) (by omega))) ?_
 refine zk 5 rfl (zl rfl (s.cG (k:=0) rfl bM aW) (zc rfl (jl J s (k:=1) rfl hX hl) ?_))
 rintro r h' ⟨rfl,s⟩
 rw [I.gi]
 refine zk 2 rfl (WP.block ?_)
 refine GN J hX rfl I cs.length 0 _ _ _ (by omega) s ⟨rfl,?_,rfl,rfl,aa⟩ (fun E' h' hE s' => ?_)
 ·exact eB (fun z=>some (V.int .i64 z)) (by have:tot (cs.take 0)=0:=rfl; omega)
 have s:=s'
 exact WP.has hE (zK 5 rfl (WP.ret ⟨aa,_,rfl,rfl,s.del 0⟩))
theorem La (I:W told){i lo:Nat}(s:Sat h (bg v b::X::S))(J:cN X (cQ x c))(hl:b.length=512)(hi:30+4*i≤512)(oA:fU b=lo+c.length)(V7:lo+c.length≤512):
  Call ⟨Tryz.prog,told⟩ 105 [.agg [v],.int .i64 (i:Int),x] h fun r h'=>r=.aX []∧Sat h' (bg v (tH (aR (aR b lo c) 16 (le 2 lo)) i lo c.length)::X::S):=by
 have hle:∀n,(le 2 n).length=2:=fun n=>dw 2 n
 have l1:(aR b lo c).length=512:=by rw [cm (by omega),hl]
 have l2:(aR (aR b lo c) 16 (le 2 lo)).length=512:=by rw [cm (by rw [hle]; omega),l1]
 obtain ⟨qd,_,cap,_,rfl,_⟩:=s.eo (by omega)
 have U2:=s.aK (k:=1) rfl J
 have hx:=U2.cells
 refine Call.of_wp (I.free _ rfl) Tryz.func105 rfl rfl (zg rfl ?_)
 refine az.cx s rfl rfl rfl (fB rfl rfl) (fun p3 h s => ?_)
 refine zk 3 rfl (zl rfl (s.cG (k:=0) rfl bM aW) (zc rfl (Cz I s (k:=1) rfl (bz _ _) hl) ?_))
 rintro r h' ⟨rfl,s⟩
 rw [oA]
 refine zm rfl (zo rfl (aQ rfl rfl rfl (bw aM (s.aK (k:=2) rfl J))) (zo rfl (ag (r:=.int .i64 (lo:Int)) rfl rfl (by rw [show ((lo:Nat):Int)=((lo+c.length:Nat):Int)-(c.length:Int) by omega]; exact jC (aA (by omega) (by omega)))) ?_))
 refine zk 4 rfl (zf rfl (fe _ _) (zl rfl (s.ld (k:=0) rfl cy rfl) (zm rfl ?_)))
 have j9:=jg (s.aK (k:=1) rfl (bz _ _)) (a:=lo) (by omega)
 refine zo rfl (eD (p:=some (.int .i64 (lo:Int))) (q:=none) (m:=none) (p':=some lo) (q':=none) (m':=none) rfl rfl rfl rfl (by rw [dZ (by omega)]; rfl) rfl rfl j9.1) ?_
 refine zm rfl (az.any rfl rfl rfl (OpR.Mo rfl (s.ae [1,1]) J rfl rfl rfl rfl (by omega) (aE _) (by omega)) ?_)
 intro r h s
 rw [eA (by omega)] at s
 have s:=s.ae [2,0,0]
 refine zk 3 rfl (zl rfl (s.cG (k:=0) rfl bM aW) (zm rfl (zo rfl (cM rfl (by exact jf bG cS (fT (by omega) (by omega)))) ?_)))
 refine zc rfl (mR (a:=16) (z:=2) (n:=lo) I (s.ae [1]) (by decide) (by decide) (by omega) (by omega)) ?_
 rintro r h ⟨rfl,s⟩
 have s:=s.ae [1,0,0]
 refine zk 2 rfl (zl rfl (s.cG (k:=0) rfl bM aW) (zk 3 rfl (zo rfl (aQ rfl rfl rfl (bw aM (s.aK (k:=2) rfl J))) (zc rfl (yL (i:=i) (f:=lo) (z:=c.length) I (s.ae [1]) l2 hi (by omega) (by omega)) ?_))))
 rintro r h ⟨rfl,s⟩
 exact zv ⟨aa,_,rfl,rfl,s.del 1⟩
end
end Go.Proofs.YtefepnnfphdkpaaGreat.Am
