/- ChainNeeds: a part of its proof; conditions: its statement's. -/
import Derived.Test.YtefepnnfphdkpaaGreatB27
namespace Go.Proofs.YtefepnnfphdkpaaGreat.Am
open Go
theorem Ej (n:Nat): (digits 9 n).length≤10:=qR 9 n
def oD (π:Pl)(n:Int)(b:List Nat): Prop:=∃(i:Nat) (f:Fm),π.ah[i]?=some f∧f.aU=n∧0≤n∧f.changed=true∧f.b=b
abbrev VP := (Int→List Nat→Prop)→List (Int×(Nat×Bool))→LD→Prop
abbrev vw (P:VP)(ε:aF): Prop:=P (oD ε.1) ε.1.bZ ε.2
theorem Lq {π I:Pl}(hn:ew π I): oD I=oD π:=by
 funext n b
 refine propext ⟨fun ⟨i,x,hx,J,h0,h2,h3⟩ => ?_,fun ⟨i,f,hf,J,h0,h2,h3⟩ => ?_⟩
 ·obtain ⟨f,t,hf,rfl⟩:=hn.back hx
  exact ⟨i,f,hf,J,h0,h2,h3⟩
 ·obtain ⟨t,ht⟩:=hn.get i f hf
  exact ⟨i,_,ht,J,h0,h2,h3⟩
theorem vY {π:Pl}{i:Nat}{f g:Fm}(J:π.ah[i]?=some f)(hs:∀n b,(f.aU=n∧0≤n∧f.changed=true∧f.b=b)↔(g.aU=n∧0≤n∧g.changed=true∧g.b=b)){w:List (Int×Int)}{d:List (Int×(Nat×Bool))}{hd:Nat}: oD ⟨π.ah.set i g,w,d,hd⟩=oD π:=by
 have hi:=(List.getElem?_eq_some_iff.1 J).1
 funext n b
 refine propext ⟨fun ⟨j,x,I,h⟩ => ?_,fun ⟨j,x,I,h⟩ => ?_⟩
 ·rcases qT J I with ⟨rfl,rfl⟩ | ⟨_,I⟩
  ·exact ⟨i,f,J,(hs n b).2 h⟩
  ·exact ⟨j,x,I,h⟩
 ·by_cases hj:i=j
  ·subst hj
   rw [J] at I
   have:=bG I
   subst this
   exact ⟨i,g,gv hi,(hs n b).1 h⟩
  ·exact ⟨j,x,by show (π.ah.set i g)[j]?=some x; rw [fI hj]; exact I,h⟩
theorem Jt {π:Pl}{i:Nat}{f g:Fm}(J:π.ah[i]?=some g)(hc:0≤g.aU→g.changed=false): oD (cA π i f)=oD π :=
 vY J fun n b=>⟨(fun ⟨h1,h0,I,_⟩=>by rw [hc (by omega)] at I; cases I),fun ⟨_,_,I,_⟩=>(by cases I)⟩
theorem G5 {π:Pl}{i:Nat}{e:Fm}{n:Int}{b:List Nat}(he:π.ah[i]?=some e)(J:e.aU<0): oD (gS π i n b)=oD π :=
 vY he fun m c=>⟨fun ⟨h1,h0,_⟩=>by omega,fun ⟨_,_,I,_⟩=>(by cases I)⟩
structure oz (N:Nat)(P:VP): Prop where
 one:∀(ε:aF) (i:Nat) (f:Fm),EC N ε→ε.1.ah[i]?=some f→0≤f.aU→f.changed=true→vw P ε→vw P (outF ε i).2
theorem jZ.TN {R:LD→Prop}(h:jZ R)(N:Nat): oz N (fun _ _ x=>R x):=⟨fun _ _ _ _ _ _ _ I=>h.out I⟩
section
variable {N:Nat} {P:VP} {ε ε':aF} {n e:Int} {b:List Nat} {now cg:List (Int×List Nat)} {l:List Int} {cs:List c7}
theorem oz.out (h:oz N P){i:Nat}{f:Fm}(he:EC N ε)(I:ε.1.ah[i]?=some f)(J:vw P ε): vw P (outF ε i).2:=by
 by_cases hc:f.aU<0∨f.changed=false
 ·have e:outF ε i=(0,ε):=by simp only [outF,I,ax hc]
  rw [e]; exact J
 ·exact h.one ε i f he I (by omega) (by cases hq:f.changed with | true=>rfl | false=>exact absurd (.inr hq) hc) J
theorem oz.gu (h:oz N P)(hr:ey ε n e b ε')(he:EC N ε)(hv:vw P ε): vw P ε':=by
 cases hr with
 | arg J=>exact hv
 | yN i f h1 h2 hl hf =>
  show P (oD ⟨ε.1.ah.set i { f with dD:=true,pins:=f.pins+1 },ε.1.bg,ε.1.bZ,ε.1.hand⟩) ε.1.bZ ε.2
  rw [vY hf (g:={ f with dD:=true,pins:=f.pins+1 }) (fun n b=>Iff.rfl)]
  exact hv
 | out I i f h1 h2 hl J hf hh hq=>exact absurd ((he.nI J).1.out hf).1 hq
 | read I i f h1 h2 hl J hf hh hq hr =>
  obtain ⟨k1,k2,k3,k4,g,k5,k6,k7⟩:=(he.nI J).1.out hf
  refine absurd ?_ hr
  rw [he.dk.aW] at h2
  rw [Dk.nO,ai (by rw [k2.dk.alive]; decide),ai (by rw [k2.dk.aW]; exact not_not_intro ⟨h1,h2⟩)]
 | bad I i f h1 h2 hl J hf hh hq hr hc =>
  obtain ⟨k1,k2,k3,k4,g,k5,k6,k7⟩:=(he.nI J).1.out hf
  rw [he.dk.aW] at h2
  exact absurd (k2.dk.good n h1 h2) hc
 | load I i f h1 h2 hl J hf hh hq hr hc =>
  obtain ⟨n1,n2⟩:=he.nI J
  have CU:vw P (I,ε.2):=by show P (oD I) I.bZ ε.2; rw [Lq J,J.bZ]; exact hv
  have yw:=h.out (ε:=(I,ε.2)) n1 hf CU
  obtain ⟨k1,k2,k3,k4,g,k5,k6,k7⟩:=n1.out hf
  have e1:=Jt (f:=f) k5 k7
  have hg:(cA (outF (I,ε.2) i).2.1 i f).ah[i]?=some dz:=(k2.cA k5 k6 k7).2.2.1
  show P (oD (gS (cA (outF (I,ε.2) i).2.1 i f) i n ((outF (I,ε.2) i).2.2.2.at n))) (outF (I,ε.2) i).2.1.bZ (outF (I,ε.2) i).2.2
  rw [G5 hg (by decide),e1]
  exact yw
theorem Bl {π:Pl}: oD (unpinF π n).2=oD π∧(unpinF π n).2.bZ=π.bZ:=by
 unfold unpinF
 split
 ·exact ⟨rfl,rfl⟩
 ·split
  ·exact ⟨rfl,rfl⟩
  ·rename_i i hi f I
   exact ⟨vY I (g:={ f with pins:=f.pins-1 }) (fun n b=>Iff.rfl),rfl⟩
theorem oz.rd (h:oz N P)(I:kx ε n e b ε')(he:EC N ε)(J:vw P ε): vw P ε':=by
 cases I with
 | dead hd=>exact J
 | gu e b ε' hd I _=>exact h.gu I he J
 | oR b ε' hd I _ =>
  have:=h.gu I he J
  obtain ⟨u1,u2⟩:=Bl (π:=ε'.1) (n:=n)
  show P (oD (unpinF ε'.1 n).2) (unpinF ε'.1 n).2.bZ ε'.2
  rw [u1,u2]; exact this
 | read b ε' hd I _ =>
  have:=h.gu I he J
  obtain ⟨u1,u2⟩:=Bl (π:=ε'.1) (n:=n)
  show P (oD (unpinF ε'.1 n).2) (unpinF ε'.1 n).2.bZ ε'.2
  rw [u1,u2]; exact this
theorem oz.u5 (h:oz N P)(I:mz ε now false n e b ε')(he:EC N ε)(J:vw P ε): vw P ε':=by
 cases I with
 | arg hn=>exact J
 | bI _ _ ho=>cases ho
 | own b h1 h2 _ hl=>exact J
 | read e b ε' h1 h2 _ hl I=>exact h.rd I he J
theorem oz.Ji (h:oz N P)(I:qp ε now false n b e cg ε')(he:EC N ε)(J:vw P ε): vw P ε':=by
 cases I with
 | may e c ε' I _=>exact h.u5 I he J
 | bad c ε' I hg=>exact h.u5 I he J
 | done c ε' I hg=>exact h.u5 I he J
end
section
variable {P:Program} {h:H} {S:List aq} {k j:Nat} {v:V} {cs:List V}
end
section
variable {told:cK} {h:H} {S:List aq} {X:aq} {r k q p a g bA N B:Nat} {op v x pv:V} {l data:List Nat} {ε:aF} {ps:List (List Nat)}
end
def tot : List (List Nat)→Nat
 | []=>0
 | c::l=>c.length+tot l
theorem AL {a b:List (List Nat)}: tot (a++b)=tot a+tot b:=by
 induction a with
 | nil=>simp [tot]
 | cons x a I=>simp only [gx,tot,I]; omega
theorem kQ : ∀ {cs:List (List Nat)} {i:Nat} {c:List Nat},cs[i]?=some c→tot (cs.take (i+1))=tot (cs.take i)+c.length:=by
 intro cs
 induction cs with
 | nil=>intro i c h; simp at h
 | cons x cs I =>
  intro i c h
  cases i with
  | zero=>simp at h; subst h; simp [tot]
  | succ i =>
   have:=I (i:=i) (by simpa using h)
   simp only [rE,tot,this]; omega
theorem De {cs:List (List Nat)}{i j:Nat}(h:i≤j): tot (cs.take i)≤tot (cs.take j):=by
 have e:cs.take j=cs.take i++(cs.take j).drop i:=by
  conv=>lhs; rw [←rz i (cs.take j),o5,lZ h]
 rw [e,AL]; omega
theorem kR {cs:List (List Nat)}{i:Nat}: tot (cs.take i)≤tot cs:=by
 have:=AL (a:=cs.take i) (b:=cs.drop i)
 rw [rz] at this; omega
theorem NT : ∀ {cs:List (List Nat)} {i:Nat} {c c':List Nat},cs[i]?=some c→c'.length=c.length→∀k,tot ((cs.set i c').take k)=tot (cs.take k):=by
 intro cs
 induction cs with
 | nil=>intro i c c' h; simp at h
 | cons x cs J =>
  intro i c c' h I k
  cases i with
  | zero =>
   simp at h; subst h
   cases k with
   | zero=>rfl
   | succ k=>simp [tot,I]
  | succ i=>cases k with
   | zero=>rfl
   | succ k =>
    have:=J (i:=i) (by simpa using h) I k
    simp only [zE,rE,tot,this]
theorem gd {l m:List Nat}{a i:Nat}(h:a+m.length≤l.length)(hi:i<a∨a+m.length≤i): (aT l a m)[i]?=l[i]?:=by
 rw [yV h,ai (by omega)]
theorem u7 {l m:List Nat}{a i:Nat}(h:a+m.length≤l.length)(hi:i<m.length): (aT l a m)[a+i]?=m[i]?:=by
 rw [yV h,ax (by omega)]; congr 1; omega
theorem lV {l m:List Nat}{a z:Nat}(h:∀i,a≤i→i<a+z→l[i]?=m[i]?): cF l a z=cF m a z:=by
 unfold cF
 congr 1
 apply oW
 intro i
 simp only [jy,jx]
 by_cases hi:a+i<a+z
 ·rw [ax hi,ax hi,h _ (by omega) hi]
 ·rw [ai hi,ai hi]
theorem AM {l m:List Nat}{a b z:Nat}(h:a+m.length≤l.length)(I:b+z≤a∨a+m.length≤b): cF (aT l a m) b z=cF l b z :=
 lV fun i J h2=>gd h (by omega)
theorem qu {l:List Nat}{a z n:Nat}(h:a+z≤l.length)(I:n<256^z): cF (aT l a (le z n)) a z=n:=by
 have e:((aT l a (le z n)).take (a+z)).drop a=le z n:=by
  apply oW
  intro i
  simp only [jy,jx]
  by_cases hi:i<z
  ·rw [ax (by omega),u7 (by rw [dy]; omega) (by rw [dy]; omega)]
  ·rw [ai (by omega),oS (by rw [dy]; omega)]
 rw [cF,e,Jo,jz I]
theorem kj {l m:List Nat}{i:Nat}(h:l[i]?=m[i]?): l.getD i 0=m.getD i 0:=by rw [ei,ei,h]
structure dF (b:List Nat)(k link extra:Nat)(cs:List (List Nat)): Prop where
 len:b.length=512
 Ju:b.getD 13 0=0
 kind:b.getD 12 0=k
 link:cF b 18 4=link
 extra:cF b 22 4=extra
 gq:iQ b=cs.length
 low:fZ b+tot cs=512
 fits:26+4*cs.length+tot cs≤512
 slot:∀i c,cs[i]?=some c→cD b i+tot (cs.take (i+1))=512∧f_ b i=c.length∧∀j,j<c.length→b[cD b i+j]?=c[j]?
theorem Lr : ∀(z k:Nat) (t:List Bool),k+z≤t.length→(∀j,k≤j→j<k+z→t.getD j false=false)→∃t',markL z k t=some t'∧t'.length=t.length∧∀j,(j<k∨k+z≤j)→t'.getD j false=t.getD j false:=by
 intro z
 induction z with
 | zero=>intro k t _ _; exact ⟨t,rfl,rfl,fun _ _=>rfl⟩
 | succ z J =>
  intro k t h1 I
  have hs:∀j,j≠k→(t.set k true).getD j false=t.getD j false:=fun j hj=>by
   rw [ei,ei,fI (by omega)]
  obtain ⟨t',e1,e2,e3⟩:=J (k+1) (t.set k true) (by rw [b7]; omega) (fun j a b=>by rw [hs j (by omega)]; exact I j (by omega) (by omega))
  refine ⟨t',?_,by rw [e2,b7],fun j hj => ?_⟩
  ·rw [markL,I k (aD _) (by omega),ai (by decide)]; exact e1
  ·rw [e3 j (by omega),hs j (by omega)]
section
variable {b:List Nat} {k link extra:Nat} {cs:List (List Nat)}
theorem dF.cells (h:dF b k link extra cs): ∀(n i:Nat) (t:List Bool),i+n=cs.length→t.length=512→(∀j,j+tot (cs.take i)<512→t.getD j false=false)→cellsL b (fZ b) n i t=true:=by
 intro n
 induction n with
 | zero=>intro i t _ _ _; rfl
 | succ n ih =>
  intro i t hi ht J
  have I:cs[i]?=some (cs[i]'(by omega)):=aY _
  generalize (cs[i]'(by omega))=c at I
  obtain ⟨s1,s2,s3⟩:=h.slot i c I
  have h1:=kQ I
  have h2:=kR (cs:=cs) (i:=i+1)
  have h3:=h.low
  obtain ⟨t',e1,e2,e3⟩:=Lr c.length (cD b i) t (by omega) (fun j _ _=>J j (by omega))
  rw [cellsL,s2,ai (by omega),e1]
  exact ih (i+1) t' (by omega) (by rw [e2]; exact ht) (fun j hj=>by rw [e3 j (by omega)]; exact J j (by omega))
theorem dF.good (h:dF b k link extra cs): bP b=true:=by
 have I:=h.low
 have J:=h.fits
 rw [bP,dr h.len,dr h.Ju,dr (by rw [h.gq]; omega),h.cells _ _ _ (by rw [h.gq]; omega) eE fun j hj => ?_]
 ·rfl
 ·rw [ei]
  simp only [List.getElem?_replicate]
  split <;> rfl
theorem dF.tail (h:dF b k link extra cs){I:List Nat}(hl:I.length=512)(ht:I.drop 12=b.drop 12): dF I k link extra cs:=by
 have hg:∀i,12≤i→I[i]?=b[i]?:=fun i hi=>by
  have:=eS (fun l:List Nat=>l[i-12]?) ht
  simp only [jy] at this
  rw [show 12+(i-12)=i by omega] at this; exact this
 have J:∀a z,12≤a→cF I a z=cF b a z:=fun a z q=>qt ht q
 refine ⟨hl,?_,?_,?_,?_,?_,?_,h.fits,fun i c hc => ?_⟩
 ·rw [kj (hg 13 (by decide))]; exact h.Ju
 ·rw [kj (hg 12 (by decide))]; exact h.kind
 ·rw [J _ _ (by decide)]; exact h.link
 ·rw [J _ _ (by decide)]; exact h.extra
 ·rw [iQ,J _ _ (by decide)]; exact h.gq
 ·rw [fZ,J _ _ (by decide)]; exact h.low
 ·obtain ⟨s1,s2,s3⟩:=h.slot i c hc
  have e1:cD I i=cD b i:=J _ _ (by omega)
  have e2:f_ I i=f_ b i:=J _ _ (by omega)
  have uK:=h.low
  have fF:=h.fits
  have wL:=kR (cs:=cs) (i:=i+1)
  rw [e1,e2]
  exact ⟨s1,s2,fun j hj=>by rw [hg _ (by omega)]; exact s3 j hj⟩
def AN (k:Nat): List Nat:=aT ((List.replicate 512 0).set 12 k) 16 (le 2 512)
theorem dF.new : dF (AN k) k 0 0 []:=by
 have hl:((List.replicate 512 0).set 12 k).length=512:=by rw [b7,eE]
 have hle:∀n,(le 2 n).length=2:=fun n=>dy 2 n
 have I:∀i,i<16∨18≤i→(AN k)[i]?=((List.replicate 512 0).set 12 k)[i]?:=fun i hi=>gd (by rw [hle]; omega) (by rw [hle]; omega)
 have hz:∀i,i≠12→((List.replicate 512 0).set 12 k)[i]?=(List.replicate 512 0)[i]?:=fun i hi=>fI (by omega)
 have J:∀a z,a+z≤512→(18≤a∨(13≤a∧a+z≤16))→cF (AN k) a z=cF (List.replicate 512 0) a z:=fun a z h1 h2=>lV fun i h3 h4=>by rw [I i (by omega),hz i (by omega)]
 refine ⟨by rw [AN,ct (by rw [hle]; omega),hl],?_,?_,?_,?_,?_,?_,by decide,fun i c hc=>(by simp at hc)⟩
 ·rw [kj ((I 13 (by decide)).trans (hz 13 (by decide)))]; decide +kernel
 ·rw [kj (I 12 (by decide)),ei,gv (by rw [eE]; decide)]; rfl
 ·rw [J _ _ (by decide) (by decide)]; decide +kernel
 ·rw [J _ _ (by decide) (by decide)]; decide +kernel
 ·rw [iQ,J _ _ (by decide) (by decide)]; decide +kernel
 ·rw [fZ,AN,qu (by omega) (by decide)]; rfl
def rq (b:List Nat)(x y:Nat): List Nat:=aT (aT b 18 (le 4 x)) 22 (le 4 y)
theorem dF.set (h:dF b k link extra cs){x y:Nat}(hx:x<4294967296)(hy:y<4294967296): dF (rq b x y) k x y cs:=by
 have hlen:=h.len
 have hle:∀n,(le 4 n).length=4:=fun n=>dy 4 n
 have l1:(aT b 18 (le 4 x)).length=512:=by rw [ct (by rw [hle]; omega),hlen]
 have l2:(rq b x y).length=512:=by rw [rq,ct (by rw [hle]; omega),l1]
 have I:∀i,i<18∨26≤i→(rq b x y)[i]?=b[i]?:=fun i hi=>by
  rw [rq,gd (by rw [hle]; omega) (by rw [hle]; omega),gd (by rw [hle]; omega) (by rw [hle]; omega)]
 have J:∀a z,a+z≤18∨26≤a→cF (rq b x y) a z=cF b a z:=fun a z h2=>lV fun i h3 h4=>I i (by omega)
 refine ⟨l2,?_,?_,?_,?_,?_,?_,h.fits,fun i c hc => ?_⟩
 ·rw [kj (I 13 (by decide))]; exact h.Ju
 ·rw [kj (I 12 (by decide))]; exact h.kind
 ·rw [rq,AM (by rw [hle]; omega) (.inl (by decide)),qu (by omega) (by omega)]
 ·rw [rq,qu (by omega) (by omega)]
 ·rw [iQ,J _ _ (by decide)]; exact h.gq
 ·rw [fZ,J _ _ (by decide)]; exact h.low
 ·obtain ⟨s1,s2,s3⟩:=h.slot i c hc
  have e1:cD (rq b x y) i=cD b i:=J _ _ (by omega)
  have e2:f_ (rq b x y) i=f_ b i:=J _ _ (by omega)
  have uK:=h.low
  have fF:=h.fits
  have wL:=kR (cs:=cs) (i:=i+1)
  rw [e1,e2]
  exact ⟨s1,s2,fun j hj=>by rw [I _ (by omega)]; exact s3 j hj⟩
def tI (b:List Nat)(i f z:Nat): List Nat:=aT (aT b (26+4*i) (le 2 f)) (26+4*i+2) (le 2 z)
section
variable {i f z:Nat}
theorem Fw (I:b.length=512)(hi:30+4*i≤512): (tI b i f z).length=512:=by
 have hle:∀n,(le 2 n).length=2:=fun n=>dy 2 n
 rw [tI,ct (by rw [hle,ct (by rw [hle]; omega)]; omega),ct (by rw [hle]; omega),I]
theorem Fx (I:b.length=512)(hi:30+4*i≤512){j:Nat}(J:j<26+4*i∨30+4*i≤j): (tI b i f z)[j]?=b[j]?:=by
 have hle:∀n,(le 2 n).length=2:=fun n=>dy 2 n
 rw [tI,gd (by rw [hle,ct (by rw [hle]; omega)]; omega) (by rw [hle]; omega),gd (by rw [hle]; omega) (by rw [hle]; omega)]
theorem Jv (I:b.length=512)(hi:30+4*i≤512)(J:f<65536)(hz:z<65536): cD (tI b i f z) i=f∧f_ (tI b i f z) i=z:=by
 have hle:∀n,(le 2 n).length=2:=fun n=>dy 2 n
 have l1:(aT b (26+4*i) (le 2 f)).length=512:=by rw [ct (by rw [hle]; omega),I]
 constructor
 ·rw [cD,tI,AM (by rw [hle]; omega) (by omega),qu (by omega) (by omega)]
 ·rw [f_,tI,qu (by omega) (by omega)]
end
def qv (b:List Nat)(n lo:Nat)(c:List Nat): List Nat:=tI (aT (aT (aT b 14 (le 2 (n+1))) lo c) 16 (le 2 lo)) n lo c.length
theorem dF.ins (h:dF b k link extra cs){c:List Nat}{lo:Nat}(hf:26+4*(cs.length+1)+(tot cs+c.length)≤512)(qw:lo+(tot cs+c.length)=512): dF (qv b cs.length lo c) k link extra (cs++[c]):=by
 have hlen:=h.len
 have hle:∀n,(le 2 n).length=2:=fun n=>dy 2 n
 have l1:(aT b 14 (le 2 (cs.length+1))).length=512:=by rw [ct (by rw [hle]; omega),hlen]
 have l2:(aT (aT b 14 (le 2 (cs.length+1))) lo c).length=512:=by rw [ct (by omega),l1]
 have l3:(aT (aT (aT b 14 (le 2 (cs.length+1))) lo c) 16 (le 2 lo)).length=512:=by rw [ct (by rw [hle]; omega),l2]
 have l4:(qv b cs.length lo c).length=512:=Fw l3 (by omega)
 have o3:∀i,i<16∨18≤i→(aT (aT (aT b 14 (le 2 (cs.length+1))) lo c) 16 (le 2 lo))[i]?=(aT (aT b 14 (le 2 (cs.length+1))) lo c)[i]?:=fun i hi=>gd (by rw [hle]; omega) (by rw [hle]; omega)
 have o4:∀i,i<26+4*cs.length∨30+4*cs.length≤i→(qv b cs.length lo c)[i]?=(aT (aT (aT b 14 (le 2 (cs.length+1))) lo c) 16 (le 2 lo))[i]?:=fun i hi=>Fx l3 (by omega) hi
 -- what is neither count, low, the slot nor the cell
 have I:∀i,(i<14∨18≤i)→(i<26+4*cs.length∨30+4*cs.length≤i)→(i<lo∨lo+c.length≤i)→(qv b cs.length lo c)[i]?=b[i]?:=fun i h1 h2 h3=>by
  rw [o4 i h2,o3 i (by omega),gd (by omega) h3,gd (by rw [hle]; omega) (by rw [hle]; omega)]
 have wM:∀a z,(a+z≤14∨18≤a)→a+z≤26+4*cs.length→cF (qv b cs.length lo c) a z=cF b a z:=fun a z h1 h2=>lV fun i h3 h4=>I i (by omega) (by omega) (by omega)
 have kr:cD (qv b cs.length lo c) cs.length=lo∧f_ (qv b cs.length lo c) cs.length=c.length:=Jv l3 (by omega) (by omega) (by omega)
 have J:tot (cs++[c])=tot cs+c.length:=by rw [AL]; simp [tot]
 refine ⟨l4,?_,?_,?_,?_,?_,?_,by rw [J,bQ]; exact hf,fun i x hx => ?_⟩
 ·rw [kj (I 13 (by omega) (by omega) (by omega))]; exact h.Ju
 ·rw [kj (I 12 (by omega) (by omega) (by omega))]; exact h.kind
 ·rw [wM _ _ (by omega) (by omega)]; exact h.link
 ·rw [wM _ _ (by omega) (by omega)]; exact h.extra
 ·have e:cF (qv b cs.length lo c) 14 2=cF (aT b 14 (le 2 (cs.length+1))) 14 2:=lV fun i h1 h2=>by
   rw [o4 i (by omega),o3 i (by omega),gd (by omega) (by omega)]
  rw [iQ,e,qu (by omega) (by omega),bQ]; rfl
 ·have e:cF (qv b cs.length lo c) 16 2=cF (aT (aT (aT b 14 (le 2 (cs.length+1))) lo c) 16 (le 2 lo)) 16 2:=lV fun i h1 h2=>o4 i (by omega)
  rw [fZ,e,qu (by omega) (by omega),J]; exact qw
 ·by_cases hi:i<cs.length
  ·rw [iS hi] at hx
   obtain ⟨s1,s2,s3⟩:=h.slot i x hx
   have e1:cD (qv b cs.length lo c) i=cD b i:=wM _ _ (by omega) (by omega)
   have e2:f_ (qv b cs.length lo c) i=f_ b i:=wM _ _ (by omega) (by omega)
   have wL:=kR (cs:=cs) (i:=i+1)
   rw [e1,e2,vf (by omega)]
   exact ⟨s1,s2,fun j hj=>by rw [I _ (by omega) (by omega) (by omega)]; exact s3 j hj⟩
  ·have ie:i=cs.length:=by
    have:=(List.getElem?_eq_some_iff.1 hx).1
    rw [bQ] at this
    simp at this; omega
   subst ie
   rw [kT (aD _),o8] at hx
   have hx:c=x:=bG hx
   subst hx
   rw [kr.1,kr.2,eD (by rw [bQ]; exact aD _),J]
   exact ⟨qw,rfl,fun j hj=>by rw [o4 _ (by omega),o3 _ (by omega),u7 (by omega) hj]⟩
def tf (b:List Nat)(i f:Nat)(c:List Nat): List Nat:=tI (aT b f c) i f c.length
theorem dF.rep (h:dF b k link extra cs){i:Nat}{c c':List Nat}(hc:cs[i]?=some c)(hl:c'.length=c.length): dF (tf b i (cD b i) c') k link extra (cs.set i c'):=by
 obtain ⟨s1,s2,s3⟩:=h.slot i c hc
 have hlen:=h.len
 have hi:=(List.getElem?_eq_some_iff.1 hc).1
 have uK:=h.low
 have fF:=h.fits
 have wL:=kR (cs:=cs) (i:=i+1)
 have Jw:=kQ hc
 have l1:(aT b (cD b i) c').length=512:=by rw [ct (by omega),hlen]
 have l2:(tf b i (cD b i) c').length=512:=Fw l1 (by omega)
 have o2:∀j,j<26+4*i∨30+4*i≤j→(tf b i (cD b i) c')[j]?=(aT b (cD b i) c')[j]?:=fun j hj=>Fx l1 (by omega) hj
 have I:∀j,(j<26+4*i∨30+4*i≤j)→(j<cD b i∨cD b i+c.length≤j)→(tf b i (cD b i) c')[j]?=b[j]?:=fun j h1 h2=>by rw [o2 j h1,gd (by omega) (by omega)]
 have J:∀a z,(a+z≤26+4*i∨30+4*i≤a)→a+z≤26+4*cs.length→cF (tf b i (cD b i) c') a z=cF b a z:=fun a z h1 h2=>lV fun j h3 h4=>I j (by omega) (by omega)
 have kr:cD (tf b i (cD b i) c') i=cD b i∧f_ (tf b i (cD b i) c') i=c'.length:=Jv l1 (by omega) (by omega) (by omega)
 have kD:∀k,tot ((cs.set i c').take k)=tot (cs.take k):=NT hc hl
 have P9:tot (cs.set i c')=tot cs:=by
  have:=kD cs.length
  rwa [eD (by rw [b7]; exact aD _),eD (aD _)] at this
 refine ⟨l2,?_,?_,?_,?_,?_,?_,by rw [P9,b7]; exact fF,fun j x hx => ?_⟩
 ·rw [kj (I 13 (by omega) (by omega))]; exact h.Ju
 ·rw [kj (I 12 (by omega) (by omega))]; exact h.kind
 ·rw [J _ _ (by omega) (by omega)]; exact h.link
 ·rw [J _ _ (by omega) (by omega)]; exact h.extra
 ·rw [iQ,J _ _ (by omega) (by omega),b7]; exact h.gq
 ·rw [fZ,J _ _ (by omega) (by omega),P9]; exact uK
 ·rw [kD]
  by_cases oC:i=j
  ·subst oC
   rw [gv hi] at hx
   have hx:c'=x:=bG hx
   subst hx
   rw [kr.1,kr.2]
   exact ⟨s1,rfl,fun q hq=>by rw [o2 _ (by omega),u7 (by omega) hq]⟩
  ·rw [fI oC] at hx
   obtain ⟨r1,r2,r3⟩:=h.slot j x hx
   have hj:=(List.getElem?_eq_some_iff.1 hx).1
   have e1:cD (tf b i (cD b i) c') j=cD b j:=J _ _ (by omega) (by omega)
   have e2:f_ (tf b i (cD b i) c') j=f_ b j:=J _ _ (by omega) (by omega)
   have Xe:=kQ hx
   have Xf:=kR (cs:=cs) (i:=j+1)
   rw [e1,e2]
   refine ⟨r1,r2,fun q hq => ?_⟩
   rw [I _ (by omega) ?_]
   ·exact r3 q hq
   ·rcases Nat.lt_or_gt_of_ne oC with q1 | q1
    ·have:=De (cs:=cs) (i:=i+1) (j:=j) (by omega); omega
    ·have:=De (cs:=cs) (i:=j+1) (j:=i) (by omega); omega
theorem dF.cell (h:dF b k link extra cs){i:Nat}{c:List Nat}(J:cs[i]?=some c): (b.drop (cD b i)).take c.length=c:=by
 obtain ⟨s1,s2,s3⟩:=h.slot i c J
 apply oW
 intro j
 rw [jx]
 by_cases I:j<c.length
 ·rw [ax I,jy]; exact s3 j I
 ·rw [ai I,oS (by omega)]
end
section
variable {h:H} {S:List aq} {X:aq} {v w u:V} {l m:List Nat}
theorem Df {id n a b:Nat}{cap:Cap}(mc:a≤b)(hb:b≤n): ∃off I,slR (.sl id 0 n cap) a b=.sl id off (b-a) I∧off≤n:=by
 cases cap with
 | exact c =>
  simp only [slR]
  by_cases J:c=a
  ·rw [gM J,af]; exact ⟨0,_,rfl,gy _⟩
  ·rw [cO J,ay]; exact ⟨0+a*1,_,rfl,by omega⟩
 | rest e alt=>exact ⟨0+a*1,_,rfl,by omega⟩
theorem Fy {id n off:Nat}{cs:List V}(I:T.get h.tr id=some (.cells n cs false))(ho:off≤n)(hl:cs.length=n): wrN h id off []=some (h.put id (some (.cells n cs false))):=by
 simp only [wrN,I,bF]
 rw [aE.2 (by omega),af]
 congr 3
 cases J:(Nat.beq off 0&&Nat.beq 0 n) with
 | true =>
  simp only [aG,beq_iff] at J
  rw [af]
  rw [ju (by omega:cs.length=0)]
 | false=>rw [ay,c5,iC,rz]
theorem Jx (s:Sat h (aP v l::X::S))(hX:cI X (cL w m)){a b:Nat}(mc:a≤b)(hb:b≤l.length)(hl:1≤l.length):
  ∃h',copyV Tryz.prog h 28 (slR v a b) w=some (.int .i64 (min m.length (b-a):Nat),h')∧Sat h' (aP v (aT l a (m.take (b-a)))::X::S):=by
 by_cases h1:a<b∧1≤m.length
 ·exact Cz s hX h1.1 hb h1.2
 ·have hm:min m.length (b-a)=0:=by omega
  have ht:m.take (b-a)=[]:=ju (by rw [fc]; omega)
  have P_:aT l a (m.take (b-a))=l:=by rw [ht,aT]; simp
  have hw:=(s.aH (k:=1) rfl hX).2
  have hv:=(s.buf (k:=0) rfl).view
  obtain ⟨id,c,cap,rest,rfl,s1,hc,hf⟩:=s.eo hl
  obtain ⟨off,t_,e1,e2⟩:=Df (id:=id) (cap:=cap) mc hb
  rw [e1,P_,hm]
  have hg:=s1.row (k:=0) rfl
  have CD:=Fy (off:=off) hg (by omega) (by rw [bQ,cm]; exact hc)
  have J:Sat (h.put id (some (.cells c (ofBytes l++rest) false))) (aP (.sl id 0 l.length cap) l::X::S):=hf _ _ rfl hv.1 (s1.put (k:=0) rfl)
  rcases hw with ⟨rfl | ⟨x,rfl⟩,_⟩ | ⟨CA,I,TO,n2,PD,Sa,rfl,E7,q1,q2,q3,q4⟩
  ·exact ⟨h,by simp only [copyV,aI,dA]; rfl,s⟩
  ·exact ⟨h,by simp only [copyV,aI,dA]; rfl,s⟩
  ·refine ⟨_,?_,J⟩
   have hr:rdN h CA I 0=some []:=by
    simp only [rdN,E7,iC]
    rw [aE.2 (by omega),af]
    cases hq:(Nat.beq I 0&&Nat.beq 0 n2) with
    | true =>
     simp only [aG,beq_iff] at hq
     rw [af,ju (by omega:PD.length=0)]
    | false=>rw [ay,j_]
   simp only [copyV,aI,dA]
   rw [show Nat.min m.length (b-a)=0 from hm,vq,hr]
   simp only
   rw [CD]
theorem Jy (s:Sat h (aP v l::S)){a b:Nat}(ha:a≤l.length)(hb:b≤l.length)(hl:1≤l.length):
  ∃h',copyV Tryz.prog h 28 (slR v a a) (slR v b b)=some (.int .i64 0,h')∧Sat h' (aP v l::S):=by
 have hv:=(s.buf (k:=0) rfl).view
 obtain ⟨id,c,cap,rest,rfl,s1,hc,hf⟩:=s.eo hl
 obtain ⟨off,t_,e1,e2⟩:=Df (id:=id) (cap:=cap) (aD _) ha
 obtain ⟨I,TO,e3,e4⟩:=Df (id:=id) (cap:=cap) (aD _) hb
 rw [e1,e3]
 have hg:=s1.row (k:=0) rfl
 have hle:(ofBytes l++rest).length=c:=by rw [bQ,cm]; exact hc
 have J:=Fy (off:=off) hg (by omega) hle
 refine ⟨_,?_,hf _ _ rfl hv.1 (s1.put (k:=0) rfl)⟩
 have hr:rdN h id I 0=some []:=by
  simp only [rdN,hg,iC]
  rw [aE.2 (by omega),af]
  cases hq:(Nat.beq I 0&&Nat.beq 0 c) with
  | true =>
   simp only [aG,beq_iff] at hq
   rw [af,ju (by omega:(ofBytes l++rest).length=0)]
  | false=>rw [ay,j_]
 simp only [copyV,aI,dA,o8]
 rw [show Nat.min 0 0=0 from rfl,vq,hr]
 simp only
 rw [J]
 rfl
end
section
variable {C:bX} {E:List (Nat×V)} {h:H} {o:Oper} {S:List aq} {X:aq} {v u:V} {l m:List Nat} {cl:Go.Call}
theorem OpR.MB {a b:Nat}(hP:C.P=Tryz.prog)(s:Sat h (aP v l::X::S))(hX:cI X (cL u m))(I:o.op=.call cl)(hc:cl.callee=.builtin .copy)(J:cl.argTypes = #[28,28])(ha:lookArgs E cl.args.toList=some [slR v a b,u])
 (mc:a≤b)(hb:b≤l.length)(hl:1≤l.length): OpR C E h o fun _ h₁=>Sat h₁ (aP v (aT l a (m.take (b-a)))::X::S):=by
 obtain ⟨h₁,e1,e2⟩:=Jx s hX mc hb hl
 refine OpR.builtin I hc ha ⟨.int .i64 (min m.length (b-a):Nat),h₁,?_,e2⟩
 simp only [builtinV,hP,J,e1]
theorem OpR.Ry {a b:Nat}(hP:C.P=Tryz.prog)(s:Sat h (aP v l::S))(I:o.op=.call cl)(hc:cl.callee=.builtin .copy)(J:cl.argTypes = #[28,28])(hx:lookArgs E cl.args.toList=some [slR v a a,slR v b b])
 (ha:a≤l.length)(hb:b≤l.length)(hl:1≤l.length): OpR C E h o fun _ h₁=>Sat h₁ (aP v l::S):=by
 obtain ⟨h₁,e1,e2⟩:=Jy s ha hb hl
 refine OpR.builtin I hc hx ⟨.int .i64 0,h₁,?_,e2⟩
 simp only [builtinV,hP,J,e1]
end
section
variable {told:cK} {h:H} {S:List aq} {X Y:aq} {k:Nat} {v x:V} {b l c:List Nat} {kd link extra:Nat} {cs:List (List Nat)}
theorem yW (I:W told){i f z:Nat}(s:Sat h (aP v b::S))(hl:b.length=512)(hi:30+4*i≤512)(hf:f<65536)(hz:z<65536):
  Call ⟨Tryz.prog,told⟩ 158 [.agg [v],.int .i64 (i:Int),.int .i64 (f:Int),.int .i64 (z:Int)] h fun r h'=>r=.aX []∧Sat h' (aP v (tI b i f z)::S):=by
 have hle:∀n,(le 2 n).length=2:=fun n=>dy 2 n
 have l1:(aT b (26+4*i) (le 2 f)).length=512:=by rw [ct (by rw [hle]; omega),hl]
 obtain ⟨jR,_,cap,_,rfl,_⟩:=s.eo (by omega)
 have J:(26:Int)+4*(i:Int)=((26+4*i:Nat):Int):=by omega
 have e2:(26:Int)+4*(i:Int)+2=((26+4*i+2:Nat):Int):=by omega
 refine Call.of_wp (I.free _ rfl) Tryz.func158 rfl rfl (zg rfl ?_)
 refine az.cr s rfl rfl rfl (fC rfl rfl) (fun p4 h s => ?_)
 refine zk 4 rfl (zb rfl (by exact jW (aC (by omega) (by omega))) ?_)
 refine zb rfl (by exact bB (aC (by omega) (by omega))) ?_
 refine zk 4 rfl (zl rfl (s.cP (k:=0) rfl bO a_) (zk 2 rfl (zo rfl (cH rfl (by exact jQ bN cZ (fX (by omega) (by omega)))) ?_)))
 rw [J]
 refine zc rfl (mT (a:=26+4*i) (z:=2) (n:=f) I (s.ae [1]) (by decide) (by decide) (by omega) (by omega)) ?_
 rintro r h ⟨rfl,s⟩
 have s:=s.ae [1,0]
 refine zk 2 rfl (zl rfl (s.cP (k:=0) rfl bO a_) (zm rfl (zo rfl (ag (r:=.int .i64 ((26+4*i+2:Nat):Int)) rfl rfl (by rw [←e2,←J]; exact bB (aC (by omega) (by omega)))) ?_)))
 refine zm rfl (zo rfl (cH rfl (by exact jQ bN cZ (fX (by omega) (by omega)))) ?_)
 refine zc rfl (mT (a:=26+4*i+2) (z:=2) (n:=z) I (s.ae [1]) (by decide) (by decide) (by omega) (by omega)) ?_
 rintro r h ⟨rfl,s⟩
 exact zv ⟨aa,_,rfl,rfl,s.del 1⟩
theorem AO (hT:W told){i:Nat}(s:Sat h S)(hk:getA S k=some X)(hX:cI X (cL v b))(J:dF b kd link extra cs)(hc:cs[i]?=some c):
  Call ⟨Tryz.prog,told⟩ 157 [.agg [v],.int .i64 (i:Int)] h fun r h'=>∃f,r=slR3 v f (f+c.length) (f+c.length)∧cI X (cL r c)∧Sat h' S:=by
 have hv:=s.aH hk hX
 have hl:=J.len
 have hi:=(List.getElem?_eq_some_iff.1 hc).1
 have fF:=J.fits
 have uK:=J.low
 obtain ⟨s1,s2,s3⟩:=J.slot i c hc
 have wL:=kR (cs:=cs) (i:=i+1)
 have Jw:=kQ hc
 have I:=J.cell hc
 generalize hf:cD b i=f at s1 s3 I
 obtain ⟨pi,po,pc,rfl⟩:=gD hv (by omega)
 refine Call.of_wp (hT.free _ rfl) Tryz.func157 rfl rfl (zg rfl ?_)
 refine az.cr s rfl rfl rfl (fC rfl rfl) (fun p2 h s => ?_)
 refine zk 4 rfl (zl rfl (s.cP (k:=0) rfl bO a_) (zm rfl (zc rfl (vW hT s (ke hk) hX hl (by omega)) ?_)))
 rintro r h' ⟨rfl,s⟩
 rw [hf,s2]
 refine zk 8 rfl (zf rfl (fg _ _) (zl rfl (s.ld (k:=0) rfl bK rfl) (zk 3 rfl (zb rfl (by exact bB (aC (by omega) (by omega))) ?_))))
 refine zk 2 rfl (zb rfl (by exact bB (aC (by omega) (by omega))) ?_)
 have e1:(f:Int)+(c.length:Int)=((f+c.length:Nat):Int):=by omega
 have kr:=wI (s.aH (ke hk) hX) (a:=f) (b:=f+c.length) (c:=f+c.length) (by omega) (aD _) (by omega) (by omega)
 rw [e1]
 refine zo rfl (ff (p:=some (.int .i64 (f:Int))) (q:=some (.int .i64 ((f+c.length:Nat):Int))) (m:=some (.int .i64 ((f+c.length:Nat):Int))) (p':=some f) (q':=some (f+c.length)) (m':=some (f+c.length)) rfl rfl rfl rfl (by rw [eV (by omega)]; rfl) (by rw [eV (by omega)]; rfl) (by rw [eV (by omega)]; rfl) kr) ?_
 refine zk 2 rfl (WP.ret ⟨aa,_,rfl,?_⟩)
 refine ⟨f,rfl,?_,s.drop⟩
 have:=A9 hX (a:=f) (b:=f+c.length) (c:=f+c.length) (by omega) (aD _) (by omega) (by omega)
 rw [oZ,show f+c.length-f=c.length by omega,I] at this
 exact this
theorem NU (J:W told)(s:Sat h S)(hk:getA S k=some X)(hX:cI X (cL v b))(I:dF b kd link extra cs):
  Call ⟨Tryz.prog,told⟩ 103 [.agg [v]] h fun r h'=>r=.int .i64 (486-(4*(cs.length:Int)+(tot cs:Int)))∧Sat h' S:=by
 have hv:=s.aH hk hX
 have hl:=I.len
 have fF:=I.fits
 have uK:=I.low
 obtain ⟨pi,po,pc,rfl⟩:=gD hv (by omega)
 refine Call.of_wp (J.free _ rfl) Tryz.func103 rfl rfl (zg rfl ?_)
 refine az.cr s rfl rfl rfl (fC rfl rfl) (fun p1 h s => ?_)
 refine zk 3 rfl ?_
 have s0:=s
 refine WP.drawn [none,none,some (1,2),some (0,2),ak,ak,ak,ak] rfl (by kernel_rfl) (by kernel_rfl) ?_
 refine zL rfl (s.cP (k:=0) rfl bO a_) (aB.any rfl rfl rfl rfl (OpR.call rfl rfl rfl rfl (CR J s (ke hk) hX hl)) ?_)
 rintro r h' ⟨rfl,s⟩
 have s1:=s
 refine zO rfl (ag rfl rfl (by exact jV (aC (by omega) (by omega)))) ?_
 refine zL rfl (s.cP (k:=0) rfl bO a_) (aB.any rfl rfl rfl rfl (OpR.call rfl rfl rfl rfl (jk J s (ke hk) hX hl)) ?_)
 rintro r h' ⟨rfl,s⟩
 rw [I.gq]
 refine zO rfl (ag rfl rfl (by exact jW (aC (by omega) (by omega)))) ?_
 refine zO rfl (ag rfl rfl (by exact jV (aC (by omega) (by omega)))) ?_
 refine zA rfl ?_
 refine aB.nil ⟨⟨aa,aa,fun _ _=>.inr ⟨rfl,⟨_,ag rfl rfl (by exact jV (aC (by omega) (by omega)))⟩,bT _ rfl⟩,fo (.inr ⟨rfl,⟨_,aO rfl (s0.cP (k:=0) rfl bO a_)⟩,bT _ rfl⟩) (.inr ⟨rfl,⟨_,aO rfl (s1.cP (k:=0) rfl bO a_)⟩,bT _ rfl⟩),aa,aa,aa,aa,aa⟩,?_⟩
 refine WP.ret ⟨aa,_,rfl,?_⟩
 exact ⟨eS (V.int .i64) (by omega),s.drop⟩
noncomputable def Vw : Code:=gr [1,1,0,1,0,0] ((Tryz.f102.body).getD .skip)
theorem G6 (hT:W told){J:Nat}{x:V}(hX:cI X (cL x b))(EP:x.cells=[x])(hp:dF b kd link extra cs): ∀(m i:Nat) (h:H) (E:List (Nat×V)) (Q:Ex→List (Nat×V)→H→Prop),i+m=cs.length →
  Sat h (pt J (.cells 1 [x] false)::X::S)→Has E [(1,.ptr J 0),(3,.int .i64 (486-(4*(cs.length:Int)+(tot (cs.take i):Int)))),(12,.int .i64 (cs.length:Int)),(13,.int .i64 (i:Int))] →
  (∀E' h',Has E' [(3,.int .i64 (486-(4*(cs.length:Int)+(tot cs:Int))))]→Sat h' (pt J (.cells 1 [x] false)::X::S)→Q (.exit 0) E' h')→WP ⟨Tryz.prog,told⟩ 27 (.loop Vw) E h Q:=by
 have hl:=hp.len
 have fF:=hp.fits
 intro m
 induction m with
 | zero =>
  intro i h E Q hi s hE hq
  refine WP.loop (WP.has hE (zg rfl (zh rfl (ag rfl rfl bf) (by simp <;> omega) ?_)))
  refine zk 3 rfl (WP.exit ?_)
  refine hq _ _ ⟨?_,aa⟩ s
  rw [show cs.take i=cs from eD (by omega)]
  rfl
 | succ m ih =>
  intro i h E Q hi s hE hq
  have I:cs[i]?=some (cs[i]'(by omega)):=aY _
  generalize (cs[i]'(by omega))=c at I
  obtain ⟨s1,s2,s3⟩:=hp.slot i c I
  have wL:=kR (cs:=cs) (i:=i+1)
  have Jw:=kQ I
  refine WP.loop (WP.has hE (zg rfl (zt rfl (ag rfl rfl bf) (by simp <;> omega) ?_)))
  refine zk 5 rfl (WP.block (zK 7 rfl (zl rfl (s.cP (k:=0) rfl bO a_) (zm rfl (zc rfl (vW hT (i:=i) s (k:=1) rfl hX hl (by omega)) ?_)))))
  rintro r h' ⟨rfl,s⟩
  rw [s2]
  refine zk 9 rfl (zb rfl (by exact jV (aC (by omega) (by omega))) ?_)
  refine za rfl (zv (zr rfl (zb rfl (by exact bB (aC (by omega) (by omega))) ?_)))
  refine zm rfl (zv ?_)
  refine ih (i+1) _ _ Q (by omega) s ⟨rfl,?_,rfl,rfl,aa⟩ hq
  exact eS (fun z=>some (V.int .i64 z)) (by omega)
theorem Ls (J:W told)(s:Sat h (X::S))(hX:cI X (cL v b))(I:dF b kd link extra cs):
  Call ⟨Tryz.prog,told⟩ 102 [.agg [v]] h fun r h'=>r=.int .i64 (486-(4*(cs.length:Int)+(tot cs:Int)))∧Sat h' (X::S):=by
 have hv:=s.aH (k:=0) rfl hX
 have hl:=I.len
 have fF:=I.fits
 obtain ⟨pi,po,pc,rfl⟩:=gD hv (by omega)
 refine Call.of_wp (J.free _ rfl) Tryz.func102 rfl rfl (zg rfl ?_)
 refine az.cr s rfl rfl rfl (fC rfl rfl) (fun p1 h s => ?_)
 refine zk 4 rfl (zl rfl (s.cP (k:=0) rfl bO a_) (zc rfl (jk J s (k:=1) rfl hX hl) ?_))
 rintro r h' ⟨rfl,s⟩
 rw [I.gq]
 refine zb rfl (by exact jW (aC (by omega) (by omega))) ?_
 refine zb rfl (by exact jV (aC (by omega) (by omega))) ?_
 refine zk 5 rfl (zl rfl (s.cP (k:=0) rfl bO a_) (zc rfl (jk J s (k:=1) rfl hX hl) ?_))
 rintro r h' ⟨rfl,s⟩
 rw [I.gq]
 refine zk 2 rfl (WP.block ?_)
 refine G6 J hX rfl I cs.length 0 _ _ _ (by omega) s ⟨rfl,?_,rfl,rfl,aa⟩ (fun E' h' hE s' => ?_)
 ·exact eS (fun z=>some (V.int .i64 z)) (by have:tot (cs.take 0)=0:=rfl; omega)
 have s:=s'
 exact WP.has hE (zK 5 rfl (WP.ret ⟨aa,_,rfl,rfl,s.del 0⟩))
theorem Lt (I:W told){i lo:Nat}(s:Sat h (aP v b::X::S))(J:cI X (cL x c))(hl:b.length=512)(hi:30+4*i≤512)(qw:fZ b=lo+c.length)(Ww:lo+c.length≤512):
  Call ⟨Tryz.prog,told⟩ 105 [.agg [v],.int .i64 (i:Int),x] h fun r h'=>r=.aX []∧Sat h' (aP v (tI (aT (aT b lo c) 16 (le 2 lo)) i lo c.length)::X::S):=by
 have hle:∀n,(le 2 n).length=2:=fun n=>dy 2 n
 have l1:(aT b lo c).length=512:=by rw [ct (by omega),hl]
 have l2:(aT (aT b lo c) 16 (le 2 lo)).length=512:=by rw [ct (by rw [hle]; omega),l1]
 obtain ⟨jR,_,cap,_,rfl,_⟩:=s.eo (by omega)
 have Sz:=s.aH (k:=1) rfl J
 have hx:=Sz.cells
 refine Call.of_wp (I.free _ rfl) Tryz.func105 rfl rfl (zg rfl ?_)
 refine az.cr s rfl rfl rfl (fC rfl rfl) (fun p3 h s => ?_)
 refine zk 3 rfl (zl rfl (s.cP (k:=0) rfl bO a_) (zc rfl (CR I s (k:=1) rfl (aR _ _) hl) ?_))
 rintro r h' ⟨rfl,s⟩
 rw [qw]
 refine zm rfl (zo rfl (aV rfl rfl rfl (aS aI (s.aH (k:=2) rfl J))) (zo rfl (ag (r:=.int .i64 (lo:Int)) rfl rfl (by rw [show ((lo:Nat):Int)=((lo+c.length:Nat):Int)-(c.length:Int) by omega]; exact jV (aC (by omega) (by omega)))) ?_))
 refine zk 4 rfl (zf rfl (fg _ _) (zl rfl (s.ld (k:=0) rfl bK rfl) (zm rfl ?_)))
 have kr:=jf (s.aH (k:=1) rfl (aR _ _)) (a:=lo) (by omega)
 refine zo rfl (ff (p:=some (.int .i64 (lo:Int))) (q:=none) (m:=none) (p':=some lo) (q':=none) (m':=none) rfl rfl rfl rfl (by rw [eV (by omega)]; rfl) rfl rfl kr.1) ?_
 refine zm rfl (az.any rfl rfl rfl (OpR.MB rfl (s.ae [1,1]) J rfl rfl rfl rfl (by omega) (aD _) (by omega)) ?_)
 intro r h s
 rw [eD (by omega)] at s
 have s:=s.ae [2,0,0]
 refine zk 3 rfl (zl rfl (s.cP (k:=0) rfl bO a_) (zm rfl (zo rfl (cH rfl (by exact jQ bN cZ (fX (by omega) (by omega)))) ?_)))
 refine zc rfl (mT (a:=16) (z:=2) (n:=lo) I (s.ae [1]) (by decide) (by decide) (by omega) (by omega)) ?_
 rintro r h ⟨rfl,s⟩
 have s:=s.ae [1,0,0]
 refine zk 2 rfl (zl rfl (s.cP (k:=0) rfl bO a_) (zk 3 rfl (zo rfl (aV rfl rfl rfl (aS aI (s.aH (k:=2) rfl J))) (zc rfl (yW (i:=i) (f:=lo) (z:=c.length) I (s.ae [1]) l2 hi (by omega) (by omega)) ?_))))
 rintro r h ⟨rfl,s⟩
 exact zv ⟨aa,_,rfl,rfl,s.del 1⟩
end
end Go.Proofs.YtefepnnfphdkpaaGreat.Am
