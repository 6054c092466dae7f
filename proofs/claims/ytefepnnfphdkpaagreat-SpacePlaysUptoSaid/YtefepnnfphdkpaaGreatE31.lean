/- SpacePlays: a part of its proof; conditions: its statement's. -/
import Derived.Test.YtefepnnfphdkpaaGreatE30
namespace Go.Proofs.YtefepnnfphdkpaaGreat.Am
open Go
def tot : List (List Nat)→Nat
 | []=>0
 | c::l=>c.length+tot l
theorem Dh {a b:List (List Nat)}: tot (a++b)=tot a+tot b:=by
 induction a with
 | nil=>simp [tot]
 | cons x a I=>simp only [gy,tot,I]; omega
theorem m4 : ∀ {cs:List (List Nat)} {i:Nat} {c:List Nat},cs[i]?=some c→tot (cs.take (i+1))=tot (cs.take i)+c.length:=by
 intro cs
 induction cs with
 | nil=>intro i c h; simp at h
 | cons x cs I =>
  intro i c h
  cases i with
  | zero=>simp at h; subst h; simp [tot]
  | succ i =>
   have:=I (i:=i) (by simpa using h)
   simp only [rI,tot,this]; omega
theorem Gp {cs:List (List Nat)}{i j:Nat}(h:i≤j): tot (cs.take i)≤tot (cs.take j):=by
 have e:cs.take j=cs.take i++(cs.take j).drop i:=by
  conv=>lhs; rw [←yF i (cs.take j),uT,rP h]
 rw [e,Dh]; omega
theorem m5 {cs:List (List Nat)}{i:Nat}: tot (cs.take i)≤tot cs:=by
 have:=Dh (a:=cs.take i) (b:=cs.drop i)
 rw [yF] at this; omega
theorem Sr : ∀ {cs:List (List Nat)} {i:Nat} {c c':List Nat},cs[i]?=some c→c'.length=c.length→∀k,tot ((cs.set i c').take k)=tot (cs.take k):=by
 intro cs
 induction cs with
 | nil=>intro i c c' h; simp at h
 | cons x cs J =>
  intro i c c' h I k
  cases i with
  | zero =>
   simp at h; subst h
   cases k with
   | zero=>rfl
   | succ k=>simp [tot,I]
  | succ i=>cases k with
   | zero=>rfl
   | succ k =>
    have:=J (i:=i) (by simpa using h) I k
    simp only [yK,rI,tot,this]
theorem ic {l m:List Nat}{a i:Nat}(h:a+m.length≤l.length)(hi:i<a∨a+m.length≤i): (bk l a m)[i]?=l[i]?:=by
 rw [B4 h,ah (by omega)]
theorem yt {l m:List Nat}{a i:Nat}(h:a+m.length≤l.length)(hi:i<m.length): (bk l a m)[a+i]?=m[i]?:=by
 rw [B4 h,aq (by omega)]; congr 1; omega
theorem nW {l m:List Nat}{a z:Nat}(h:∀i,a≤i→i<a+z→l[i]?=m[i]?): cT l a z=cT m a z:=by
 unfold cT
 congr 1
 apply rK
 intro i
 simp only [jH,kX]
 by_cases hi:a+i<a+z
 ·rw [aq hi,aq hi,h _ (by omega) hi]
 ·rw [ah hi,ah hi]
theorem zZ {l m:List Nat}{a b z:Nat}(h:a+m.length≤l.length)(I:b+z≤a∨a+m.length≤b): cT (bk l a m) b z=cT l b z :=
 nW fun i J h2=>ic h (by omega)
theorem qM {l:List Nat}{a z n:Nat}(h:a+z≤l.length)(I:n<256^z): cT (bk l a (le z n)) a z=n:=by
 have e:((bk l a (le z n)).take (a+z)).drop a=le z n:=by
  apply rK
  intro i
  simp only [jH,kX]
  by_cases hi:i<z
  ·rw [aq (by omega),yt (by rw [cJ]; omega) (by rw [cJ]; omega)]
  ·rw [ah (by omega),uE (by rw [cJ]; omega)]
 rw [cT,e,ME,kY I]
theorem mB {l m:List Nat}{i:Nat}(h:l[i]?=m[i]?): l.getD i 0=m.getD i 0:=by rw [dL,dL,h]
structure dP (b:List Nat)(k link extra:Nat)(cs:List (List Nat)): Prop where
 len:b.length=512
 MJ:b.getD 13 0=0
 kind:b.getD 12 0=k
 link:cT b 18 4=link
 extra:cT b 22 4=extra
 c6:j7 b=cs.length
 low:hG b+tot cs=512
 fits:26+4*cs.length+tot cs≤512
 slot:∀i c,cs[i]?=some c→c7 b i+tot (cs.take (i+1))=512∧hO b i=c.length∧∀j,j<c.length→b[c7 b i+j]?=c[j]?
theorem Pe : ∀(z k:Nat) (t:List Bool),k+z≤t.length→(∀j,k≤j→j<k+z→t.getD j false=false)→∃t',markL z k t=some t'∧t'.length=t.length∧∀j,(j<k∨k+z≤j)→t'.getD j false=t.getD j false:=by
 intro z
 induction z with
 | zero=>intro k t _ _; exact ⟨t,rfl,rfl,fun _ _=>rfl⟩
 | succ z J =>
  intro k t h1 I
  have hs:∀j,j≠k→(t.set k true).getD j false=t.getD j false:=fun j hj=>by
   rw [dL,dL,eO (by omega)]
  obtain ⟨t',e1,e2,e3⟩:=J (k+1) (t.set k true) (by rw [bJ]; omega) (fun j a b=>by rw [hs j (by omega)]; exact I j (by omega) (by omega))
  refine ⟨t',?_,by rw [e2,bJ],fun j hj => ?_⟩
  ·rw [markL,I k (aD _) (by omega),ah (by decide)]; exact e1
  ·rw [e3 j (by omega),hs j (by omega)]
section
variable {b:List Nat} {k link extra:Nat} {cs:List (List Nat)}
theorem dP.cells (h:dP b k link extra cs): ∀(n i:Nat) (t:List Bool),i+n=cs.length→t.length=512→(∀j,j+tot (cs.take i)<512→t.getD j false=false)→cellsL b (hG b) n i t=true:=by
 intro n
 induction n with
 | zero=>intro i t _ _ _; rfl
 | succ n ih =>
  intro i t hi ht J
  have I:cs[i]?=some (cs[i]'(by omega)):=aN _
  generalize (cs[i]'(by omega))=c at I
  obtain ⟨s1,s2,s3⟩:=h.slot i c I
  have h1:=m4 I
  have h2:=m5 (cs:=cs) (i:=i+1)
  have h3:=h.low
  obtain ⟨t',e1,e2,e3⟩:=Pe c.length (c7 b i) t (by omega) (fun j _ _=>J j (by omega))
  rw [cellsL,s2,ah (by omega),e1]
  exact ih (i+1) t' (by omega) (by rw [e2]; exact ht) (fun j hj=>by rw [e3 j (by omega)]; exact J j (by omega))
theorem dP.good (h:dP b k link extra cs): cj b=true:=by
 have I:=h.low
 have J:=h.fits
 rw [cj,dX h.len,dX h.MJ,dX (by rw [h.c6]; omega),h.cells _ _ _ (by rw [h.c6]; omega) cY fun j hj => ?_]
 ·rfl
 ·rw [dL]
  simp only [yE]
  split <;> rfl
theorem dP.tail (h:dP b k link extra cs){I:List Nat}(hl:I.length=512)(ht:I.drop 12=b.drop 12): dP I k link extra cs:=by
 have hg:∀i,12≤i→I[i]?=b[i]?:=fun i hi=>by
  have:=fQ (fun l:List Nat=>l[i-12]?) ht
  simp only [jH] at this
  rw [show 12+(i-12)=i by omega] at this; exact this
 have J:∀a z,12≤a→cT I a z=cT b a z:=fun a z q=>tA ht q
 refine ⟨hl,?_,?_,?_,?_,?_,?_,h.fits,fun i c hc => ?_⟩
 ·rw [mB (hg 13 (by decide))]; exact h.MJ
 ·rw [mB (hg 12 (by decide))]; exact h.kind
 ·rw [J _ _ (by decide)]; exact h.link
 ·rw [J _ _ (by decide)]; exact h.extra
 ·rw [j7,J _ _ (by decide)]; exact h.c6
 ·rw [hG,J _ _ (by decide)]; exact h.low
 ·obtain ⟨s1,s2,s3⟩:=h.slot i c hc
  have e1:c7 I i=c7 b i:=J _ _ (by omega)
  have e2:hO I i=hO b i:=J _ _ (by omega)
  have p_:=h.low
  have fS:=h.fits
  have Ax:=m5 (cs:=cs) (i:=i+1)
  rw [e1,e2]
  exact ⟨s1,s2,fun j hj=>by rw [hg _ (by omega)]; exact s3 j hj⟩
def nX (k:Nat): List Nat:=bk ((List.replicate 512 0).set 12 k) 16 (le 2 512)
theorem dP.new : dP (nX k) k 0 0 []:=by
 have hl:((List.replicate 512 0).set 12 k).length=512:=by rw [bJ,cY]
 have hle:∀n,(le 2 n).length=2:=fun n=>cJ 2 n
 have I:∀i,i<16∨18≤i→(nX k)[i]?=((List.replicate 512 0).set 12 k)[i]?:=fun i hi=>ic (by rw [hle]; omega) (by rw [hle]; omega)
 have hz:∀i,i≠12→((List.replicate 512 0).set 12 k)[i]?=(List.replicate 512 0)[i]?:=fun i hi=>eO (by omega)
 have J:∀a z,a+z≤512→(18≤a∨(13≤a∧a+z≤16))→cT (nX k) a z=cT (List.replicate 512 0) a z:=fun a z h1 h2=>nW fun i h3 h4=>by rw [I i (by omega),hz i (by omega)]
 refine ⟨by rw [nX,cI (by rw [hle]; omega),hl],?_,?_,?_,?_,?_,?_,by decide,fun i c hc=>(by simp at hc)⟩
 ·rw [mB ((I 13 (by decide)).trans (hz 13 (by decide)))]; decide +kernel
 ·rw [mB (I 12 (by decide)),dL,fu (by rw [cY]; decide)]; rfl
 ·rw [J _ _ (by decide) (by decide)]; decide +kernel
 ·rw [J _ _ (by decide) (by decide)]; decide +kernel
 ·rw [j7,J _ _ (by decide) (by decide)]; decide +kernel
 ·rw [hG,nX,qM (by omega) (by decide)]; rfl
def uB (b:List Nat)(x y:Nat): List Nat:=bk (bk b 18 (le 4 x)) 22 (le 4 y)
theorem dP.set (h:dP b k link extra cs){x y:Nat}(hx:x<4294967296)(hy:y<4294967296): dP (uB b x y) k x y cs:=by
 have hlen:=h.len
 have hle:∀n,(le 4 n).length=4:=fun n=>cJ 4 n
 have l1:(bk b 18 (le 4 x)).length=512:=by rw [cI (by rw [hle]; omega),hlen]
 have l2:(uB b x y).length=512:=by rw [uB,cI (by rw [hle]; omega),l1]
 have I:∀i,i<18∨26≤i→(uB b x y)[i]?=b[i]?:=fun i hi=>by
  rw [uB,ic (by rw [hle]; omega) (by rw [hle]; omega),ic (by rw [hle]; omega) (by rw [hle]; omega)]
 have J:∀a z,a+z≤18∨26≤a→cT (uB b x y) a z=cT b a z:=fun a z h2=>nW fun i h3 h4=>I i (by omega)
 refine ⟨l2,?_,?_,?_,?_,?_,?_,h.fits,fun i c hc => ?_⟩
 ·rw [mB (I 13 (by decide))]; exact h.MJ
 ·rw [mB (I 12 (by decide))]; exact h.kind
 ·rw [uB,zZ (by rw [hle]; omega) (.inl (by decide)),qM (by omega) (by omega)]
 ·rw [uB,qM (by omega) (by omega)]
 ·rw [j7,J _ _ (by decide)]; exact h.c6
 ·rw [hG,J _ _ (by decide)]; exact h.low
 ·obtain ⟨s1,s2,s3⟩:=h.slot i c hc
  have e1:c7 (uB b x y) i=c7 b i:=J _ _ (by omega)
  have e2:hO (uB b x y) i=hO b i:=J _ _ (by omega)
  have p_:=h.low
  have fS:=h.fits
  have Ax:=m5 (cs:=cs) (i:=i+1)
  rw [e1,e2]
  exact ⟨s1,s2,fun j hj=>by rw [I _ (by omega)]; exact s3 j hj⟩
def wT (b:List Nat)(i f z:Nat): List Nat:=bk (bk b (26+4*i) (le 2 f)) (26+4*i+2) (le 2 z)
section
variable {i f z:Nat}
theorem IW (I:b.length=512)(hi:30+4*i≤512): (wT b i f z).length=512:=by
 have hle:∀n,(le 2 n).length=2:=fun n=>cJ 2 n
 rw [wT,cI (by rw [hle,cI (by rw [hle]; omega)]; omega),cI (by rw [hle]; omega),I]
theorem IX (I:b.length=512)(hi:30+4*i≤512){j:Nat}(J:j<26+4*i∨30+4*i≤j): (wT b i f z)[j]?=b[j]?:=by
 have hle:∀n,(le 2 n).length=2:=fun n=>cJ 2 n
 rw [wT,ic (by rw [hle,cI (by rw [hle]; omega)]; omega) (by rw [hle]; omega),ic (by rw [hle]; omega) (by rw [hle]; omega)]
theorem MK (I:b.length=512)(hi:30+4*i≤512)(J:f<65536)(hz:z<65536): c7 (wT b i f z) i=f∧hO (wT b i f z) i=z:=by
 have hle:∀n,(le 2 n).length=2:=fun n=>cJ 2 n
 have l1:(bk b (26+4*i) (le 2 f)).length=512:=by rw [cI (by rw [hle]; omega),I]
 constructor
 ·rw [c7,wT,zZ (by rw [hle]; omega) (by omega),qM (by omega) (by omega)]
 ·rw [hO,wT,qM (by omega) (by omega)]
end
def tC (b:List Nat)(n lo:Nat)(c:List Nat): List Nat:=wT (bk (bk (bk b 14 (le 2 (n+1))) lo c) 16 (le 2 lo)) n lo c.length
theorem dP.ins (h:dP b k link extra cs){c:List Nat}{lo:Nat}(hf:26+4*(cs.length+1)+(tot cs+c.length)≤512)(nA:lo+(tot cs+c.length)=512): dP (tC b cs.length lo c) k link extra (cs++[c]):=by
 have hlen:=h.len
 have hle:∀n,(le 2 n).length=2:=fun n=>cJ 2 n
 have l1:(bk b 14 (le 2 (cs.length+1))).length=512:=by rw [cI (by rw [hle]; omega),hlen]
 have l2:(bk (bk b 14 (le 2 (cs.length+1))) lo c).length=512:=by rw [cI (by omega),l1]
 have l3:(bk (bk (bk b 14 (le 2 (cs.length+1))) lo c) 16 (le 2 lo)).length=512:=by rw [cI (by rw [hle]; omega),l2]
 have l4:(tC b cs.length lo c).length=512:=IW l3 (by omega)
 have o3:∀i,i<16∨18≤i→(bk (bk (bk b 14 (le 2 (cs.length+1))) lo c) 16 (le 2 lo))[i]?=(bk (bk b 14 (le 2 (cs.length+1))) lo c)[i]?:=fun i hi=>ic (by rw [hle]; omega) (by rw [hle]; omega)
 have o4:∀i,i<26+4*cs.length∨30+4*cs.length≤i→(tC b cs.length lo c)[i]?=(bk (bk (bk b 14 (le 2 (cs.length+1))) lo c) 16 (le 2 lo))[i]?:=fun i hi=>IX l3 (by omega) hi
 -- what is neither count, low, the slot nor the cell
 have I:∀i,(i<14∨18≤i)→(i<26+4*cs.length∨30+4*cs.length≤i)→(i<lo∨lo+c.length≤i)→(tC b cs.length lo c)[i]?=b[i]?:=fun i h1 h2 h3=>by
  rw [o4 i h2,o3 i (by omega),ic (by omega) h3,ic (by rw [hle]; omega) (by rw [hle]; omega)]
 have ud:∀a z,(a+z≤14∨18≤a)→a+z≤26+4*cs.length→cT (tC b cs.length lo c) a z=cT b a z:=fun a z h1 h2=>nW fun i h3 h4=>I i (by omega) (by omega) (by omega)
 have ku:c7 (tC b cs.length lo c) cs.length=lo∧hO (tC b cs.length lo c) cs.length=c.length:=MK l3 (by omega) (by omega) (by omega)
 have J:tot (cs++[c])=tot cs+c.length:=by rw [Dh]; simp [tot]
 refine ⟨l4,?_,?_,?_,?_,?_,?_,by rw [J,bU]; exact hf,fun i x hx => ?_⟩
 ·rw [mB (I 13 (by omega) (by omega) (by omega))]; exact h.MJ
 ·rw [mB (I 12 (by omega) (by omega) (by omega))]; exact h.kind
 ·rw [ud _ _ (by omega) (by omega)]; exact h.link
 ·rw [ud _ _ (by omega) (by omega)]; exact h.extra
 ·have e:cT (tC b cs.length lo c) 14 2=cT (bk b 14 (le 2 (cs.length+1))) 14 2:=nW fun i h1 h2=>by
   rw [o4 i (by omega),o3 i (by omega),ic (by omega) (by omega)]
  rw [j7,e,qM (by omega) (by omega),bU]; rfl
 ·have e:cT (tC b cs.length lo c) 16 2=cT (bk (bk (bk b 14 (le 2 (cs.length+1))) lo c) 16 (le 2 lo)) 16 2:=nW fun i h1 h2=>o4 i (by omega)
  rw [hG,e,qM (by omega) (by omega),J]; exact nA
 ·by_cases hi:i<cs.length
  ·rw [iF hi] at hx
   obtain ⟨s1,s2,s3⟩:=h.slot i x hx
   have e1:c7 (tC b cs.length lo c) i=c7 b i:=ud _ _ (by omega) (by omega)
   have e2:hO (tC b cs.length lo c) i=hO b i:=ud _ _ (by omega) (by omega)
   have Ax:=m5 (cs:=cs) (i:=i+1)
   rw [e1,e2,yC (by omega)]
   exact ⟨s1,s2,fun j hj=>by rw [I _ (by omega) (by omega) (by omega)]; exact s3 j hj⟩
  ·have iE:i=cs.length:=by
    have:=(List.getElem?_eq_some_iff.1 hx).1
    rw [bU] at this
    simp at this; omega
   subst iE
   rw [me (aD _),uW] at hx
   have hx:c=x:=bB hx
   subst hx
   rw [ku.1,ku.2,fq (by rw [bU]; exact aD _),J]
   exact ⟨nA,rfl,fun j hj=>by rw [o4 _ (by omega),o3 _ (by omega),yt (by omega) hj]⟩
def wB (b:List Nat)(i f:Nat)(c:List Nat): List Nat:=wT (bk b f c) i f c.length
theorem dP.rep (h:dP b k link extra cs){i:Nat}{c c':List Nat}(hc:cs[i]?=some c)(hl:c'.length=c.length): dP (wB b i (c7 b i) c') k link extra (cs.set i c'):=by
 obtain ⟨s1,s2,s3⟩:=h.slot i c hc
 have hlen:=h.len
 have hi:=(List.getElem?_eq_some_iff.1 hc).1
 have p_:=h.low
 have fS:=h.fits
 have Ax:=m5 (cs:=cs) (i:=i+1)
 have ML:=m4 hc
 have l1:(bk b (c7 b i) c').length=512:=by rw [cI (by omega),hlen]
 have l2:(wB b i (c7 b i) c').length=512:=IW l1 (by omega)
 have o2:∀j,j<26+4*i∨30+4*i≤j→(wB b i (c7 b i) c')[j]?=(bk b (c7 b i) c')[j]?:=fun j hj=>IX l1 (by omega) hj
 have I:∀j,(j<26+4*i∨30+4*i≤j)→(j<c7 b i∨c7 b i+c.length≤j)→(wB b i (c7 b i) c')[j]?=b[j]?:=fun j h1 h2=>by rw [o2 j h1,ic (by omega) (by omega)]
 have J:∀a z,(a+z≤26+4*i∨30+4*i≤a)→a+z≤26+4*cs.length→cT (wB b i (c7 b i) c') a z=cT b a z:=fun a z h1 h2=>nW fun j h3 h4=>I j (by omega) (by omega)
 have ku:c7 (wB b i (c7 b i) c') i=c7 b i∧hO (wB b i (c7 b i) c') i=c'.length:=MK l1 (by omega) (by omega) (by omega)
 have mQ:∀k,tot ((cs.set i c').take k)=tot (cs.take k):=Sr hc hl
 have U9:tot (cs.set i c')=tot cs:=by
  have:=mQ cs.length
  rwa [fq (by rw [bJ]; exact aD _),fq (aD _)] at this
 refine ⟨l2,?_,?_,?_,?_,?_,?_,by rw [U9,bJ]; exact fS,fun j x hx => ?_⟩
 ·rw [mB (I 13 (by omega) (by omega))]; exact h.MJ
 ·rw [mB (I 12 (by omega) (by omega))]; exact h.kind
 ·rw [J _ _ (by omega) (by omega)]; exact h.link
 ·rw [J _ _ (by omega) (by omega)]; exact h.extra
 ·rw [j7,J _ _ (by omega) (by omega),bJ]; exact h.c6
 ·rw [hG,J _ _ (by omega) (by omega),U9]; exact p_
 ·rw [mQ]
  by_cases wL:i=j
  ·subst wL
   rw [fu hi] at hx
   have hx:c'=x:=bB hx
   subst hx
   rw [ku.1,ku.2]
   exact ⟨s1,rfl,fun q hq=>by rw [o2 _ (by omega),yt (by omega) hq]⟩
  ·rw [eO wL] at hx
   obtain ⟨r1,r2,r3⟩:=h.slot j x hx
   have hj:=(List.getElem?_eq_some_iff.1 hx).1
   have e1:c7 (wB b i (c7 b i) c') j=c7 b j:=J _ _ (by omega) (by omega)
   have e2:hO (wB b i (c7 b i) c') j=hO b j:=J _ _ (by omega) (by omega)
   have ht2:=m4 hx
   have htj:=m5 (cs:=cs) (i:=j+1)
   rw [e1,e2]
   refine ⟨r1,r2,fun q hq => ?_⟩
   rw [I _ (by omega) ?_]
   ·exact r3 q hq
   ·rcases Nat.lt_or_gt_of_ne wL with q1 | q1
    ·have:=Gp (cs:=cs) (i:=i+1) (j:=j) (by omega); omega
    ·have:=Gp (cs:=cs) (i:=j+1) (j:=i) (by omega); omega
theorem dP.cell (h:dP b k link extra cs){i:Nat}{c:List Nat}(J:cs[i]?=some c): (b.drop (c7 b i)).take c.length=c:=by
 obtain ⟨s1,s2,s3⟩:=h.slot i c J
 apply rK
 intro j
 rw [kX]
 by_cases I:j<c.length
 ·rw [aq I,jH]; exact s3 j I
 ·rw [ah I,uE (by omega)]
end
section
variable {h:H} {S:List au} {X:au} {v w u:V} {l m:List Nat}
theorem Gq {id n a b:Nat}{cap:Cap}(lY:a≤b)(hb:b≤n): ∃off I,slR (.sl id 0 n cap) a b=.sl id off (b-a) I∧off≤n:=by
 cases cap with
 | exact c =>
  simp only [slR]
  by_cases J:c=a
  ·rw [iA J,ag]; exact ⟨0,_,rfl,gV _⟩
  ·rw [cH J,ay]; exact ⟨0+a*1,_,rfl,by omega⟩
 | rest e alt=>exact ⟨0+a*1,_,rfl,by omega⟩
theorem IY {id n off:Nat}{cs:List V}(I:T.get h.tr id=some (.cells n cs false))(ho:off≤n)(hl:cs.length=n): wrN h id off []=some (h.put id (some (.cells n cs false))):=by
 simp only [wrN,I,bM]
 rw [aF.2 (by omega),ag]
 congr 3
 cases J:(Nat.beq off 0&&Nat.beq 0 n) with
 | true =>
  simp only [aJ,beq_iff] at J
  rw [ag]
  rw [l_ (by omega:cs.length=0)]
 | false=>rw [ay,dn,jg,yF]
theorem MM (s:Sat h (aZ v l::X::S))(hX:c8 X (c9 w m)){a b:Nat}(lY:a≤b)(hb:b≤l.length)(hl:1≤l.length):
  ∃h',copyV Tryz.prog h 28 (slR v a b) w=some (.int .i64 (min m.length (b-a):Nat),h')∧Sat h' (aZ v (bk l a (m.take (b-a)))::X::S):=by
 by_cases h1:a<b∧1≤m.length
 ·exact Fw s hX h1.1 hb h1.2
 ·have hm:min m.length (b-a)=0:=by omega
  have ht:m.take (b-a)=[]:=l_ (by rw [kZ]; omega)
  have wS:bk l a (m.take (b-a))=l:=by rw [ht,bk]; simp
  have hw:=(s.aU (k:=1) rfl hX).2
  have hv:=(s.buf (k:=0) rfl).view
  obtain ⟨id,c,cap,rest,rfl,s1,hc,hf⟩:=s.fB hl
  obtain ⟨off,xn,e1,e2⟩:=Gq (id:=id) (cap:=cap) lY hb
  rw [e1,wS,hm]
  have hg:=s1.row (k:=0) rfl
  have Fy:=IY (off:=off) hg (by omega) (by rw [bU,cP]; exact hc)
  have J:Sat (h.put id (some (.cells c (ofBytes l++rest) false))) (aZ (.sl id 0 l.length cap) l::X::S):=hf _ _ rfl hv.1 (s1.put (k:=0) rfl)
  rcases hw with ⟨rfl | ⟨x,rfl⟩,_⟩ | ⟨qx,I,YH,n2,Ue,W7,rfl,Iw,q1,q2,q3,q4⟩
  ·exact ⟨h,by simp only [copyV,aV,eR]; rfl,s⟩
  ·exact ⟨h,by simp only [copyV,aV,eR]; rfl,s⟩
  ·refine ⟨_,?_,J⟩
   have hr:rdN h qx I 0=some []:=by
    simp only [rdN,Iw,jg]
    rw [aF.2 (by omega),ag]
    cases hq:(Nat.beq I 0&&Nat.beq 0 n2) with
    | true =>
     simp only [aJ,beq_iff] at hq
     rw [ag,l_ (by omega:Ue.length=0)]
    | false=>rw [ay,mj]
   simp only [copyV,aV,eR]
   rw [show Nat.min m.length (b-a)=0 from hm,uU,hr]
   simp only
   rw [Fy]
theorem MN (s:Sat h (aZ v l::S)){a b:Nat}(ha:a≤l.length)(hb:b≤l.length)(hl:1≤l.length):
  ∃h',copyV Tryz.prog h 28 (slR v a a) (slR v b b)=some (.int .i64 0,h')∧Sat h' (aZ v l::S):=by
 have hv:=(s.buf (k:=0) rfl).view
 obtain ⟨id,c,cap,rest,rfl,s1,hc,hf⟩:=s.fB hl
 obtain ⟨off,xn,e1,e2⟩:=Gq (id:=id) (cap:=cap) (aD _) ha
 obtain ⟨I,YH,e3,e4⟩:=Gq (id:=id) (cap:=cap) (aD _) hb
 rw [e1,e3]
 have hg:=s1.row (k:=0) rfl
 have hle:(ofBytes l++rest).length=c:=by rw [bU,cP]; exact hc
 have J:=IY (off:=off) hg (by omega) hle
 refine ⟨_,?_,hf _ _ rfl hv.1 (s1.put (k:=0) rfl)⟩
 have hr:rdN h id I 0=some []:=by
  simp only [rdN,hg,jg]
  rw [aF.2 (by omega),ag]
  cases hq:(Nat.beq I 0&&Nat.beq 0 c) with
  | true =>
   simp only [aJ,beq_iff] at hq
   rw [ag,l_ (by omega:(ofBytes l++rest).length=0)]
  | false=>rw [ay,mj]
 simp only [copyV,aV,eR,uW]
 rw [show Nat.min 0 0=0 from rfl,uU,hr]
 simp only
 rw [J]
 rfl
end
section
variable {C:cB} {E:List (Nat×V)} {h:H} {o:Oper} {S:List au} {X:au} {v u:V} {l m:List Nat} {cl:Go.Call}
theorem OpR.QN {a b:Nat}(hP:C.P=Tryz.prog)(s:Sat h (aZ v l::X::S))(hX:c8 X (c9 u m))(I:o.op=.call cl)(hc:cl.callee=.builtin .copy)(J:cl.argTypes = #[28,28])(ha:lookArgs E cl.args.toList=some [slR v a b,u])
 (lY:a≤b)(hb:b≤l.length)(hl:1≤l.length): OpR C E h o fun _ h₁=>Sat h₁ (aZ v (bk l a (m.take (b-a)))::X::S):=by
 obtain ⟨h₁,e1,e2⟩:=MM s hX lY hb hl
 refine OpR.builtin I hc ha ⟨.int .i64 (min m.length (b-a):Nat),h₁,?_,e2⟩
 simp only [builtinV,hP,J,e1]
theorem OpR.Wk {a b:Nat}(hP:C.P=Tryz.prog)(s:Sat h (aZ v l::S))(I:o.op=.call cl)(hc:cl.callee=.builtin .copy)(J:cl.argTypes = #[28,28])(hx:lookArgs E cl.args.toList=some [slR v a a,slR v b b])
 (ha:a≤l.length)(hb:b≤l.length)(hl:1≤l.length): OpR C E h o fun _ h₁=>Sat h₁ (aZ v l::S):=by
 obtain ⟨h₁,e1,e2⟩:=MN s ha hb hl
 refine OpR.builtin I hc hx ⟨.int .i64 0,h₁,?_,e2⟩
 simp only [builtinV,hP,J,e1]
end
section
variable {told:cZ} {h:H} {S:List au} {X Y:au} {k:Nat} {v x:V} {b l c:List Nat} {kd link extra:Nat} {cs:List (List Nat)}
theorem B6 (I:W told){i f z:Nat}(s:Sat h (aZ v b::S))(hl:b.length=512)(hi:30+4*i≤512)(hf:f<65536)(hz:z<65536):
  Call ⟨Tryz.prog,told⟩ 158 [.agg [v],.int .i64 (i:Int),.int .i64 (f:Int),.int .i64 (z:Int)] h fun r h'=>r=.aY []∧Sat h' (aZ v (wT b i f z)::S):=by
 have hle:∀n,(le 2 n).length=2:=fun n=>cJ 2 n
 have l1:(bk b (26+4*i) (le 2 f)).length=512:=by rw [cI (by rw [hle]; omega),hl]
 obtain ⟨sZ,_,cap,_,rfl,_⟩:=s.fB (by omega)
 have J:(26:Int)+4*(i:Int)=((26+4*i:Nat):Int):=by omega
 have e2:(26:Int)+4*(i:Int)+2=((26+4*i+2:Nat):Int):=by omega
 refine Call.of_wp (I.free _ rfl) Tryz.func158 rfl rfl (zg rfl ?_)
 refine az.cz s rfl rfl rfl (fc rfl rfl) (fun p4 h s => ?_)
 refine zk 4 rfl (zb rfl (by exact jB (aB (by omega) (by omega))) ?_)
 refine zb rfl (by exact bg (aB (by omega) (by omega))) ?_
 refine zk 4 rfl (zl rfl (s.bZ (k:=0) rfl cg bA) (zk 2 rfl (zo rfl (b9 rfl (by exact ji bI cG (ff (by omega) (by omega)))) ?_)))
 rw [J]
 refine zc rfl (oX (a:=26+4*i) (z:=2) (n:=f) I (s.ae [1]) (by decide) (by decide) (by omega) (by omega)) ?_
 rintro r h ⟨rfl,s⟩
 have s:=s.ae [1,0]
 refine zk 2 rfl (zl rfl (s.bZ (k:=0) rfl cg bA) (zm rfl (zo rfl (af (r:=.int .i64 ((26+4*i+2:Nat):Int)) rfl rfl (by rw [←e2,←J]; exact bg (aB (by omega) (by omega)))) ?_)))
 refine zm rfl (zo rfl (b9 rfl (by exact ji bI cG (ff (by omega) (by omega)))) ?_)
 refine zc rfl (oX (a:=26+4*i+2) (z:=2) (n:=z) I (s.ae [1]) (by decide) (by decide) (by omega) (by omega)) ?_
 rintro r h ⟨rfl,s⟩
 exact zv ⟨aa,_,rfl,rfl,s.del 1⟩
theorem Di (hT:W told){i:Nat}(s:Sat h S)(hk:getA S k=some X)(hX:c8 X (c9 v b))(J:dP b kd link extra cs)(hc:cs[i]?=some c):
  Call ⟨Tryz.prog,told⟩ 157 [.agg [v],.int .i64 (i:Int)] h fun r h'=>∃f,r=slR3 v f (f+c.length) (f+c.length)∧c8 X (c9 r c)∧Sat h' S:=by
 have hv:=s.aU hk hX
 have hl:=J.len
 have hi:=(List.getElem?_eq_some_iff.1 hc).1
 have fS:=J.fits
 have p_:=J.low
 obtain ⟨s1,s2,s3⟩:=J.slot i c hc
 have Ax:=m5 (cs:=cs) (i:=i+1)
 have ML:=m4 hc
 have I:=J.cell hc
 generalize hf:c7 b i=f at s1 s3 I
 obtain ⟨pi,po,pc,rfl⟩:=iu hv (by omega)
 refine Call.of_wp (hT.free _ rfl) Tryz.func157 rfl rfl (zg rfl ?_)
 refine az.cz s rfl rfl rfl (fc rfl rfl) (fun p2 h s => ?_)
 refine zk 4 rfl (zl rfl (s.bZ (k:=0) rfl cg bA) (zm rfl (zc rfl (zV hT s (mu hk) hX hl (by omega)) ?_)))
 rintro r h' ⟨rfl,s⟩
 rw [hf,s2]
 refine zk 8 rfl (zf rfl (gC _ _) (zl rfl (s.ld (k:=0) rfl cS rfl) (zk 3 rfl (zb rfl (by exact bg (aB (by omega) (by omega))) ?_))))
 refine zk 2 rfl (zb rfl (by exact bg (aB (by omega) (by omega))) ?_)
 have e1:(f:Int)+(c.length:Int)=((f+c.length:Nat):Int):=by omega
 have ku:=Au (s.aU (mu hk) hX) (a:=f) (b:=f+c.length) (c:=f+c.length) (by omega) (aD _) (by omega) (by omega)
 rw [e1]
 refine zo rfl (c_ (p:=some (.int .i64 (f:Int))) (q:=some (.int .i64 ((f+c.length:Nat):Int))) (m:=some (.int .i64 ((f+c.length:Nat):Int))) (p':=some f) (q':=some (f+c.length)) (m':=some (f+c.length)) rfl rfl rfl rfl (by rw [dU (by omega)]; rfl) (by rw [dU (by omega)]; rfl) (by rw [dU (by omega)]; rfl) ku) ?_
 refine zk 2 rfl (WP.ret ⟨aa,_,rfl,?_⟩)
 refine ⟨f,rfl,?_,s.drop⟩
 have:=DI hX (a:=f) (b:=f+c.length) (c:=f+c.length) (by omega) (aD _) (by omega) (by omega)
 rw [rQ,show f+c.length-f=c.length by omega,I] at this
 exact this
theorem Ss (J:W told)(s:Sat h S)(hk:getA S k=some X)(hX:c8 X (c9 v b))(I:dP b kd link extra cs):
  Call ⟨Tryz.prog,told⟩ 103 [.agg [v]] h fun r h'=>r=.int .i64 (486-(4*(cs.length:Int)+(tot cs:Int)))∧Sat h' S:=by
 have hv:=s.aU hk hX
 have hl:=I.len
 have fS:=I.fits
 have p_:=I.low
 obtain ⟨pi,po,pc,rfl⟩:=iu hv (by omega)
 refine Call.of_wp (J.free _ rfl) Tryz.func103 rfl rfl (zg rfl ?_)
 refine az.cz s rfl rfl rfl (fc rfl rfl) (fun p1 h s => ?_)
 refine zk 3 rfl ?_
 have s0:=s
 refine WP.drawn [none,none,some (1,2),some (0,2),ai,ai,ai,ai] rfl (by kernel_rfl) (by kernel_rfl) ?_
 refine zL rfl (s.bZ (k:=0) rfl cg bA) (aA.any rfl rfl rfl rfl (OpR.call rfl rfl rfl rfl (FJ J s (mu hk) hX hl)) ?_)
 rintro r h' ⟨rfl,s⟩
 have s1:=s
 refine zO rfl (af rfl rfl (by exact iB (aB (by omega) (by omega)))) ?_
 refine zL rfl (s.bZ (k:=0) rfl cg bA) (aA.any rfl rfl rfl rfl (OpR.call rfl rfl rfl rfl (kL J s (mu hk) hX hl)) ?_)
 rintro r h' ⟨rfl,s⟩
 rw [I.c6]
 refine zO rfl (af rfl rfl (by exact jB (aB (by omega) (by omega)))) ?_
 refine zO rfl (af rfl rfl (by exact iB (aB (by omega) (by omega)))) ?_
 refine zA rfl ?_
 refine aA.nil ⟨⟨aa,aa,fun _ _=>.inr ⟨rfl,⟨_,af rfl rfl (by exact iB (aB (by omega) (by omega)))⟩,aS _ rfl⟩,dB (.inr ⟨rfl,⟨_,aR rfl (s0.bZ (k:=0) rfl cg bA)⟩,aS _ rfl⟩) (.inr ⟨rfl,⟨_,aR rfl (s1.bZ (k:=0) rfl cg bA)⟩,aS _ rfl⟩),aa,aa,aa,aa,aa⟩,?_⟩
 refine WP.ret ⟨aa,_,rfl,?_⟩
 exact ⟨fQ (V.int .i64) (by omega),s.drop⟩
noncomputable def pfL : Code:=cV [1,1,0,1,0,0] ((Tryz.f102.body).getD .skip)
theorem Kq (hT:W told){J:Nat}{x:V}(hX:c8 X (c9 x b))(Fc:x.cells=[x])(hp:dP b kd link extra cs): ∀(m i:Nat) (h:H) (E:List (Nat×V)) (Q:Ex→List (Nat×V)→H→Prop),i+m=cs.length →
  Sat h (pt J (.cells 1 [x] false)::X::S)→Has E [(1,.ptr J 0),(3,.int .i64 (486-(4*(cs.length:Int)+(tot (cs.take i):Int)))),(12,.int .i64 (cs.length:Int)),(13,.int .i64 (i:Int))] →
  (∀E' h',Has E' [(3,.int .i64 (486-(4*(cs.length:Int)+(tot cs:Int))))]→Sat h' (pt J (.cells 1 [x] false)::X::S)→Q (.exit 0) E' h')→WP ⟨Tryz.prog,told⟩ 27 (.loop pfL) E h Q:=by
 have hl:=hp.len
 have fS:=hp.fits
 intro m
 induction m with
 | zero =>
  intro i h E Q hi s hE hq
  refine WP.loop (WP.has hE (zg rfl (zh rfl (af rfl rfl aK) (by simp <;> omega) ?_)))
  refine zk 3 rfl (WP.exit ?_)
  refine hq _ _ ⟨?_,aa⟩ s
  rw [show cs.take i=cs from fq (by omega)]
  rfl
 | succ m ih =>
  intro i h E Q hi s hE hq
  have I:cs[i]?=some (cs[i]'(by omega)):=aN _
  generalize (cs[i]'(by omega))=c at I
  obtain ⟨s1,s2,s3⟩:=hp.slot i c I
  have Ax:=m5 (cs:=cs) (i:=i+1)
  have ML:=m4 I
  refine WP.loop (WP.has hE (zg rfl (zt rfl (af rfl rfl aK) (by simp <;> omega) ?_)))
  refine zk 5 rfl (WP.block (zK 7 rfl (zl rfl (s.bZ (k:=0) rfl cg bA) (zm rfl (zc rfl (zV hT (i:=i) s (k:=1) rfl hX hl (by omega)) ?_)))))
  rintro r h' ⟨rfl,s⟩
  rw [s2]
  refine zk 9 rfl (zb rfl (by exact iB (aB (by omega) (by omega))) ?_)
  refine za rfl (zv (zr rfl (zb rfl (by exact bg (aB (by omega) (by omega))) ?_)))
  refine zm rfl (zv ?_)
  refine ih (i+1) _ _ Q (by omega) s ⟨rfl,?_,rfl,rfl,aa⟩ hq
  exact fQ (fun z=>some (V.int .i64 z)) (by omega)
theorem Pf (J:W told)(s:Sat h (X::S))(hX:c8 X (c9 v b))(I:dP b kd link extra cs):
  Call ⟨Tryz.prog,told⟩ 102 [.agg [v]] h fun r h'=>r=.int .i64 (486-(4*(cs.length:Int)+(tot cs:Int)))∧Sat h' (X::S):=by
 have hv:=s.aU (k:=0) rfl hX
 have hl:=I.len
 have fS:=I.fits
 obtain ⟨pi,po,pc,rfl⟩:=iu hv (by omega)
 refine Call.of_wp (J.free _ rfl) Tryz.func102 rfl rfl (zg rfl ?_)
 refine az.cz s rfl rfl rfl (fc rfl rfl) (fun p1 h s => ?_)
 refine zk 4 rfl (zl rfl (s.bZ (k:=0) rfl cg bA) (zc rfl (kL J s (k:=1) rfl hX hl) ?_))
 rintro r h' ⟨rfl,s⟩
 rw [I.c6]
 refine zb rfl (by exact jB (aB (by omega) (by omega))) ?_
 refine zb rfl (by exact iB (aB (by omega) (by omega))) ?_
 refine zk 5 rfl (zl rfl (s.bZ (k:=0) rfl cg bA) (zc rfl (kL J s (k:=1) rfl hX hl) ?_))
 rintro r h' ⟨rfl,s⟩
 rw [I.c6]
 refine zk 2 rfl (WP.block ?_)
 refine Kq J hX rfl I cs.length 0 _ _ _ (by omega) s ⟨rfl,?_,rfl,rfl,aa⟩ (fun E' h' hE s' => ?_)
 ·exact fQ (fun z=>some (V.int .i64 z)) (by have:tot (cs.take 0)=0:=rfl; omega)
 have s:=s'
 exact WP.has hE (zK 5 rfl (WP.ret ⟨aa,_,rfl,rfl,s.del 0⟩))
theorem Pg (I:W told){i lo:Nat}(s:Sat h (aZ v b::X::S))(J:c8 X (c9 x c))(hl:b.length=512)(hi:30+4*i≤512)(nA:hG b=lo+c.length)(aaD:lo+c.length≤512):
  Call ⟨Tryz.prog,told⟩ 105 [.agg [v],.int .i64 (i:Int),x] h fun r h'=>r=.aY []∧Sat h' (aZ v (wT (bk (bk b lo c) 16 (le 2 lo)) i lo c.length)::X::S):=by
 have hle:∀n,(le 2 n).length=2:=fun n=>cJ 2 n
 have l1:(bk b lo c).length=512:=by rw [cI (by omega),hl]
 have l2:(bk (bk b lo c) 16 (le 2 lo)).length=512:=by rw [cI (by rw [hle]; omega),l1]
 obtain ⟨sZ,_,cap,_,rfl,_⟩:=s.fB (by omega)
 have hxv:=s.aU (k:=1) rfl J
 have hx:=hxv.cells
 refine Call.of_wp (I.free _ rfl) Tryz.func105 rfl rfl (zg rfl ?_)
 refine az.cz s rfl rfl rfl (fc rfl rfl) (fun p3 h s => ?_)
 refine zk 3 rfl (zl rfl (s.bZ (k:=0) rfl cg bA) (zc rfl (FJ I s (k:=1) rfl (bz _ _) hl) ?_))
 rintro r h' ⟨rfl,s⟩
 rw [nA]
 refine zm rfl (zo rfl (aT rfl rfl rfl (bO aV (s.aU (k:=2) rfl J))) (zo rfl (af (r:=.int .i64 (lo:Int)) rfl rfl (by rw [show ((lo:Nat):Int)=((lo+c.length:Nat):Int)-(c.length:Int) by omega]; exact iB (aB (by omega) (by omega)))) ?_))
 refine zk 4 rfl (zf rfl (gC _ _) (zl rfl (s.ld (k:=0) rfl cS rfl) (zm rfl ?_)))
 have ku:=cD (s.aU (k:=1) rfl (bz _ _)) (a:=lo) (by omega)
 refine zo rfl (c_ (p:=some (.int .i64 (lo:Int))) (q:=none) (m:=none) (p':=some lo) (q':=none) (m':=none) rfl rfl rfl rfl (by rw [dU (by omega)]; rfl) rfl rfl ku.1) ?_
 refine zm rfl (az.any rfl rfl rfl (OpR.QN rfl (s.ae [1,1]) J rfl rfl rfl rfl (by omega) (aD _) (by omega)) ?_)
 intro r h s
 rw [fq (by omega)] at s
 have s:=s.ae [2,0,0]
 refine zk 3 rfl (zl rfl (s.bZ (k:=0) rfl cg bA) (zm rfl (zo rfl (b9 rfl (by exact ji bI cG (ff (by omega) (by omega)))) ?_)))
 refine zc rfl (oX (a:=16) (z:=2) (n:=lo) I (s.ae [1]) (by decide) (by decide) (by omega) (by omega)) ?_
 rintro r h ⟨rfl,s⟩
 have s:=s.ae [1,0,0]
 refine zk 2 rfl (zl rfl (s.bZ (k:=0) rfl cg bA) (zk 3 rfl (zo rfl (aT rfl rfl rfl (bO aV (s.aU (k:=2) rfl J))) (zc rfl (B6 (i:=i) (f:=lo) (z:=c.length) I (s.ae [1]) l2 hi (by omega) (by omega)) ?_))))
 rintro r h ⟨rfl,s⟩
 exact zv ⟨aa,_,rfl,rfl,s.del 1⟩
end
section
variable {told:cZ} {h:H} {S:List au} {X Y:au} {k:Nat} {v x:V} {b l c:List Nat} {kd link extra:Nat} {cs:List (List Nat)}
theorem D2 (hT:W told){kd:Nat}(s:Sat h S)(XB:kd≤255):
  Call ⟨Tryz.prog,told⟩ 46 [.int .i64 (kd:Int)] h fun r h'=>∃u,r=.aY [u,.int .i64 0]∧Sat h' (aZ u (nX kd)::S):=by
 refine Call.of_wp (hT.free _ rfl) Tryz.func46 rfl rfl (zK 9 rfl (zh rfl (af rfl rfl aK) (by simp) ?_))
 refine zk 2 rfl (zh rfl (af rfl rfl er) (by simp; omega) ?_)
 refine zk 6 rfl (az.any rfl rfl rfl (OpR.BD rfl s rfl rfl rfl rfl (by decide)) ?_)
 intro u h s
 have hl:(List.replicate 512 0).length=512:=cY
 have hn:nX kd=bk ((List.replicate 512 0).set 12 kd) 16 (le 2 512):=rfl
 generalize List.replicate 512 0=l at hl hn s
 obtain ⟨sZ,_,cap,_,rfl,_⟩:=s.fB (by omega)
 refine zo rfl (dA rfl (by rw [zJ]; rfl)) ?_
 refine az.cz s rfl rfl rfl (cy jC) (fun p4 h s => ?_)
 refine zS rfl (s.eZ (j:=0) rfl bA rfl rfl) (fun h s => ?_)
 refine zk 3 rfl (zf rfl (gC _ _) (zl rfl (s.ld (k:=0) rfl cS rfl) (zm rfl (zo rfl (b9 rfl (by exact ji bI Tryz.underlying5 (xE (by omega) (by omega)))) ?_))))
 have s:=s.ae [1,0]
 obtain ⟨J,I,e3,h2,e4,s2⟩:=kK s (i:=12) (b:=kd) (by omega) (by omega)
 have jQ:(l.set 12 kd).length=512:=by rw [bJ,hl]
 refine zo rfl (cn (r:=.ptr J I) rfl rfl e3) (zS rfl (⟨h2,e4,s2⟩) ?_)
 rintro h s
 have s:=s.ae [1,0]
 refine zk 3 rfl (zl rfl (s.bZ (k:=0) rfl cg bA) (zc rfl (oX (a:=16) (z:=2) (n:=512) hT (s.ae [1]) (by decide) (by decide) (by omega) (by omega)) ?_))
 rintro r h ⟨rfl,s⟩
 have s:=s.ae [1,0]
 refine zk 3 rfl (zf rfl (gC _ _) (zl rfl (s.ld (k:=0) rfl cS rfl) (zk 3 rfl (WP.ret ⟨aa,_,rfl,?_⟩))))
 refine ⟨_,rfl,?_⟩
 rw [hn]
 exact s.drop
theorem Ph (J:W told){kd:Nat}(s:Sat h S)(I:kd≤255):
  Call ⟨Tryz.prog,told⟩ 46 [.int .i64 (kd:Int)] h fun r h'=>∃u b,r=.aY [u,.int .i64 0]∧dP b kd 0 0 []∧Sat h' (aZ u b::S) :=
 (D2 J s I).mono fun r h' ⟨u,e,s⟩=>⟨u,_,e,dP.new (k:=kd),s⟩
theorem Su (I:W told){lk ex:Nat}(s:Sat h (X::S))(hX:c8 X (c9 v b))(J:dP b kd link extra cs)(Mk:lk<4294967296)(hex:ex<4294967296):
  Call ⟨Tryz.prog,told⟩ 47 [v,.int .i64 (lk:Int),.int .i64 (ex:Int)] h fun r h'=>∃u b',r=.aY [u,.int .i64 0]∧dP b' kd lk ex cs∧Sat h' (aZ u b'::X::S):=by
 have hl:=J.len
 have hle:∀n,(le 4 n).length=4:=fun n=>cJ 4 n
 have l1:(bk b 18 (le 4 lk)).length=512:=by rw [cI (by rw [hle]; omega),hl]
 refine Call.of_wp (I.free _ rfl) Tryz.func47 rfl rfl (zK 8 rfl (zc rfl (tZ I s hX (by omega)) ?_))
 rintro r h' (⟨hg,u,rfl,s⟩ | ⟨hg,rfl,s⟩)
 ·obtain ⟨sZ,_,cap,_,rfl,_⟩:=s.fB (by omega)
  refine zk 3 rfl ?_
  refine az.cz s rfl rfl rfl (cy jC) (fun p8 h s => ?_)
  dsimp only [V.cells,List.length_cons,List.length_nil,Nat.reduceAdd] at s
  refine zS rfl (s.eZ (j:=0) rfl bA rfl rfl) (fun h s => ?_)
  dsimp only [setA] at s
  refine zk 3 rfl (WP.block (zK 3 rfl (zh rfl (af rfl rfl aG) (rfl) (zk 6 rfl (zh rfl (af rfl rfl aK) (by simp) ?_)))))
  refine zk 2 rfl (zh rfl (af rfl rfl er) (by simp; omega) ?_)
  refine zk 3 rfl (zh rfl (af rfl rfl aK) (by simp) ?_)
  refine zk 3 rfl (zh rfl (af rfl rfl er) (by simp; omega) ?_)
  refine zk 2 rfl (zv (zj rfl (WP.skip (zg rfl (zl rfl (by exact s.bZ (k:=0) rfl cg bA) ?_)))))
  refine zm rfl (zo rfl (b9 rfl (by exact ji bI cG (ff (by omega) (by omega)))) ?_)
  refine zc rfl (oX (a:=18) (z:=4) (n:=lk) I (s.ae [1]) (by decide) (by decide) (by omega) (by omega)) ?_
  rintro r h' ⟨rfl,s⟩
  have s:=s.ae [1,0]
  refine zk 3 rfl (zl rfl (s.bZ (k:=0) rfl cg bA) (zm rfl (zo rfl (b9 rfl (by exact ji bI cG (ff (by omega) (by omega)))) ?_)))
  refine zc rfl (oX (a:=22) (z:=4) (n:=ex) I (s.ae [1]) (by decide) (by decide) (by omega) (by omega)) ?_
  rintro r h' ⟨rfl,s⟩
  have s:=s.ae [1,0]
  exact zk 3 rfl (zf rfl (gC _ _) (zl rfl (s.ld (k:=0) rfl cS rfl) (zk 3 rfl (WP.ret ⟨aa,_,rfl,_,_,rfl,J.set Mk hex,s.drop⟩))))
 ·rw [J.good] at hg; cases hg
theorem yu (J:W told)(s:Sat h (X::S))(I:c8 X (c9 v l))(hl:l.length<1073741824):
  Call ⟨Tryz.prog,told⟩ 160 [v] h fun r h'=>Sat h' (aZ r l::X::S):=by
 have hv:=s.aU (k:=0) rfl I
 refine Call.of_wp (J.free _ rfl) Tryz.func160 rfl rfl (zK 7 rfl (zo rfl (aT rfl rfl rfl (bO aV (s.aU (k:=0) rfl I))) (az.any rfl rfl rfl (OpR.vt rfl s rfl rfl rfl rfl (by omega)) ?_)))
 intro u h s
 refine zm rfl (az.any rfl rfl rfl (OpR.oU rfl s I rfl rfl rfl rfl (by simp; omega)) ?_)
 intro u2 h s
 rw [dn] at s
 exact zk 2 rfl (WP.ret ⟨aa,_,rfl,s⟩)
theorem Pj (I:W told){i:Nat}(s:Sat h (X::S))(hX:c8 X (c9 v b))(J:dP b kd link extra cs)(hc:cs[i]?=some c):
  Call ⟨Tryz.prog,told⟩ 111 [v,.int .i64 (i:Int)] h fun r h'=>∃u,r=.aY [u,.int .i64 0]∧Sat h' (aZ u c::X::S):=by
 have hl:=J.len
 have hv:=s.aU (k:=0) rfl hX
 have hi:=(List.getElem?_eq_some_iff.1 hc).1
 have fS:=J.fits
 have Ax:=m5 (cs:=cs) (i:=i+1)
 have ML:=m4 hc
 obtain ⟨pi,po,pc,rfl⟩:=iu hv (by omega)
 refine Call.of_wp (I.free _ rfl) Tryz.func111 rfl rfl (zK 8 rfl (zc rfl (td I s hX (by omega)) ?_))
 rintro r h' ⟨s,(⟨hg,rfl⟩ | ⟨hg,rfl⟩)⟩
 ·refine az.op rfl rfl rfl (bF rfl) ?_
  refine zk 2 rfl ?_
  refine az.cz s rfl rfl rfl (cy jC) (fun p6 h s => ?_)
  dsimp only [V.cells,List.length_cons,List.length_nil,Nat.reduceAdd] at s
  refine zS rfl (s.eZ (j:=0) rfl bA rfl rfl) (fun h s => ?_)
  dsimp only [setA] at s
  refine zk 3 rfl (WP.block (zK 3 rfl (zh rfl (af rfl rfl aG) (rfl) (zk 6 rfl (zh rfl (af rfl rfl aK) (by simp) ?_)))))
  refine zk 2 rfl (zl rfl (s.bZ (k:=0) rfl cg bA) (zc rfl (kL I s (k:=1) rfl hX hl) ?_))
  rintro r h' ⟨rfl,s⟩
  rw [J.c6]
  refine zh rfl (af rfl rfl jq) (by simp; omega) ?_
  refine zk 2 rfl (zv (zj rfl (WP.skip (zg rfl (zl rfl (by exact s.bZ (k:=0) rfl cg bA) ?_)))))
  refine zm rfl (zc rfl (Di (i:=i) I s (k:=1) rfl hX J hc) ?_)
  rintro r h' ⟨f,rfl,hr,s⟩
  refine zc rfl (yu I (s.ae [1]) hr (by omega)) ?_
  intro u h s
  exact zk 3 rfl (WP.ret ⟨aa,_,rfl,_,rfl,s.del 2⟩)
 ·rw [J.good] at hg; cases hg
end
end Go.Proofs.YtefepnnfphdkpaaGreat.Am
