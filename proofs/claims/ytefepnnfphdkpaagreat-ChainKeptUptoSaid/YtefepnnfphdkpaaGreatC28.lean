/- ChainKept: a part of its proof; conditions: its statement's. -/
import Derived.Test.YtefepnnfphdkpaaGreatC27
namespace Go.Proofs.YtefepnnfphdkpaaGreat.Am
open Go
theorem Fg (n:Nat): (digits 9 n).length≤10:=rO 9 n
def o5 (π:Pl)(n:Int)(b:List Nat): Prop:=∃(i:Nat) (f:Fm),π.ah[i]?=some f∧f.bf=n∧0≤n∧f.changed=true∧f.b=b
abbrev VP := (Int→List Nat→Prop)→List (Int×(Nat×Bool))→LD→Prop
abbrev vw (P:VP)(ε:aF): Prop:=P (o5 ε.1) ε.1.b_ ε.2
theorem Mx {π I:Pl}(hn:eN π I): o5 I=o5 π:=by
 funext n b
 refine propext ⟨fun ⟨i,x,hx,J,h0,h2,h3⟩ => ?_,fun ⟨i,f,hf,J,h0,h2,h3⟩ => ?_⟩
 ·obtain ⟨f,t,hf,rfl⟩:=hn.back hx
  exact ⟨i,f,hf,J,h0,h2,h3⟩
 ·obtain ⟨t,ht⟩:=hn.get i f hf
  exact ⟨i,_,ht,J,h0,h2,h3⟩
theorem wV {π:Pl}{i:Nat}{f g:Fm}(J:π.ah[i]?=some f)(hs:∀n b,(f.bf=n∧0≤n∧f.changed=true∧f.b=b)↔(g.bf=n∧0≤n∧g.changed=true∧g.b=b)){w:List (Int×Int)}{d:List (Int×(Nat×Bool))}{hd:Nat}: o5 ⟨π.ah.set i g,w,d,hd⟩=o5 π:=by
 have hi:=(List.getElem?_eq_some_iff.1 J).1
 funext n b
 refine propext ⟨fun ⟨j,x,I,h⟩ => ?_,fun ⟨j,x,I,h⟩ => ?_⟩
 ·rcases rQ J I with ⟨rfl,rfl⟩ | ⟨_,I⟩
  ·exact ⟨i,f,J,(hs n b).2 h⟩
  ·exact ⟨j,x,I,h⟩
 ·by_cases hj:i=j
  ·subst hj
   rw [J] at I
   have:=bI I
   subst this
   exact ⟨i,g,gH hi,(hs n b).1 h⟩
  ·exact ⟨j,x,by show (π.ah.set i g)[j]?=some x; rw [fT hj]; exact I,h⟩
theorem Kp {π:Pl}{i:Nat}{f g:Fm}(J:π.ah[i]?=some g)(hc:0≤g.bf→g.changed=false): o5 (cK π i f)=o5 π :=
 wV J fun n b=>⟨(fun ⟨h1,h0,I,_⟩=>by rw [hc (by omega)] at I; cases I),fun ⟨_,_,I,_⟩=>(by cases I)⟩
theorem Ia {π:Pl}{i:Nat}{e:Fm}{n:Int}{b:List Nat}(he:π.ah[i]?=some e)(J:e.bf<0): o5 (ic π i n b)=o5 π :=
 wV he fun m c=>⟨fun ⟨h1,h0,_⟩=>by omega,fun ⟨_,_,I,_⟩=>(by cases I)⟩
structure oU (N:Nat)(P:VP): Prop where
 one:∀(ε:aF) (i:Nat) (f:Fm),EC N ε→ε.1.ah[i]?=some f→0≤f.bf→f.changed=true→vw P ε→vw P (outF ε i).2
theorem kr.Vi {R:LD→Prop}(h:kr R)(N:Nat): oU N (fun _ _ x=>R x):=⟨fun _ _ _ _ _ _ _ hv=>h.out hv⟩
section
variable {N:Nat} {P:VP} {ε ε':aF} {n e:Int} {b:List Nat} {now b6:List (Int×List Nat)} {l:List Int} {cs:List dn}
theorem oU.out (h:oU N P){i:Nat}{f:Fm}(he:EC N ε)(I:ε.1.ah[i]?=some f)(hv:vw P ε): vw P (outF ε i).2:=by
 by_cases J:f.bf<0∨f.changed=false
 ·have e:outF ε i=(0,ε):=by simp only [outF,I,au J]
  rw [e]; exact hv
 ·exact h.one ε i f he I (by omega) (by cases hq:f.changed with | true=>rfl | false=>exact absurd (.inr hq) J) hv
theorem oU.gG (h:oU N P)(hr:eO ε n e b ε')(he:EC N ε)(hv:vw P ε): vw P ε':=by
 cases hr with
 | arg J=>exact hv
 | Ab i f h1 h2 hl hf =>
  show P (o5 ⟨ε.1.ah.set i { f with dK:=true,pins:=f.pins+1 },ε.1.br,ε.1.b_,ε.1.hand⟩) ε.1.b_ ε.2
  rw [wV hf (g:={ f with dK:=true,pins:=f.pins+1 }) (fun n b=>Iff.rfl)]
  exact hv
 | out I i f h1 h2 hl J hf hh hq=>exact absurd ((he.om J).1.out hf).1 hq
 | read I i f h1 h2 hl J hf hh hq hr =>
  obtain ⟨k1,k2,k3,k4,g,k5,k6,k7⟩:=(he.om J).1.out hf
  refine absurd ?_ hr
  rw [he.dk.bg] at h2
  rw [Dk.ow,ai (by rw [k2.dk.alive]; decide),ai (by rw [k2.dk.bg]; exact not_not_intro ⟨h1,h2⟩)]
 | bad I i f h1 h2 hl J hf hh hq hr hc =>
  obtain ⟨k1,k2,k3,k4,g,k5,k6,k7⟩:=(he.om J).1.out hf
  rw [he.dk.bg] at h2
  exact absurd (k2.dk.good n h1 h2) hc
 | load I i f h1 h2 hl J hf hh hq hr hc =>
  obtain ⟨n1,n2⟩:=he.om J
  have z6:vw P (I,ε.2):=by show P (o5 I) I.b_ ε.2; rw [Mx J,J.b_]; exact hv
  have xq:=h.out (ε:=(I,ε.2)) n1 hf z6
  obtain ⟨k1,k2,k3,k4,g,k5,k6,k7⟩:=n1.out hf
  have e1:=Kp (f:=f) k5 k7
  have hg:(cK (outF (I,ε.2) i).2.1 i f).ah[i]?=some dH:=(k2.cK k5 k6 k7).2.2.1
  show P (o5 (ic (cK (outF (I,ε.2) i).2.1 i f) i n ((outF (I,ε.2) i).2.2.2.at n))) (outF (I,ε.2) i).2.1.b_ (outF (I,ε.2) i).2.2
  rw [Ia hg (by decide),e1]
  exact xq
theorem B7 {π:Pl}: o5 (unpinF π n).2=o5 π∧(unpinF π n).2.b_=π.b_:=by
 unfold unpinF
 split
 ·exact ⟨rfl,rfl⟩
 ·split
  ·exact ⟨rfl,rfl⟩
  ·rename_i i hi f I
   exact ⟨wV I (g:={ f with pins:=f.pins-1 }) (fun n b=>Iff.rfl),rfl⟩
theorem oU.rd (h:oU N P)(I:kK ε n e b ε')(he:EC N ε)(hv:vw P ε): vw P ε':=by
 cases I with
 | dead hd=>exact hv
 | gG e b ε' hd I _=>exact h.gG I he hv
 | pK b ε' hd I _ =>
  have:=h.gG I he hv
  obtain ⟨J,u2⟩:=B7 (π:=ε'.1) (n:=n)
  show P (o5 (unpinF ε'.1 n).2) (unpinF ε'.1 n).2.b_ ε'.2
  rw [J,u2]; exact this
 | read b ε' hd I _ =>
  have:=h.gG I he hv
  obtain ⟨J,u2⟩:=B7 (π:=ε'.1) (n:=n)
  show P (o5 (unpinF ε'.1 n).2) (unpinF ε'.1 n).2.b_ ε'.2
  rw [J,u2]; exact this
theorem oU.vD (h:oU N P)(I:mS ε now false n e b ε')(he:EC N ε)(hv:vw P ε): vw P ε':=by
 cases I with
 | arg hn=>exact hv
 | bK _ _ ho=>cases ho
 | own b J h2 _ hl=>exact hv
 | read e b ε' J h2 _ hl I=>exact h.rd I he hv
theorem oU.Kf (h:oU N P)(I:qN ε now false n b e b6 ε')(he:EC N ε)(hv:vw P ε): vw P ε':=by
 cases I with
 | may e c ε' I _=>exact h.vD I he hv
 | bad c ε' I J=>exact h.vD I he hv
 | done c ε' I J=>exact h.vD I he hv
end
def vF (k:Nat)(v:V)(cs:List V): aq:=.xs fun o:Option (Nat×Nat×Nat)=>match o with
 | none=>.pu ((v=.bp∨∃a,v=.sle a)∧cs=[])
 | some (id,len,cap)=>.an (.ro id (.cells cs.length cs true)) (.pu (v=.sl id 0 len (.exact cap)∧cs.length=len*k))
section
variable {P:Program} {h:H} {S:List aq} {k j:Nat} {v:V} {cs:List V}
theorem Sat.rowAt (s:Sat h S)(J:getA S j=some (vF k v cs)): ((v=.bp∨∃a,v=.sle a)∧cs=[])∨∃id len cap,v=.sl id 0 len (.exact cap)∧cs.length=len*k∧T.get h.tr id=some (.cells cs.length cs true):=by
 obtain ⟨m,r,h1,h2,o,I⟩:=s.at J
 cases o with
 | none=>exact .inl I
 | some x=>exact .inr ⟨x.1,x.2.1,x.2.2,I.2.1,I.2.2,h2 _ _ I.1⟩
theorem Sat.Kq {n:Nat}{t e:TypeId}(s:Sat h S)(J:getA S j=some (vF k v cs))(I:cs.length=n*k)(hk:1≤k)(hu:P.underlying t=some (.slice e)): lenV P h t v=some (.int .i64 n):=by
 rcases s.rowAt J with ⟨hv,rfl⟩ | ⟨id,len,cap,rfl,hl,_⟩
 ·have:n=0:=by
   cases n with
   | zero=>rfl
   | succ n=>simp only [bB,gL,wg] at I; omega
  subst this
  rcases hv with rfl | ⟨a,rfl⟩
  ·exact OC hu
  ·simp only [lenV,hu]; rfl
 ·have:n=len:=by
   rw [hl] at I
   exact (Fq (by omega) I).symm
  subst this
  exact zy hu
end
def lV : List V→List (Int×List Nat)→aq
 | [],[]=>.pu True
 | a::v::l,x::m=>.an (.an (.pu (a=.int .i64 x.1)) (.cu v x.2)) (lV l m)
 | _,_=>.pu False
theorem aS.lV : ∀(m:List (Int×List Nat)) (l:List V),aS (Am.lV l m):=by
 intro m
 induction m with
 | nil=>intro l; rcases l with _ | ⟨a,_ | ⟨b,l⟩⟩ <;> exact aS.pu _
 | cons x m I=>intro l; rcases l with _ | ⟨a,_ | ⟨b,l⟩⟩ <;> first | exact aS.pu _ | exact aS.an (aS.an (aS.pu _) (aS.cu _ _)) (I l)
theorem Pm {a b:PM}: ∀ {m:List (Int×List Nat)} {l:List V},(lV l m).p a b→l.length=m.length*2:=by
 intro m
 induction m with
 | nil=>intro l h; rcases l with _ | ⟨x,_ | ⟨y,l⟩⟩ <;> first | rfl | exact h.elim
 | cons x m I=>intro l h; rcases l with _ | ⟨x,_ | ⟨y,l⟩⟩ <;> first | exact h.elim | (have:=I h.2; simp only [aO]; omega)
theorem Gp {a b:PM}: ∀ {m:List (Int×List Nat)} {l:List V} {i:Nat} {x:Int×List Nat},(lV l m).p a b→m[i]?=some x→∃u,(l.drop (i*2)).take 2=[.int .i64 x.1,u]∧(aq.cu u x.2).p a b:=by
 intro m
 induction m with
 | nil=>intro l i x h I; simp at I
 | cons y m J =>
  intro l i x h I
  rcases l with _ | ⟨p,_ | ⟨q,l⟩⟩
  ·exact h.elim
  ·exact h.elim
  ·cases i with
   | zero =>
    simp at I; subst I
    exact ⟨q,by rw [show p=.int .i64 y.1 from h.1.1]; rfl,h.1.2⟩
   | succ i =>
    rw [jQ] at I
    obtain ⟨u,h1,h2⟩:=J h.2 I
    exact ⟨u,by rw [show (i+1)*2=i*2+2 by omega]; exact h1,h2⟩
section
variable {told:cN} {h:H} {S:List aq} {X:aq} {r k q p a g bz N B:Nat} {op v x pv:V} {l data:List Nat} {ε:aF} {ps:List (List Nat)}
end
def tot : List (List Nat)→Nat
 | []=>0
 | c::l=>c.length+tot l
theorem Bu {a b:List (List Nat)}: tot (a++b)=tot a+tot b:=by
 induction a with
 | nil=>simp [tot]
 | cons x a I=>simp only [gK,tot,I]; omega
theorem lz : ∀ {cs:List (List Nat)} {i:Nat} {c:List Nat},cs[i]?=some c→tot (cs.take (i+1))=tot (cs.take i)+c.length:=by
 intro cs
 induction cs with
 | nil=>intro i c h; simp at h
 | cons x cs I =>
  intro i c h
  cases i with
  | zero=>simp at h; subst h; simp [tot]
  | succ i =>
   have:=I (i:=i) (by simpa using h)
   simp only [sk,tot,this]; omega
theorem D1 {cs:List (List Nat)}{i j:Nat}(h:i≤j): tot (cs.take i)≤tot (cs.take j):=by
 have e:cs.take j=cs.take i++(cs.take j).drop i:=by
  conv=>lhs; rw [←nI i (cs.take j),pT,mD h]
 rw [e,Bu]; omega
theorem lB {cs:List (List Nat)}{i:Nat}: tot (cs.take i)≤tot cs:=by
 have:=Bu (a:=cs.take i) (b:=cs.drop i)
 rw [nI] at this; omega
theorem Pn : ∀ {cs:List (List Nat)} {i:Nat} {c c':List Nat},cs[i]?=some c→c'.length=c.length→∀k,tot ((cs.set i c').take k)=tot (cs.take k):=by
 intro cs
 induction cs with
 | nil=>intro i c c' h; simp at h
 | cons x cs J =>
  intro i c c' h I k
  cases i with
  | zero =>
   simp at h; subst h
   cases k with
   | zero=>rfl
   | succ k=>simp [tot,I]
  | succ i=>cases k with
   | zero=>rfl
   | succ k =>
    have:=J (i:=i) (by simpa using h) I k
    simp only [AE,sk,tot,this]
theorem gw {l m:List Nat}{a i:Nat}(h:a+m.length≤l.length)(hi:i<a∨a+m.length≤i): (aZ l a m)[i]?=l[i]?:=by
 rw [Aj h,ai (by omega)]
theorem vG {l m:List Nat}{a i:Nat}(h:a+m.length≤l.length)(hi:i<m.length): (aZ l a m)[a+i]?=m[i]?:=by
 rw [Aj h,au (by omega)]; congr 1; omega
theorem my {l m:List Nat}{a z:Nat}(h:∀i,a≤i→i<a+z→l[i]?=m[i]?): cP l a z=cP m a z:=by
 unfold cP
 congr 1
 apply pQ
 intro i
 simp only [jk,jj]
 by_cases hi:a+i<a+z
 ·rw [au hi,au hi,h _ (by omega) hi]
 ·rw [ai hi,ai hi]
theorem Bv {l m:List Nat}{a b z:Nat}(h:a+m.length≤l.length)(I:b+z≤a∨a+m.length≤b): cP (aZ l a m) b z=cP l b z :=
 my fun i J h2=>gw h (by omega)
theorem qQ {l:List Nat}{a z n:Nat}(h:a+z≤l.length)(I:n<256^z): cP (aZ l a (le z n)) a z=n:=by
 have e:((aZ l a (le z n)).take (a+z)).drop a=le z n:=by
  apply pQ
  intro i
  simp only [jk,jj]
  by_cases hi:i<z
  ·rw [au (by omega),vG (by rw [dG]; omega) (by rw [dG]; omega)]
  ·rw [ai (by omega),pL (by rw [dG]; omega)]
 rw [cP,e,Kk,jR I]
theorem kE {l m:List Nat}{i:Nat}(h:l[i]?=m[i]?): l.getD i 0=m.getD i 0:=by rw [er,er,h]
structure dI (b:List Nat)(k link extra:Nat)(cs:List (List Nat)): Prop where
 len:b.length=512
 Kr:b.getD 13 0=0
 kind:b.getD 12 0=k
 link:cP b 18 4=link
 extra:cP b 22 4=extra
 fZ:jh b=cs.length
 low:gr b+tot cs=512
 fits:26+4*cs.length+tot cs≤512
 slot:∀i c,cs[i]?=some c→cM b i+tot (cs.take (i+1))=512∧gu b i=c.length∧∀j,j<c.length→b[cM b i+j]?=c[j]?
theorem My : ∀(z k:Nat) (t:List Bool),k+z≤t.length→(∀j,k≤j→j<k+z→t.getD j false=false)→∃t',markL z k t=some t'∧t'.length=t.length∧∀j,(j<k∨k+z≤j)→t'.getD j false=t.getD j false:=by
 intro z
 induction z with
 | zero=>intro k t _ _; exact ⟨t,rfl,rfl,fun _ _=>rfl⟩
 | succ z J =>
  intro k t h1 I
  have hs:∀j,j≠k→(t.set k true).getD j false=t.getD j false:=fun j hj=>by
   rw [er,er,fT (by omega)]
  obtain ⟨t',e1,e2,e3⟩:=J (k+1) (t.set k true) (by rw [bQ]; omega) (fun j a b=>by rw [hs j (by omega)]; exact I j (by omega) (by omega))
  refine ⟨t',?_,by rw [e2,bQ],fun j hj => ?_⟩
  ·rw [markL,I k (aD _) (by omega),ai (by decide)]; exact e1
  ·rw [e3 j (by omega),hs j (by omega)]
section
variable {b:List Nat} {k link extra:Nat} {cs:List (List Nat)}
theorem dI.cells (h:dI b k link extra cs): ∀(n i:Nat) (t:List Bool),i+n=cs.length→t.length=512→(∀j,j+tot (cs.take i)<512→t.getD j false=false)→cellsL b (gr b) n i t=true:=by
 intro n
 induction n with
 | zero=>intro i t _ _ _; rfl
 | succ n ih =>
  intro i t hi ht J
  have I:cs[i]?=some (cs[i]'(by omega)):=aN _
  generalize (cs[i]'(by omega))=c at I
  obtain ⟨s1,s2,s3⟩:=h.slot i c I
  have h1:=lz I
  have h2:=lB (cs:=cs) (i:=i+1)
  have h3:=h.low
  obtain ⟨t',e1,e2,e3⟩:=My c.length (cM b i) t (by omega) (fun j _ _=>J j (by omega))
  rw [cellsL,s2,ai (by omega),e1]
  exact ih (i+1) t' (by omega) (by rw [e2]; exact ht) (fun j hj=>by rw [e3 j (by omega)]; exact J j (by omega))
theorem dI.good (h:dI b k link extra cs): bU b=true:=by
 have I:=h.low
 have J:=h.fits
 rw [bU,dy h.len,dy h.Kr,dy (by rw [h.fZ]; omega),h.cells _ _ _ (by rw [h.fZ]; omega) eR fun j hj => ?_]
 ·rfl
 ·rw [er]
  simp only [List.getElem?_replicate]
  split <;> rfl
theorem dI.tail (h:dI b k link extra cs){I:List Nat}(hl:I.length=512)(ht:I.drop 12=b.drop 12): dI I k link extra cs:=by
 have hg:∀i,12≤i→I[i]?=b[i]?:=fun i hi=>by
  have:=fb (fun l:List Nat=>l[i-12]?) ht
  simp only [jk] at this
  rw [show 12+(i-12)=i by omega] at this; exact this
 have J:∀a z,12≤a→cP I a z=cP b a z:=fun a z q=>qP ht q
 refine ⟨hl,?_,?_,?_,?_,?_,?_,h.fits,fun i c hc => ?_⟩
 ·rw [kE (hg 13 (by decide))]; exact h.Kr
 ·rw [kE (hg 12 (by decide))]; exact h.kind
 ·rw [J _ _ (by decide)]; exact h.link
 ·rw [J _ _ (by decide)]; exact h.extra
 ·rw [jh,J _ _ (by decide)]; exact h.fZ
 ·rw [gr,J _ _ (by decide)]; exact h.low
 ·obtain ⟨s1,s2,s3⟩:=h.slot i c hc
  have e1:cM I i=cM b i:=J _ _ (by omega)
  have e2:gu I i=gu b i:=J _ _ (by omega)
  have vm:=h.low
  have fg:=h.fits
  have xy:=lB (cs:=cs) (i:=i+1)
  rw [e1,e2]
  exact ⟨s1,s2,fun j hj=>by rw [hg _ (by omega)]; exact s3 j hj⟩
def Bw (k:Nat): List Nat:=aZ ((List.replicate 512 0).set 12 k) 16 (le 2 512)
theorem dI.new : dI (Bw k) k 0 0 []:=by
 have hl:((List.replicate 512 0).set 12 k).length=512:=by rw [bQ,eR]
 have hle:∀n,(le 2 n).length=2:=fun n=>dG 2 n
 have I:∀i,i<16∨18≤i→(Bw k)[i]?=((List.replicate 512 0).set 12 k)[i]?:=fun i hi=>gw (by rw [hle]; omega) (by rw [hle]; omega)
 have hz:∀i,i≠12→((List.replicate 512 0).set 12 k)[i]?=(List.replicate 512 0)[i]?:=fun i hi=>fT (by omega)
 have J:∀a z,a+z≤512→(18≤a∨(13≤a∧a+z≤16))→cP (Bw k) a z=cP (List.replicate 512 0) a z:=fun a z h1 h2=>my fun i h3 h4=>by rw [I i (by omega),hz i (by omega)]
 refine ⟨by rw [Bw,cH (by rw [hle]; omega),hl],?_,?_,?_,?_,?_,?_,by decide,fun i c hc=>(by simp at hc)⟩
 ·rw [kE ((I 13 (by decide)).trans (hz 13 (by decide)))]; decide +kernel
 ·rw [kE (I 12 (by decide)),er,gH (by rw [eR]; decide)]; rfl
 ·rw [J _ _ (by decide) (by decide)]; decide +kernel
 ·rw [J _ _ (by decide) (by decide)]; decide +kernel
 ·rw [jh,J _ _ (by decide) (by decide)]; decide +kernel
 ·rw [gr,Bw,qQ (by omega) (by decide)]; rfl
def r6 (b:List Nat)(x y:Nat): List Nat:=aZ (aZ b 18 (le 4 x)) 22 (le 4 y)
theorem dI.set (h:dI b k link extra cs){x y:Nat}(hx:x<4294967296)(hy:y<4294967296): dI (r6 b x y) k x y cs:=by
 have hlen:=h.len
 have hle:∀n,(le 4 n).length=4:=fun n=>dG 4 n
 have l1:(aZ b 18 (le 4 x)).length=512:=by rw [cH (by rw [hle]; omega),hlen]
 have l2:(r6 b x y).length=512:=by rw [r6,cH (by rw [hle]; omega),l1]
 have I:∀i,i<18∨26≤i→(r6 b x y)[i]?=b[i]?:=fun i hi=>by
  rw [r6,gw (by rw [hle]; omega) (by rw [hle]; omega),gw (by rw [hle]; omega) (by rw [hle]; omega)]
 have J:∀a z,a+z≤18∨26≤a→cP (r6 b x y) a z=cP b a z:=fun a z h2=>my fun i h3 h4=>I i (by omega)
 refine ⟨l2,?_,?_,?_,?_,?_,?_,h.fits,fun i c hc => ?_⟩
 ·rw [kE (I 13 (by decide))]; exact h.Kr
 ·rw [kE (I 12 (by decide))]; exact h.kind
 ·rw [r6,Bv (by rw [hle]; omega) (.inl (by decide)),qQ (by omega) (by omega)]
 ·rw [r6,qQ (by omega) (by omega)]
 ·rw [jh,J _ _ (by decide)]; exact h.fZ
 ·rw [gr,J _ _ (by decide)]; exact h.low
 ·obtain ⟨s1,s2,s3⟩:=h.slot i c hc
  have e1:cM (r6 b x y) i=cM b i:=J _ _ (by omega)
  have e2:gu (r6 b x y) i=gu b i:=J _ _ (by omega)
  have vm:=h.low
  have fg:=h.fits
  have xy:=lB (cs:=cs) (i:=i+1)
  rw [e1,e2]
  exact ⟨s1,s2,fun j hj=>by rw [I _ (by omega)]; exact s3 j hj⟩
def ux (b:List Nat)(i f z:Nat): List Nat:=aZ (aZ b (26+4*i) (le 2 f)) (26+4*i+2) (le 2 z)
section
variable {i f z:Nat}
theorem Gq (I:b.length=512)(hi:30+4*i≤512): (ux b i f z).length=512:=by
 have hle:∀n,(le 2 n).length=2:=fun n=>dG 2 n
 rw [ux,cH (by rw [hle,cH (by rw [hle]; omega)]; omega),cH (by rw [hle]; omega),I]
theorem Gr (I:b.length=512)(hi:30+4*i≤512){j:Nat}(J:j<26+4*i∨30+4*i≤j): (ux b i f z)[j]?=b[j]?:=by
 have hle:∀n,(le 2 n).length=2:=fun n=>dG 2 n
 rw [ux,gw (by rw [hle,cH (by rw [hle]; omega)]; omega) (by rw [hle]; omega),gw (by rw [hle]; omega) (by rw [hle]; omega)]
theorem Ks (I:b.length=512)(hi:30+4*i≤512)(J:f<65536)(hz:z<65536): cM (ux b i f z) i=f∧gu (ux b i f z) i=z:=by
 have hle:∀n,(le 2 n).length=2:=fun n=>dG 2 n
 have l1:(aZ b (26+4*i) (le 2 f)).length=512:=by rw [cH (by rw [hle]; omega),I]
 constructor
 ·rw [cM,ux,Bv (by rw [hle]; omega) (by omega),qQ (by omega) (by omega)]
 ·rw [gu,ux,qQ (by omega) (by omega)]
end
def qR (b:List Nat)(n lo:Nat)(c:List Nat): List Nat:=ux (aZ (aZ (aZ b 14 (le 2 (n+1))) lo c) 16 (le 2 lo)) n lo c.length
theorem dI.ins (h:dI b k link extra cs){c:List Nat}{lo:Nat}(hf:26+4*(cs.length+1)+(tot cs+c.length)≤512)(qS:lo+(tot cs+c.length)=512): dI (qR b cs.length lo c) k link extra (cs++[c]):=by
 have hlen:=h.len
 have hle:∀n,(le 2 n).length=2:=fun n=>dG 2 n
 have l1:(aZ b 14 (le 2 (cs.length+1))).length=512:=by rw [cH (by rw [hle]; omega),hlen]
 have l2:(aZ (aZ b 14 (le 2 (cs.length+1))) lo c).length=512:=by rw [cH (by omega),l1]
 have l3:(aZ (aZ (aZ b 14 (le 2 (cs.length+1))) lo c) 16 (le 2 lo)).length=512:=by rw [cH (by rw [hle]; omega),l2]
 have l4:(qR b cs.length lo c).length=512:=Gq l3 (by omega)
 have o3:∀i,i<16∨18≤i→(aZ (aZ (aZ b 14 (le 2 (cs.length+1))) lo c) 16 (le 2 lo))[i]?=(aZ (aZ b 14 (le 2 (cs.length+1))) lo c)[i]?:=fun i hi=>gw (by rw [hle]; omega) (by rw [hle]; omega)
 have o4:∀i,i<26+4*cs.length∨30+4*cs.length≤i→(qR b cs.length lo c)[i]?=(aZ (aZ (aZ b 14 (le 2 (cs.length+1))) lo c) 16 (le 2 lo))[i]?:=fun i hi=>Gr l3 (by omega) hi
 -- what is neither count, low, the slot nor the cell
 have I:∀i,(i<14∨18≤i)→(i<26+4*cs.length∨30+4*cs.length≤i)→(i<lo∨lo+c.length≤i)→(qR b cs.length lo c)[i]?=b[i]?:=fun i h1 h2 h3=>by
  rw [o4 i h2,o3 i (by omega),gw (by omega) h3,gw (by rw [hle]; omega) (by rw [hle]; omega)]
 have xA:∀a z,(a+z≤14∨18≤a)→a+z≤26+4*cs.length→cP (qR b cs.length lo c) a z=cP b a z:=fun a z h1 h2=>my fun i h3 h4=>I i (by omega) (by omega) (by omega)
 have kI:cM (qR b cs.length lo c) cs.length=lo∧gu (qR b cs.length lo c) cs.length=c.length:=Ks l3 (by omega) (by omega) (by omega)
 have J:tot (cs++[c])=tot cs+c.length:=by rw [Bu]; simp [tot]
 refine ⟨l4,?_,?_,?_,?_,?_,?_,by rw [J,bD]; exact hf,fun i x hx => ?_⟩
 ·rw [kE (I 13 (by omega) (by omega) (by omega))]; exact h.Kr
 ·rw [kE (I 12 (by omega) (by omega) (by omega))]; exact h.kind
 ·rw [xA _ _ (by omega) (by omega)]; exact h.link
 ·rw [xA _ _ (by omega) (by omega)]; exact h.extra
 ·have e:cP (qR b cs.length lo c) 14 2=cP (aZ b 14 (le 2 (cs.length+1))) 14 2:=my fun i h1 h2=>by
   rw [o4 i (by omega),o3 i (by omega),gw (by omega) (by omega)]
  rw [jh,e,qQ (by omega) (by omega),bD]; rfl
 ·have e:cP (qR b cs.length lo c) 16 2=cP (aZ (aZ (aZ b 14 (le 2 (cs.length+1))) lo c) 16 (le 2 lo)) 16 2:=my fun i h1 h2=>o4 i (by omega)
  rw [gr,e,qQ (by omega) (by omega),J]; exact qS
 ·by_cases hi:i<cs.length
  ·rw [gx hi] at hx
   obtain ⟨s1,s2,s3⟩:=h.slot i x hx
   have e1:cM (qR b cs.length lo c) i=cM b i:=xA _ _ (by omega) (by omega)
   have e2:gu (qR b cs.length lo c) i=gu b i:=xA _ _ (by omega) (by omega)
   have xy:=lB (cs:=cs) (i:=i+1)
   rw [e1,e2,r7 (by omega)]
   exact ⟨s1,s2,fun j hj=>by rw [I _ (by omega) (by omega) (by omega)]; exact s3 j hj⟩
  ·have gi:i=cs.length:=by
    have:=(List.getElem?_eq_some_iff.1 hx).1
    rw [bD] at this
    simp at this; omega
   subst gi
   rw [iP (aD _),nT] at hx
   have hx:c=x:=bI hx
   subst hx
   rw [kI.1,kI.2,dO (by rw [bD]; exact aD _),J]
   exact ⟨qS,rfl,fun j hj=>by rw [o4 _ (by omega),o3 _ (by omega),vG (by omega) hj]⟩
def t_ (b:List Nat)(i f:Nat)(c:List Nat): List Nat:=ux (aZ b f c) i f c.length
theorem dI.rep (h:dI b k link extra cs){i:Nat}{c c':List Nat}(hc:cs[i]?=some c)(hl:c'.length=c.length): dI (t_ b i (cM b i) c') k link extra (cs.set i c'):=by
 obtain ⟨s1,s2,s3⟩:=h.slot i c hc
 have hlen:=h.len
 have hi:=(List.getElem?_eq_some_iff.1 hc).1
 have vm:=h.low
 have fg:=h.fits
 have xy:=lB (cs:=cs) (i:=i+1)
 have Kt:=lz hc
 have l1:(aZ b (cM b i) c').length=512:=by rw [cH (by omega),hlen]
 have l2:(t_ b i (cM b i) c').length=512:=Gq l1 (by omega)
 have o2:∀j,j<26+4*i∨30+4*i≤j→(t_ b i (cM b i) c')[j]?=(aZ b (cM b i) c')[j]?:=fun j hj=>Gr l1 (by omega) hj
 have I:∀j,(j<26+4*i∨30+4*i≤j)→(j<cM b i∨cM b i+c.length≤j)→(t_ b i (cM b i) c')[j]?=b[j]?:=fun j h1 h2=>by rw [o2 j h1,gw (by omega) (by omega)]
 have J:∀a z,(a+z≤26+4*i∨30+4*i≤a)→a+z≤26+4*cs.length→cP (t_ b i (cM b i) c') a z=cP b a z:=fun a z h1 h2=>my fun j h3 h4=>I j (by omega) (by omega)
 have kI:cM (t_ b i (cM b i) c') i=cM b i∧gu (t_ b i (cM b i) c') i=c'.length:=Ks l1 (by omega) (by omega) (by omega)
 have kR:∀k,tot ((cs.set i c').take k)=tot (cs.take k):=Pn hc hl
 have RF:tot (cs.set i c')=tot cs:=by
  have:=kR cs.length
  rwa [dO (by rw [bQ]; exact aD _),dO (aD _)] at this
 refine ⟨l2,?_,?_,?_,?_,?_,?_,by rw [RF,bQ]; exact fg,fun j x hx => ?_⟩
 ·rw [kE (I 13 (by omega) (by omega))]; exact h.Kr
 ·rw [kE (I 12 (by omega) (by omega))]; exact h.kind
 ·rw [J _ _ (by omega) (by omega)]; exact h.link
 ·rw [J _ _ (by omega) (by omega)]; exact h.extra
 ·rw [jh,J _ _ (by omega) (by omega),bQ]; exact h.fZ
 ·rw [gr,J _ _ (by omega) (by omega),RF]; exact vm
 ·rw [kR]
  by_cases oY:i=j
  ·subst oY
   rw [gH hi] at hx
   have hx:c'=x:=bI hx
   subst hx
   rw [kI.1,kI.2]
   exact ⟨s1,rfl,fun q hq=>by rw [o2 _ (by omega),vG (by omega) hq]⟩
  ·rw [fT oY] at hx
   obtain ⟨r1,r2,r3⟩:=h.slot j x hx
   have hj:=(List.getElem?_eq_some_iff.1 hx).1
   have e1:cM (t_ b i (cM b i) c') j=cM b j:=J _ _ (by omega) (by omega)
   have e2:gu (t_ b i (cM b i) c') j=gu b j:=J _ _ (by omega) (by omega)
   have Y_:=lz hx
   have Za:=lB (cs:=cs) (i:=j+1)
   rw [e1,e2]
   refine ⟨r1,r2,fun q hq => ?_⟩
   rw [I _ (by omega) ?_]
   ·exact r3 q hq
   ·rcases Nat.lt_or_gt_of_ne oY with q1 | q1
    ·have:=D1 (cs:=cs) (i:=i+1) (j:=j) (by omega); omega
    ·have:=D1 (cs:=cs) (i:=j+1) (j:=i) (by omega); omega
theorem dI.cell (h:dI b k link extra cs){i:Nat}{c:List Nat}(J:cs[i]?=some c): (b.drop (cM b i)).take c.length=c:=by
 obtain ⟨s1,s2,s3⟩:=h.slot i c J
 apply pQ
 intro j
 rw [jj]
 by_cases I:j<c.length
 ·rw [au I,jk]; exact s3 j I
 ·rw [ai I,pL (by omega)]
end
section
variable {h:H} {S:List aq} {X:aq} {v w u:V} {l m:List Nat}
theorem D2 {id n a b:Nat}{cap:Cap}(mJ:a≤b)(hb:b≤n): ∃off I,slR (.sl id 0 n cap) a b=.sl id off (b-a) I∧off≤n:=by
 cases cap with
 | exact c =>
  simp only [slR]
  by_cases J:c=a
  ·rw [gY J,af]; exact ⟨0,_,rfl,dR _⟩
  ·rw [cT J,ay]; exact ⟨0+a*1,_,rfl,by omega⟩
 | rest e alt=>exact ⟨0+a*1,_,rfl,by omega⟩
theorem Gs {id n off:Nat}{cs:List V}(I:T.get h.tr id=some (.cells n cs false))(ho:off≤n)(hl:cs.length=n): wrN h id off []=some (h.put id (some (.cells n cs false))):=by
 simp only [wrN,I,bB]
 rw [aE.2 (by omega),af]
 congr 3
 cases J:(Nat.beq off 0&&Nat.beq 0 n) with
 | true =>
  simp only [aI,beq_iff] at J
  rw [af]
  rw [jO (by omega:cs.length=0)]
 | false=>rw [ay,cV,ik,nI]
theorem Ku (s:Sat h (aR v l::X::S))(hX:cO X (cR w m)){a b:Nat}(mJ:a≤b)(hb:b≤l.length)(hl:1≤l.length):
  ∃h',copyV Tryz.prog h 28 (slR v a b) w=some (.int .i64 (min m.length (b-a):Nat),h')∧Sat h' (aR v (aZ l a (m.take (b-a)))::X::S):=by
 by_cases h1:a<b∧1≤m.length
 ·exact Dh s hX h1.1 hb h1.2
 ·have hm:min m.length (b-a)=0:=by omega
  have ht:m.take (b-a)=[]:=jO (by rw [e_]; omega)
  have D3:aZ l a (m.take (b-a))=l:=by rw [ht,aZ]; simp
  have hw:=(s.aH (k:=1) rfl hX).2
  have hv:=(s.buf (k:=0) rfl).view
  obtain ⟨id,c,cap,rest,rfl,s1,hc,hf⟩:=s.eF hl
  obtain ⟨off,xI,e1,e2⟩:=D2 (id:=id) (cap:=cap) mJ hb
  rw [e1,D3,hm]
  have hg:=s1.row (k:=0) rfl
  have Di:=Gs (off:=off) hg (by omega) (by rw [bD,cC]; exact hc)
  have J:Sat (h.put id (some (.cells c (ofBytes l++rest) false))) (aR (.sl id 0 l.length cap) l::X::S):=hf _ _ rfl hv.1 (s1.put (k:=0) rfl)
  rcases hw with ⟨rfl | ⟨x,rfl⟩,_⟩ | ⟨ve,I,Vj,n2,Rf,TN,rfl,F3,q1,q2,q3,q4⟩
  ·exact ⟨h,by simp only [copyV,aG,c5]; rfl,s⟩
  ·exact ⟨h,by simp only [copyV,aG,c5]; rfl,s⟩
  ·refine ⟨_,?_,J⟩
   have hr:rdN h ve I 0=some []:=by
    simp only [rdN,F3,ik]
    rw [aE.2 (by omega),af]
    cases hq:(Nat.beq I 0&&Nat.beq 0 n2) with
    | true =>
     simp only [aI,beq_iff] at hq
     rw [af,jO (by omega:Rf.length=0)]
    | false=>rw [ay,jT]
   simp only [copyV,aG,c5]
   rw [show Nat.min m.length (b-a)=0 from hm,sF,hr]
   simp only
   rw [Di]
theorem Kv (s:Sat h (aR v l::S)){a b:Nat}(ha:a≤l.length)(hb:b≤l.length)(hl:1≤l.length):
  ∃h',copyV Tryz.prog h 28 (slR v a a) (slR v b b)=some (.int .i64 0,h')∧Sat h' (aR v l::S):=by
 have hv:=(s.buf (k:=0) rfl).view
 obtain ⟨id,c,cap,rest,rfl,s1,hc,hf⟩:=s.eF hl
 obtain ⟨off,xI,e1,e2⟩:=D2 (id:=id) (cap:=cap) (aD _) ha
 obtain ⟨I,Vj,e3,e4⟩:=D2 (id:=id) (cap:=cap) (aD _) hb
 rw [e1,e3]
 have hg:=s1.row (k:=0) rfl
 have hle:(ofBytes l++rest).length=c:=by rw [bD,cC]; exact hc
 have J:=Gs (off:=off) hg (by omega) hle
 refine ⟨_,?_,hf _ _ rfl hv.1 (s1.put (k:=0) rfl)⟩
 have hr:rdN h id I 0=some []:=by
  simp only [rdN,hg,ik]
  rw [aE.2 (by omega),af]
  cases hq:(Nat.beq I 0&&Nat.beq 0 c) with
  | true =>
   simp only [aI,beq_iff] at hq
   rw [af,jO (by omega:(ofBytes l++rest).length=0)]
  | false=>rw [ay,jT]
 simp only [copyV,aG,c5,nT]
 rw [show Nat.min 0 0=0 from rfl,sF,hr]
 simp only
 rw [J]
 rfl
end
section
variable {C:b8} {E:List (Nat×V)} {h:H} {o:Oper} {S:List aq} {X:aq} {v u:V} {l m:List Nat} {cl:Go.Call}
theorem OpR.NT {a b:Nat}(hP:C.P=Tryz.prog)(s:Sat h (aR v l::X::S))(hX:cO X (cR u m))(I:o.op=.call cl)(hc:cl.callee=.builtin .copy)(J:cl.argTypes = #[28,28])(ha:lookArgs E cl.args.toList=some [slR v a b,u])
 (mJ:a≤b)(hb:b≤l.length)(hl:1≤l.length): OpR C E h o fun _ h₁=>Sat h₁ (aR v (aZ l a (m.take (b-a)))::X::S):=by
 obtain ⟨h₁,e1,e2⟩:=Ku s hX mJ hb hl
 refine OpR.builtin I hc ha ⟨.int .i64 (min m.length (b-a):Nat),h₁,?_,e2⟩
 simp only [builtinV,hP,J,e1]
theorem OpR.Td {a b:Nat}(hP:C.P=Tryz.prog)(s:Sat h (aR v l::S))(I:o.op=.call cl)(hc:cl.callee=.builtin .copy)(J:cl.argTypes = #[28,28])(hx:lookArgs E cl.args.toList=some [slR v a a,slR v b b])
 (ha:a≤l.length)(hb:b≤l.length)(hl:1≤l.length): OpR C E h o fun _ h₁=>Sat h₁ (aR v l::S):=by
 obtain ⟨h₁,e1,e2⟩:=Kv s ha hb hl
 refine OpR.builtin I hc hx ⟨.int .i64 0,h₁,?_,e2⟩
 simp only [builtinV,hP,J,e1]
end
section
variable {told:cN} {h:H} {S:List aq} {X Y:aq} {k:Nat} {v x:V} {b l c:List Nat} {kd link extra:Nat} {cs:List (List Nat)}
theorem Ak (I:W told){i f z:Nat}(s:Sat h (aR v b::S))(hl:b.length=512)(hi:30+4*i≤512)(hf:f<65536)(hz:z<65536):
  Call ⟨Tryz.prog,told⟩ 158 [.agg [v],.int .i64 (i:Int),.int .i64 (f:Int),.int .i64 (z:Int)] h fun r h'=>r=.bh []∧Sat h' (aR v (ux b i f z)::S):=by
 have hle:∀n,(le 2 n).length=2:=fun n=>dG 2 n
 have l1:(aZ b (26+4*i) (le 2 f)).length=512:=by rw [cH (by rw [hle]; omega),hl]
 obtain ⟨kg,_,cap,_,rfl,_⟩:=s.eF (by omega)
 have J:(26:Int)+4*(i:Int)=((26+4*i:Nat):Int):=by omega
 have e2:(26:Int)+4*(i:Int)+2=((26+4*i+2:Nat):Int):=by omega
 refine Call.of_wp (I.free _ rfl) Tryz.func158 rfl rfl (zg rfl ?_)
 refine az.cG s rfl rfl rfl (fO rfl rfl) (fun p4 h s => ?_)
 refine zk 4 rfl (zb rfl (by exact jG (aA (by omega) (by omega))) ?_)
 refine zb rfl (by exact bk (aA (by omega) (by omega))) ?_
 refine zk 4 rfl (zl rfl (s.cX (k:=0) rfl bT bn) (zk 2 rfl (zo rfl (cF rfl (by exact ke bO dm (gq (by omega) (by omega)))) ?_)))
 rw [J]
 refine zc rfl (nm (a:=26+4*i) (z:=2) (n:=f) I (s.ae [1]) (by decide) (by decide) (by omega) (by omega)) ?_
 rintro r h ⟨rfl,s⟩
 have s:=s.ae [1,0]
 refine zk 2 rfl (zl rfl (s.cX (k:=0) rfl bT bn) (zm rfl (zo rfl (ag (r:=.int .i64 ((26+4*i+2:Nat):Int)) rfl rfl (by rw [←e2,←J]; exact bk (aA (by omega) (by omega)))) ?_)))
 refine zm rfl (zo rfl (cF rfl (by exact ke bO dm (gq (by omega) (by omega)))) ?_)
 refine zc rfl (nm (a:=26+4*i+2) (z:=2) (n:=z) I (s.ae [1]) (by decide) (by decide) (by omega) (by omega)) ?_
 rintro r h ⟨rfl,s⟩
 exact zv ⟨aa,_,rfl,rfl,s.del 1⟩
theorem Bx (hT:W told){i:Nat}(s:Sat h S)(hk:getA S k=some X)(hX:cO X (cR v b))(J:dI b kd link extra cs)(hc:cs[i]?=some c):
  Call ⟨Tryz.prog,told⟩ 157 [.agg [v],.int .i64 (i:Int)] h fun r h'=>∃f,r=slR3 v f (f+c.length) (f+c.length)∧cO X (cR r c)∧Sat h' S:=by
 have hv:=s.aH hk hX
 have hl:=J.len
 have hi:=(List.getElem?_eq_some_iff.1 hc).1
 have fg:=J.fits
 have vm:=J.low
 obtain ⟨s1,s2,s3⟩:=J.slot i c hc
 have xy:=lB (cs:=cs) (i:=i+1)
 have Kt:=lz hc
 have I:=J.cell hc
 generalize hf:cM b i=f at s1 s3 I
 obtain ⟨pi,po,pc,rfl⟩:=gP hv (by omega)
 refine Call.of_wp (hT.free _ rfl) Tryz.func157 rfl rfl (zg rfl ?_)
 refine az.cG s rfl rfl rfl (fO rfl rfl) (fun p2 h s => ?_)
 refine zk 4 rfl (zl rfl (s.cX (k:=0) rfl bT bn) (zm rfl (zc rfl (wT hT s (kC hk) hX hl (by omega)) ?_)))
 rintro r h' ⟨rfl,s⟩
 rw [hf,s2]
 refine zk 8 rfl (zf rfl (fG _ _) (zl rfl (s.ld (k:=0) rfl bN rfl) (zk 3 rfl (zb rfl (by exact bk (aA (by omega) (by omega))) ?_))))
 refine zk 2 rfl (zb rfl (by exact bk (aA (by omega) (by omega))) ?_)
 have e1:(f:Int)+(c.length:Int)=((f+c.length:Nat):Int):=by omega
 have kI:=xu (s.aH (kC hk) hX) (a:=f) (b:=f+c.length) (c:=f+c.length) (by omega) (aD _) (by omega) (by omega)
 rw [e1]
 refine zo rfl (eV (p:=some (.int .i64 (f:Int))) (q:=some (.int .i64 ((f+c.length:Nat):Int))) (m:=some (.int .i64 ((f+c.length:Nat):Int))) (p':=some f) (q':=some (f+c.length)) (m':=some (f+c.length)) rfl rfl rfl rfl (by rw [eX (by omega)]; rfl) (by rw [eX (by omega)]; rfl) (by rw [eX (by omega)]; rfl) kI) ?_
 refine zk 2 rfl (WP.ret ⟨aa,_,rfl,?_⟩)
 refine ⟨f,rfl,?_,s.drop⟩
 have:=BU hX (a:=f) (b:=f+c.length) (c:=f+c.length) (by omega) (aD _) (by omega) (by omega)
 rw [pS,show f+c.length-f=c.length by omega,I] at this
 exact this
theorem Po (J:W told)(s:Sat h S)(hk:getA S k=some X)(hX:cO X (cR v b))(I:dI b kd link extra cs):
  Call ⟨Tryz.prog,told⟩ 103 [.agg [v]] h fun r h'=>r=.int .i64 (486-(4*(cs.length:Int)+(tot cs:Int)))∧Sat h' S:=by
 have hv:=s.aH hk hX
 have hl:=I.len
 have fg:=I.fits
 have vm:=I.low
 obtain ⟨pi,po,pc,rfl⟩:=gP hv (by omega)
 refine Call.of_wp (J.free _ rfl) Tryz.func103 rfl rfl (zg rfl ?_)
 refine az.cG s rfl rfl rfl (fO rfl rfl) (fun p1 h s => ?_)
 refine zk 3 rfl ?_
 have s0:=s
 refine WP.drawn [none,none,some (1,2),some (0,2),ak,ak,ak,ak] rfl (by kernel_rfl) (by kernel_rfl) ?_
 refine zL rfl (s.cX (k:=0) rfl bT bn) (aC.any rfl rfl rfl rfl (OpR.call rfl rfl rfl rfl (DB J s (kC hk) hX hl)) ?_)
 rintro r h' ⟨rfl,s⟩
 have s1:=s
 refine zO rfl (ag rfl rfl (by exact jF (aA (by omega) (by omega)))) ?_
 refine zL rfl (s.cX (k:=0) rfl bT bn) (aC.any rfl rfl rfl rfl (OpR.call rfl rfl rfl rfl (jH J s (kC hk) hX hl)) ?_)
 rintro r h' ⟨rfl,s⟩
 rw [I.fZ]
 refine zO rfl (ag rfl rfl (by exact jG (aA (by omega) (by omega)))) ?_
 refine zO rfl (ag rfl rfl (by exact jF (aA (by omega) (by omega)))) ?_
 refine zA rfl ?_
 refine aC.nil ⟨⟨aa,aa,fun _ _=>.inr ⟨rfl,⟨_,ag rfl rfl (by exact jF (aA (by omega) (by omega)))⟩,bS _ rfl⟩,ff (.inr ⟨rfl,⟨_,aU rfl (s0.cX (k:=0) rfl bT bn)⟩,bS _ rfl⟩) (.inr ⟨rfl,⟨_,aU rfl (s1.cX (k:=0) rfl bT bn)⟩,bS _ rfl⟩),aa,aa,aa,aa,aa⟩,?_⟩
 refine WP.ret ⟨aa,_,rfl,?_⟩
 exact ⟨fb (V.int .i64) (by omega),s.drop⟩
noncomputable def Xk : Code:=eD [1,1,0,1,0,0] ((Tryz.f102.body).getD .skip)
theorem Ib (hT:W told){J:Nat}{x:V}(hX:cO X (cR x b))(FN:x.cells=[x])(hp:dI b kd link extra cs): ∀(m i:Nat) (h:H) (E:List (Nat×V)) (Q:Ex→List (Nat×V)→H→Prop),i+m=cs.length →
  Sat h (pt J (.cells 1 [x] false)::X::S)→Has E [(1,.ptr J 0),(3,.int .i64 (486-(4*(cs.length:Int)+(tot (cs.take i):Int)))),(12,.int .i64 (cs.length:Int)),(13,.int .i64 (i:Int))] →
  (∀E' h',Has E' [(3,.int .i64 (486-(4*(cs.length:Int)+(tot cs:Int))))]→Sat h' (pt J (.cells 1 [x] false)::X::S)→Q (.exit 0) E' h')→WP ⟨Tryz.prog,told⟩ 27 (.loop Xk) E h Q:=by
 have hl:=hp.len
 have fg:=hp.fits
 intro m
 induction m with
 | zero =>
  intro i h E Q hi s hE hq
  refine WP.loop (WP.has hE (zg rfl (zh rfl (ag rfl rfl aP) (by simp <;> omega) ?_)))
  refine zk 3 rfl (WP.exit ?_)
  refine hq _ _ ⟨?_,aa⟩ s
  rw [show cs.take i=cs from dO (by omega)]
  rfl
 | succ m ih =>
  intro i h E Q hi s hE hq
  have I:cs[i]?=some (cs[i]'(by omega)):=aN _
  generalize (cs[i]'(by omega))=c at I
  obtain ⟨s1,s2,s3⟩:=hp.slot i c I
  have xy:=lB (cs:=cs) (i:=i+1)
  have Kt:=lz I
  refine WP.loop (WP.has hE (zg rfl (zt rfl (ag rfl rfl aP) (by simp <;> omega) ?_)))
  refine zk 5 rfl (WP.block (zK 7 rfl (zl rfl (s.cX (k:=0) rfl bT bn) (zm rfl (zc rfl (wT hT (i:=i) s (k:=1) rfl hX hl (by omega)) ?_)))))
  rintro r h' ⟨rfl,s⟩
  rw [s2]
  refine zk 9 rfl (zb rfl (by exact jF (aA (by omega) (by omega))) ?_)
  refine za rfl (zv (zr rfl (zb rfl (by exact bk (aA (by omega) (by omega))) ?_)))
  refine zm rfl (zv ?_)
  refine ih (i+1) _ _ Q (by omega) s ⟨rfl,?_,rfl,rfl,aa⟩ hq
  exact fb (fun z=>some (V.int .i64 z)) (by omega)
theorem Mz (J:W told)(s:Sat h (X::S))(hX:cO X (cR v b))(I:dI b kd link extra cs):
  Call ⟨Tryz.prog,told⟩ 102 [.agg [v]] h fun r h'=>r=.int .i64 (486-(4*(cs.length:Int)+(tot cs:Int)))∧Sat h' (X::S):=by
 have hv:=s.aH (k:=0) rfl hX
 have hl:=I.len
 have fg:=I.fits
 obtain ⟨pi,po,pc,rfl⟩:=gP hv (by omega)
 refine Call.of_wp (J.free _ rfl) Tryz.func102 rfl rfl (zg rfl ?_)
 refine az.cG s rfl rfl rfl (fO rfl rfl) (fun p1 h s => ?_)
 refine zk 4 rfl (zl rfl (s.cX (k:=0) rfl bT bn) (zc rfl (jH J s (k:=1) rfl hX hl) ?_))
 rintro r h' ⟨rfl,s⟩
 rw [I.fZ]
 refine zb rfl (by exact jG (aA (by omega) (by omega))) ?_
 refine zb rfl (by exact jF (aA (by omega) (by omega))) ?_
 refine zk 5 rfl (zl rfl (s.cX (k:=0) rfl bT bn) (zc rfl (jH J s (k:=1) rfl hX hl) ?_))
 rintro r h' ⟨rfl,s⟩
 rw [I.fZ]
 refine zk 2 rfl (WP.block ?_)
 refine Ib J hX rfl I cs.length 0 _ _ _ (by omega) s ⟨rfl,?_,rfl,rfl,aa⟩ (fun E' h' hE s' => ?_)
 ·exact fb (fun z=>some (V.int .i64 z)) (by have:tot (cs.take 0)=0:=rfl; omega)
 have s:=s'
 exact WP.has hE (zK 5 rfl (WP.ret ⟨aa,_,rfl,rfl,s.del 0⟩))
theorem MA (I:W told){i lo:Nat}(s:Sat h (aR v b::X::S))(J:cO X (cR x c))(hl:b.length=512)(hi:30+4*i≤512)(qS:gr b=lo+c.length)(Yz:lo+c.length≤512):
  Call ⟨Tryz.prog,told⟩ 105 [.agg [v],.int .i64 (i:Int),x] h fun r h'=>r=.bh []∧Sat h' (aR v (ux (aZ (aZ b lo c) 16 (le 2 lo)) i lo c.length)::X::S):=by
 have hle:∀n,(le 2 n).length=2:=fun n=>dG 2 n
 have l1:(aZ b lo c).length=512:=by rw [cH (by omega),hl]
 have l2:(aZ (aZ b lo c) 16 (le 2 lo)).length=512:=by rw [cH (by rw [hle]; omega),l1]
 obtain ⟨kg,_,cap,_,rfl,_⟩:=s.eF (by omega)
 have T6:=s.aH (k:=1) rfl J
 have hx:=T6.cells
 refine Call.of_wp (I.free _ rfl) Tryz.func105 rfl rfl (zg rfl ?_)
 refine az.cG s rfl rfl rfl (fO rfl rfl) (fun p3 h s => ?_)
 refine zk 3 rfl (zl rfl (s.cX (k:=0) rfl bT bn) (zc rfl (DB I s (k:=1) rfl (aX _ _) hl) ?_))
 rintro r h' ⟨rfl,s⟩
 rw [qS]
 refine zm rfl (zo rfl (aM rfl rfl rfl (aW aG (s.aH (k:=2) rfl J))) (zo rfl (ag (r:=.int .i64 (lo:Int)) rfl rfl (by rw [show ((lo:Nat):Int)=((lo+c.length:Nat):Int)-(c.length:Int) by omega]; exact jF (aA (by omega) (by omega)))) ?_))
 refine zk 4 rfl (zf rfl (fG _ _) (zl rfl (s.ld (k:=0) rfl bN rfl) (zm rfl ?_)))
 have kI:=jz (s.aH (k:=1) rfl (aX _ _)) (a:=lo) (by omega)
 refine zo rfl (eV (p:=some (.int .i64 (lo:Int))) (q:=none) (m:=none) (p':=some lo) (q':=none) (m':=none) rfl rfl rfl rfl (by rw [eX (by omega)]; rfl) rfl rfl kI.1) ?_
 refine zm rfl (az.any rfl rfl rfl (OpR.NT rfl (s.ae [1,1]) J rfl rfl rfl rfl (by omega) (aD _) (by omega)) ?_)
 intro r h s
 rw [dO (by omega)] at s
 have s:=s.ae [2,0,0]
 refine zk 3 rfl (zl rfl (s.cX (k:=0) rfl bT bn) (zm rfl (zo rfl (cF rfl (by exact ke bO dm (gq (by omega) (by omega)))) ?_)))
 refine zc rfl (nm (a:=16) (z:=2) (n:=lo) I (s.ae [1]) (by decide) (by decide) (by omega) (by omega)) ?_
 rintro r h ⟨rfl,s⟩
 have s:=s.ae [1,0,0]
 refine zk 2 rfl (zl rfl (s.cX (k:=0) rfl bT bn) (zk 3 rfl (zo rfl (aM rfl rfl rfl (aW aG (s.aH (k:=2) rfl J))) (zc rfl (Ak (i:=i) (f:=lo) (z:=c.length) I (s.ae [1]) l2 hi (by omega) (by omega)) ?_))))
 rintro r h ⟨rfl,s⟩
 exact zv ⟨aa,_,rfl,rfl,s.del 1⟩
end
end Go.Proofs.YtefepnnfphdkpaaGreat.Am
