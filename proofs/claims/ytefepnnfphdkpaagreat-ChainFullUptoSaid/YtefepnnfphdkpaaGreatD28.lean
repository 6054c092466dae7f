/- ChainFull: a part of its proof; conditions: its statement's. -/
import Derived.Test.YtefepnnfphdkpaaGreatD27
namespace Go.Proofs.YtefepnnfphdkpaaGreat.Am
open Go
theorem FU (n:Nat): (digits 9 n).length≤10:=sg 9 n
def pR (π:Pl)(n:Int)(b:List Nat): Prop:=∃(i:Nat) (f:Fm),π.ah[i]?=some f∧f.bg=n∧0≤n∧f.changed=true∧f.b=b
abbrev VP := (Int→List Nat→Prop)→List (Int×(Nat×Bool))→LD→Prop
abbrev vw (P:VP)(ε:aF): Prop:=P (pR ε.1) ε.1.ck ε.2
theorem Nc {π I:Pl}(hn:eN π I): pR I=pR π:=by
 funext n b
 refine propext ⟨fun ⟨i,x,hx,J,h0,h2,h3⟩ => ?_,fun ⟨i,f,hf,J,h0,h2,h3⟩ => ?_⟩
 ·obtain ⟨f,t,hf,rfl⟩:=hn.back hx
  exact ⟨i,f,hf,J,h0,h2,h3⟩
 ·obtain ⟨t,ht⟩:=hn.get i f hf
  exact ⟨i,_,ht,J,h0,h2,h3⟩
theorem xI {π:Pl}{i:Nat}{f g:Fm}(J:π.ah[i]?=some f)(hs:∀n b,(f.bg=n∧0≤n∧f.changed=true∧f.b=b)↔(g.bg=n∧0≤n∧g.changed=true∧g.b=b)){w:List (Int×Int)}{d:List (Int×(Nat×Bool))}{hd:Nat}: pR ⟨π.ah.set i g,w,d,hd⟩=pR π:=by
 have hi:=(List.getElem?_eq_some_iff.1 J).1
 funext n b
 refine propext ⟨fun ⟨j,x,I,h⟩ => ?_,fun ⟨j,x,I,h⟩ => ?_⟩
 ·rcases sj J I with ⟨rfl,rfl⟩ | ⟨_,I⟩
  ·exact ⟨i,f,J,(hs n b).2 h⟩
  ·exact ⟨j,x,I,h⟩
 ·by_cases hj:i=j
  ·subst hj
   rw [J] at I
   have:=bE I
   subst this
   exact ⟨i,g,gW hi,(hs n b).1 h⟩
  ·exact ⟨j,x,by show (π.ah.set i g)[j]?=some x; rw [fZ hj]; exact I,h⟩
theorem K3 {π:Pl}{i:Nat}{f g:Fm}(J:π.ah[i]?=some g)(hc:0≤g.bg→g.changed=false): pR (cF π i f)=pR π :=
 xI J fun n b=>⟨(fun ⟨h1,h0,I,_⟩=>by rw [hc (by omega)] at I; cases I),fun ⟨_,_,I,_⟩=>(by cases I)⟩
theorem IW {π:Pl}{i:Nat}{e:Fm}{n:Int}{b:List Nat}(he:π.ah[i]?=some e)(J:e.bg<0): pR (iz π i n b)=pR π :=
 xI he fun m c=>⟨fun ⟨h1,h0,_⟩=>by omega,fun ⟨_,_,I,_⟩=>(by cases I)⟩
structure pK (N:Nat)(P:VP): Prop where
 one:∀(ε:aF) (i:Nat) (f:Fm),EC N ε→ε.1.ah[i]?=some f→0≤f.bg→f.changed=true→vw P ε→vw P (outF ε i).2
theorem kL.Wh {R:LD→Prop}(h:kL R)(N:Nat): pK N (fun _ _ x=>R x):=⟨fun _ _ _ _ _ _ _ hv=>h.out hv⟩
section
variable {N:Nat} {P:VP} {ε ε':aF} {n e:Int} {b:List Nat} {now bI:List (Int×List Nat)} {l:List Int} {cs:List dr}
theorem pK.out (h:pK N P){i:Nat}{f:Fm}(he:EC N ε)(I:ε.1.ah[i]?=some f)(hv:vw P ε): vw P (outF ε i).2:=by
 by_cases J:f.bg<0∨f.changed=false
 ·have e:outF ε i=(0,ε):=by simp only [outF,I,ax J]
  rw [e]; exact hv
 ·exact h.one ε i f he I (by omega) (by cases hq:f.changed with | true=>rfl | false=>exact absurd (.inr hq) J) hv
theorem pK.gU (h:pK N P)(hr:eO ε n e b ε')(he:EC N ε)(hv:vw P ε): vw P ε':=by
 cases hr with
 | arg J=>exact hv
 | AF i f h1 h2 hl hf =>
  show P (pR ⟨ε.1.ah.set i { f with dP:=true,pins:=f.pins+1 },ε.1.bu,ε.1.ck,ε.1.hand⟩) ε.1.ck ε.2
  rw [xI hf (g:={ f with dP:=true,pins:=f.pins+1 }) (fun n b=>Iff.rfl)]
  exact hv
 | out I i f h1 h2 hl J hf hh hq=>exact absurd ((he.oG J).1.out hf).1 hq
 | read I i f h1 h2 hl J hf hh hq hr =>
  obtain ⟨k1,k2,k3,k4,g,k5,k6,k7⟩:=(he.oG J).1.out hf
  refine absurd ?_ hr
  rw [he.dk.bh] at h2
  rw [Dk.oN,ai (by rw [k2.dk.alive]; decide),ai (by rw [k2.dk.bh]; exact not_not_intro ⟨h1,h2⟩)]
 | bad I i f h1 h2 hl J hf hh hq hr hc =>
  obtain ⟨k1,k2,k3,k4,g,k5,k6,k7⟩:=(he.oG J).1.out hf
  rw [he.dk.bh] at h2
  exact absurd (k2.dk.good n h1 h2) hc
 | load I i f h1 h2 hl J hf hh hq hr hc =>
  obtain ⟨n1,n2⟩:=he.oG J
  have Az:vw P (I,ε.2):=by show P (pR I) I.ck ε.2; rw [Nc J,J.ck]; exact hv
  have yh:=h.out (ε:=(I,ε.2)) n1 hf Az
  obtain ⟨k1,k2,k3,k4,g,k5,k6,k7⟩:=n1.out hf
  have e1:=K3 (f:=f) k5 k7
  have hg:(cF (outF (I,ε.2) i).2.1 i f).ah[i]?=some dL:=(k2.cF k5 k6 k7).2.2.1
  show P (pR (iz (cF (outF (I,ε.2) i).2.1 i f) i n ((outF (I,ε.2) i).2.2.2.at n))) (outF (I,ε.2) i).2.1.ck (outF (I,ε.2) i).2.2
  rw [IW hg (by decide),e1]
  exact yh
theorem Cz {π:Pl}: pR (unpinF π n).2=pR π∧(unpinF π n).2.ck=π.ck:=by
 unfold unpinF
 split
 ·exact ⟨rfl,rfl⟩
 ·split
  ·exact ⟨rfl,rfl⟩
  ·rename_i i hi f I
   exact ⟨xI I (g:={ f with pins:=f.pins-1 }) (fun n b=>Iff.rfl),rfl⟩
theorem pK.rd (h:pK N P)(I:k9 ε n e b ε')(he:EC N ε)(hv:vw P ε): vw P ε':=by
 cases I with
 | dead hd=>exact hv
 | gU e b ε' hd I _=>exact h.gU I he hv
 | qh b ε' hd I _ =>
  have:=h.gU I he hv
  obtain ⟨J,u2⟩:=Cz (π:=ε'.1) (n:=n)
  show P (pR (unpinF ε'.1 n).2) (unpinF ε'.1 n).2.ck ε'.2
  rw [J,u2]; exact this
 | read b ε' hd I _ =>
  have:=h.gU I he hv
  obtain ⟨J,u2⟩:=Cz (π:=ε'.1) (n:=n)
  show P (pR (unpinF ε'.1 n).2) (unpinF ε'.1 n).2.ck ε'.2
  rw [J,u2]; exact this
theorem pK.wm (h:pK N P)(I:nj ε now false n e b ε')(he:EC N ε)(hv:vw P ε): vw P ε':=by
 cases I with
 | arg hn=>exact hv
 | bL _ _ ho=>cases ho
 | own b J h2 _ hl=>exact hv
 | read e b ε' J h2 _ hl I=>exact h.rd I he hv
theorem pK.KS (h:pK N P)(I:rF ε now false n b e bI ε')(he:EC N ε)(hv:vw P ε): vw P ε':=by
 cases I with
 | may e c ε' I _=>exact h.wm I he hv
 | bad c ε' I J=>exact h.wm I he hv
 | done c ε' I J=>exact h.wm I he hv
end
def yR (k:Nat)(v:V)(cs:List V): aq:=.xs fun o:Option (Nat×Nat×Nat)=>match o with
 | none=>.pu ((v=.bn∨∃a,v=.sle a)∧cs=[])
 | some (id,len,cap)=>.an (.ro id (.cells cs.length cs true)) (.pu (v=.sl id 0 len (.exact cap)∧cs.length=len*k))
section
variable {P:Program} {h:H} {S:List aq} {k j:Nat} {v:V} {cs:List V}
theorem Sat.rowAt (s:Sat h S)(J:getA S j=some (yR k v cs)): ((v=.bn∨∃a,v=.sle a)∧cs=[])∨∃id len cap,v=.sl id 0 len (.exact cap)∧cs.length=len*k∧T.get h.tr id=some (.cells cs.length cs true):=by
 obtain ⟨m,r,h1,h2,o,I⟩:=s.at J
 cases o with
 | none=>exact .inl I
 | some x=>exact .inr ⟨x.1,x.2.1,x.2.2,I.2.1,I.2.2,h2 _ _ I.1⟩
theorem Sat.K4 {n:Nat}{t e:TypeId}(s:Sat h S)(J:getA S j=some (yR k v cs))(I:cs.length=n*k)(hk:1≤k)(hu:P.underlying t=some (.slice e)): lenV P h t v=some (.int .i64 n):=by
 rcases s.rowAt J with ⟨hv,rfl⟩ | ⟨id,len,cap,rfl,hl,_⟩
 ·have:n=0:=by
   cases n with
   | zero=>rfl
   | succ n=>simp only [bG,gM,tc] at I; omega
  subst this
  rcases hv with rfl | ⟨a,rfl⟩
  ·exact Pr hu
  ·simp only [lenV,hu]; rfl
 ·have:n=len:=by
   rw [hl] at I
   exact (F3 (by omega) I).symm
  subst this
  exact Kb hu
end
def kG : List V→List (Int×List Nat)→aq
 | [],[]=>.pu True
 | a::v::l,x::m=>.an (.an (.pu (a=.int .i64 x.1)) (.cy v x.2)) (kG l m)
 | _,_=>.pu False
theorem aQ.kG : ∀(m:List (Int×List Nat)) (l:List V),aQ (Am.kG l m):=by
 intro m
 induction m with
 | nil=>intro l; rcases l with _ | ⟨a,_ | ⟨b,l⟩⟩ <;> exact aQ.pu _
 | cons x m I=>intro l; rcases l with _ | ⟨a,_ | ⟨b,l⟩⟩ <;> first | exact aQ.pu _ | exact aQ.an (aQ.an (aQ.pu _) (aQ.cy _ _)) (I l)
theorem Qf {a b:PM}: ∀ {m:List (Int×List Nat)} {l:List V},(kG l m).p a b→l.length=m.length*2:=by
 intro m
 induction m with
 | nil=>intro l h; rcases l with _ | ⟨x,_ | ⟨y,l⟩⟩ <;> first | rfl | exact h.elim
 | cons x m I=>intro l h; rcases l with _ | ⟨x,_ | ⟨y,l⟩⟩ <;> first | exact h.elim | (have:=I h.2; simp only [aN]; omega)
theorem G4 {a b:PM}: ∀ {m:List (Int×List Nat)} {l:List V} {i:Nat} {x:Int×List Nat},(kG l m).p a b→m[i]?=some x→∃u,(l.drop (i*2)).take 2=[.int .i64 x.1,u]∧(aq.cy u x.2).p a b:=by
 intro m
 induction m with
 | nil=>intro l i x h I; simp at I
 | cons y m J =>
  intro l i x h I
  rcases l with _ | ⟨p,_ | ⟨q,l⟩⟩
  ·exact h.elim
  ·exact h.elim
  ·cases i with
   | zero =>
    simp at I; subst I
    exact ⟨q,by rw [show p=.int .i64 y.1 from h.1.1]; rfl,h.1.2⟩
   | succ i =>
    rw [j4] at I
    obtain ⟨u,h1,h2⟩:=J h.2 I
    exact ⟨u,by rw [show (i+1)*2=i*2+2 by omega]; exact h1,h2⟩
section
variable {told:cz} {h:H} {S:List aq} {X:aq} {r k q p a g bf N B:Nat} {op v x pv:V} {l data:List Nat} {ε:aF} {ps:List (List Nat)}
end
def tot : List (List Nat)→Nat
 | []=>0
 | c::l=>c.length+tot l
theorem BY {a b:List (List Nat)}: tot (a++b)=tot a+tot b:=by
 induction a with
 | nil=>simp [tot]
 | cons x a I=>simp only [gX,tot,I]; omega
theorem lQ : ∀ {cs:List (List Nat)} {i:Nat} {c:List Nat},cs[i]?=some c→tot (cs.take (i+1))=tot (cs.take i)+c.length:=by
 intro cs
 induction cs with
 | nil=>intro i c h; simp at h
 | cons x cs I =>
  intro i c h
  cases i with
  | zero=>simp at h; subst h; simp [tot]
  | succ i =>
   have:=I (i:=i) (by simpa using h)
   simp only [qm,tot,this]; omega
theorem Et {cs:List (List Nat)}{i j:Nat}(h:i≤j): tot (cs.take i)≤tot (cs.take j):=by
 have e:cs.take j=cs.take i++(cs.take j).drop i:=by
  conv=>lhs; rw [←mR i (cs.take j),qu,mX h]
 rw [e,BY]; omega
theorem lR {cs:List (List Nat)}{i:Nat}: tot (cs.take i)≤tot cs:=by
 have:=BY (a:=cs.take i) (b:=cs.drop i)
 rw [mR] at this; omega
theorem Qg : ∀ {cs:List (List Nat)} {i:Nat} {c c':List Nat},cs[i]?=some c→c'.length=c.length→∀k,tot ((cs.set i c').take k)=tot (cs.take k):=by
 intro cs
 induction cs with
 | nil=>intro i c c' h; simp at h
 | cons x cs J =>
  intro i c c' h I k
  cases i with
  | zero =>
   simp at h; subst h
   cases k with
   | zero=>rfl
   | succ k=>simp [tot,I]
  | succ i=>cases k with
   | zero=>rfl
   | succ k =>
    have:=J (i:=i) (by simpa using h) I k
    simp only [A7,qm,tot,this]
theorem gE {l m:List Nat}{a i:Nat}(h:a+m.length≤l.length)(hi:i<a∨a+m.length≤i): (a_ l a m)[i]?=l[i]?:=by
 rw [AN h,ai (by omega)]
theorem wu {l m:List Nat}{a i:Nat}(h:a+m.length≤l.length)(hi:i<m.length): (a_ l a m)[a+i]?=m[i]?:=by
 rw [AN h,ax (by omega)]; congr 1; omega
theorem mP {l m:List Nat}{a z:Nat}(h:∀i,a≤i→i<a+z→l[i]?=m[i]?): cQ l a z=cQ m a z:=by
 unfold cQ
 congr 1
 apply qo
 intro i
 simp only [jy,jx]
 by_cases hi:a+i<a+z
 ·rw [ax hi,ax hi,h _ (by omega) hi]
 ·rw [ai hi,ai hi]
theorem BZ {l m:List Nat}{a b z:Nat}(h:a+m.length≤l.length)(I:b+z≤a∨a+m.length≤b): cQ (a_ l a m) b z=cQ l b z :=
 mP fun i J h2=>gE h (by omega)
theorem rI {l:List Nat}{a z n:Nat}(h:a+z≤l.length)(I:n<256^z): cQ (a_ l a (le z n)) a z=n:=by
 have e:((a_ l a (le z n)).take (a+z)).drop a=le z n:=by
  apply qo
  intro i
  simp only [jy,jx]
  by_cases hi:i<z
  ·rw [ax (by omega),wu (by rw [dK]; omega) (by rw [dK]; omega)]
  ·rw [ai (by omega),qj (by rw [dK]; omega)]
 rw [cQ,e,KY,j5 I]
theorem kT {l m:List Nat}{i:Nat}(h:l[i]?=m[i]?): l.getD i 0=m.getD i 0:=by rw [dN,dN,h]
structure dF (b:List Nat)(k link extra:Nat)(cs:List (List Nat)): Prop where
 len:b.length=512
 K5:b.getD 13 0=0
 kind:b.getD 12 0=k
 link:cQ b 18 4=link
 extra:cQ b 22 4=extra
 fV:jt b=cs.length
 low:gB b+tot cs=512
 fits:26+4*cs.length+tot cs≤512
 slot:∀i c,cs[i]?=some c→cP b i+tot (cs.take (i+1))=512∧gC b i=c.length∧∀j,j<c.length→b[cP b i+j]?=c[j]?
theorem Nd : ∀(z k:Nat) (t:List Bool),k+z≤t.length→(∀j,k≤j→j<k+z→t.getD j false=false)→∃t',markL z k t=some t'∧t'.length=t.length∧∀j,(j<k∨k+z≤j)→t'.getD j false=t.getD j false:=by
 intro z
 induction z with
 | zero=>intro k t _ _; exact ⟨t,rfl,rfl,fun _ _=>rfl⟩
 | succ z J =>
  intro k t h1 I
  have hs:∀j,j≠k→(t.set k true).getD j false=t.getD j false:=fun j hj=>by
   rw [dN,dN,fZ (by omega)]
  obtain ⟨t',e1,e2,e3⟩:=J (k+1) (t.set k true) (by rw [cq]; omega) (fun j a b=>by rw [hs j (by omega)]; exact I j (by omega) (by omega))
  refine ⟨t',?_,by rw [e2,cq],fun j hj => ?_⟩
  ·rw [markL,I k (aD _) (by omega),ai (by decide)]; exact e1
  ·rw [e3 j (by omega),hs j (by omega)]
section
variable {b:List Nat} {k link extra:Nat} {cs:List (List Nat)}
theorem dF.cells (h:dF b k link extra cs): ∀(n i:Nat) (t:List Bool),i+n=cs.length→t.length=512→(∀j,j+tot (cs.take i)<512→t.getD j false=false)→cellsL b (gB b) n i t=true:=by
 intro n
 induction n with
 | zero=>intro i t _ _ _; rfl
 | succ n ih =>
  intro i t hi ht J
  have I:cs[i]?=some (cs[i]'(by omega)):=aM _
  generalize (cs[i]'(by omega))=c at I
  obtain ⟨s1,s2,s3⟩:=h.slot i c I
  have h1:=lQ I
  have h2:=lR (cs:=cs) (i:=i+1)
  have h3:=h.low
  obtain ⟨t',e1,e2,e3⟩:=Nd c.length (cP b i) t (by omega) (fun j _ _=>J j (by omega))
  rw [cellsL,s2,ai (by omega),e1]
  exact ih (i+1) t' (by omega) (by rw [e2]; exact ht) (fun j hj=>by rw [e3 j (by omega)]; exact J j (by omega))
theorem dF.good (h:dF b k link extra cs): bV b=true:=by
 have I:=h.low
 have J:=h.fits
 rw [bV,cZ h.len,cZ h.K5,cZ (by rw [h.fV]; omega),h.cells _ _ _ (by rw [h.fV]; omega) eT fun j hj => ?_]
 ·rfl
 ·rw [dN]
  simp only [List.getElem?_replicate]
  split <;> rfl
theorem dF.tail (h:dF b k link extra cs){I:List Nat}(hl:I.length=512)(ht:I.drop 12=b.drop 12): dF I k link extra cs:=by
 have hg:∀i,12≤i→I[i]?=b[i]?:=fun i hi=>by
  have:=fo (fun l:List Nat=>l[i-12]?) ht
  simp only [jy] at this
  rw [show 12+(i-12)=i by omega] at this; exact this
 have J:∀a z,12≤a→cQ I a z=cQ b a z:=fun a z q=>rH ht q
 refine ⟨hl,?_,?_,?_,?_,?_,?_,h.fits,fun i c hc => ?_⟩
 ·rw [kT (hg 13 (by decide))]; exact h.K5
 ·rw [kT (hg 12 (by decide))]; exact h.kind
 ·rw [J _ _ (by decide)]; exact h.link
 ·rw [J _ _ (by decide)]; exact h.extra
 ·rw [jt,J _ _ (by decide)]; exact h.fV
 ·rw [gB,J _ _ (by decide)]; exact h.low
 ·obtain ⟨s1,s2,s3⟩:=h.slot i c hc
  have e1:cP I i=cP b i:=J _ _ (by omega)
  have e2:gC I i=gC b i:=J _ _ (by omega)
  have vU:=h.low
  have eS:=h.fits
  have yo:=lR (cs:=cs) (i:=i+1)
  rw [e1,e2]
  exact ⟨s1,s2,fun j hj=>by rw [hg _ (by omega)]; exact s3 j hj⟩
def B0 (k:Nat): List Nat:=a_ ((List.replicate 512 0).set 12 k) 16 (le 2 512)
theorem dF.new : dF (B0 k) k 0 0 []:=by
 have hl:((List.replicate 512 0).set 12 k).length=512:=by rw [cq,eT]
 have hle:∀n,(le 2 n).length=2:=fun n=>dK 2 n
 have I:∀i,i<16∨18≤i→(B0 k)[i]?=((List.replicate 512 0).set 12 k)[i]?:=fun i hi=>gE (by rw [hle]; omega) (by rw [hle]; omega)
 have hz:∀i,i≠12→((List.replicate 512 0).set 12 k)[i]?=(List.replicate 512 0)[i]?:=fun i hi=>fZ (by omega)
 have J:∀a z,a+z≤512→(18≤a∨(13≤a∧a+z≤16))→cQ (B0 k) a z=cQ (List.replicate 512 0) a z:=fun a z h1 h2=>mP fun i h3 h4=>by rw [I i (by omega),hz i (by omega)]
 refine ⟨by rw [B0,cK (by rw [hle]; omega),hl],?_,?_,?_,?_,?_,?_,by decide,fun i c hc=>(by simp at hc)⟩
 ·rw [kT ((I 13 (by decide)).trans (hz 13 (by decide)))]; decide +kernel
 ·rw [kT (I 12 (by decide)),dN,gW (by rw [eT]; decide)]; rfl
 ·rw [J _ _ (by decide) (by decide)]; decide +kernel
 ·rw [J _ _ (by decide) (by decide)]; decide +kernel
 ·rw [jt,J _ _ (by decide) (by decide)]; decide +kernel
 ·rw [gB,B0,rI (by omega) (by decide)]; rfl
def sG (b:List Nat)(x y:Nat): List Nat:=a_ (a_ b 18 (le 4 x)) 22 (le 4 y)
theorem dF.set (h:dF b k link extra cs){x y:Nat}(hx:x<4294967296)(hy:y<4294967296): dF (sG b x y) k x y cs:=by
 have hlen:=h.len
 have hle:∀n,(le 4 n).length=4:=fun n=>dK 4 n
 have l1:(a_ b 18 (le 4 x)).length=512:=by rw [cK (by rw [hle]; omega),hlen]
 have l2:(sG b x y).length=512:=by rw [sG,cK (by rw [hle]; omega),l1]
 have I:∀i,i<18∨26≤i→(sG b x y)[i]?=b[i]?:=fun i hi=>by
  rw [sG,gE (by rw [hle]; omega) (by rw [hle]; omega),gE (by rw [hle]; omega) (by rw [hle]; omega)]
 have J:∀a z,a+z≤18∨26≤a→cQ (sG b x y) a z=cQ b a z:=fun a z h2=>mP fun i h3 h4=>I i (by omega)
 refine ⟨l2,?_,?_,?_,?_,?_,?_,h.fits,fun i c hc => ?_⟩
 ·rw [kT (I 13 (by decide))]; exact h.K5
 ·rw [kT (I 12 (by decide))]; exact h.kind
 ·rw [sG,BZ (by rw [hle]; omega) (.inl (by decide)),rI (by omega) (by omega)]
 ·rw [sG,rI (by omega) (by omega)]
 ·rw [jt,J _ _ (by decide)]; exact h.fV
 ·rw [gB,J _ _ (by decide)]; exact h.low
 ·obtain ⟨s1,s2,s3⟩:=h.slot i c hc
  have e1:cP (sG b x y) i=cP b i:=J _ _ (by omega)
  have e2:gC (sG b x y) i=gC b i:=J _ _ (by omega)
  have vU:=h.low
  have eS:=h.fits
  have yo:=lR (cs:=cs) (i:=i+1)
  rw [e1,e2]
  exact ⟨s1,s2,fun j hj=>by rw [I _ (by omega)]; exact s3 j hj⟩
def uX (b:List Nat)(i f z:Nat): List Nat:=a_ (a_ b (26+4*i) (le 2 f)) (26+4*i+2) (le 2 z)
section
variable {i f z:Nat}
theorem G5 (I:b.length=512)(hi:30+4*i≤512): (uX b i f z).length=512:=by
 have hle:∀n,(le 2 n).length=2:=fun n=>dK 2 n
 rw [uX,cK (by rw [hle,cK (by rw [hle]; omega)]; omega),cK (by rw [hle]; omega),I]
theorem G6 (I:b.length=512)(hi:30+4*i≤512){j:Nat}(J:j<26+4*i∨30+4*i≤j): (uX b i f z)[j]?=b[j]?:=by
 have hle:∀n,(le 2 n).length=2:=fun n=>dK 2 n
 rw [uX,gE (by rw [hle,cK (by rw [hle]; omega)]; omega) (by rw [hle]; omega),gE (by rw [hle]; omega) (by rw [hle]; omega)]
theorem K6 (I:b.length=512)(hi:30+4*i≤512)(J:f<65536)(hz:z<65536): cP (uX b i f z) i=f∧gC (uX b i f z) i=z:=by
 have hle:∀n,(le 2 n).length=2:=fun n=>dK 2 n
 have l1:(a_ b (26+4*i) (le 2 f)).length=512:=by rw [cK (by rw [hle]; omega),I]
 constructor
 ·rw [cP,uX,BZ (by rw [hle]; omega) (by omega),rI (by omega) (by omega)]
 ·rw [gC,uX,rI (by omega) (by omega)]
end
def rJ (b:List Nat)(n lo:Nat)(c:List Nat): List Nat:=uX (a_ (a_ (a_ b 14 (le 2 (n+1))) lo c) 16 (le 2 lo)) n lo c.length
theorem dF.ins (h:dF b k link extra cs){c:List Nat}{lo:Nat}(hf:26+4*(cs.length+1)+(tot cs+c.length)≤512)(pS:lo+(tot cs+c.length)=512): dF (rJ b cs.length lo c) k link extra (cs++[c]):=by
 have hlen:=h.len
 have hle:∀n,(le 2 n).length=2:=fun n=>dK 2 n
 have l1:(a_ b 14 (le 2 (cs.length+1))).length=512:=by rw [cK (by rw [hle]; omega),hlen]
 have l2:(a_ (a_ b 14 (le 2 (cs.length+1))) lo c).length=512:=by rw [cK (by omega),l1]
 have l3:(a_ (a_ (a_ b 14 (le 2 (cs.length+1))) lo c) 16 (le 2 lo)).length=512:=by rw [cK (by rw [hle]; omega),l2]
 have l4:(rJ b cs.length lo c).length=512:=G5 l3 (by omega)
 have o3:∀i,i<16∨18≤i→(a_ (a_ (a_ b 14 (le 2 (cs.length+1))) lo c) 16 (le 2 lo))[i]?=(a_ (a_ b 14 (le 2 (cs.length+1))) lo c)[i]?:=fun i hi=>gE (by rw [hle]; omega) (by rw [hle]; omega)
 have o4:∀i,i<26+4*cs.length∨30+4*cs.length≤i→(rJ b cs.length lo c)[i]?=(a_ (a_ (a_ b 14 (le 2 (cs.length+1))) lo c) 16 (le 2 lo))[i]?:=fun i hi=>G6 l3 (by omega) hi
 -- what is neither count, low, the slot nor the cell
 have I:∀i,(i<14∨18≤i)→(i<26+4*cs.length∨30+4*cs.length≤i)→(i<lo∨lo+c.length≤i)→(rJ b cs.length lo c)[i]?=b[i]?:=fun i h1 h2 h3=>by
  rw [o4 i h2,o3 i (by omega),gE (by omega) h3,gE (by rw [hle]; omega) (by rw [hle]; omega)]
 have yp:∀a z,(a+z≤14∨18≤a)→a+z≤26+4*cs.length→cQ (rJ b cs.length lo c) a z=cQ b a z:=fun a z h1 h2=>mP fun i h3 h4=>I i (by omega) (by omega) (by omega)
 have kZ:cP (rJ b cs.length lo c) cs.length=lo∧gC (rJ b cs.length lo c) cs.length=c.length:=K6 l3 (by omega) (by omega) (by omega)
 have J:tot (cs++[c])=tot cs+c.length:=by rw [BY]; simp [tot]
 refine ⟨l4,?_,?_,?_,?_,?_,?_,by rw [J,bD]; exact hf,fun i x hx => ?_⟩
 ·rw [kT (I 13 (by omega) (by omega) (by omega))]; exact h.K5
 ·rw [kT (I 12 (by omega) (by omega) (by omega))]; exact h.kind
 ·rw [yp _ _ (by omega) (by omega)]; exact h.link
 ·rw [yp _ _ (by omega) (by omega)]; exact h.extra
 ·have e:cQ (rJ b cs.length lo c) 14 2=cQ (a_ b 14 (le 2 (cs.length+1))) 14 2:=mP fun i h1 h2=>by
   rw [o4 i (by omega),o3 i (by omega),gE (by omega) (by omega)]
  rw [jt,e,rI (by omega) (by omega),bD]; rfl
 ·have e:cQ (rJ b cs.length lo c) 16 2=cQ (a_ (a_ (a_ b 14 (le 2 (cs.length+1))) lo c) 16 (le 2 lo)) 16 2:=mP fun i h1 h2=>o4 i (by omega)
  rw [gB,e,rI (by omega) (by omega),J]; exact pS
 ·by_cases hi:i<cs.length
  ·rw [gF hi] at hx
   obtain ⟨s1,s2,s3⟩:=h.slot i x hx
   have e1:cP (rJ b cs.length lo c) i=cP b i:=yp _ _ (by omega) (by omega)
   have e2:gC (rJ b cs.length lo c) i=gC b i:=yp _ _ (by omega) (by omega)
   have yo:=lR (cs:=cs) (i:=i+1)
   rw [e1,e2,wJ (by omega)]
   exact ⟨s1,s2,fun j hj=>by rw [I _ (by omega) (by omega) (by omega)]; exact s3 j hj⟩
  ·have fF:i=cs.length:=by
    have:=(List.getElem?_eq_some_iff.1 hx).1
    rw [bD] at this
    simp at this; omega
   subst fF
   rw [jv (aD _),oo] at hx
   have hx:c=x:=bE hx
   subst hx
   rw [kZ.1,kZ.2,dG (by rw [bD]; exact aD _),J]
   exact ⟨pS,rfl,fun j hj=>by rw [o4 _ (by omega),o3 _ (by omega),wu (by omega) hj]⟩
def uF (b:List Nat)(i f:Nat)(c:List Nat): List Nat:=uX (a_ b f c) i f c.length
theorem dF.rep (h:dF b k link extra cs){i:Nat}{c c':List Nat}(hc:cs[i]?=some c)(hl:c'.length=c.length): dF (uF b i (cP b i) c') k link extra (cs.set i c'):=by
 obtain ⟨s1,s2,s3⟩:=h.slot i c hc
 have hlen:=h.len
 have hi:=(List.getElem?_eq_some_iff.1 hc).1
 have vU:=h.low
 have eS:=h.fits
 have yo:=lR (cs:=cs) (i:=i+1)
 have K7:=lQ hc
 have l1:(a_ b (cP b i) c').length=512:=by rw [cK (by omega),hlen]
 have l2:(uF b i (cP b i) c').length=512:=G5 l1 (by omega)
 have o2:∀j,j<26+4*i∨30+4*i≤j→(uF b i (cP b i) c')[j]?=(a_ b (cP b i) c')[j]?:=fun j hj=>G6 l1 (by omega) hj
 have I:∀j,(j<26+4*i∨30+4*i≤j)→(j<cP b i∨cP b i+c.length≤j)→(uF b i (cP b i) c')[j]?=b[j]?:=fun j h1 h2=>by rw [o2 j h1,gE (by omega) (by omega)]
 have J:∀a z,(a+z≤26+4*i∨30+4*i≤a)→a+z≤26+4*cs.length→cQ (uF b i (cP b i) c') a z=cQ b a z:=fun a z h1 h2=>mP fun j h3 h4=>I j (by omega) (by omega)
 have kZ:cP (uF b i (cP b i) c') i=cP b i∧gC (uF b i (cP b i) c') i=c'.length:=K6 l1 (by omega) (by omega) (by omega)
 have lu:∀k,tot ((cs.set i c').take k)=tot (cs.take k):=Qg hc hl
 have Su:tot (cs.set i c')=tot cs:=by
  have:=lu cs.length
  rwa [dG (by rw [cq]; exact aD _),dG (aD _)] at this
 refine ⟨l2,?_,?_,?_,?_,?_,?_,by rw [Su,cq]; exact eS,fun j x hx => ?_⟩
 ·rw [kT (I 13 (by omega) (by omega))]; exact h.K5
 ·rw [kT (I 12 (by omega) (by omega))]; exact h.kind
 ·rw [J _ _ (by omega) (by omega)]; exact h.link
 ·rw [J _ _ (by omega) (by omega)]; exact h.extra
 ·rw [jt,J _ _ (by omega) (by omega),cq]; exact h.fV
 ·rw [gB,J _ _ (by omega) (by omega),Su]; exact vU
 ·rw [lu]
  by_cases pO:i=j
  ·subst pO
   rw [gW hi] at hx
   have hx:c'=x:=bE hx
   subst hx
   rw [kZ.1,kZ.2]
   exact ⟨s1,rfl,fun q hq=>by rw [o2 _ (by omega),wu (by omega) hq]⟩
  ·rw [fZ pO] at hx
   obtain ⟨r1,r2,r3⟩:=h.slot j x hx
   have hj:=(List.getElem?_eq_some_iff.1 hx).1
   have e1:cP (uF b i (cP b i) c') j=cP b j:=J _ _ (by omega) (by omega)
   have e2:gC (uF b i (cP b i) c') j=gC b j:=J _ _ (by omega) (by omega)
   have Z7:=lQ hx
   have Z8:=lR (cs:=cs) (i:=j+1)
   rw [e1,e2]
   refine ⟨r1,r2,fun q hq => ?_⟩
   rw [I _ (by omega) ?_]
   ·exact r3 q hq
   ·rcases Nat.lt_or_gt_of_ne pO with q1 | q1
    ·have:=Et (cs:=cs) (i:=i+1) (j:=j) (by omega); omega
    ·have:=Et (cs:=cs) (i:=j+1) (j:=i) (by omega); omega
theorem dF.cell (h:dF b k link extra cs){i:Nat}{c:List Nat}(J:cs[i]?=some c): (b.drop (cP b i)).take c.length=c:=by
 obtain ⟨s1,s2,s3⟩:=h.slot i c J
 apply qo
 intro j
 rw [jx]
 by_cases I:j<c.length
 ·rw [ax I,jy]; exact s3 j I
 ·rw [ai I,qj (by omega)]
end
section
variable {h:H} {S:List aq} {X:aq} {v w u:V} {l m:List Nat}
theorem Eu {id n a b:Nat}{cap:Cap}(mh:a≤b)(hb:b≤n): ∃off I,slR (.sl id 0 n cap) a b=.sl id off (b-a) I∧off≤n:=by
 cases cap with
 | exact c =>
  simp only [slR]
  by_cases J:c=a
  ·rw [gT J,af]; exact ⟨0,_,rfl,fh _⟩
  ·rw [cV J,ay]; exact ⟨0+a*1,_,rfl,by omega⟩
 | rest e alt=>exact ⟨0+a*1,_,rfl,by omega⟩
theorem G7 {id n off:Nat}{cs:List V}(I:T.get h.tr id=some (.cells n cs false))(ho:off≤n)(hl:cs.length=n): wrN h id off []=some (h.put id (some (.cells n cs false))):=by
 simp only [wrN,I,bG]
 rw [aE.2 (by omega),af]
 congr 3
 cases J:(Nat.beq off 0&&Nat.beq 0 n) with
 | true =>
  simp only [aH,beq_iff] at J
  rw [af]
  rw [j0 (by omega:cs.length=0)]
 | false=>rw [ay,c_,iC,mR]
theorem K8 (s:Sat h (aU v l::X::S))(hX:cT X (cY w m)){a b:Nat}(mh:a≤b)(hb:b≤l.length)(hl:1≤l.length):
  ∃h',copyV Tryz.prog h 28 (slR v a b) w=some (.int .i64 (min m.length (b-a):Nat),h')∧Sat h' (aU v (a_ l a (m.take (b-a)))::X::S):=by
 by_cases h1:a<b∧1≤m.length
 ·exact DP s hX h1.1 hb h1.2
 ·have hm:min m.length (b-a)=0:=by omega
  have ht:m.take (b-a)=[]:=j0 (by rw [fe]; omega)
  have Ev:a_ l a (m.take (b-a))=l:=by rw [ht,a_]; simp
  have hw:=(s.aG (k:=1) rfl hX).2
  have hv:=(s.buf (k:=0) rfl).view
  obtain ⟨id,c,cap,rest,rfl,s1,hc,hf⟩:=s.eH hl
  obtain ⟨off,yy,e1,e2⟩:=Eu (id:=id) (cap:=cap) mh hb
  rw [e1,Ev,hm]
  have hg:=s1.row (k:=0) rfl
  have DQ:=G7 (off:=off) hg (by omega) (by rw [bD,cG]; exact hc)
  have J:Sat (h.put id (some (.cells c (ofBytes l++rest) false))) (aU (.sl id 0 l.length cap) l::X::S):=hf _ _ rfl hv.1 (s1.put (k:=0) rfl)
  rcases hw with ⟨rfl | ⟨x,rfl⟩,_⟩ | ⟨vK,I,Wi,n2,R2,UG,rfl,yg,q1,q2,q3,q4⟩
  ·exact ⟨h,by simp only [copyV,aJ,dM]; rfl,s⟩
  ·exact ⟨h,by simp only [copyV,aJ,dM]; rfl,s⟩
  ·refine ⟨_,?_,J⟩
   have hr:rdN h vK I 0=some []:=by
    simp only [rdN,yg,iC]
    rw [aE.2 (by omega),af]
    cases hq:(Nat.beq I 0&&Nat.beq 0 n2) with
    | true =>
     simp only [aH,beq_iff] at hq
     rw [af,j0 (by omega:R2.length=0)]
    | false=>rw [ay,jz]
   simp only [copyV,aJ,dM]
   rw [show Nat.min m.length (b-a)=0 from hm,qy,hr]
   simp only
   rw [DQ]
theorem K9 (s:Sat h (aU v l::S)){a b:Nat}(ha:a≤l.length)(hb:b≤l.length)(hl:1≤l.length):
  ∃h',copyV Tryz.prog h 28 (slR v a a) (slR v b b)=some (.int .i64 0,h')∧Sat h' (aU v l::S):=by
 have hv:=(s.buf (k:=0) rfl).view
 obtain ⟨id,c,cap,rest,rfl,s1,hc,hf⟩:=s.eH hl
 obtain ⟨off,yy,e1,e2⟩:=Eu (id:=id) (cap:=cap) (aD _) ha
 obtain ⟨I,Wi,e3,e4⟩:=Eu (id:=id) (cap:=cap) (aD _) hb
 rw [e1,e3]
 have hg:=s1.row (k:=0) rfl
 have hle:(ofBytes l++rest).length=c:=by rw [bD,cG]; exact hc
 have J:=G7 (off:=off) hg (by omega) hle
 refine ⟨_,?_,hf _ _ rfl hv.1 (s1.put (k:=0) rfl)⟩
 have hr:rdN h id I 0=some []:=by
  simp only [rdN,hg,iC]
  rw [aE.2 (by omega),af]
  cases hq:(Nat.beq I 0&&Nat.beq 0 c) with
  | true =>
   simp only [aH,beq_iff] at hq
   rw [af,j0 (by omega:(ofBytes l++rest).length=0)]
  | false=>rw [ay,jz]
 simp only [copyV,aJ,dM,oo]
 rw [show Nat.min 0 0=0 from rfl,qy,hr]
 simp only
 rw [J]
 rfl
end
section
variable {C:b9} {E:List (Nat×V)} {h:H} {o:Oper} {S:List aq} {X:aq} {v u:V} {l m:List Nat} {cl:Go.Call}
theorem OpR.OG {a b:Nat}(hP:C.P=Tryz.prog)(s:Sat h (aU v l::X::S))(hX:cT X (cY u m))(I:o.op=.call cl)(hc:cl.callee=.builtin .copy)(J:cl.argTypes = #[28,28])(ha:lookArgs E cl.args.toList=some [slR v a b,u])
 (mh:a≤b)(hb:b≤l.length)(hl:1≤l.length): OpR C E h o fun _ h₁=>Sat h₁ (aU v (a_ l a (m.take (b-a)))::X::S):=by
 obtain ⟨h₁,e1,e2⟩:=K8 s hX mh hb hl
 refine OpR.builtin I hc ha ⟨.int .i64 (min m.length (b-a):Nat),h₁,?_,e2⟩
 simp only [builtinV,hP,J,e1]
theorem OpR.T6 {a b:Nat}(hP:C.P=Tryz.prog)(s:Sat h (aU v l::S))(I:o.op=.call cl)(hc:cl.callee=.builtin .copy)(J:cl.argTypes = #[28,28])(hx:lookArgs E cl.args.toList=some [slR v a a,slR v b b])
 (ha:a≤l.length)(hb:b≤l.length)(hl:1≤l.length): OpR C E h o fun _ h₁=>Sat h₁ (aU v l::S):=by
 obtain ⟨h₁,e1,e2⟩:=K9 s ha hb hl
 refine OpR.builtin I hc hx ⟨.int .i64 0,h₁,?_,e2⟩
 simp only [builtinV,hP,J,e1]
end
section
variable {told:cz} {h:H} {S:List aq} {X Y:aq} {k:Nat} {v x:V} {b l c:List Nat} {kd link extra:Nat} {cs:List (List Nat)}
theorem AO (I:W told){i f z:Nat}(s:Sat h (aU v b::S))(hl:b.length=512)(hi:30+4*i≤512)(hf:f<65536)(hz:z<65536):
  Call ⟨Tryz.prog,told⟩ 158 [.agg [v],.int .i64 (i:Int),.int .i64 (f:Int),.int .i64 (z:Int)] h fun r h'=>r=.aX []∧Sat h' (aU v (uX b i f z)::S):=by
 have hle:∀n,(le 2 n).length=2:=fun n=>dK 2 n
 have l1:(a_ b (26+4*i) (le 2 f)).length=512:=by rw [cK (by rw [hle]; omega),hl]
 obtain ⟨kD,_,cap,_,rfl,_⟩:=s.eH (by omega)
 have J:(26:Int)+4*(i:Int)=((26+4*i:Nat):Int):=by omega
 have e2:(26:Int)+4*(i:Int)+2=((26+4*i+2:Nat):Int):=by omega
 refine Call.of_wp (I.free _ rfl) Tryz.func158 rfl rfl (zg rfl ?_)
 refine az.cJ s rfl rfl rfl (fR rfl rfl) (fun p4 h s => ?_)
 refine zk 4 rfl (zb rfl (by exact jQ (aA (by omega) (by omega))) ?_)
 refine zb rfl (by exact bp (aA (by omega) (by omega))) ?_
 refine zk 4 rfl (zl rfl (s.c5 (k:=0) rfl bU br) (zk 2 rfl (zo rfl (cN rfl (by exact kn bR dg (gz (by omega) (by omega)))) ?_)))
 rw [J]
 refine zc rfl (nK (a:=26+4*i) (z:=2) (n:=f) I (s.ae [1]) (by decide) (by decide) (by omega) (by omega)) ?_
 rintro r h ⟨rfl,s⟩
 have s:=s.ae [1,0]
 refine zk 2 rfl (zl rfl (s.c5 (k:=0) rfl bU br) (zm rfl (zo rfl (ag (r:=.int .i64 ((26+4*i+2:Nat):Int)) rfl rfl (by rw [←e2,←J]; exact bp (aA (by omega) (by omega)))) ?_)))
 refine zm rfl (zo rfl (cN rfl (by exact kn bR dg (gz (by omega) (by omega)))) ?_)
 refine zc rfl (nK (a:=26+4*i+2) (z:=2) (n:=z) I (s.ae [1]) (by decide) (by decide) (by omega) (by omega)) ?_
 rintro r h ⟨rfl,s⟩
 exact zv ⟨aa,_,rfl,rfl,s.del 1⟩
theorem B1 (hT:W told){i:Nat}(s:Sat h S)(hk:getA S k=some X)(hX:cT X (cY v b))(J:dF b kd link extra cs)(hc:cs[i]?=some c):
  Call ⟨Tryz.prog,told⟩ 157 [.agg [v],.int .i64 (i:Int)] h fun r h'=>∃f,r=slR3 v f (f+c.length) (f+c.length)∧cT X (cY r c)∧Sat h' S:=by
 have hv:=s.aG hk hX
 have hl:=J.len
 have hi:=(List.getElem?_eq_some_iff.1 hc).1
 have eS:=J.fits
 have vU:=J.low
 obtain ⟨s1,s2,s3⟩:=J.slot i c hc
 have yo:=lR (cs:=cs) (i:=i+1)
 have K7:=lQ hc
 have I:=J.cell hc
 generalize hf:cP b i=f at s1 s3 I
 obtain ⟨pi,po,pc,rfl⟩:=gZ hv (by omega)
 refine Call.of_wp (hT.free _ rfl) Tryz.func157 rfl rfl (zg rfl ?_)
 refine az.cJ s rfl rfl rfl (fR rfl rfl) (fun p2 h s => ?_)
 refine zk 4 rfl (zl rfl (s.c5 (k:=0) rfl bU br) (zm rfl (zc rfl (xG hT s (kQ hk) hX hl (by omega)) ?_)))
 rintro r h' ⟨rfl,s⟩
 rw [hf,s2]
 refine zk 8 rfl (zf rfl (fL _ _) (zl rfl (s.ld (k:=0) rfl bK rfl) (zk 3 rfl (zb rfl (by exact bp (aA (by omega) (by omega))) ?_))))
 refine zk 2 rfl (zb rfl (by exact bp (aA (by omega) (by omega))) ?_)
 have e1:(f:Int)+(c.length:Int)=((f+c.length:Nat):Int):=by omega
 have kZ:=yj (s.aG (kQ hk) hX) (a:=f) (b:=f+c.length) (c:=f+c.length) (by omega) (aD _) (by omega) (by omega)
 rw [e1]
 refine zo rfl (eF (p:=some (.int .i64 (f:Int))) (q:=some (.int .i64 ((f+c.length:Nat):Int))) (m:=some (.int .i64 ((f+c.length:Nat):Int))) (p':=some f) (q':=some (f+c.length)) (m':=some (f+c.length)) rfl rfl rfl rfl (by rw [fB (by omega)]; rfl) (by rw [fB (by omega)]; rfl) (by rw [fB (by omega)]; rfl) kZ) ?_
 refine zk 2 rfl (WP.ret ⟨aa,_,rfl,?_⟩)
 refine ⟨f,rfl,?_,s.drop⟩
 have:=Cj hX (a:=f) (b:=f+c.length) (c:=f+c.length) (by omega) (aD _) (by omega) (by omega)
 rw [qt,show f+c.length-f=c.length by omega,I] at this
 exact this
theorem Qh (J:W told)(s:Sat h S)(hk:getA S k=some X)(hX:cT X (cY v b))(I:dF b kd link extra cs):
  Call ⟨Tryz.prog,told⟩ 103 [.agg [v]] h fun r h'=>r=.int .i64 (486-(4*(cs.length:Int)+(tot cs:Int)))∧Sat h' S:=by
 have hv:=s.aG hk hX
 have hl:=I.len
 have eS:=I.fits
 have vU:=I.low
 obtain ⟨pi,po,pc,rfl⟩:=gZ hv (by omega)
 refine Call.of_wp (J.free _ rfl) Tryz.func103 rfl rfl (zg rfl ?_)
 refine az.cJ s rfl rfl rfl (fR rfl rfl) (fun p1 h s => ?_)
 refine zk 3 rfl ?_
 have s0:=s
 refine WP.drawn [none,none,some (1,2),some (0,2),ak,ak,ak,ak] rfl (by kernel_rfl) (by kernel_rfl) ?_
 refine zL rfl (s.c5 (k:=0) rfl bU br) (aB.any rfl rfl rfl rfl (OpR.call rfl rfl rfl rfl (D6 J s (kQ hk) hX hl)) ?_)
 rintro r h' ⟨rfl,s⟩
 have s1:=s
 refine zO rfl (ag rfl rfl (by exact jj (aA (by omega) (by omega)))) ?_
 refine zL rfl (s.c5 (k:=0) rfl bU br) (aB.any rfl rfl rfl rfl (OpR.call rfl rfl rfl rfl (jR J s (kQ hk) hX hl)) ?_)
 rintro r h' ⟨rfl,s⟩
 rw [I.fV]
 refine zO rfl (ag rfl rfl (by exact jQ (aA (by omega) (by omega)))) ?_
 refine zO rfl (ag rfl rfl (by exact jj (aA (by omega) (by omega)))) ?_
 refine zA rfl ?_
 refine aB.nil ⟨⟨aa,aa,fun _ _=>.inr ⟨rfl,⟨_,ag rfl rfl (by exact jj (aA (by omega) (by omega)))⟩,bP _ rfl⟩,eZ (.inr ⟨rfl,⟨_,aS rfl (s0.c5 (k:=0) rfl bU br)⟩,bP _ rfl⟩) (.inr ⟨rfl,⟨_,aS rfl (s1.c5 (k:=0) rfl bU br)⟩,bP _ rfl⟩),aa,aa,aa,aa,aa⟩,?_⟩
 refine WP.ret ⟨aa,_,rfl,?_⟩
 exact ⟨fo (V.int .i64) (by omega),s.drop⟩
noncomputable def Ye : Code:=eC [1,1,0,1,0,0] ((Tryz.f102.body).getD .skip)
theorem IX (hT:W told){J:Nat}{x:V}(hX:cT X (cY x b))(Gs:x.cells=[x])(hp:dF b kd link extra cs): ∀(m i:Nat) (h:H) (E:List (Nat×V)) (Q:Ex→List (Nat×V)→H→Prop),i+m=cs.length →
  Sat h (pt J (.cells 1 [x] false)::X::S)→Has E [(1,.ptr J 0),(3,.int .i64 (486-(4*(cs.length:Int)+(tot (cs.take i):Int)))),(12,.int .i64 (cs.length:Int)),(13,.int .i64 (i:Int))] →
  (∀E' h',Has E' [(3,.int .i64 (486-(4*(cs.length:Int)+(tot cs:Int))))]→Sat h' (pt J (.cells 1 [x] false)::X::S)→Q (.exit 0) E' h')→WP ⟨Tryz.prog,told⟩ 27 (.loop Ye) E h Q:=by
 have hl:=hp.len
 have eS:=hp.fits
 intro m
 induction m with
 | zero =>
  intro i h E Q hi s hE hq
  refine WP.loop (WP.has hE (zg rfl (zh rfl (ag rfl rfl aR) (by simp <;> omega) ?_)))
  refine zk 3 rfl (WP.exit ?_)
  refine hq _ _ ⟨?_,aa⟩ s
  rw [show cs.take i=cs from dG (by omega)]
  rfl
 | succ m ih =>
  intro i h E Q hi s hE hq
  have I:cs[i]?=some (cs[i]'(by omega)):=aM _
  generalize (cs[i]'(by omega))=c at I
  obtain ⟨s1,s2,s3⟩:=hp.slot i c I
  have yo:=lR (cs:=cs) (i:=i+1)
  have K7:=lQ I
  refine WP.loop (WP.has hE (zg rfl (zt rfl (ag rfl rfl aR) (by simp <;> omega) ?_)))
  refine zk 5 rfl (WP.block (zK 7 rfl (zl rfl (s.c5 (k:=0) rfl bU br) (zm rfl (zc rfl (xG hT (i:=i) s (k:=1) rfl hX hl (by omega)) ?_)))))
  rintro r h' ⟨rfl,s⟩
  rw [s2]
  refine zk 9 rfl (zb rfl (by exact jj (aA (by omega) (by omega))) ?_)
  refine za rfl (zv (zr rfl (zb rfl (by exact bp (aA (by omega) (by omega))) ?_)))
  refine zm rfl (zv ?_)
  refine ih (i+1) _ _ Q (by omega) s ⟨rfl,?_,rfl,rfl,aa⟩ hq
  exact fo (fun z=>some (V.int .i64 z)) (by omega)
theorem Nf (J:W told)(s:Sat h (X::S))(hX:cT X (cY v b))(I:dF b kd link extra cs):
  Call ⟨Tryz.prog,told⟩ 102 [.agg [v]] h fun r h'=>r=.int .i64 (486-(4*(cs.length:Int)+(tot cs:Int)))∧Sat h' (X::S):=by
 have hv:=s.aG (k:=0) rfl hX
 have hl:=I.len
 have eS:=I.fits
 obtain ⟨pi,po,pc,rfl⟩:=gZ hv (by omega)
 refine Call.of_wp (J.free _ rfl) Tryz.func102 rfl rfl (zg rfl ?_)
 refine az.cJ s rfl rfl rfl (fR rfl rfl) (fun p1 h s => ?_)
 refine zk 4 rfl (zl rfl (s.c5 (k:=0) rfl bU br) (zc rfl (jR J s (k:=1) rfl hX hl) ?_))
 rintro r h' ⟨rfl,s⟩
 rw [I.fV]
 refine zb rfl (by exact jQ (aA (by omega) (by omega))) ?_
 refine zb rfl (by exact jj (aA (by omega) (by omega))) ?_
 refine zk 5 rfl (zl rfl (s.c5 (k:=0) rfl bU br) (zc rfl (jR J s (k:=1) rfl hX hl) ?_))
 rintro r h' ⟨rfl,s⟩
 rw [I.fV]
 refine zk 2 rfl (WP.block ?_)
 refine IX J hX rfl I cs.length 0 _ _ _ (by omega) s ⟨rfl,?_,rfl,rfl,aa⟩ (fun E' h' hE s' => ?_)
 ·exact fo (fun z=>some (V.int .i64 z)) (by have:tot (cs.take 0)=0:=rfl; omega)
 have s:=s'
 exact WP.has hE (zK 5 rfl (WP.ret ⟨aa,_,rfl,rfl,s.del 0⟩))
theorem Ng (I:W told){i lo:Nat}(s:Sat h (aU v b::X::S))(J:cT X (cY x c))(hl:b.length=512)(hi:30+4*i≤512)(pS:gB b=lo+c.length)(Zw:lo+c.length≤512):
  Call ⟨Tryz.prog,told⟩ 105 [.agg [v],.int .i64 (i:Int),x] h fun r h'=>r=.aX []∧Sat h' (aU v (uX (a_ (a_ b lo c) 16 (le 2 lo)) i lo c.length)::X::S):=by
 have hle:∀n,(le 2 n).length=2:=fun n=>dK 2 n
 have l1:(a_ b lo c).length=512:=by rw [cK (by omega),hl]
 have l2:(a_ (a_ b lo c) 16 (le 2 lo)).length=512:=by rw [cK (by rw [hle]; omega),l1]
 obtain ⟨kD,_,cap,_,rfl,_⟩:=s.eH (by omega)
 have UZ:=s.aG (k:=1) rfl J
 have hx:=UZ.cells
 refine Call.of_wp (I.free _ rfl) Tryz.func105 rfl rfl (zg rfl ?_)
 refine az.cJ s rfl rfl rfl (fR rfl rfl) (fun p3 h s => ?_)
 refine zk 3 rfl (zl rfl (s.c5 (k:=0) rfl bU br) (zc rfl (D6 I s (k:=1) rfl (bj _ _) hl) ?_))
 rintro r h' ⟨rfl,s⟩
 rw [pS]
 refine zm rfl (zo rfl (aO rfl rfl rfl (aW aJ (s.aG (k:=2) rfl J))) (zo rfl (ag (r:=.int .i64 (lo:Int)) rfl rfl (by rw [show ((lo:Nat):Int)=((lo+c.length:Nat):Int)-(c.length:Int) by omega]; exact jj (aA (by omega) (by omega)))) ?_))
 refine zk 4 rfl (zf rfl (fL _ _) (zl rfl (s.ld (k:=0) rfl bK rfl) (zm rfl ?_)))
 have kZ:=jM (s.aG (k:=1) rfl (bj _ _)) (a:=lo) (by omega)
 refine zo rfl (eF (p:=some (.int .i64 (lo:Int))) (q:=none) (m:=none) (p':=some lo) (q':=none) (m':=none) rfl rfl rfl rfl (by rw [fB (by omega)]; rfl) rfl rfl kZ.1) ?_
 refine zm rfl (az.any rfl rfl rfl (OpR.OG rfl (s.ae [1,1]) J rfl rfl rfl rfl (by omega) (aD _) (by omega)) ?_)
 intro r h s
 rw [dG (by omega)] at s
 have s:=s.ae [2,0,0]
 refine zk 3 rfl (zl rfl (s.c5 (k:=0) rfl bU br) (zm rfl (zo rfl (cN rfl (by exact kn bR dg (gz (by omega) (by omega)))) ?_)))
 refine zc rfl (nK (a:=16) (z:=2) (n:=lo) I (s.ae [1]) (by decide) (by decide) (by omega) (by omega)) ?_
 rintro r h ⟨rfl,s⟩
 have s:=s.ae [1,0,0]
 refine zk 2 rfl (zl rfl (s.c5 (k:=0) rfl bU br) (zk 3 rfl (zo rfl (aO rfl rfl rfl (aW aJ (s.aG (k:=2) rfl J))) (zc rfl (AO (i:=i) (f:=lo) (z:=c.length) I (s.ae [1]) l2 hi (by omega) (by omega)) ?_))))
 rintro r h ⟨rfl,s⟩
 exact zv ⟨aa,_,rfl,rfl,s.del 1⟩
end
end Go.Proofs.YtefepnnfphdkpaaGreat.Am
