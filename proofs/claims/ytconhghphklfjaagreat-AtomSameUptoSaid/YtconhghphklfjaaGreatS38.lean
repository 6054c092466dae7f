/- AtomSame: a part of its proof; conditions: its statement's. -/
import Derived.Test.YtconhghphklfjaaGreatS37
namespace Go.Proofs.YtconhghphklfjaaGreat.Am
open Go
structure LR (B0 aD:Nat)(mk:List Nat)(rs:List cg)(x:LD): Prop where
 base:x.1.base=B0
 b:x.1.b=logB B0 rs
 bw:x.1.bw=lG 0 rs
 check:x.1.check=aD
 log:x.2.log=logB B0 rs
 alive:x.2.dead=false
 aI:x.2.aI<0
 mark:x.2.mark=mk
 eH:x.2.eH=none
 tail:x.2.tail=[]
 wait:∀w∈x.2.waiting,w.1<x.2.aq.length∧w.2.length=512
 rs:∀r∈rs,r.Ok
theorem tE (base aD:Nat)(mk:List Nat)(rs:List cg): kL (LR base aD mk rs):=by
 refine ⟨fun x n h => ?_,fun x n b h => ?_⟩
 ·unfold bB
  split
  ·exact h
  ·have e:x.2.cG=(0,{ x.2 with aR:=x.2.log.length }):=by
    rw [Dk.cG,af (by rw [h.alive]; decide),af (by have:=h.aI; omega),gI h.aI]
   rw [e,af (by simp)]
   exact ⟨h.base,h.b,h.bw,h.check,h.log,h.alive,h.aI,h.mark,h.eH,h.tail,h.wait,h.rs⟩
 ·unfold Dk.bJ
  rw [af (by rw [h.alive]; decide)]
  split
  ·exact h
  ·rename_i I
   rw [af (by have:=h.aI; omega)]
   refine ⟨h.base,h.b,h.bw,h.check,h.log,h.alive,?_,h.mark,h.eH,h.tail,fun w hw => ?_,h.rs⟩
   ·show x.2.c_.aI<0
    rw [gI h.aI]; exact h.aI
   ·rcases List.mem_append.1 hw with hw | hw
    ·exact h.wait w hw
    ·rw [List.mem_singleton.1 hw]
     have I:=Classical.not_not.1 I
     exact ⟨by show n.toNat<x.2.aq.length; omega,I.2.2⟩
theorem C1 {kd:Int}{tx pv nx:Nat}{data:List Nat}{aP:List cm}: data.length≤(dm kd tx pv nx data aP).length∧aP.length≤(dm kd tx pv nx data aP).length:=by
 have:=HJ aP
 simp only [dm,bC,bj,bY]
 omega
theorem LR.app {base aD kd tx:Nat}{mk:List Nat}{rs:List cg}{x:LD}{data:List Nat}{c:List cm}(h:LR base aD mk rs x)(hk:1≤kd)(hg:dM kd c=true)(ht:tx<65536)
 (ha:(bn x kd tx 0 0 data c).1.2=0): ∃r:cg,r.Ok∧r.kd=kd∧r.tx=tx∧r.pv=0∧r.nx=0∧r.data=data∧r.aP=c∧(bn x kd tx 0 0 data c).1.1=base+szB rs∧LR base aD mk (rs++[r]) (bn x kd tx 0 0 data c).2∧logB base (rs++[r])=logB base rs++dr x.1 kd tx 0 0 data c∧(logB base rs).length+(dr x.1 kd tx 0 0 data c).length≤x.2.room:=by
 rcases jf x kd tx 0 0 data c with ⟨e,he,_,U⟩ | ⟨_,hf,_⟩ | ⟨_,hb,hd,iE,hf,U⟩
 ·rw [U] at ha; exact absurd ha he
 ·have:=h.aI; omega
 ·rw [gI h.aI] at U
  have aaM:=C1 (kd:=kd) (tx:=tx) (pv:=0) (nx:=0) (data:=data) (aP:=c)
  have hr:(cg.mk kd tx 0 0 data c).Ok:=⟨hg,⟨by show tx<_; omega,by show 0<_; decide,by show 0<_; decide,by show data.length≤_; omega,by show c.length≤_; omega⟩,hb⟩
  have hl:(logB base rs).length=szB rs:=ie
  have hn:dr x.1 kd tx 0 0 data c=ic (base+szB rs) (cg.mk kd tx 0 0 data c).bd:=by rw [dr,h.base,h.b,hl]; rfl
  have I:logB base (rs++[cg.mk kd tx 0 0 data c])=logB base rs++dr x.1 kd tx 0 0 data c:=by rw [xw,hn]; simp only [logB,bT]
  have hof:lG 0 (rs++[cg.mk kd tx 0 0 data c])=lG 0 rs++[szB rs]:=by rw [HT,dU]; rfl
  refine ⟨cg.mk kd tx 0 0 data c,hr,rfl,rfl,rfl,rfl,rfl,rfl,?_,?_,I,by rw [←h.log]; exact iE⟩
  ·rw [U]; show x.1.base+x.1.b.length=_; rw [h.base,h.b,hl]
  ·rw [U]
   refine ⟨h.base,?_,?_,h.check,?_,h.alive,h.aI,h.mark,h.eH,h.tail,h.wait,fun r J => ?_⟩
   ·show x.1.b++_=_; rw [h.b,I]
   ·show x.1.bw++[x.1.b.length]=_; rw [h.bw,h.b,hl,hof]
   ·show x.2.log++_=_; rw [h.log,I]
   ·rcases List.mem_append.1 J with J | J
    ·exact h.rs r J
    ·rw [List.mem_singleton.1 J]; exact hr
section
variable {told:dF} {h:H} {S:List ax} {r q p a aD N B:Nat} {pv wv dv:V} {data:List Nat} {ε:aM} {ps:List (List Nat)}
theorem HX (hT:W2 told){D:iC}(ha:¬(3≤D.act∧D.act≤7))(hB:B≤900)(U:EI N B ε)(hN:ps.length=N)(hp:kK ε ps)(vT:data.length≤1048576)(hD:D.data.length≤1048576∧D.w.length≤1048576∧∀x∈D.w,x.2.length≤1048576)
 (s:Sat h (cx a p q r .cD data aD::bZ r p q ε.1::bf q p ε.2.1::aC p ε.2.2::.arr 1 pv (eo ps)::nX wv dv D::S)):
  Call ⟨Tryz.prog,told⟩ 28 [.ptr a 0,pv,.agg [.int .i64 D.act,.int .i64 D.cS,wv,dv]] h fun v h'=>∃(e:Int) (I:List (List Nat)) (J:V) (aF:Nat) (ε':aM),
   qA N D ε ps e I aF ε'∧EI N (B+2) ε'∧I.length=N∧kK ε' I∧v=.bD [J,.int .u64 (aF:Int),.bool true,.int .i64 e] ∧
   Sat h' (cx a p q r .cD data aD::bZ r p q ε'.1::bf q p ε'.2.1::aC p ε'.2.2::.arr 1 J (eo I)::S) :=
 (Kq hT hB U hN hp vT hD s).mono fun v h' ⟨e,I,J,aF,ε',jN,jD,h0,h1,h2,h3,h4,h5,hv,s'⟩=>by
  cases h0 with
  | Sa _ _ _ _ _ ho=>exact ⟨e,I,J,aF,ε',ho,h2,h3,h4,hv,s'⟩
  | ck _ _ _ _ _ h=>omega
  | all h=>omega
  | sync h=>omega
  | clean h=>omega
  | force h=>omega
end
theorem TT : ∀(rs:List cg) (n K:Nat),(∀r∈rs,r.Ok)→∃dg fL j,rs=dg++fL∧(logB n rs).take K=logB n dg++j∧ru j:=by
 intro rs
 induction rs with
 | nil=>intro n K _; exact ⟨[],[],[],rfl,by simp [logB],.inl (by decide)⟩
 | cons r rs U =>
  intro n K I
  have hr:=I r bp
  by_cases hK:r.len≤K
  ·obtain ⟨dg,fL,j,h1,h2,h3⟩:=U (n+r.len) (K-r.len) (fun x hx=>I x (bl _ hx))
   refine ⟨r::dg,fL,j,by rw [h1]; rfl,?_,h3⟩
   have J:(ic n r.bd).length=r.len:=by rw [rX]; rfl
   rw [logB,sS,fI (by omega),J,h2,logB,bP]
  ·refine ⟨[],r::rs,(ic n r.bd).take K,rfl,?_,?_⟩
   ·have J:(ic n r.bd).length=r.len:=by rw [rX]; rfl
    show List.take K (ic n r.bd++logB (n+r.len) rs)=[]++_
    rw [oQ (by omega),cU]
   ·by_cases h8:K<8
    ·exact .inl (by rw [dJ]; omega)
    ·right
     have J:(ic n r.bd).length=r.len:=by rw [rX]; rfl
     have h4:((ic n r.bd).take K).take 4=le 4 r.bd.length:=by
      rw [sW,o8 (by omega),ic,bP,oQ (by rw [dH]; omega),fI (by rw [dH]; omega)]
     have hb:=hr.len
     have hlen:r.len=8+r.bd.length:=rfl
     rw [h4,uz,dJ,ik (by simp; omega)]
     omega
structure Lv (δ:Dk): Prop where
 alive:δ.dead=false
 aI:δ.aI<0
theorem Lv.dz {δ:Dk}{n:Nat}(h:Lv δ): (δ.dz n).1=0∧Lv (δ.dz n).2:=by
 unfold Dk.dz
 split
 ·rename_i I
  unfold Dk.qu
  rw [af (by rw [h.alive]; decide),af (by omega),af (by have:=h.aI; omega),gI h.aI]
  exact ⟨rfl,h.alive,h.aI⟩
 ·exact ⟨rfl,h⟩
theorem Lv.cG {δ:Dk}(h:Lv δ): δ.cG.1=0∧Lv δ.cG.2:=by
 unfold Dk.cG
 rw [af (by rw [h.alive]; decide),af (by have:=h.aI; omega),gI h.aI]
 exact ⟨rfl,h.alive,h.aI⟩
theorem Lv.cA {δ:Dk}{n:Nat}(h:Lv δ): (δ.cA n).1=0∧Lv (δ.cA n).2:=by
 obtain ⟨J,I⟩:=h.dz (n:=n)
 unfold Dk.cA
 rw [af (not_not_intro J)]
 split
 ·exact I.cG
 ·exact ⟨rfl,I⟩
theorem Lv.bJ {δ:Dk}{n:Int}{b:List Nat}(h:Lv δ)(I:0≤n)(J:n<δ.aq.length)(U:b.length=512): (δ.bJ n b).1=0∧Lv (δ.bJ n b).2:=by
 unfold Dk.bJ
 rw [af (by rw [h.alive]; decide),af (not_not_intro ⟨I,J,U⟩),af (by have:=h.aI; omega)]
 refine ⟨rfl,h.alive,?_⟩
 show δ.c_.aI<0
 rw [gI h.aI]; exact h.aI
theorem Lv.again {ρ:fW}(J:ρ.Ok): ∀ {l:List Int} {δ:Dk},(∀k∈l,0≤k)→Lv δ→(againW ρ l δ).1=0∧Lv (againW ρ l δ).2:=by
 intro l
 induction l with
 | nil=>intro δ _ h; exact ⟨rfl,h⟩
 | cons k l U =>
  intro δ hl h
  have I:∀k∈l,0≤k:=fun x hx=>hl x (bl _ hx)
  rw [againW]
  cases hq:lookL k ρ.aq with
  | none=>exact U I h
  | some b =>
   simp only
   split
   ·rename_i hg
    have hb:b.length=512:=J.len _ (fe hq)
    obtain ⟨w1,w2⟩:=h.bJ (n:=k) (b:=cM b (nY ρ k)) (hl k bp) hg.2 (pR hb).2.1
    rw [af (not_not_intro w1)]
    exact U I w2
   ·exact U I h
theorem Lv.dQ {δ:Dk}(h:Lv δ): δ.dQ.1=0∧Lv δ.dQ.2:=by
 rw [Dk.dQ,af (by rw [h.alive]; decide),af (by have:=h.aI; omega),gI h.aI]
 exact ⟨rfl,h.alive,h.aI⟩
theorem Lv.eL {δ:Dk}{base:Nat}{rs dg fL:List cg}(h:Lv δ)(J:∀r∈fL,r.Ok): (eL δ base rs dg fL).1=0∧Lv (eL δ base rs dg fL).2:=by
 have I:(redoL (base+szB dg) fL fW.none).Ok:=BD AF J
 obtain ⟨U,o2⟩:=h.cA (n:=szB rs)
 unfold Am.eL mj
 rw [af (not_not_intro U)]
 obtain ⟨a1,a2⟩:=Lv.again I (l:=aJ (redoL (base+szB dg) fL fW.none).aq) (fun k hk=>(I.low k (BE.1 hk)).1) o2
 rw [af (not_not_intro a1)]
 split
 ·exact ⟨rfl,a2⟩
 ·exact a2.dQ
theorem LR.cr {base aD:Nat}{mk:List Nat}{rs:List cg}{x:LD}(h:LR base aD mk rs x)(I:x.2.Ok)(hw:x.2.waiting.length≤268435456)(hm:mk.length≤64): x.2.Cr :=
 ⟨I,h.wait,hw,(fun w J=>by rw [h.eH] at J; cases J),(by rw [h.tail]; have:=I.len; simpa using this),(by rw [h.mark]; exact hm)⟩
theorem QU {δ:Dk}{c:List Nat}: Lv (fA δ c):=⟨rfl,by show (-1:Int)<0; decide⟩
theorem Kx {P:List (Option (List Nat))}{i:Nat}{x:List Nat}(h:∀(j:Nat) (b:List Nat),P[j]?=some (some b)→b.length=512)(J:x.length=512): ∀(j:Nat) (b:List Nat),(P.set i (some x))[j]?=some (some b)→b.length=512:=fun j b I=>by
 rw [sO] at I
 split at I
 ·split at I
  ·injection I with I; injection I with I; rw [←I]; exact J
  ·cases I
 ·exact h j b I
theorem HY {δ:Dk}{c:List Nat}(h:δ.Cr): oP (fA δ c) 65536∧(fA δ c).aq.length=δ.aq.length:=by
 have hl:=h.ok.len
 have hr:=h.ok.room
 have hc:=h.ok.aR
 have hlen:(fA δ c).aq.length=δ.aq.length:=by
  show (tornP c _ _ δ.eH).length=_
  cases δ.eH with
  | none=>exact tD
  | some w=>rw [tornP,dn,tD]
 have J:=Ks (c:=c) (i:=0) (fun w hw=>(h.wait w hw).2) h.ok.aq
 have U:∀(j:Nat) (b:List Nat),(fA δ c).aq[j]?=some (some b)→b.length=512:=by
  show ∀(j:Nat) (b:List Nat),(tornP c _ _ δ.eH)[j]?=some (some b)→b.length=512
  cases ht:δ.eH with
  | none=>exact J
  | some w =>
   have hw:=(h.eH w ht).2
   refine Kx J ?_
   have I:((layW c 0 δ.waiting δ.aq).getD w.1 none).getD []=[]∨(((layW c 0 δ.waiting δ.aq).getD w.1 none).getD []).length=512:=by
    rw [ke]
    cases hq:(layW c 0 δ.waiting δ.aq)[w.1]? with
    | none=>exact .inl rfl
    | some o =>
     cases o with
     | none=>exact .inl rfl
     | some b=>exact .inr (J _ _ hq)
   have h2:(cZ (List.replicate 512 0) 0 (((layW c 0 δ.waiting δ.aq).getD w.1 none).getD [])).length=512:=by
    rw [iG (by rw [ff]; rcases I with I | I <;> rw [I] <;> decide),ff]
   rw [iG (by rw [h2,dJ]; omega),h2]
 refine ⟨⟨⟨by show (-1:Int)<_; decide,?_,hr,fun e he=>(by cases he),U,aL _,by rw [hlen]; exact h.ok.many⟩,by show 0+65536≤_; decide,fun e he=>(by cases he)⟩,hlen⟩
 show (rW δ c).length≤_
 have ht:=h.tail
 rw [rW,bC,dJ,dJ,bC,nF]
 omega
def jg (c:cm)(σ:Int→List Nat): Int→List Nat:=fun n=>if n=c.aK then (if c.whole=true then c.b else cZ (σ n) c.pos.toNat c.b) else σ n
def iK (cs:List cm)(σ:Int→List Nat): Int→List Nat:=cs.foldl (fun σ c=>jg c σ) σ
def eU (rs:List cg)(σ:Int→List Nat): Int→List Nat:=rs.foldl (fun σ r=>iK r.aP σ) σ
theorem tF {x y:List cg}{σ:Int→List Nat}: eU (x++y) σ=eU y (eU x σ):=by simp only [eU,List.foldl_append]
theorem HZ {x y:List cm}{σ:Int→List Nat}: iK (x++y) σ=iK y (iK x σ):=by simp only [iK,List.foldl_append]
def zE (cs:List cm)(n:Int): Prop:=∃c∈cs,c.aK=n∧c.whole=true
def rY (rs:List cg)(n:Int): Prop:=∃r∈rs,zE r.aP n
structure uZ (ρ:fW)(σ:Int→List Nat)(W:Int→Prop): Prop where
 some:∀n b,lookL n ρ.aq=some b→b=σ n∧W n
 none:∀n,lookL n ρ.aq=none→¬W n
theorem uZ.mB {ρ:fW}{σ:Int→List Nat}{W:Int→Prop}(h:uZ ρ σ W)(k:Nat)(c:cm): uZ (chgF k c ρ) (jg c σ) (fun n=>W n∨(c.aK=n∧c.whole=true)):=by
 unfold chgF
 by_cases hw:c.whole=true
 ·rw [aj hw]
  refine ⟨fun n b I => ?_,fun n I => ?_⟩
  ·rw [gM] at I
   by_cases J:c.aK=n
   ·rw [aj J] at I
    injection I with I
    exact ⟨by rw [jg,aj J.symm,aj hw,I],.inr ⟨J,hw⟩⟩
   ·rw [af J] at I
    have:=h.some n b I
    exact ⟨by rw [jg,af (fun e=>J e.symm)]; exact this.1,.inl this.2⟩
  ·rw [gM] at I
   by_cases J:c.aK=n
   ·rw [aj J] at I; cases I
   ·rw [af J] at I
    rintro (q | q)
    ·exact h.none n I q
    ·exact J q.1
 ·rw [af hw]
  cases U:lookL c.aK ρ.aq with
  | none =>
   refine ⟨fun n b I => ?_,fun n I => ?_⟩
   ·have:=h.some n b I
    refine ⟨?_,.inl this.2⟩
    rw [jg,af (fun e=>by rw [e,U] at I; cases I)]
    exact this.1
   ·rintro (q | q)
    ·exact h.none n I q
    ·exact hw q.2
  | some x =>
   have hx:=h.some _ x U
   refine ⟨fun n b I => ?_,fun n I => ?_⟩
   ·simp only at I
    rw [gM] at I
    by_cases J:c.aK=n
    ·rw [aj J] at I
     injection I with I
     refine ⟨?_,.inl (by rw [←J]; exact hx.2)⟩
     rw [jg,aj J.symm,af hw,←J,←hx.1,I]
    ·rw [af J] at I
     have:=h.some n b I
     exact ⟨by rw [jg,af (fun e=>J e.symm)]; exact this.1,.inl this.2⟩
   ·simp only at I
    rw [gM] at I
    by_cases J:c.aK=n
    ·rw [aj J] at I; cases I
    ·rw [af J] at I
     rintro (q | q)
     ·exact h.none n I q
     ·exact hw q.2
theorem uZ.iff {ρ:fW}{σ:Int→List Nat}{W J:Int→Prop}(h:uZ ρ σ W)(hw:∀n,W n↔J n): uZ ρ σ J:=⟨fun n b I=>⟨(h.some n b I).1,(hw n).1 (h.some n b I).2⟩,fun n I q=>h.none n I ((hw n).2 q)⟩
theorem uZ.aP {k:Nat}: ∀ {cs:List cm} {ρ:fW} {σ:Int→List Nat} {W:Int→Prop},uZ ρ σ W→uZ (CZ k cs ρ) (iK cs σ) (fun n=>W n∨zE cs n):=by
 intro cs
 induction cs with
 | nil=>intro ρ σ W h; exact h.iff fun n=>⟨.inl,fun q=>q.elim id fun ⟨c,I,_⟩=>(by cases I)⟩
 | cons c cs U =>
  intro ρ σ W h
  refine (U (h.mB k c)).iff fun n => ?_
  constructor
  ·rintro ((q | q) | ⟨J,I,q⟩)
   ·exact .inl q
   ·exact .inr ⟨c,bp,q⟩
   ·exact .inr ⟨J,bl _ I,q⟩
  ·rintro (q | ⟨J,I,q⟩)
   ·exact .inl (.inl q)
   ·rcases List.mem_cons.1 I with rfl | I
    ·exact .inl (.inr q)
    ·exact .inr ⟨J,I,q⟩
theorem uZ.L4 : ∀ {rs:List cg} {k:Nat} {ρ:fW} {σ:Int→List Nat} {W:Int→Prop},uZ ρ σ W→uZ (redoL k rs ρ) (eU rs σ) (fun n=>W n∨rY rs n):=by
 intro rs
 induction rs with
 | nil=>intro k ρ σ W h; exact h.iff fun n=>⟨.inl,fun q=>q.elim id fun ⟨r,I,_⟩=>(by cases I)⟩
 | cons r rs U =>
  intro k ρ σ W h
  refine (U (h.aP (k:=k))).iff fun n => ?_
  constructor
  ·rintro ((q | q) | ⟨J,I,q⟩)
   ·exact .inl q
   ·exact .inr ⟨r,bp,q⟩
   ·exact .inr ⟨J,bl _ I,q⟩
  ·rintro (q | ⟨J,I,q⟩)
   ·exact .inl (.inl q)
   ·rcases List.mem_cons.1 I with rfl | I
    ·exact .inl (.inr q)
    ·exact .inr ⟨J,I,q⟩
theorem TU (rs:List cg)(k:Nat)(σ:Int→List Nat): uZ (redoL k rs fW.none) (eU rs σ) (rY rs) :=
 (uZ.L4 (ρ:=fW.none) (W:=fun _=>False) ⟨fun n b I=>(by cases I),fun n _ q=>q⟩).iff fun n=>⟨fun q=>q.elim False.elim id,.inr⟩
def jP (a b:List Nat): Prop:=a.length=512∧b.length=512∧a.drop 12=b.drop 12
theorem jP.symm {a b:List Nat}(h:jP a b): jP b a:=⟨h.2.1,h.1,h.2.2.symm⟩
theorem jP.trans {a b c:List Nat}(h:jP a b)(g:jP b c): jP a c:=⟨h.1,g.2.1,h.2.2.trans g.2.2⟩
theorem jP.refl {a:List Nat}(h:a.length=512): jP a a:=⟨h,h,rfl⟩
theorem H6 {b:List Nat}{n:Nat}(h:b.length=512): jP (cM b n) b:=⟨(pR h).2.1,h,(pR h).1⟩
theorem jP.good {a b:List Nat}(h:jP a b): bU a=bU b:=CU (h.1.trans h.2.1.symm) h.2.2
theorem L5 {l m:List Nat}{a i:Nat}(h:a+m.length≤l.length): (cZ l a m)[i]?=if a≤i∧i<a+m.length then m[i-a]? else l[i]?:=by
 have I:(l.take a).length=a:=by rw [dJ]; omega
 rw [cZ]
 by_cases J:i<a
 ·rw [kf (by omega),af (by omega),lS,aj J]
 ·rw [nC (by omega),I]
  by_cases U:i-a<m.length
  ·rw [kf U,aj (by omega)]
  ·rw [nC (by omega),af (by omega),jG]
   congr 1; omega
theorem Wm {pg:Int}{cP now:List Nat}{i:Nat}{l:List cm}(hr:uw pg cP now i l): ∀ {σ:Int→List Nat},now.length=512→(σ pg).length=512→12≤i→(∀j,12≤j→j<i→(σ pg)[j]?=now[j]?)→(∀j,i≤j→(σ pg)[j]?=cP[j]?) →
  (iK l σ pg).length=512∧(∀j,12≤j→(iK l σ pg)[j]?=now[j]?)∧∀n,n≠pg→iK l σ n=σ n:=by
 induction hr with
 | done i h =>
  intro σ hn hs Y0 I J
  refine ⟨hs,fun j U => ?_,fun _ _=>rfl⟩
  by_cases Eu:j<i
  ·exact I j U Eu
  ·show (σ pg)[j]?=_
   rw [oS (by omega),oS (by omega)]
 | skip i l h he hr ih =>
  intro σ hn hs Y0 I J
  refine ih hn hs (by omega) (fun j U Eu => ?_) (fun j U=>J j (by omega))
  by_cases e:j=i
  ·subst e; rw [J j (aL _),he]
  ·exact I j U (by omega)
 | take i e l h1 h2 _ _ hr ih =>
  intro σ hn hs Y0 I J
  have hm:((now.take e).drop i).length=e-i:=by rw [nF,dJ]; omega
  have hg:∀j,(cZ (σ pg) i ((now.take e).drop i))[j]?=if i≤j∧j<e then now[j]? else (σ pg)[j]?:=fun j=>by
   rw [L5 (by omega),hm]
   by_cases U:i≤j∧j<e
   ·rw [aj (by omega),aj U,jG,lS,aj (by omega)]
    congr 1; omega
   ·rw [af (by omega),af U]
  have hc:jg ⟨pg,i,false,(now.take e).drop i⟩ σ pg=cZ (σ pg) i ((now.take e).drop i):=by rw [jg,aj rfl,af (by simp)]; rfl
  obtain ⟨k1,k2,k3⟩:=ih (σ:=jg ⟨pg,i,false,(now.take e).drop i⟩ σ) hn (by rw [hc,iG (by omega)]; exact hs) (by omega) (fun j U hje=>by
   rw [hc,hg]
   by_cases Eu:i≤j
   ·rw [aj ⟨Eu,hje⟩]
   ·rw [af (by omega)]; exact I j U (by omega)) (fun j U=>by rw [hc,hg,af (by omega)]; exact J j (by omega))
  refine ⟨k1,k2,fun n RZ => ?_⟩
  have:=k3 n RZ
  rw [show iK (⟨pg,i,false,(now.take e).drop i⟩::l) σ=iK l (jg ⟨pg,i,false,(now.take e).drop i⟩ σ) from rfl,this,jg,af RZ]
theorem Ky {a b:List Nat}(I:a.length=512)(J:b.length=512)(h:∀j,12≤j→a[j]?=b[j]?): jP a b :=
 ⟨I,J,zR fun i=>by rw [jG,jG]; exact h _ (by omega)⟩
theorem Wn {pg:Int}{cP now:List Nat}{c:List cm}{σ:Int→List Nat}(hr:E4 pg cP now c)(I:now.length=512)(hs:jP (σ pg) cP): jP (iK c σ pg) now∧∀n,n≠pg→iK c σ n=σ n:=by
 obtain ⟨l,hl,rfl⟩:=hr
 have hd:∀j,12≤j→(σ pg)[j]?=cP[j]?:=fun j U=>by
  have:=ja (fun l:List Nat=>l[j-12]?) hs.2.2
  simp only [jG] at this
  rwa [show 12+(j-12)=j by omega] at this
 obtain ⟨k1,k2,k3⟩:=Wm hl I hs.1 (aL _) (fun j h1 h2=>by omega) hd
 by_cases J:l=[]
 ·rw [aj J]
  subst J
  have e:∀n,iK [⟨pg,0,false,[]⟩] σ n=σ n:=fun n=>by
   show jg ⟨pg,0,false,[]⟩ σ n=σ n
   rw [jg]
   by_cases I:n=pg
   ·rw [aj I,af (by simp)]
    simp [cZ]
   ·rw [af I]
  exact ⟨Ky (by rw [e]; exact hs.1) I (fun j U=>by rw [e]; exact k2 j U),fun n _=>e n⟩
 ·rw [af J]
  exact ⟨Ky k1 I k2,k3⟩
def imgOf (δ:Dk)(n:Int): List Nat:=match δ.aq[n.toNat]? with
 | some (some b)=>b
 | _=>List.replicate 512 0
def xx (δ:Dk)(n:Int)(w:List Nat): Prop:=w=imgOf δ n∨∃wr∈δ.waiting,((wr.1:Nat):Int)=n∧w=wr.2
def Fi (δ:Dk)(n:Int): Prop:=0≤n∧n<(δ.aq.length:Int)
def vg (r:cg)(n:Int): Prop:=∃c∈r.aP,c.aK=n
structure RI (ba:Nat)(mo:Int→Prop)(B0:Int→List Nat)(rs:List cg)(g:Int→Option Nat)(C:Int→List Nat→Prop)(d:List (Int×(Nat×Bool)))(x:LD): Prop where
 base:x.1.base=ba
 b:x.1.b=logB ba rs
 log:x.2.log=logB ba rs
 alive:x.2.dead=false
 aI:x.2.aI<0
 forced:∃u v,rs=u++v∧x.1.forced=szB u
 cert:x.1.forced≤x.2.aR
 mJ:∀n w t t',Fi x.2 n→rs=t++t'→x.1.forced≤szB t→(∀rec,g n=some rec→ba+szB t≤rec)→xx x.2 n w→jP (eU t B0 n) w
 aQ:∀n rec,g n=some rec→∃t r t',rs=t++r::t'∧rec=ba+szB t∧zE r.aP n
 clean:∀n,g n=none→∀wr∈x.2.waiting,((wr.1:Nat):Int)≠n
 H7:∀n b,C n b→∃rec t r t',lookL n d=some (rec,true)∧rs=t++r::t'∧eM b 4 8=ba+szB t∧rec≤ba+szB t∧(¬mo n→∀t1 r1 t2,rs=t1++r1::t2→vg r1 n→szB t1≤szB t)
 flag:∀n rec,lookL n d=some (rec,false)→rec<ba+x.1.forced∧(¬mo n→∀t r t',rs=t++r::t'→vg r n→szB t<x.1.forced)
 ft:∀n rec,lookL n d=some (rec,true)→∃b,C n b
 now:∀n b,lookL n x.2.now=some b→∃wr∈x.2.waiting,((wr.1:Nat):Int)=n∧wr.2=b
 C2:∀n rec fl,lookL n d=some (rec,fl)→g n=some rec
 Kz:∀n rec,g n=some rec→mo n∨∃fl,lookL n d=some (rec,fl)
 ck:∀n w,0≤n→xx x.2 n w→dI w=0
 Sg:∀n,mo n→lookL n d=none→∃t r,rs=t++[r]∧g n=some (ba+szB t)
theorem QV {δ:Dk}{n:Int}{b:List Nat}(I:δ.dead=false)(J:δ.aI<0)(U:0≤n)(h1:n<δ.aq.length)(hb:b.length=512): δ.bJ n b=(0,{ δ with waiting:=δ.waiting++[(n.toNat,b)],now:=cK n b δ.now,aI:=δ.aI }):=by
 rw [Dk.bJ,af (by rw [I]; decide),af (not_not_intro ⟨U,h1,hb⟩),af (by omega),Dk.wr,gI J]
theorem rZ {u v:List cg}: szB u≤szB (u++v):=by rw [v_]; omega
theorem Jq (r:cg): 8≤r.len:=by simp only [cg.len]; omega
theorem AG {t t':List cg}{r:cg}: szB t<szB (t++r::t'):=by
 have:=Jq r
 rw [v_,szB]; omega
section
variable {ba:Nat} {mo:Int→Prop} {B0:Int→List Nat} {rs:List cg} {g:Int→Option Nat} {C:Int→List Nat→Prop} {d:List (Int×(Nat×Bool))} {x:LD}
theorem RI.len (h:RI ba mo B0 rs g C d x): x.1.b.length=szB rs:=by rw [h.b,ie]
theorem RI.le (h:RI ba mo B0 rs g C d x): x.1.forced≤szB rs:=by
 obtain ⟨u,v,hu,I⟩:=h.forced
 rw [I,hu]; exact rZ
theorem RI.all (h:RI ba mo B0 rs g C d x): RI ba mo B0 rs g C d ({ x.1 with forced:=x.1.b.length },{ x.2 with aR:=x.2.log.length }):=by
 have J:=h.len
 have hle:x.1.forced≤x.1.b.length:=by rw [J]; exact h.le
 refine ⟨h.base,h.b,h.log,h.alive,h.aI,⟨rs,[],by rw [bT],J⟩,by show x.1.b.length≤x.2.log.length; rw [h.b,h.log]; exact aL _,
  fun n w t t' h0 ht I hr hc=>h.mJ n w t t' h0 ht (cI hle I) hr hc,h.aQ,h.clean,h.H7,fun n rec U=>⟨gu (h.flag n rec U).1 (vn hle _),fun hp t r t' e q=>gu ((h.flag n rec U).2 hp t r t' e q) hle⟩,h.ft,h.now,h.C2,h.Kz,h.ck,h.Sg⟩
theorem RI.force (h:RI ba mo B0 rs g C d x)(n:Nat)(U:n<ba+szB rs): ∃I,bB x n=(0,I)∧RI ba mo B0 rs g C d I∧n<ba+I.1.forced∧I.2.waiting=x.2.waiting∧I.2.aq=x.2.aq∧I.2.now=x.2.now:=by
 unfold bB
 by_cases J:n<x.1.base+x.1.forced
 ·rw [aj J]; exact ⟨x,rfl,h,by rw [←h.base]; exact J,rfl,rfl,rfl⟩
 ·have e:x.2.cG=(0,{ x.2 with aR:=x.2.log.length }):=by
   rw [Dk.cG,af (by rw [h.alive]; decide),af (by have:=h.aI; omega),gI h.aI]
  rw [af J,e,af (by simp)]
  exact ⟨_,rfl,h.all,by show n<ba+x.1.b.length; rw [h.len]; exact U,rfl,rfl,rfl⟩
theorem RI.qq (N:Nat): jR N (RI ba mo B0 rs g):=by
 refine ⟨fun ε i f he hf h0 hc h => ?_⟩
 have h:RI ba mo B0 rs g (iV ε.1) ε.1.aQ ε.2:=h
 obtain ⟨rec,t0,r0,t0',g1,g2,g3,g4,g5⟩:=h.H7 f.aK f.b ⟨i,f,hf,rfl,h0,hc,rfl⟩
 have Cy:=(he.back i f hf).resolve_left (by omega)
 have hg:=Cy.mB hc
 have hi:=(List.getElem?_eq_some_iff.1 hf).1
 obtain ⟨x',lY,h',bX,w1,w2,w3⟩:=h.force (eM f.b 4 8) (by rw [g3,g2]; have:=AG (t:=t0) (r:=r0) (t':=t0'); omega)
 have J:=QV (δ:=x'.2) (n:=f.aK) (b:=f.b) h'.alive h'.aI h0 (by rw [w2,he.dk.aq]; exact Cy.lt) (fq hg)
 have e:outF ε i=(0,({ ε.1 with ak:=ε.1.ak.set i { f with changed:=false },aQ:=cK f.aK (mg ε.1 f.aK,false) ε.1.aQ },(x'.1,{ x'.2 with waiting:=x'.2.waiting++[(f.aK.toNat,f.b)],now:=cK f.aK f.b x'.2.now,aI:=x'.2.aI }))):=by
  unfold outF
  rw [hf]
  simp only
  rw [af (by rintro (q | q); omega; rw [hc] at q; cases q),af (by rw [hg]; decide),lY]
  simp only [jI,not_true_eq_false,bK]
  rw [J]
  simp only [jI,not_true_eq_false,bK]
 have hdr:mg ε.1 f.aK=rec:=by simp only [mg,g1]
 have hC:∀n b,iV { ε.1 with ak:=ε.1.ak.set i { f with changed:=false },aQ:=cK f.aK (mg ε.1 f.aK,false) ε.1.aQ } n b→iV ε.1 n b∧n≠f.aK:=by
  rintro n b ⟨j,y,hy,k1,k0,k2,k3⟩
  rcases nA hf hy with ⟨rfl,rfl⟩ | ⟨tM,hy⟩
  ·cases k2
  ·refine ⟨⟨j,y,hy,k1,k0,k2,k3⟩,fun I=>tM ?_⟩
   have h1:=((he.back j y hy).resolve_left (by omega)).here
   rw [k1,I,Cy.here] at h1
   have:=bt h1
   omega
 have Sh:∀n b,iV ε.1 n b→n≠f.aK→iV { ε.1 with ak:=ε.1.ak.set i { f with changed:=false },aQ:=cK f.aK (mg ε.1 f.aK,false) ε.1.aQ } n b:=by
  rintro n b ⟨j,y,hy,k1,k0,k2,k3⟩ I
  refine ⟨j,y,?_,k1,k0,k2,k3⟩
  show (ε.1.ak.set i _)[j]?=some y
  rw [iM]
  ·exact hy
  ·rintro rfl
   rw [hf] at hy
   exact I (by rw [←k1,bt hy])
 have hd:∀m,lookL m (cK f.aK (rec,false) ε.1.aQ)=if f.aK=m then some (rec,false) else lookL m ε.1.aQ:=fun m=>gM _
 show RI ba mo B0 rs g (iV (outF ε i).2.1) (outF ε i).2.1.aQ (outF ε i).2.2
 rw [e]
 simp only [hdr] at hC Sh ⊢
 have EA:g f.aK=some rec:=h.C2 _ _ _ g1
 refine ⟨h'.base,h'.b,h'.log,h'.alive,h'.aI,h'.forced,h'.cert,fun n w t t' sj ht uC hr tV => ?_,h'.aQ,fun n I wr J => ?_,fun n b hb => ?_,fun n U I => ?_,fun n U I => ?_,fun n b hb => ?_,fun n U fl I => ?_,fun n U I => ?_,fun n w sj tV => ?_,fun n hp I => ?_⟩
 ·by_cases I:f.aK=n
  ·exfalso
   have:=hr rec (by rw [←I]; exact EA)
   have uC:x'.1.forced≤szB t:=uC
   omega
  ·have aai:xx x'.2 n w:=by
    rcases tV with hq | ⟨wr,J,q1,q2⟩
    ·exact .inl hq
    ·rcases List.mem_append.1 J with J | J
     ·exact .inr ⟨wr,J,q1,q2⟩
     ·rw [List.mem_singleton.1 J] at q1
      simp only at q1
      omega
   exact h'.mJ n w t t' sj ht uC hr aai
 ·rcases List.mem_append.1 J with J | J
  ·exact h'.clean n I wr J
  ·rw [List.mem_singleton.1 J]
   intro q
   simp only at q
   rw [show n=f.aK by omega,EA] at I
   cases I
 ·obtain ⟨k1,k2⟩:=hC n b hb
  obtain ⟨r',t,r,t',m1,m2⟩:=h.H7 n b k1
  exact ⟨r',t,r,t',by rw [hd,af (fun q=>k2 q.symm)]; exact m1,m2⟩
 ·rw [hd] at I
  by_cases hq:f.aK=n
  ·rw [aj hq] at I
   injection I with I
   injection I with I _
   refine ⟨by show U<ba+x'.1.forced; omega,fun hp t r t' ht me => ?_⟩
   have:=g5 (by rw [hq]; exact hp) t r t' ht (by rw [hq]; exact me)
   show szB t<x'.1.forced
   omega
  ·rw [af hq] at I
   exact h'.flag n U I
 ·rw [hd] at I
  by_cases hq:f.aK=n
  ·rw [aj hq] at I; cases I
  ·rw [af hq] at I
   obtain ⟨b,hb⟩:=h.ft n U I
   exact ⟨b,Sh n b hb (fun q=>hq q.symm)⟩
 ·rw [gM] at hb
  by_cases hq:f.aK=n
  ·rw [aj hq] at hb
   injection hb with hb
   exact ⟨(f.aK.toNat,f.b),List.mem_append.2 (.inr bp),by simp only; omega,hb⟩
  ·rw [af hq] at hb
   obtain ⟨wr,k1,k2⟩:=h'.now n b hb
   exact ⟨wr,List.mem_append.2 (.inl k1),k2⟩
 ·rw [hd] at I
  by_cases hq:f.aK=n
  ·rw [aj hq] at I
   injection I with I
   injection I with I _
   rw [←hq,EA,I]
  ·rw [af hq] at I
   exact h.C2 n U fl I
 ·rcases h.Kz n U I with q | ⟨fl,q⟩
  ·exact .inl q
  ·refine .inr ?_
   by_cases hq:f.aK=n
   ·exact ⟨false,by rw [hd,aj hq]; rw [←hq,EA] at I; rw [bt I]⟩
   ·exact ⟨fl,by rw [hd,af hq]; exact q⟩
 ·rcases tV with hq | ⟨wr,J,q1,q2⟩
  ·exact h'.ck n w sj (.inl hq)
  ·rcases List.mem_append.1 J with J | J
   ·exact h'.ck n w sj (.inr ⟨wr,J,q1,q2⟩)
   ·rw [q2,List.mem_singleton.1 J]; exact Cy.aD
 ·rw [hd] at I
  by_cases hq:f.aK=n
  ·rw [aj hq] at I; cases I
  ·rw [af hq] at I
   exact h.Sg n hp I
theorem RI.app (h:RI ba (fun _=>False) B0 rs g C d x){r:cg}(hw:∀n,g n=none→vg r n→zE r.aP n){μ:Lg}{δ:Dk}(m1:μ.base=x.1.base)(m2:μ.b=logB ba (rs++[r]))(m3:μ.forced=x.1.forced)
 (e1:δ.log=logB ba (rs++[r]))(e2:δ.dead=x.2.dead)(e3:δ.aI=x.2.aI)(e4:δ.aR=x.2.aR)(e5:δ.waiting=x.2.waiting)(e6:δ.aq=x.2.aq)(e7:δ.now=x.2.now){p:Int→Prop}[DecidablePred p](hp:∀n,p n↔vg r n):
  RI ba p B0 (rs++[r]) (fun n=>match g n with | some rec=>some rec | none=>if p n then some (ba+szB rs) else none) C d (μ,δ):=by
 have C3:∀n w,xx δ n w→xx x.2 n w:=fun n w hc=>by
  simp only [xx,imgOf,e5,e6] at hc
  exact hc
 have L6:∀ {n rec},g n=some rec→(match g n with | some rec=>some rec | none=>if p n then some (ba+szB rs) else none)=some rec:=fun I=>by rw [I]
 have XD:∀ {n},(match g n with | some rec=>some rec | none=>if p n then some (ba+szB rs) else none)=none→g n=none∧¬p n:=fun {n} I=>by
  cases U:g n with
  | some rec=>rw [U] at I; cases I
  | none =>
   rw [U] at I
   simp only at I
   split at I
   ·cases I
   ·exact ⟨rfl,by assumption⟩
 have Si:∀ {n rec},(match g n with | some rec=>some rec | none=>if p n then some (ba+szB rs) else none)=some rec→g n=some rec∨(g n=none∧p n∧rec=ba+szB rs):=fun {n rec} I=>by
  cases U:g n with
  | some L7=>rw [U] at I; exact .inl I
  | none =>
   rw [U] at I
   simp only at I
   split at I
   ·exact .inr ⟨rfl,by assumption,(bt I).symm⟩
   ·cases I
 have FU:∀ {n t r1 t'},rs++[r]=t++r1::t'→vg r1 n→¬p n→∃H8,rs=t++r1::H8:=fun {n t r1 t'} ht hc I=>by
  rcases vl t' with rfl | ⟨H8,z,rfl⟩
  ·have H9:rs++[r]=t++[r1]:=ht
   obtain ⟨_,e⟩:=nG H9 rfl
   injection e with e
   rw [←e] at hc
   exact absurd ((hp n).2 hc) I
  ·have H9:rs++[r]=(t++r1::H8)++[z]:=by rw [ht]; simp
   exact ⟨H8,(nG H9 rfl).1⟩
 refine ⟨m1.trans h.base,m2,e1,e2.trans h.alive,by show δ.aI<0; rw [e3]; exact h.aI,?_,by show μ.forced≤δ.aR; rw [m3,e4]; exact h.cert,fun n w t t' h0 ht uC hr hc => ?_,fun n rec I => ?_,fun n I => ?_,fun n b hb => ?_,fun n rec I => ?_,h.ft,fun n b hb => ?_,fun n rec fl I => ?_,fun n rec I => ?_,fun n w h0 hc=>h.ck n w h0 (C3 n w hc),fun n J I=>⟨rs,r,rfl,?_⟩⟩
 ·obtain ⟨u,v,hu,hf⟩:=h.forced
  exact ⟨u,v++[r],by rw [hu,bP],by show μ.forced=_; rw [m3]; exact hf⟩
 ·have uC:x.1.forced≤szB t:=by have:μ.forced≤szB t:=uC; omega
  rcases vl t' with rfl | ⟨H8,z,rfl⟩
  ·-- all of it
   rw [bT] at ht
   subst ht
   have hg:g n=none∧¬p n:=by
    cases U:g n with
    | some rec =>
     obtain ⟨a,b,c,k1,k2,_⟩:=h.aQ n rec U
     have:=hr rec (L6 U)
     have:=AG (t:=a) (r:=b) (t':=c)
     rw [←k1] at this
     have:=rZ (u:=rs) (v:=[r])
     omega
    | none =>
     refine ⟨rfl,fun J => ?_⟩
     have:=hr (ba+szB rs) (by rw [U]; simp only; rw [aj J])
     have:=AG (t:=rs) (r:=r) (t':=[])
     omega
   have hs:eU (rs++[r]) B0 n=eU rs B0 n:=by
    rw [tF]
    show iK r.aP (eU rs B0) n=_
    have:∀(l:List cm) (σ:Int→List Nat),(∀c∈l,c.aK≠n)→iK l σ n=σ n:=by
     intro l
     induction l with
     | nil=>intro σ _; rfl
     | cons c l ih =>
      intro σ hl
      show iK l (jg c σ) n=σ n
      rw [ih _ (fun c hc=>hl c (bl _ hc)),jg,af (fun q=>hl c bp q.symm)]
    exact this _ _ fun c hc q=>hg.2 ((hp n).2 ⟨c,hc,q⟩)
   rw [hs]
   exact h.mJ n w rs [] (by rw [Fi,←e6]; exact h0) (by rw [bT]) h.le (fun rec q=>by rw [hg.1] at q; cases q) (C3 n w hc)
  ·have H9:rs++[r]=(t++H8)++[z]:=by rw [ht]; simp
   have ht3:=(nG H9 rfl).1
   exact h.mJ n w t H8 (by rw [Fi,←e6]; exact h0) ht3 uC (fun rec q=>hr rec (L6 q)) (C3 n w hc)
 ·rcases Si I with U | ⟨U,J,rfl⟩
  ·obtain ⟨a,b,c,k1,k2,k3⟩:=h.aQ n rec U
   exact ⟨a,b,c++[r],by rw [k1]; simp,k2,k3⟩
  ·exact ⟨rs,r,[],rfl,rfl,hw n U ((hp n).1 J)⟩
 ·show ∀wr∈δ.waiting,_
  rw [e5]
  exact h.clean n (XD I).1
 ·obtain ⟨rec,t,r1,t',k1,k2,k3,k4,k5⟩:=h.H7 n b hb
  refine ⟨rec,t,r1,t'++[r],k1,by rw [k2]; simp,k3,k4,fun J t1 r2 t2 e q => ?_⟩
  obtain ⟨t3,e3⟩:=FU e q J
  exact k5 (fun q=>q) t1 r2 t3 e3 q
 ·obtain ⟨k1,k2⟩:=h.flag n rec I
  refine ⟨by show rec<ba+μ.forced; rw [m3]; exact k1,fun J t r1 t' e q => ?_⟩
  obtain ⟨t3,e3⟩:=FU e q J
  show szB t<μ.forced
  rw [m3]
  exact k2 (fun q=>q) t r1 t3 e3 q
 ·obtain ⟨wr,k1,k2⟩:=h.now n b (by rw [←e7]; exact hb)
  exact ⟨wr,by show wr∈δ.waiting; rw [e5]; exact k1,k2⟩
 ·exact L6 (h.C2 n rec fl I)
 ·rcases Si I with U | ⟨U,J,rfl⟩
  ·rcases h.Kz n rec U with q | q
   ·exact q.elim
   ·exact .inr q
  ·exact .inl J
 ·cases U:g n with
  | none=>simp only; rw [aj J]
  | some rec =>
   rcases h.Kz n rec U with q | ⟨fl,q⟩
   ·exact q.elim
   ·rw [I] at q; cases q
end
theorem QW {b:List Nat}{n:Nat}(I:b.length=512)(J:n<18446744073709551616): eM (cM b n) 4 8=n:=by
 have U:=(pR (n:=n) I).2.2.1
 have e1:eM (cM b n) 4 8=leN (((cM b n).drop 4).take 8):=by rw [eM,sV]
 have h4:(b.take 4).length=4:=by rw [dJ]; omega
 have e2:(m4 b n).drop 4=le 8 n++b.drop (4+(le 8 n).length):=by
  rw [m4,cZ,C8 (by omega),sK (by omega),cU]
 rw [e1,U,e2,oQ (by rw [dH]; omega),fI (by rw [dH]; omega),uz]
 exact ik J
theorem lookL_filter {n:Int}: ∀ {d:List (Int×(Nat×Bool))},(d.map (·.1)).Nodup→lookL n (d.filter fun e=>e.2.2)=match lookL n d with | some (rec,true)=>some (rec,true) | _=>none:=by
 intro d
 induction d with
 | nil=>intro _; rfl
 | cons e d J =>
  intro U
  obtain ⟨h1,h2⟩:=List.nodup_cons.1 U
  obtain ⟨k,rec,fl⟩:=e
  have J:=J h2
  cases fl with
  | true =>
   rw [List.filter_cons_of_pos (by rfl)]
   simp only [lookL]
   by_cases I:k=n
   ·rw [aj I,aj I]
   ·rw [af I,af I,J]
  | false =>
   rw [List.filter_cons_of_neg (by simp),J]
   simp only [lookL]
   by_cases I:k=n
   ·rw [aj I,fU.2 (by rw [←I]; exact h1)]
   ·rw [af I]
section
variable {N ba:Nat} {mo:Int→Prop} {B0:Int→List Nat} {rs:List cg} {g:Int→Option Nat} {ε ε':aM}
theorem uD {p:Int→Prop}: vw (RI ba p B0 rs g) ε↔RI ba p B0 rs g (iV ε.1) ε.1.aQ ε.2:=Iff.rfl
theorem RI.put (h:vw (RI ba mo B0 rs g) ε)(he:EC N ε){n:Int}{i:Nat}{f:Fm}{b:List Nat}{aF:Nat}(hl:lookL n ε.1.aH=some (i:Int))(hf:ε.1.ak[i]?=some f)(hb:b.length=512)(h0:0≤n)(hp:mo n)
 (FU:∃t r,rs=t++[r]∧aF=ba+szB t)(bX:aF<18446744073709551616): vw (RI ba (fun m=>mo m∧m≠n) B0 rs g) (uy ε.1 n i f b aF,ε.2):=by
 have h:=uD.1 h
 have hi:=(List.getElem?_eq_some_iff.1 hf).1
 obtain ⟨t0,r0,e0,e1⟩:=FU
 have mC:f.aK=n:=by
  obtain ⟨_,j,x,tM,hx,v7⟩:=he.j6 n i hl
  have:i=j:=by omega
  subst this
  rw [hf] at hx
  rw [bt hx]; exact v7
 have J:∀m,lookL m (cK n (dW ε.1 n aF,true) ε.1.aQ)=if n=m then some (dW ε.1 n aF,true) else lookL m ε.1.aQ:=fun m=>gM _
 have hg:g n=some (dW ε.1 n aF)∧dW ε.1 n aF≤aF:=by
  cases I:lookL n ε.1.aQ with
  | some x =>
   obtain ⟨rec,fl⟩:=x
   have:=h.C2 n rec fl I
   have e:dW ε.1 n aF=rec:=by simp only [dW,I]
   rw [e]
   refine ⟨this,?_⟩
   obtain ⟨a,c,a',k1,k2,_⟩:=h.aQ n rec this
   rw [k2,e1]
   have:szB a≤szB t0:=by
    rcases vl a' with rfl | ⟨yf,z,rfl⟩
    ·have:t0++[r0]=a++[c]:=by rw [←e0,k1]
     rw [(nG this rfl).1]; exact aL _
    ·have:t0++[r0]=(a++c::yf)++[z]:=by rw [←e0,k1]; simp
     rw [(nG this rfl).1]; exact rZ
   omega
  | none =>
   have e:dW ε.1 n aF=aF:=by simp only [dW,I]
   obtain ⟨t,r,k1,k2⟩:=h.Sg n hp I
   rw [e,k2]
   have:t0++[r0]=t++[r]:=by rw [←e0,k1]
   rw [e1,(nG this rfl).1]
   exact ⟨rfl,aL _⟩
 have hC:∀m c,iV (uy ε.1 n i f b aF) m c→(m=n∧c=cM b aF)∨(m≠n∧iV ε.1 m c):=by
  rintro m c ⟨j,y,U,k1,k0,k2,k3⟩
  rcases nA hf U with ⟨rfl,rfl⟩ | ⟨tM,U⟩
  ·exact .inl ⟨by rw [←k1]; exact mC,k3.symm⟩
  ·refine .inr ⟨fun V0=>tM ?_,j,y,U,k1,k0,k2,k3⟩
   have h1:=((he.back j y U).resolve_left (by omega)).here
   rw [k1,V0,hl] at h1
   have:=bt h1
   omega
 have Sh:iV (uy ε.1 n i f b aF) n (cM b aF):=⟨i,{ f with b:=cM b aF,changed:=true,pins:=0 },by show (ε.1.ak.set i _)[i]?=_; exact iL hi,mC,h0,rfl,rfl⟩
 have hC3:∀m c,m≠n→iV ε.1 m c→iV (uy ε.1 n i f b aF) m c:=by
  rintro m c hm ⟨j,y,U,k1,k0,k2,k3⟩
  refine ⟨j,y,?_,k1,k0,k2,k3⟩
  show (ε.1.ak.set i _)[j]?=some y
  rw [iM]
  ·exact U
  ·rintro rfl
   rw [hf] at U
   exact hm (by rw [←k1,←bt U]; exact mC)
 have Y1:∀ {m},m≠n→¬(mo m∧m≠n)→¬mo m:=fun hm I iw=>I ⟨iw,hm⟩
 refine ⟨h.base,h.b,h.log,h.alive,h.aI,h.forced,h.cert,h.mJ,h.aQ,h.clean,fun m c hc => ?_,fun m rec hm => ?_,fun m rec hm => ?_,h.now,fun m rec fl hm => ?_,fun m rec hm => ?_,h.ck,fun m hm I => ?_⟩
 ·rcases hC m c hc with ⟨rfl,rfl⟩ | ⟨hm,hc⟩
  ·refine ⟨dW ε.1 m aF,t0,r0,[],?_,e0,?_,?_,fun _ t1 r1 t2 q _ => ?_⟩
   ·show lookL m (cK m _ _)=_; rw [J,aj rfl]
   ·rw [QW hb bX,e1]
   ·rw [←e1]; exact hg.2
   ·rcases vl t2 with rfl | ⟨t3,z,rfl⟩
    ·have:t0++[r0]=t1++[r1]:=by rw [←e0,q]
     rw [(nG this rfl).1]; exact aL _
    ·have:t0++[r0]=(t1++r1::t3)++[z]:=by rw [←e0,q]; simp
     rw [(nG this rfl).1]; exact rZ
  ·obtain ⟨rec,t,r,t',k1,k2,k3,k4,k5⟩:=h.H7 m c hc
   exact ⟨rec,t,r,t',by show lookL m (cK n _ _)=_; rw [J,af (fun q=>hm q.symm)]; exact k1,k2,k3,k4,fun q=>k5 (Y1 hm q)⟩
 ·have hm:lookL m (cK n (dW ε.1 n aF,true) ε.1.aQ)=some (rec,false):=hm
  rw [J] at hm
  by_cases I:n=m
  ·rw [aj I] at hm; cases hm
  ·rw [af I] at hm
   obtain ⟨k1,k2⟩:=h.flag m rec hm
   exact ⟨k1,fun q=>k2 (Y1 (fun q=>I q.symm) q)⟩
 ·have hm:lookL m (cK n (dW ε.1 n aF,true) ε.1.aQ)=some (rec,true):=hm
  rw [J] at hm
  by_cases I:n=m
  ·subst I; exact ⟨_,Sh⟩
  ·rw [af I] at hm
   obtain ⟨c,hc⟩:=h.ft m rec hm
   exact ⟨c,hC3 m c (fun q=>I q.symm) hc⟩
 ·have hm:lookL m (cK n (dW ε.1 n aF,true) ε.1.aQ)=some (rec,fl):=hm
  rw [J] at hm
  by_cases I:n=m
  ·rw [aj I] at hm
   injection hm with hm
   injection hm with hm _
   rw [←I,hg.1,hm]
  ·rw [af I] at hm
   exact h.C2 m rec fl hm
 ·by_cases I:n=m
  ·subst I
   rw [hg.1] at hm
   exact .inr ⟨true,by show lookL n (cK n _ _)=_; rw [J,aj rfl,bt hm]⟩
  ·rcases h.Kz m rec hm with q | ⟨fl,q⟩
   ·exact .inl ⟨q,fun q=>I q.symm⟩
   ·exact .inr ⟨fl,by show lookL m (cK n _ _)=_; rw [J,af I]; exact q⟩
 ·have I:lookL m (cK n (dW ε.1 n aF,true) ε.1.aQ)=none:=I
  rw [J,af (fun q=>hm.2 q.symm)] at I
  exact h.Sg m hm.1 I
theorem qo.ri {now:List (Int×List Nat)}{aF:Nat}{l:List Int}{e:Int}(J:qo now aF l ε e ε'): ∀ {p:Int→Prop},EC N ε→gZ ε→NW N now→(∀n∈l,0≤n∧n<N)→l.Nodup→(∀n∈l,p n)→(∃t r,rs=t++[r]∧aF=ba+szB t)→aF<18446744073709551616 →
  vw (RI ba p B0 rs g) ε→vw (RI ba (fun m=>p m∧m∉l) B0 rs g) ε':=by
 induction J with
 | nil ε =>
  intro p _ _ _ _ _ _ _ _ hv
  have:(fun m=>p m∧m∉([]:List Int))=p:=funext fun m=>propext ⟨fun q=>q.1,fun q=>⟨q,by simp⟩⟩
  rw [this]; exact hv
 | iU n l ε e b ε' J he =>
  intro p h h3 hn hl
  have:=hl n bp
  exact absurd ((J.ec h).2.2.1 this.1 this.2).1 he
 | bad n l ε b0 b ε' J hb he =>
  intro p h h3 hn hl
  exact absurd ((J.put (b:=b) (aF:=aF) h3).2.2 (hn.look hb).1) he
 | put n l ε b0 b ε' e ox J hb he ht ih =>
  intro p h h3 hn hl m5 hp I bX hv
  have U:=hl n bp
  obtain ⟨k1,k2,k3,k4⟩:=J.ec h
  obtain ⟨i,f,p1,p2,p3,p4,p5⟩:=J.at h3.pins
  have hg:=hn.look hb
  have e1:=xb (aF:=aF) p1 p2 p3 hg.1
  obtain ⟨q1,q2⟩:=k1.put (aF:=aF) p1 p2 hg.1 hg.2 U.1 U.2
  have F4:=(J.put (b:=b) (aF:=aF) h3).1
  have uk:vw (RI ba p B0 rs g) ε':=(RI.qq N).iU J h hv
  have ot:=RI.put uk k1 p1 p2 (fq hg.1) U.1 (hp n bp) I bX
  rw [e1] at ih F4
  obtain ⟨d1,d2⟩:=List.nodup_cons.1 m5
  have:=ih q1 F4 hn (fun m hm=>hl m (bl _ hm)) d2 (p:=fun m=>p m∧m≠n) (fun m hm=>⟨hp m (bl _ hm),fun q=>d1 (by rw [←q]; exact hm)⟩) I bX ot
  have e:(fun m=>(p m∧m≠n)∧m∉l)=(fun m=>p m∧m∉n::l):=funext fun m=>propext ⟨fun q=>⟨q.1.1,by simp only [eX,pn]; exact ⟨q.1.2,q.2⟩⟩,fun q=>by
   have:=q.2
   simp only [eX,pn] at this
   exact ⟨⟨q.1,this.1⟩,this.2⟩⟩
  rw [←e]; exact this
end
end Go.Proofs.YtconhghphklfjaaGreat.Am
