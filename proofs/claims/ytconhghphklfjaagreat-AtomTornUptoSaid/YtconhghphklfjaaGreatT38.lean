/- AtomTorn: a part of its proof; conditions: its statement's. -/
import Derived.Test.YtconhghphklfjaaGreatT37
namespace Go.Proofs.YtconhghphklfjaaGreat.Am
open Go
structure LR (B0 aC:Nat)(mk:List Nat)(rs:List bR)(x:LD): Prop where
 base:x.1.base=B0
 b:x.1.b=logB B0 rs
 bu:x.1.bu=gC 0 rs
 check:x.1.check=aC
 log:x.2.log=logB B0 rs
 alive:x.2.dead=false
 aD:x.2.aD<0
 mark:x.2.mark=mk
 dh:x.2.dh=none
 tail:x.2.tail=[]
 wait:∀w∈x.2.waiting,w.1<x.2.aq.length∧w.2.length=512
 rs:∀r∈rs,r.Ok
theorem lD (base aC:Nat)(mk:List Nat)(rs:List bR): kY (LR base aC mk rs):=by
 refine ⟨fun x n h => ?_,fun x n b h => ?_⟩
 ·unfold aT
  split
  ·exact h
  ·have e:x.2.cg=(0,{ x.2 with aJ:=x.2.log.length }):=by
    rw [Dk.cg,af (by rw [h.alive]; decide),af (by have:=h.aD; omega),fP h.aD]
   rw [e,af (by simp)]
   exact ⟨h.base,h.b,h.bu,h.check,h.log,h.alive,h.aD,h.mark,h.dh,h.tail,h.wait,h.rs⟩
 ·unfold Dk.bk
  rw [af (by rw [h.alive]; decide)]
  split
  ·exact h
  ·rename_i I
   rw [af (by have:=h.aD; omega)]
   refine ⟨h.base,h.b,h.bu,h.check,h.log,h.alive,?_,h.mark,h.dh,h.tail,fun w hw => ?_,h.rs⟩
   ·show x.2.c9.aD<0
    rw [fP h.aD]; exact h.aD
   ·rcases List.mem_append.1 hw with hw | hw
    ·exact h.wait w hw
    ·rw [List.mem_singleton.1 hw]
     have I:=Classical.not_not.1 I
     exact ⟨by show n.toNat<x.2.aq.length; omega,I.2.2⟩
theorem ME {kd:Int}{tx pv nx:Nat}{data:List Nat}{aR:List cn}: data.length≤(dB kd tx pv nx data aR).length∧aR.length≤(dB kd tx pv nx data aR).length:=by
 have:=Iq aR
 simp only [dB,bC,bl,bY]
 omega
theorem LR.app {base aC kd tx:Nat}{mk:List Nat}{rs:List bR}{x:LD}{data:List Nat}{c:List cn}(h:LR base aC mk rs x)(hk:1≤kd)(hg:dU kd c=true)(ht:tx<65536)
 (ha:(bq x kd tx 0 0 data c).1.2=0): ∃r:bR,r.Ok∧r.kd=kd∧r.tx=tx∧r.pv=0∧r.nx=0∧r.data=data∧r.aR=c∧(bq x kd tx 0 0 data c).1.1=base+szB rs∧LR base aC mk (rs++[r]) (bq x kd tx 0 0 data c).2∧logB base (rs++[r])=logB base rs++dy x.1 kd tx 0 0 data c∧(logB base rs).length+(dy x.1 kd tx 0 0 data c).length≤x.2.room:=by
 rcases ju x kd tx 0 0 data c with ⟨e,he,_,U⟩ | ⟨_,hf,_⟩ | ⟨_,hb,hd,jq,hf,U⟩
 ·rw [U] at ha; exact absurd ha he
 ·have:=h.aD; omega
 ·rw [fP h.aD] at U
  have abY:=ME (kd:=kd) (tx:=tx) (pv:=0) (nx:=0) (data:=data) (aR:=c)
  have hr:(bR.mk kd tx 0 0 data c).Ok:=⟨hg,⟨by show tx<_; omega,by show 0<_; decide,by show 0<_; decide,by show data.length≤_; omega,by show c.length≤_; omega⟩,hb⟩
  have hl:(logB base rs).length=szB rs:=gq
  have hn:dy x.1 kd tx 0 0 data c=iA (base+szB rs) (bR.mk kd tx 0 0 data c).bd:=by rw [dy,h.base,h.b,hl]; rfl
  have I:logB base (rs++[bR.mk kd tx 0 0 data c])=logB base rs++dy x.1 kd tx 0 0 data c:=by rw [u6,hn]; simp only [logB,bF]
  have hof:gC 0 (rs++[bR.mk kd tx 0 0 data c])=gC 0 rs++[szB rs]:=by rw [x_,dV]; rfl
  refine ⟨bR.mk kd tx 0 0 data c,hr,rfl,rfl,rfl,rfl,rfl,rfl,?_,?_,I,by rw [←h.log]; exact jq⟩
  ·rw [U]; show x.1.base+x.1.b.length=_; rw [h.base,h.b,hl]
  ·rw [U]
   refine ⟨h.base,?_,?_,h.check,?_,h.alive,h.aD,h.mark,h.dh,h.tail,h.wait,fun r J => ?_⟩
   ·show x.1.b++_=_; rw [h.b,I]
   ·show x.1.bu++[x.1.b.length]=_; rw [h.bu,h.b,hl,hof]
   ·show x.2.log++_=_; rw [h.log,I]
   ·rcases List.mem_append.1 J with J | J
    ·exact h.rs r J
    ·rw [List.mem_singleton.1 J]; exact hr
section
variable {told:dM} {h:H} {S:List ax} {r q p a aC N B:Nat} {pv wv dv:V} {data:List Nat} {ε:aO} {ps:List (List Nat)}
theorem RF (hT:W2 told){D:jh}(ha:¬(3≤D.act∧D.act≤7))(hB:B≤900)(J:EI N B ε)(hN:ps.length=N)(hp:kZ ε ps)(U:data.length≤1048576)(hD:D.data.length≤1048576∧D.w.length≤1048576∧∀x∈D.w,x.2.length≤1048576)
 (s:Sat h (cC a p q r .cK data aC::cj r p q ε.1::bh q p ε.2.1::aG p ε.2.2::.arr 1 pv (eW ps)::ow wv dv D::S)):
  Call ⟨Tryz.prog,told⟩ 28 [.ptr a 0,pv,.agg [.int .i64 D.act,.int .i64 D.cX,wv,dv]] h fun v h'=>∃(e:Int) (ff:List (List Nat)) (I:V) (aK:Nat) (ε':aO),
   uY N D ε ps e ff aK ε'∧EI N (B+2) ε'∧ff.length=N∧kZ ε' ff∧v=.bE [I,.int .u64 (aK:Int),.bool true,.int .i64 e] ∧
   Sat h' (cC a p q r .cK data aC::cj r p q ε'.1::bh q p ε'.2.1::aG p ε'.2.2::.arr 1 I (eW ff)::S) :=
 (KW hT hB J hN hp U hD s).mono fun v h' ⟨e,ff,I,aK,ε',cP,eE,h0,h1,h2,h3,h4,h5,hv,s'⟩=>by
  cases h0 with
  | Xj _ _ _ _ _ ho=>exact ⟨e,ff,I,aK,ε',ho,h2,h3,h4,hv,s'⟩
  | ck _ _ _ _ _ h=>omega
  | all h=>omega
  | sync h=>omega
  | clean h=>omega
  | force h=>omega
end
theorem UP : ∀(rs:List bR) (n K:Nat),(∀r∈rs,r.Ok)→∃dr fQ j,rs=dr++fQ∧(logB n rs).take K=logB n dr++j∧rS j:=by
 intro rs
 induction rs with
 | nil=>intro n K _; exact ⟨[],[],[],rfl,by simp [logB],.inl (by decide)⟩
 | cons r rs U =>
  intro n K I
  have hr:=I r br
  by_cases hK:r.len≤K
  ·obtain ⟨dr,fQ,j,h1,h2,h3⟩:=U (n+r.len) (K-r.len) (fun x hx=>I x (bp _ hx))
   refine ⟨r::dr,fQ,j,by rw [h1]; rfl,?_,h3⟩
   have J:(iA n r.bd).length=r.len:=by rw [sG]; rfl
   rw [logB,tI,fR (by omega),J,h2,logB,bH]
  ·refine ⟨[],r::rs,(iA n r.bd).take K,rfl,?_,?_⟩
   ·have J:(iA n r.bd).length=r.len:=by rw [sG]; rfl
    show List.take K (iA n r.bd++logB (n+r.len) rs)=[]++_
    rw [pq (by omega),cW]
   ·by_cases h8:K<8
    ·exact .inl (by rw [dP]; omega)
    ·right
     have J:(iA n r.bd).length=r.len:=by rw [sG]; rfl
     have h4:((iA n r.bd).take K).take 4=le 4 r.bd.length:=by
      rw [tK,pM (by omega),iA,bH,pq (by rw [cR]; omega),fR (by rw [cR]; omega)]
     have hb:=hr.len
     have hlen:r.len=8+r.bd.length:=rfl
     rw [h4,qL,dP,gJ (by simp; omega)]
     omega
structure Lv (δ:Dk): Prop where
 alive:δ.dead=false
 aD:δ.aD<0
theorem Lv.dI {δ:Dk}{n:Nat}(h:Lv δ): (δ.dI n).1=0∧Lv (δ.dI n).2:=by
 unfold Dk.dI
 split
 ·rename_i I
  unfold Dk.qO
  rw [af (by rw [h.alive]; decide),af (by omega),af (by have:=h.aD; omega),fP h.aD]
  exact ⟨rfl,h.alive,h.aD⟩
 ·exact ⟨rfl,h⟩
theorem Lv.cg {δ:Dk}(h:Lv δ): δ.cg.1=0∧Lv δ.cg.2:=by
 unfold Dk.cg
 rw [af (by rw [h.alive]; decide),af (by have:=h.aD; omega),fP h.aD]
 exact ⟨rfl,h.alive,h.aD⟩
theorem Lv.cD {δ:Dk}{n:Nat}(h:Lv δ): (δ.cD n).1=0∧Lv (δ.cD n).2:=by
 obtain ⟨J,I⟩:=h.dI (n:=n)
 unfold Dk.cD
 rw [af (not_not_intro J)]
 split
 ·exact I.cg
 ·exact ⟨rfl,I⟩
theorem Lv.bk {δ:Dk}{n:Int}{b:List Nat}(h:Lv δ)(I:0≤n)(J:n<δ.aq.length)(U:b.length=512): (δ.bk n b).1=0∧Lv (δ.bk n b).2:=by
 unfold Dk.bk
 rw [af (by rw [h.alive]; decide),af (not_not_intro ⟨I,J,U⟩),af (by have:=h.aD; omega)]
 refine ⟨rfl,h.alive,?_⟩
 show δ.c9.aD<0
 rw [fP h.aD]; exact h.aD
theorem Lv.again {ρ:gw}(J:ρ.Ok): ∀ {l:List Int} {δ:Dk},(∀k∈l,0≤k)→Lv δ→(againW ρ l δ).1=0∧Lv (againW ρ l δ).2:=by
 intro l
 induction l with
 | nil=>intro δ _ h; exact ⟨rfl,h⟩
 | cons k l U =>
  intro δ hl h
  have I:∀k∈l,0≤k:=fun x hx=>hl x (bp _ hx)
  rw [againW]
  cases hq:lookL k ρ.aq with
  | none=>exact U I h
  | some b =>
   simp only
   split
   ·rename_i hg
    have hb:b.length=512:=J.len _ (fC hq)
    obtain ⟨w1,w2⟩:=h.bk (n:=k) (b:=cO b (ox ρ k)) (hl k br) hg.2 (qj hb).2.1
    rw [af (not_not_intro w1)]
    exact U I w2
   ·exact U I h
theorem Lv.c7 {δ:Dk}(h:Lv δ): δ.c7.1=0∧Lv δ.c7.2:=by
 rw [Dk.c7,af (by rw [h.alive]; decide),af (by have:=h.aD; omega),fP h.aD]
 exact ⟨rfl,h.alive,h.aD⟩
theorem Lv.eP {δ:Dk}{base:Nat}{rs dr fQ:List bR}(h:Lv δ)(J:∀r∈fQ,r.Ok): (eP δ base rs dr fQ).1=0∧Lv (eP δ base rs dr fQ).2:=by
 have I:(redoL (base+szB dr) fQ gw.none).Ok:=Ci Bh J
 obtain ⟨o1,o2⟩:=h.cD (n:=szB rs)
 unfold Am.eP mG
 rw [af (not_not_intro o1)]
 obtain ⟨a1,U⟩:=Lv.again I (l:=aF (redoL (base+szB dr) fQ gw.none).aq) (fun k hk=>(I.low k (Cj.1 hk)).1) o2
 rw [af (not_not_intro a1)]
 split
 ·exact ⟨rfl,U⟩
 ·exact U.c7
theorem RG {δ:Dk}{c:List Nat}: Lv (eU δ c):=⟨rfl,by show (-1:Int)<0; decide⟩
theorem K2 {P:List (Option (List Nat))}{i:Nat}{x:List Nat}(h:∀(j:Nat) (b:List Nat),P[j]?=some (some b)→b.length=512)(J:x.length=512): ∀(j:Nat) (b:List Nat),(P.set i (some x))[j]?=some (some b)→b.length=512:=fun j b I=>by
 rw [tF] at I
 split at I
 ·split at I
  ·injection I with I; injection I with I; rw [←I]; exact J
  ·cases I
 ·exact h j b I
theorem RH {δ:Dk}{c:List Nat}(h:δ.Cr): oG (eU δ c) 65536∧(eU δ c).aq.length=δ.aq.length:=by
 have hl:=h.ok.len
 have hr:=h.ok.room
 have hc:=h.ok.aJ
 have hlen:(eU δ c).aq.length=δ.aq.length:=by
  show (tornP c _ _ δ.dh).length=_
  cases δ.dh with
  | none=>exact uc
  | some w=>rw [tornP,dD,uc]
 have J:=KX (c:=c) (i:=0) (fun w hw=>(h.wait w hw).2) h.ok.aq
 have U:∀(j:Nat) (b:List Nat),(eU δ c).aq[j]?=some (some b)→b.length=512:=by
  show ∀(j:Nat) (b:List Nat),(tornP c _ _ δ.dh)[j]?=some (some b)→b.length=512
  cases ht:δ.dh with
  | none=>exact J
  | some w =>
   have hw:=(h.dh w ht).2
   refine K2 J ?_
   have I:((layW c 0 δ.waiting δ.aq).getD w.1 none).getD []=[]∨(((layW c 0 δ.waiting δ.aq).getD w.1 none).getD []).length=512:=by
    rw [kD]
    cases hq:(layW c 0 δ.waiting δ.aq)[w.1]? with
    | none=>exact .inl rfl
    | some o =>
     cases o with
     | none=>exact .inl rfl
     | some b=>exact .inr (J _ _ hq)
   have h2:(dg (List.replicate 512 0) 0 (((layW c 0 δ.waiting δ.aq).getD w.1 none).getD [])).length=512:=by
    rw [iO (by rw [fE]; rcases I with I | I <;> rw [I] <;> decide),fE]
   rw [iO (by rw [h2,dP]; omega),h2]
 refine ⟨⟨⟨by show (-1:Int)<_; decide,?_,hr,fun e he=>(by cases he),U,aI _,by rw [hlen]; exact h.ok.many⟩,by show 0+65536≤_; decide,fun e he=>(by cases he)⟩,hlen⟩
 show (sF δ c).length≤_
 have ht:=h.tail
 rw [sF,bC,dP,dP,bC,nW]
 omega
def jv (c:cn)(σ:Int→List Nat): Int→List Nat:=fun n=>if n=c.aM then (if c.whole=true then c.b else dg (σ n) c.pos.toNat c.b) else σ n
def iM (cs:List cn)(σ:Int→List Nat): Int→List Nat:=cs.foldl (fun σ c=>jv c σ) σ
def eA (rs:List bR)(σ:Int→List Nat): Int→List Nat:=rs.foldl (fun σ r=>iM r.aR σ) σ
theorem ng {x y:List bR}{σ:Int→List Nat}: eA (x++y) σ=eA y (eA x σ):=by simp only [eA,List.foldl_append]
theorem IF {x y:List cn}{σ:Int→List Nat}: iM (x++y) σ=iM y (iM x σ):=by simp only [iM,List.foldl_append]
def Av (cs:List cn)(n:Int): Prop:=∃c∈cs,c.aM=n∧c.whole=true
def sH (rs:List bR)(n:Int): Prop:=∃r∈rs,Av r.aR n
structure vz (ρ:gw)(σ:Int→List Nat)(W:Int→Prop): Prop where
 some:∀n b,lookL n ρ.aq=some b→b=σ n∧W n
 none:∀n,lookL n ρ.aq=none→¬W n
theorem vz.mD {ρ:gw}{σ:Int→List Nat}{W:Int→Prop}(h:vz ρ σ W)(k:Nat)(c:cn): vz (chgF k c ρ) (jv c σ) (fun n=>W n∨(c.aM=n∧c.whole=true)):=by
 unfold chgF
 by_cases hw:c.whole=true
 ·rw [aj hw]
  refine ⟨fun n b I => ?_,fun n I => ?_⟩
  ·rw [gY] at I
   by_cases J:c.aM=n
   ·rw [aj J] at I
    injection I with I
    exact ⟨by rw [jv,aj J.symm,aj hw,I],.inr ⟨J,hw⟩⟩
   ·rw [af J] at I
    have:=h.some n b I
    exact ⟨by rw [jv,af (fun e=>J e.symm)]; exact this.1,.inl this.2⟩
  ·rw [gY] at I
   by_cases J:c.aM=n
   ·rw [aj J] at I; cases I
   ·rw [af J] at I
    rintro (q | q)
    ·exact h.none n I q
    ·exact J q.1
 ·rw [af hw]
  cases U:lookL c.aM ρ.aq with
  | none =>
   refine ⟨fun n b I => ?_,fun n I => ?_⟩
   ·have:=h.some n b I
    refine ⟨?_,.inl this.2⟩
    rw [jv,af (fun e=>by rw [e,U] at I; cases I)]
    exact this.1
   ·rintro (q | q)
    ·exact h.none n I q
    ·exact hw q.2
  | some x =>
   have hx:=h.some _ x U
   refine ⟨fun n b I => ?_,fun n I => ?_⟩
   ·simp only at I
    rw [gY] at I
    by_cases J:c.aM=n
    ·rw [aj J] at I
     injection I with I
     refine ⟨?_,.inl (by rw [←J]; exact hx.2)⟩
     rw [jv,aj J.symm,af hw,←J,←hx.1,I]
    ·rw [af J] at I
     have:=h.some n b I
     exact ⟨by rw [jv,af (fun e=>J e.symm)]; exact this.1,.inl this.2⟩
   ·simp only at I
    rw [gY] at I
    by_cases J:c.aM=n
    ·rw [aj J] at I; cases I
    ·rw [af J] at I
     rintro (q | q)
     ·exact h.none n I q
     ·exact hw q.2
theorem vz.iff {ρ:gw}{σ:Int→List Nat}{W J:Int→Prop}(h:vz ρ σ W)(hw:∀n,W n↔J n): vz ρ σ J:=⟨fun n b I=>⟨(h.some n b I).1,(hw n).1 (h.some n b I).2⟩,fun n I q=>h.none n I ((hw n).2 q)⟩
theorem vz.aR {k:Nat}: ∀ {cs:List cn} {ρ:gw} {σ:Int→List Nat} {W:Int→Prop},vz ρ σ W→vz (DD k cs ρ) (iM cs σ) (fun n=>W n∨Av cs n):=by
 intro cs
 induction cs with
 | nil=>intro ρ σ W h; exact h.iff fun n=>⟨.inl,fun q=>q.elim id fun ⟨c,I,_⟩=>(by cases I)⟩
 | cons c cs U =>
  intro ρ σ W h
  refine (U (h.mD k c)).iff fun n => ?_
  constructor
  ·rintro ((q | q) | ⟨J,I,q⟩)
   ·exact .inl q
   ·exact .inr ⟨c,br,q⟩
   ·exact .inr ⟨J,bp _ I,q⟩
  ·rintro (q | ⟨J,I,q⟩)
   ·exact .inl (.inl q)
   ·rcases List.mem_cons.1 I with rfl | I
    ·exact .inl (.inr q)
    ·exact .inr ⟨J,I,q⟩
theorem vz.MF : ∀ {rs:List bR} {k:Nat} {ρ:gw} {σ:Int→List Nat} {W:Int→Prop},vz ρ σ W→vz (redoL k rs ρ) (eA rs σ) (fun n=>W n∨sH rs n):=by
 intro rs
 induction rs with
 | nil=>intro k ρ σ W h; exact h.iff fun n=>⟨.inl,fun q=>q.elim id fun ⟨r,I,_⟩=>(by cases I)⟩
 | cons r rs U =>
  intro k ρ σ W h
  refine (U (h.aR (k:=k))).iff fun n => ?_
  constructor
  ·rintro ((q | q) | ⟨J,I,q⟩)
   ·exact .inl q
   ·exact .inr ⟨r,br,q⟩
   ·exact .inr ⟨J,bp _ I,q⟩
  ·rintro (q | ⟨J,I,q⟩)
   ·exact .inl (.inl q)
   ·rcases List.mem_cons.1 I with rfl | I
    ·exact .inl (.inr q)
    ·exact .inr ⟨J,I,q⟩
theorem UQ (rs:List bR)(k:Nat)(σ:Int→List Nat): vz (redoL k rs gw.none) (eA rs σ) (sH rs) :=
 (vz.MF (ρ:=gw.none) (W:=fun _=>False) ⟨fun n b I=>(by cases I),fun n _ q=>q⟩).iff fun n=>⟨fun q=>q.elim False.elim id,.inr⟩
def kj (a b:List Nat): Prop:=a.length=512∧b.length=512∧a.drop 12=b.drop 12
theorem kj.symm {a b:List Nat}(h:kj a b): kj b a:=⟨h.2.1,h.1,h.2.2.symm⟩
theorem kj.trans {a b c:List Nat}(h:kj a b)(g:kj b c): kj a c:=⟨h.1,g.2.1,h.2.2.trans g.2.2⟩
theorem kj.refl {a:List Nat}(h:a.length=512): kj a a:=⟨h,h,rfl⟩
theorem IG {b:List Nat}{n:Nat}(h:b.length=512): kj (cO b n) b:=⟨(qj h).2.1,h,(qj h).1⟩
theorem kj.good {a b:List Nat}(h:kj a b): bT a=bT b:=Dw (h.1.trans h.2.1.symm) h.2.2
theorem MG {l m:List Nat}{a i:Nat}(h:a+m.length≤l.length): (dg l a m)[i]?=if a≤i∧i<a+m.length then m[i-a]? else l[i]?:=by
 have I:(l.take a).length=a:=by rw [dP]; omega
 rw [dg]
 by_cases J:i<a
 ·rw [kE (by omega),af (by omega),mj,aj J]
 ·rw [nT (by omega),I]
  by_cases U:i-a<m.length
  ·rw [kE U,aj (by omega)]
  ·rw [nT (by omega),af (by omega),jW]
   congr 1; omega
theorem Xt {pg:Int}{cV now:List Nat}{i:Nat}{l:List cn}(hr:uU pg cV now i l): ∀ {σ:Int→List Nat},now.length=512→(σ pg).length=512→12≤i→(∀j,12≤j→j<i→(σ pg)[j]?=now[j]?)→(∀j,i≤j→(σ pg)[j]?=cV[j]?) →
  (iM l σ pg).length=512∧(∀j,12≤j→(iM l σ pg)[j]?=now[j]?)∧∀n,n≠pg→iM l σ n=σ n:=by
 induction hr with
 | done i h =>
  intro σ hn hs h12 I J
  refine ⟨hs,fun j U => ?_,fun _ _=>rfl⟩
  by_cases Fe:j<i
  ·exact I j U Fe
  ·show (σ pg)[j]?=_
   rw [pE (by omega),pE (by omega)]
 | skip i l h he hr ih =>
  intro σ hn hs h12 I J
  refine ih hn hs (by omega) (fun j U Fe => ?_) (fun j U=>J j (by omega))
  by_cases e:j=i
  ·subst e; rw [J j (aI _),he]
  ·exact I j U (by omega)
 | take i e l h1 h2 _ _ hr ih =>
  intro σ hn hs h12 I J
  have hm:((now.take e).drop i).length=e-i:=by rw [nW,dP]; omega
  have hg:∀j,(dg (σ pg) i ((now.take e).drop i))[j]?=if i≤j∧j<e then now[j]? else (σ pg)[j]?:=fun j=>by
   rw [MG (by omega),hm]
   by_cases U:i≤j∧j<e
   ·rw [aj (by omega),aj U,jW,mj,aj (by omega)]
    congr 1; omega
   ·rw [af (by omega),af U]
  have hc:jv ⟨pg,i,false,(now.take e).drop i⟩ σ pg=dg (σ pg) i ((now.take e).drop i):=by rw [jv,aj rfl,af (by simp)]; rfl
  obtain ⟨k1,k2,k3⟩:=ih (σ:=jv ⟨pg,i,false,(now.take e).drop i⟩ σ) hn (by rw [hc,iO (by omega)]; exact hs) (by omega) (fun j U hje=>by
   rw [hc,hg]
   by_cases Fe:i≤j
   ·rw [aj ⟨Fe,hje⟩]
   ·rw [af (by omega)]; exact I j U (by omega)) (fun j U=>by rw [hc,hg,af (by omega)]; exact J j (by omega))
  refine ⟨k1,k2,fun n SU => ?_⟩
  have:=k3 n SU
  rw [show iM (⟨pg,i,false,(now.take e).drop i⟩::l) σ=iM l (jv ⟨pg,i,false,(now.take e).drop i⟩ σ) from rfl,this,jv,af SU]
theorem K3 {a b:List Nat}(I:a.length=512)(J:b.length=512)(h:∀j,12≤j→a[j]?=b[j]?): kj a b :=
 ⟨I,J,AF fun i=>by rw [jW,jW]; exact h _ (by omega)⟩
theorem Xu {pg:Int}{cV now:List Nat}{c:List cn}{σ:Int→List Nat}(hr:FI pg cV now c)(I:now.length=512)(hs:kj (σ pg) cV): kj (iM c σ pg) now∧∀n,n≠pg→iM c σ n=σ n:=by
 obtain ⟨l,hl,rfl⟩:=hr
 have hd:∀j,12≤j→(σ pg)[j]?=cV[j]?:=fun j U=>by
  have:=iZ (fun l:List Nat=>l[j-12]?) hs.2.2
  simp only [jW] at this
  rwa [show 12+(j-12)=j by omega] at this
 obtain ⟨k1,k2,k3⟩:=Xt hl I hs.1 (aI _) (fun j h1 h2=>by omega) hd
 by_cases J:l=[]
 ·rw [aj J]
  subst J
  have e:∀n,iM [⟨pg,0,false,[]⟩] σ n=σ n:=fun n=>by
   show jv ⟨pg,0,false,[]⟩ σ n=σ n
   rw [jv]
   by_cases I:n=pg
   ·rw [aj I,af (by simp)]
    simp [dg]
   ·rw [af I]
  exact ⟨K3 (by rw [e]; exact hs.1) I (fun j U=>by rw [e]; exact k2 j U),fun n _=>e n⟩
 ·rw [af J]
  exact ⟨K3 k1 I k2,k3⟩
def imgOf (δ:Dk)(n:Int): List Nat:=match δ.aq[n.toNat]? with
 | some (some b)=>b
 | _=>List.replicate 512 0
def qQ (δ:Dk)(n:Int)(w:List Nat): Prop:=w=imgOf δ n∨∃wr∈δ.waiting,((wr.1:Nat):Int)=n∧w=wr.2
def yC (δ:Dk)(n:Int): Prop:=0≤n∧n<(δ.aq.length:Int)
def u7 (r:bR)(n:Int): Prop:=∃c∈r.aR,c.aM=n
structure RI (ba:Nat)(mH:Int→Prop)(B0:Int→List Nat)(rs:List bR)(g:Int→Option Nat)(C:Int→List Nat→Prop)(d:List (Int×(Nat×Bool)))(x:LD): Prop where
 base:x.1.base=ba
 b:x.1.b=logB ba rs
 log:x.2.log=logB ba rs
 alive:x.2.dead=false
 aD:x.2.aD<0
 forced:∃u v,rs=u++v∧x.1.forced=szB u
 cert:x.1.forced≤x.2.aJ
 mI:∀n w t t',yC x.2 n→rs=t++t'→x.1.forced≤szB t→(∀rec,g n=some rec→ba+szB t≤rec)→qQ x.2 n w→kj (eA t B0 n) w
 aN:∀n rec,g n=some rec→∃t r t',rs=t++r::t'∧rec=ba+szB t∧Av r.aR n
 clean:∀n,g n=none→∀wr∈x.2.waiting,((wr.1:Nat):Int)≠n
 Aw:∀n b,C n b→∃rec t r t',lookL n d=some (rec,true)∧rs=t++r::t'∧dY b 4 8=ba+szB t∧rec≤ba+szB t∧(¬mH n→∀t1 r1 t2,rs=t1++r1::t2→u7 r1 n→szB t1≤szB t)
 flag:∀n rec,lookL n d=some (rec,false)→rec<ba+x.1.forced∧(¬mH n→∀t r t',rs=t++r::t'→u7 r n→szB t<x.1.forced)
 ft:∀n rec,lookL n d=some (rec,true)→∃b,C n b
 now:∀n b,lookL n x.2.now=some b→∃wr∈x.2.waiting,((wr.1:Nat):Int)=n∧wr.2=b
 sV:∀n rec fl,lookL n d=some (rec,fl)→g n=some rec
 BN:∀n rec,g n=some rec→mH n∨∃fl,lookL n d=some (rec,fl)
 ck:∀n w,0≤n→qQ x.2 n w→dN w=0
 K4:∀n,mH n→lookL n d=none→∃t r,rs=t++[r]∧g n=some (ba+szB t)
theorem RJ {δ:Dk}{n:Int}{b:List Nat}(I:δ.dead=false)(J:δ.aD<0)(U:0≤n)(h1:n<δ.aq.length)(hb:b.length=512): δ.bk n b=(0,{ δ with waiting:=δ.waiting++[(n.toNat,b)],now:=cN n b δ.now,aD:=δ.aD }):=by
 rw [Dk.bk,af (by rw [I]; decide),af (not_not_intro ⟨U,h1,hb⟩),af (by omega),Dk.wr,fP J]
theorem sI {u v:List bR}: szB u≤szB (u++v):=by rw [fS]; omega
theorem si (r:bR): 8≤r.len:=by simp only [bR.len]; omega
theorem wT {t t':List bR}{r:bR}: szB t<szB (t++r::t'):=by
 have:=si r
 rw [fS,szB]; omega
section
variable {ba:Nat} {mH:Int→Prop} {B0:Int→List Nat} {rs:List bR} {g:Int→Option Nat} {C:Int→List Nat→Prop} {d:List (Int×(Nat×Bool))} {x:LD}
theorem RI.len (h:RI ba mH B0 rs g C d x): x.1.b.length=szB rs:=by rw [h.b,gq]
theorem RI.le (h:RI ba mH B0 rs g C d x): x.1.forced≤szB rs:=by
 obtain ⟨u,v,hu,I⟩:=h.forced
 rw [I,hu]; exact sI
theorem RI.all (h:RI ba mH B0 rs g C d x): RI ba mH B0 rs g C d ({ x.1 with forced:=x.1.b.length },{ x.2 with aJ:=x.2.log.length }):=by
 have J:=h.len
 have hle:x.1.forced≤x.1.b.length:=by rw [J]; exact h.le
 refine ⟨h.base,h.b,h.log,h.alive,h.aD,⟨rs,[],by rw [bF],J⟩,by show x.1.b.length≤x.2.log.length; rw [h.b,h.log]; exact aI _,
  fun n w t t' h0 ht I hr hc=>h.mI n w t t' h0 ht (cy hle I) hr hc,h.aN,h.clean,h.Aw,fun n rec U=>⟨gI (h.flag n rec U).1 (vT hle _),fun hp t r t' e q=>gI ((h.flag n rec U).2 hp t r t' e q) hle⟩,h.ft,h.now,h.sV,h.BN,h.ck,h.K4⟩
theorem RI.force (h:RI ba mH B0 rs g C d x)(n:Nat)(U:n<ba+szB rs): ∃I,aT x n=(0,I)∧RI ba mH B0 rs g C d I∧n<ba+I.1.forced∧I.2.waiting=x.2.waiting∧I.2.aq=x.2.aq∧I.2.now=x.2.now:=by
 unfold aT
 by_cases J:n<x.1.base+x.1.forced
 ·rw [aj J]; exact ⟨x,rfl,h,by rw [←h.base]; exact J,rfl,rfl,rfl⟩
 ·have e:x.2.cg=(0,{ x.2 with aJ:=x.2.log.length }):=by
   rw [Dk.cg,af (by rw [h.alive]; decide),af (by have:=h.aD; omega),fP h.aD]
  rw [af J,e,af (by simp)]
  exact ⟨_,rfl,h.all,by show n<ba+x.1.b.length; rw [h.len]; exact U,rfl,rfl,rfl⟩
theorem RI.oD (N:Nat): j7 N (RI ba mH B0 rs g):=by
 refine ⟨fun ε i f he hf h0 hc h => ?_⟩
 have h:RI ba mH B0 rs g (iu ε.1) ε.1.aN ε.2:=h
 obtain ⟨rec,t0,r0,Xv,g1,g2,g3,g4,g5⟩:=h.Aw f.aM f.b ⟨i,f,hf,rfl,h0,hc,rfl⟩
 have qF:=(he.back i f hf).resolve_left (by omega)
 have hg:=qF.mD hc
 have hi:=(List.getElem?_eq_some_iff.1 hf).1
 obtain ⟨x',ji,h',bV,w1,w2,w3⟩:=h.force (dY f.b 4 8) (by rw [g3,g2]; have:=wT (t:=t0) (r:=r0) (t':=Xv); omega)
 have J:=RJ (δ:=x'.2) (n:=f.aM) (b:=f.b) h'.alive h'.aD h0 (by rw [w2,he.dk.aq]; exact qF.lt) (fy hg)
 have e:outF ε i=(0,({ ε.1 with ak:=ε.1.ak.set i { f with changed:=false },aN:=cN f.aM (mE ε.1 f.aM,false) ε.1.aN },(x'.1,{ x'.2 with waiting:=x'.2.waiting++[(f.aM.toNat,f.b)],now:=cN f.aM f.b x'.2.now,aD:=x'.2.aD }))):=by
  unfold outF
  rw [hf]
  simp only
  rw [af (by rintro (q | q); omega; rw [hc] at q; cases q),af (by rw [hg]; decide),ji]
  simp only [jZ,not_true_eq_false,bN]
  rw [J]
  simp only [jZ,not_true_eq_false,bN]
 have hdr:mE ε.1 f.aM=rec:=by simp only [mE,g1]
 have hC:∀n b,iu { ε.1 with ak:=ε.1.ak.set i { f with changed:=false },aN:=cN f.aM (mE ε.1 f.aM,false) ε.1.aN } n b→iu ε.1 n b∧n≠f.aM:=by
  rintro n b ⟨j,y,hy,k1,k0,k2,k3⟩
  rcases nO hf hy with ⟨rfl,rfl⟩ | ⟨um,hy⟩
  ·cases k2
  ·refine ⟨⟨j,y,hy,k1,k0,k2,k3⟩,fun I=>um ?_⟩
   have h1:=((he.back j y hy).resolve_left (by omega)).here
   rw [k1,I,qF.here] at h1
   have:=bx h1
   omega
 have S9:∀n b,iu ε.1 n b→n≠f.aM→iu { ε.1 with ak:=ε.1.ak.set i { f with changed:=false },aN:=cN f.aM (mE ε.1 f.aM,false) ε.1.aN } n b:=by
  rintro n b ⟨j,y,hy,k1,k0,k2,k3⟩ I
  refine ⟨j,y,?_,k1,k0,k2,k3⟩
  show (ε.1.ak.set i _)[j]?=some y
  rw [iU]
  ·exact hy
  ·rintro rfl
   rw [hf] at hy
   exact I (by rw [←k1,bx hy])
 have hd:∀m,lookL m (cN f.aM (rec,false) ε.1.aN)=if f.aM=m then some (rec,false) else lookL m ε.1.aN:=fun m=>gY _
 show RI ba mH B0 rs g (iu (outF ε i).2.1) (outF ε i).2.1.aN (outF ε i).2.2
 rw [e]
 simp only [hdr] at hC S9 ⊢
 have Fj:g f.aM=some rec:=h.sV _ _ _ g1
 refine ⟨h'.base,h'.b,h'.log,h'.alive,h'.aD,h'.forced,h'.cert,fun n w t t' sP ht sJ hr uA => ?_,h'.aN,fun n I wr J => ?_,fun n b hb => ?_,fun n U I => ?_,fun n U I => ?_,fun n b hb => ?_,fun n U fl I => ?_,fun n U I => ?_,fun n w sP uA => ?_,fun n hp I => ?_⟩
 ·by_cases I:f.aM=n
  ·exfalso
   have:=hr rec (by rw [←I]; exact Fj)
   have sJ:x'.1.forced≤szB t:=sJ
   omega
  ·have abh:qQ x'.2 n w:=by
    rcases uA with hq | ⟨wr,J,q1,q2⟩
    ·exact .inl hq
    ·rcases List.mem_append.1 J with J | J
     ·exact .inr ⟨wr,J,q1,q2⟩
     ·rw [List.mem_singleton.1 J] at q1
      simp only at q1
      omega
   exact h'.mI n w t t' sP ht sJ hr abh
 ·rcases List.mem_append.1 J with J | J
  ·exact h'.clean n I wr J
  ·rw [List.mem_singleton.1 J]
   intro q
   simp only at q
   rw [show n=f.aM by omega,Fj] at I
   cases I
 ·obtain ⟨k1,k2⟩:=hC n b hb
  obtain ⟨r',t,r,t',m1,m2⟩:=h.Aw n b k1
  exact ⟨r',t,r,t',by rw [hd,af (fun q=>k2 q.symm)]; exact m1,m2⟩
 ·rw [hd] at I
  by_cases hq:f.aM=n
  ·rw [aj hq] at I
   injection I with I
   injection I with I _
   refine ⟨by show U<ba+x'.1.forced; omega,fun hp t r t' ht ki => ?_⟩
   have:=g5 (by rw [hq]; exact hp) t r t' ht (by rw [hq]; exact ki)
   show szB t<x'.1.forced
   omega
  ·rw [af hq] at I
   exact h'.flag n U I
 ·rw [hd] at I
  by_cases hq:f.aM=n
  ·rw [aj hq] at I; cases I
  ·rw [af hq] at I
   obtain ⟨b,hb⟩:=h.ft n U I
   exact ⟨b,S9 n b hb (fun q=>hq q.symm)⟩
 ·rw [gY] at hb
  by_cases hq:f.aM=n
  ·rw [aj hq] at hb
   injection hb with hb
   exact ⟨(f.aM.toNat,f.b),List.mem_append.2 (.inr br),by simp only; omega,hb⟩
  ·rw [af hq] at hb
   obtain ⟨wr,k1,k2⟩:=h'.now n b hb
   exact ⟨wr,List.mem_append.2 (.inl k1),k2⟩
 ·rw [hd] at I
  by_cases hq:f.aM=n
  ·rw [aj hq] at I
   injection I with I
   injection I with I _
   rw [←hq,Fj,I]
  ·rw [af hq] at I
   exact h.sV n U fl I
 ·rcases h.BN n U I with q | ⟨fl,q⟩
  ·exact .inl q
  ·refine .inr ?_
   by_cases hq:f.aM=n
   ·exact ⟨false,by rw [hd,aj hq]; rw [←hq,Fj] at I; rw [bx I]⟩
   ·exact ⟨fl,by rw [hd,af hq]; exact q⟩
 ·rcases uA with hq | ⟨wr,J,q1,q2⟩
  ·exact h'.ck n w sP (.inl hq)
  ·rcases List.mem_append.1 J with J | J
   ·exact h'.ck n w sP (.inr ⟨wr,J,q1,q2⟩)
   ·rw [q2,List.mem_singleton.1 J]; exact qF.aC
 ·rw [hd] at I
  by_cases hq:f.aM=n
  ·rw [aj hq] at I; cases I
  ·rw [af hq] at I
   exact h.K4 n hp I
theorem RI.app (h:RI ba (fun _=>False) B0 rs g C d x){r:bR}(hw:∀n,g n=none→u7 r n→Av r.aR n){μ:Lg}{δ:Dk}(m1:μ.base=x.1.base)(m2:μ.b=logB ba (rs++[r]))(m3:μ.forced=x.1.forced)
 (e1:δ.log=logB ba (rs++[r]))(e2:δ.dead=x.2.dead)(e3:δ.aD=x.2.aD)(e4:δ.aJ=x.2.aJ)(e5:δ.waiting=x.2.waiting)(e6:δ.aq=x.2.aq)(e7:δ.now=x.2.now){p:Int→Prop}[DecidablePred p](hp:∀n,p n↔u7 r n):
  RI ba p B0 (rs++[r]) (fun n=>match g n with | some rec=>some rec | none=>if p n then some (ba+szB rs) else none) C d (μ,δ):=by
 have DG:∀n w,qQ δ n w→qQ x.2 n w:=fun n w hc=>by
  simp only [qQ,imgOf,e5,e6] at hc
  exact hc
 have MH:∀ {n rec},g n=some rec→(match g n with | some rec=>some rec | none=>if p n then some (ba+szB rs) else none)=some rec:=fun I=>by rw [I]
 have YU:∀ {n},(match g n with | some rec=>some rec | none=>if p n then some (ba+szB rs) else none)=none→g n=none∧¬p n:=fun {n} I=>by
  cases U:g n with
  | some rec=>rw [U] at I; cases I
  | none =>
   rw [U] at I
   simp only at I
   split at I
   ·cases I
   ·exact ⟨rfl,by assumption⟩
 have S_:∀ {n rec},(match g n with | some rec=>some rec | none=>if p n then some (ba+szB rs) else none)=some rec→g n=some rec∨(g n=none∧p n∧rec=ba+szB rs):=fun {n rec} I=>by
  cases U:g n with
  | some MI=>rw [U] at I; exact .inl I
  | none =>
   rw [U] at I
   simp only at I
   split at I
   ·exact .inr ⟨rfl,by assumption,(bx I).symm⟩
   ·cases I
 have Bi:∀ {n t r1 t'},rs++[r]=t++r1::t'→u7 r1 n→¬p n→∃II,rs=t++r1::II:=fun {n t r1 t'} ht hc I=>by
  rcases tB t' with rfl | ⟨II,z,rfl⟩
  ·have BO:rs++[r]=t++[r1]:=ht
   obtain ⟨_,e⟩:=m7 BO rfl
   injection e with e
   rw [←e] at hc
   exact absurd ((hp n).2 hc) I
  ·have BO:rs++[r]=(t++r1::II)++[z]:=by rw [ht]; simp
   exact ⟨II,(m7 BO rfl).1⟩
 refine ⟨m1.trans h.base,m2,e1,e2.trans h.alive,by show δ.aD<0; rw [e3]; exact h.aD,?_,by show μ.forced≤δ.aJ; rw [m3,e4]; exact h.cert,fun n w t t' h0 ht sJ hr hc => ?_,fun n rec I => ?_,fun n I => ?_,fun n b hb => ?_,fun n rec I => ?_,h.ft,fun n b hb => ?_,fun n rec fl I => ?_,fun n rec I => ?_,fun n w h0 hc=>h.ck n w h0 (DG n w hc),fun n J I=>⟨rs,r,rfl,?_⟩⟩
 ·obtain ⟨u,v,hu,hf⟩:=h.forced
  exact ⟨u,v++[r],by rw [hu,bH],by show μ.forced=_; rw [m3]; exact hf⟩
 ·have sJ:x.1.forced≤szB t:=by have:μ.forced≤szB t:=sJ; omega
  rcases tB t' with rfl | ⟨II,z,rfl⟩
  ·-- all of it
   rw [bF] at ht
   subst ht
   have hg:g n=none∧¬p n:=by
    cases U:g n with
    | some rec =>
     obtain ⟨a,b,c,k1,k2,_⟩:=h.aN n rec U
     have:=hr rec (MH U)
     have:=wT (t:=a) (r:=b) (t':=c)
     rw [←k1] at this
     have:=sI (u:=rs) (v:=[r])
     omega
    | none =>
     refine ⟨rfl,fun J => ?_⟩
     have:=hr (ba+szB rs) (by rw [U]; simp only; rw [aj J])
     have:=wT (t:=rs) (r:=r) (t':=[])
     omega
   have hs:eA (rs++[r]) B0 n=eA rs B0 n:=by
    rw [ng]
    show iM r.aR (eA rs B0) n=_
    have:∀(l:List cn) (σ:Int→List Nat),(∀c∈l,c.aM≠n)→iM l σ n=σ n:=by
     intro l
     induction l with
     | nil=>intro σ _; rfl
     | cons c l ih =>
      intro σ hl
      show iM l (jv c σ) n=σ n
      rw [ih _ (fun c hc=>hl c (bp _ hc)),jv,af (fun q=>hl c br q.symm)]
    exact this _ _ fun c hc q=>hg.2 ((hp n).2 ⟨c,hc,q⟩)
   rw [hs]
   exact h.mI n w rs [] (by rw [yC,←e6]; exact h0) (by rw [bF]) h.le (fun rec q=>by rw [hg.1] at q; cases q) (DG n w hc)
  ·have BO:rs++[r]=(t++II)++[z]:=by rw [ht]; simp
   have Xw:=(m7 BO rfl).1
   exact h.mI n w t II (by rw [yC,←e6]; exact h0) Xw sJ (fun rec q=>hr rec (MH q)) (DG n w hc)
 ·rcases S_ I with U | ⟨U,J,rfl⟩
  ·obtain ⟨a,b,c,k1,k2,k3⟩:=h.aN n rec U
   exact ⟨a,b,c++[r],by rw [k1]; simp,k2,k3⟩
  ·exact ⟨rs,r,[],rfl,rfl,hw n U ((hp n).1 J)⟩
 ·show ∀wr∈δ.waiting,_
  rw [e5]
  exact h.clean n (YU I).1
 ·obtain ⟨rec,t,r1,t',k1,k2,k3,k4,k5⟩:=h.Aw n b hb
  refine ⟨rec,t,r1,t'++[r],k1,by rw [k2]; simp,k3,k4,fun J t1 r2 t2 e q => ?_⟩
  obtain ⟨t3,e3⟩:=Bi e q J
  exact k5 (fun q=>q) t1 r2 t3 e3 q
 ·obtain ⟨k1,k2⟩:=h.flag n rec I
  refine ⟨by show rec<ba+μ.forced; rw [m3]; exact k1,fun J t r1 t' e q => ?_⟩
  obtain ⟨t3,e3⟩:=Bi e q J
  show szB t<μ.forced
  rw [m3]
  exact k2 (fun q=>q) t r1 t3 e3 q
 ·obtain ⟨wr,k1,k2⟩:=h.now n b (by rw [←e7]; exact hb)
  exact ⟨wr,by show wr∈δ.waiting; rw [e5]; exact k1,k2⟩
 ·exact MH (h.sV n rec fl I)
 ·rcases S_ I with U | ⟨U,J,rfl⟩
  ·rcases h.BN n rec U with q | q
   ·exact q.elim
   ·exact .inr q
  ·exact .inl J
 ·cases U:g n with
  | none=>simp only; rw [aj J]
  | some rec =>
   rcases h.BN n rec U with q | ⟨fl,q⟩
   ·exact q.elim
   ·rw [I] at q; cases q
end
theorem RK {b:List Nat}{n:Nat}(I:b.length=512)(J:n<18446744073709551616): dY (cO b n) 4 8=n:=by
 have U:=(qj (n:=n) I).2.2.1
 have e1:dY (cO b n) 4 8=leN (((cO b n).drop 4).take 8):=by rw [dY,tJ]
 have h4:(b.take 4).length=4:=by rw [dP]; omega
 have e2:(nj b n).drop 4=le 8 n++b.drop (4+(le 8 n).length):=by
  rw [nj,dg,DM (by omega),tA (by omega),cW]
 rw [e1,U,e2,pq (by rw [cR]; omega),fR (by rw [cR]; omega),qL]
 exact gJ J
theorem lookL_filter {n:Int}: ∀ {d:List (Int×(Nat×Bool))},(d.map (·.1)).Nodup→lookL n (d.filter fun e=>e.2.2)=match lookL n d with | some (rec,true)=>some (rec,true) | _=>none:=by
 intro d
 induction d with
 | nil=>intro _; rfl
 | cons e d J =>
  intro U
  obtain ⟨h1,h2⟩:=List.nodup_cons.1 U
  obtain ⟨k,rec,fl⟩:=e
  have J:=J h2
  cases fl with
  | true =>
   rw [List.filter_cons_of_pos (by rfl)]
   simp only [lookL]
   by_cases I:k=n
   ·rw [aj I,aj I]
   ·rw [af I,af I,J]
  | false =>
   rw [List.filter_cons_of_neg (by simp),J]
   simp only [lookL]
   by_cases I:k=n
   ·rw [aj I,fD.2 (by rw [←I]; exact h1)]
   ·rw [af I]
section
variable {N ba:Nat} {mH:Int→Prop} {B0:Int→List Nat} {rs:List bR} {g:Int→Option Nat} {ε ε':aO}
theorem jT {p:Int→Prop}: vw (RI ba p B0 rs g) ε↔RI ba p B0 rs g (iu ε.1) ε.1.aN ε.2:=Iff.rfl
theorem RI.put (h:vw (RI ba mH B0 rs g) ε)(he:EC N ε){n:Int}{i:Nat}{f:Fm}{b:List Nat}{aK:Nat}(hl:lookL n ε.1.aE=some (i:Int))(hf:ε.1.ak[i]?=some f)(hb:b.length=512)(h0:0≤n)(hp:mH n)
 (Bi:∃t r,rs=t++[r]∧aK=ba+szB t)(bV:aK<18446744073709551616): vw (RI ba (fun m=>mH m∧m≠n) B0 rs g) (uW ε.1 n i f b aK,ε.2):=by
 have h:=jT.1 h
 have hi:=(List.getElem?_eq_some_iff.1 hf).1
 obtain ⟨t0,r0,e0,e1⟩:=Bi
 have nJ:f.aM=n:=by
  obtain ⟨_,j,x,um,hx,wQ⟩:=he.jR n i hl
  have:i=j:=by omega
  subst this
  rw [hf] at hx
  rw [bx hx]; exact wQ
 have J:∀m,lookL m (cN n (cL ε.1 n aK,true) ε.1.aN)=if n=m then some (cL ε.1 n aK,true) else lookL m ε.1.aN:=fun m=>gY _
 have hg:g n=some (cL ε.1 n aK)∧cL ε.1 n aK≤aK:=by
  cases I:lookL n ε.1.aN with
  | some x =>
   obtain ⟨rec,fl⟩:=x
   have:=h.sV n rec fl I
   have e:cL ε.1 n aK=rec:=by simp only [cL,I]
   rw [e]
   refine ⟨this,?_⟩
   obtain ⟨a,c,a',k1,k2,_⟩:=h.aN n rec this
   rw [k2,e1]
   have:szB a≤szB t0:=by
    rcases tB a' with rfl | ⟨yU,z,rfl⟩
    ·have:t0++[r0]=a++[c]:=by rw [←e0,k1]
     rw [(m7 this rfl).1]; exact aI _
    ·have:t0++[r0]=(a++c::yU)++[z]:=by rw [←e0,k1]; simp
     rw [(m7 this rfl).1]; exact sI
   omega
  | none =>
   have e:cL ε.1 n aK=aK:=by simp only [cL,I]
   obtain ⟨t,r,k1,k2⟩:=h.K4 n hp I
   rw [e,k2]
   have:t0++[r0]=t++[r]:=by rw [←e0,k1]
   rw [e1,(m7 this rfl).1]
   exact ⟨rfl,aI _⟩
 have hC:∀m c,iu (uW ε.1 n i f b aK) m c→(m=n∧c=cO b aK)∨(m≠n∧iu ε.1 m c):=by
  rintro m c ⟨j,y,U,k1,k0,k2,k3⟩
  rcases nO hf U with ⟨rfl,rfl⟩ | ⟨um,U⟩
  ·exact .inl ⟨by rw [←k1]; exact nJ,k3.symm⟩
  ·refine .inr ⟨fun W6=>um ?_,j,y,U,k1,k0,k2,k3⟩
   have h1:=((he.back j y U).resolve_left (by omega)).here
   rw [k1,W6,hl] at h1
   have:=bx h1
   omega
 have S9:iu (uW ε.1 n i f b aK) n (cO b aK):=⟨i,{ f with b:=cO b aK,changed:=true,pins:=0 },by show (ε.1.ak.set i _)[i]?=_; exact iT hi,nJ,h0,rfl,rfl⟩
 have hC3:∀m c,m≠n→iu ε.1 m c→iu (uW ε.1 n i f b aK) m c:=by
  rintro m c hm ⟨j,y,U,k1,k0,k2,k3⟩
  refine ⟨j,y,?_,k1,k0,k2,k3⟩
  show (ε.1.ak.set i _)[j]?=some y
  rw [iU]
  ·exact U
  ·rintro rfl
   rw [hf] at U
   exact hm (by rw [←k1,←bx U]; exact nJ)
 have hpn:∀ {m},m≠n→¬(mH m∧m≠n)→¬mH m:=fun hm I iG=>I ⟨iG,hm⟩
 refine ⟨h.base,h.b,h.log,h.alive,h.aD,h.forced,h.cert,h.mI,h.aN,h.clean,fun m c hc => ?_,fun m rec hm => ?_,fun m rec hm => ?_,h.now,fun m rec fl hm => ?_,fun m rec hm => ?_,h.ck,fun m hm I => ?_⟩
 ·rcases hC m c hc with ⟨rfl,rfl⟩ | ⟨hm,hc⟩
  ·refine ⟨cL ε.1 m aK,t0,r0,[],?_,e0,?_,?_,fun _ t1 r1 t2 q _ => ?_⟩
   ·show lookL m (cN m _ _)=_; rw [J,aj rfl]
   ·rw [RK hb bV,e1]
   ·rw [←e1]; exact hg.2
   ·rcases tB t2 with rfl | ⟨t3,z,rfl⟩
    ·have:t0++[r0]=t1++[r1]:=by rw [←e0,q]
     rw [(m7 this rfl).1]; exact aI _
    ·have:t0++[r0]=(t1++r1::t3)++[z]:=by rw [←e0,q]; simp
     rw [(m7 this rfl).1]; exact sI
  ·obtain ⟨rec,t,r,t',k1,k2,k3,k4,k5⟩:=h.Aw m c hc
   exact ⟨rec,t,r,t',by show lookL m (cN n _ _)=_; rw [J,af (fun q=>hm q.symm)]; exact k1,k2,k3,k4,fun q=>k5 (hpn hm q)⟩
 ·have hm:lookL m (cN n (cL ε.1 n aK,true) ε.1.aN)=some (rec,false):=hm
  rw [J] at hm
  by_cases I:n=m
  ·rw [aj I] at hm; cases hm
  ·rw [af I] at hm
   obtain ⟨k1,k2⟩:=h.flag m rec hm
   exact ⟨k1,fun q=>k2 (hpn (fun q=>I q.symm) q)⟩
 ·have hm:lookL m (cN n (cL ε.1 n aK,true) ε.1.aN)=some (rec,true):=hm
  rw [J] at hm
  by_cases I:n=m
  ·subst I; exact ⟨_,S9⟩
  ·rw [af I] at hm
   obtain ⟨c,hc⟩:=h.ft m rec hm
   exact ⟨c,hC3 m c (fun q=>I q.symm) hc⟩
 ·have hm:lookL m (cN n (cL ε.1 n aK,true) ε.1.aN)=some (rec,fl):=hm
  rw [J] at hm
  by_cases I:n=m
  ·rw [aj I] at hm
   injection hm with hm
   injection hm with hm _
   rw [←I,hg.1,hm]
  ·rw [af I] at hm
   exact h.sV m rec fl hm
 ·by_cases I:n=m
  ·subst I
   rw [hg.1] at hm
   exact .inr ⟨true,by show lookL n (cN n _ _)=_; rw [J,aj rfl,bx hm]⟩
  ·rcases h.BN m rec hm with q | ⟨fl,q⟩
   ·exact .inl ⟨q,fun q=>I q.symm⟩
   ·exact .inr ⟨fl,by show lookL m (cN n _ _)=_; rw [J,af I]; exact q⟩
 ·have I:lookL m (cN n (cL ε.1 n aK,true) ε.1.aN)=none:=I
  rw [J,af (fun q=>hm.2 q.symm)] at I
  exact h.K4 m hm.1 I
theorem qK.ri {now:List (Int×List Nat)}{aK:Nat}{l:List Int}{e:Int}(J:qK now aK l ε e ε'): ∀ {p:Int→Prop},EC N ε→gW ε→NW N now→(∀n∈l,0≤n∧n<N)→l.Nodup→(∀n∈l,p n)→(∃t r,rs=t++[r]∧aK=ba+szB t)→aK<18446744073709551616 →
  vw (RI ba p B0 rs g) ε→vw (RI ba (fun m=>p m∧m∉l) B0 rs g) ε':=by
 induction J with
 | nil ε =>
  intro p _ _ _ _ _ _ _ _ hv
  have:(fun m=>p m∧m∉([]:List Int))=p:=funext fun m=>propext ⟨fun q=>q.1,fun q=>⟨q,by simp⟩⟩
  rw [this]; exact hv
 | jf n l ε e b ε' J he =>
  intro p h h3 hn hl
  have:=hl n br
  exact absurd ((J.ec h).2.2.1 this.1 this.2).1 he
 | bad n l ε b0 b ε' J hb he =>
  intro p h h3 hn hl
  exact absurd ((J.put (b:=b) (aK:=aK) h3).2.2 (hn.look hb).1) he
 | put n l ε b0 b ε' e qg J hb he ht ih =>
  intro p h h3 hn hl nk hp I bV hv
  have U:=hl n br
  obtain ⟨k1,k2,k3,k4⟩:=J.ec h
  obtain ⟨i,f,p1,p2,p3,p4,p5⟩:=J.at h3.pins
  have hg:=hn.look hb
  have e1:=xN (aK:=aK) p1 p2 p3 hg.1
  obtain ⟨q1,q2⟩:=k1.put (aK:=aK) p1 p2 hg.1 hg.2 U.1 U.2
  have GC:=(J.put (b:=b) (aK:=aK) h3).1
  have uN:vw (RI ba p B0 rs g) ε':=(RI.oD N).jf J h hv
  have oz:=RI.put uN k1 p1 p2 (fy hg.1) U.1 (hp n br) I bV
  rw [e1] at ih GC
  obtain ⟨d1,d2⟩:=List.nodup_cons.1 nk
  have:=ih q1 GC hn (fun m hm=>hl m (bp _ hm)) d2 (p:=fun m=>p m∧m≠n) (fun m hm=>⟨hp m (bp _ hm),fun q=>d1 (by rw [←q]; exact hm)⟩) I bV oz
  have e:(fun m=>(p m∧m≠n)∧m∉l)=(fun m=>p m∧m∉n::l):=funext fun m=>propext ⟨fun q=>⟨q.1.1,by simp only [fo,pP]; exact ⟨q.1.2,q.2⟩⟩,fun q=>by
   have:=q.2
   simp only [fo,pP] at this
   exact ⟨⟨q.1,this.1⟩,this.2⟩⟩
  rw [←e]; exact this
end
end Go.Proofs.YtconhghphklfjaaGreat.Am
