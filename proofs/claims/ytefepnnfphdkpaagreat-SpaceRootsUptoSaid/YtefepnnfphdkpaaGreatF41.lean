/- SpaceRoots: a part of its proof; conditions: its statement's. -/
import Derived.Test.YtefepnnfphdkpaaGreatF40
namespace Go.Proofs.YtefepnnfphdkpaaGreat.Am
open Go
structure LR (B0 aH:Nat)(mk:List Nat)(rs:List bZ)(x:LD): Prop where
 base:x.1.base=B0
 b:x.1.b=logB B0 rs
 cF:x.1.cF=lE 0 rs
 check:x.1.check=aH
 log:x.2.log=logB B0 rs
 alive:x.2.dead=false
 aP:x.2.aP<0
 mark:x.2.mark=mk
 eE:x.2.eE=none
 tail:x.2.tail=[]
 wait:∀w∈x.2.waiting,w.1<x.2.ax.length∧w.2.length=512
 rs:∀r∈rs,r.Ok
theorem Bk (base aH:Nat)(mk:List Nat)(rs:List bZ): kJ (LR base aH mk rs):=by
 refine ⟨fun x n h => ?_,fun x n b h => ?_⟩
 ·unfold bE
  split
  ·exact h
  ·have e:x.2.cK=(0,{ x.2 with bp:=x.2.log.length }):=by
    rw [Dk.cK,ah (by rw [h.alive]; decide),ah (by have:=h.aP; omega),j4 h.aP]
   rw [e,ah (by simp)]
   exact ⟨h.base,h.b,h.cF,h.check,h.log,h.alive,h.aP,h.mark,h.eE,h.tail,h.wait,h.rs⟩
 ·unfold Dk.bK
  rw [ah (by rw [h.alive]; decide)]
  split
  ·exact h
  ·rename_i I
   rw [ah (by have:=h.aP; omega)]
   refine ⟨h.base,h.b,h.cF,h.check,h.log,h.alive,?_,h.mark,h.eE,h.tail,fun w hw => ?_,h.rs⟩
   ·show x.2.c8.aP<0
    rw [j4 h.aP]; exact h.aP
   ·rcases List.mem_append.1 hw with hw | hw
    ·exact h.wait w hw
    ·rw [List.mem_singleton.1 hw]
     have I:=Classical.not_not.1 I
     exact ⟨by show n.toNat<x.2.ax.length; omega,I.2.2⟩
theorem M_ {kd:Int}{tx pv nx:Nat}{data:List Nat}{aM:List cq}: data.length≤(dK kd tx pv nx data aM).length∧aM.length≤(dK kd tx pv nx data aM).length:=by
 have:=IV aM
 simp only [dK,bx,aS,bT]
 omega
theorem LR.app {base aH kd tx:Nat}{mk:List Nat}{rs:List bZ}{x:LD}{data:List Nat}{c:List cq}(h:LR base aH mk rs x)(hk:1≤kd)(hg:dD kd c=true)(ht:tx<65536)
 (ha:(bA x kd tx 0 0 data c).1.2=0): ∃r:bZ,r.Ok∧r.kd=kd∧r.tx=tx∧r.pv=0∧r.nx=0∧r.data=data∧r.aM=c∧(bA x kd tx 0 0 data c).1.1=base+szB rs∧LR base aH mk (rs++[r]) (bA x kd tx 0 0 data c).2∧logB base (rs++[r])=logB base rs++dI x.1 kd tx 0 0 data c∧(logB base rs).length+(dI x.1 kd tx 0 0 data c).length≤x.2.room:=by
 rcases jl x kd tx 0 0 data c with ⟨e,he,_,hq⟩ | ⟨_,hf,_⟩ | ⟨_,hb,hd,dZ,hf,hq⟩
 ·rw [hq] at ha; exact absurd ha he
 ·have:=h.aP; omega
 ·rw [j4 h.aP] at hq
  have abU:=M_ (kd:=kd) (tx:=tx) (pv:=0) (nx:=0) (data:=data) (aM:=c)
  have hr:(bZ.mk kd tx 0 0 data c).Ok:=⟨hg,⟨by show tx<_; omega,by show 0<_; decide,by show 0<_; decide,by show data.length≤_; omega,by show c.length≤_; omega⟩,hb⟩
  have hl:(logB base rs).length=szB rs:=f_
  have hn:dI x.1 kd tx 0 0 data c=iq (base+szB rs) (bZ.mk kd tx 0 0 data c).bd:=by rw [dI,h.base,h.b,hl]; rfl
  have I:logB base (rs++[bZ.mk kd tx 0 0 data c])=logB base rs++dI x.1 kd tx 0 0 data c:=by rw [yb,hn]; simp only [logB,bR]
  have hof:lE 0 (rs++[bZ.mk kd tx 0 0 data c])=lE 0 rs++[szB rs]:=by rw [I3,dH]; rfl
  refine ⟨bZ.mk kd tx 0 0 data c,hr,rfl,rfl,rfl,rfl,rfl,rfl,?_,?_,I,by rw [←h.log]; exact dZ⟩
  ·rw [hq]; show x.1.base+x.1.b.length=_; rw [h.base,h.b,hl]
  ·rw [hq]
   refine ⟨h.base,?_,?_,h.check,?_,h.alive,h.aP,h.mark,h.eE,h.tail,h.wait,fun r J => ?_⟩
   ·show x.1.b++_=_; rw [h.b,I]
   ·show x.1.cF++[x.1.b.length]=_; rw [h.cF,h.b,hl,hof]
   ·show x.2.log++_=_; rw [h.log,I]
   ·rcases List.mem_append.1 J with J | J
    ·exact h.rs r J
    ·rw [List.mem_singleton.1 J]; exact hr
theorem Vt : ∀(rs:List bZ) (n K:Nat),(∀r∈rs,r.Ok)→∃dw fP j,rs=dw++fP∧(logB n rs).take K=logB n dw++j∧rD j:=by
 intro rs
 induction rs with
 | nil=>intro n K _; exact ⟨[],[],[],rfl,by simp [logB],.inl (by decide)⟩
 | cons r rs ih =>
  intro n K I
  have hr:=I r bu
  by_cases hK:r.len≤K
  ·obtain ⟨dw,fP,j,h1,h2,h3⟩:=ih (n+r.len) (K-r.len) (fun x hx=>I x (bn _ hx))
   refine ⟨r::dw,fP,j,by rw [h1]; rfl,?_,h3⟩
   have J:(iq n r.bd).length=r.len:=by rw [sg]; rfl
   rw [logB,sX,dO (by omega),J,h2,logB,bS]
  ·refine ⟨[],r::rs,(iq n r.bd).take K,rfl,?_,?_⟩
   ·have J:(iq n r.bd).length=r.len:=by rw [sg]; rfl
    show List.take K (iq n r.bd++logB (n+r.len) rs)=[]++_
    rw [nO (by omega),cZ]
   ·by_cases h8:K<8
    ·exact .inl (by rw [dM]; omega)
    ·right
     have J:(iq n r.bd).length=r.len:=by rw [sg]; rfl
     have h4:((iq n r.bd).take K).take 4=le 4 r.bd.length:=by
      rw [qM,nQ (by omega),iq,bS,nO (by rw [cy]; omega),dO (by rw [cy]; omega)]
     have hb:=hr.len
     have hlen:r.len=8+r.bd.length:=rfl
     rw [h4,r7,dM,gY (by simp; omega)]
     omega
structure Lv (δ:Dk): Prop where
 alive:δ.dead=false
 aP:δ.aP<0
theorem Lv.dG {δ:Dk}{n:Nat}(h:Lv δ): (δ.dG n).1=0∧Lv (δ.dG n).2:=by
 unfold Dk.dG
 split
 ·rename_i I
  unfold Dk.qq
  rw [ah (by rw [h.alive]; decide),ah (by omega),ah (by have:=h.aP; omega),j4 h.aP]
  exact ⟨rfl,h.alive,h.aP⟩
 ·exact ⟨rfl,h⟩
theorem Lv.cK {δ:Dk}(h:Lv δ): δ.cK.1=0∧Lv δ.cK.2:=by
 unfold Dk.cK
 rw [ah (by rw [h.alive]; decide),ah (by have:=h.aP; omega),j4 h.aP]
 exact ⟨rfl,h.alive,h.aP⟩
theorem Lv.cH {δ:Dk}{n:Nat}(h:Lv δ): (δ.cH n).1=0∧Lv (δ.cH n).2:=by
 obtain ⟨J,I⟩:=h.dG (n:=n)
 unfold Dk.cH
 rw [ah (not_not_intro J)]
 split
 ·exact I.cK
 ·exact ⟨rfl,I⟩
theorem Lv.bK {δ:Dk}{n:Int}{b:List Nat}(h:Lv δ)(I:0≤n)(J:n<δ.ax.length)(hb:b.length=512): (δ.bK n b).1=0∧Lv (δ.bK n b).2:=by
 unfold Dk.bK
 rw [ah (by rw [h.alive]; decide),ah (not_not_intro ⟨I,J,hb⟩),ah (by have:=h.aP; omega)]
 refine ⟨rfl,h.alive,?_⟩
 show δ.c8.aP<0
 rw [j4 h.aP]; exact h.aP
theorem Lv.again {ρ:gu}(J:ρ.Ok): ∀ {l:List Int} {δ:Dk},(∀k∈l,0≤k)→Lv δ→(againW ρ l δ).1=0∧Lv (againW ρ l δ).2:=by
 intro l
 induction l with
 | nil=>intro δ _ h; exact ⟨rfl,h⟩
 | cons k l ih =>
  intro δ hl h
  have I:∀k∈l,0≤k:=fun x hx=>hl x (bn _ hx)
  rw [againW]
  cases hq:lookL k ρ.ax with
  | none=>exact ih I h
  | some b =>
   simp only
   split
   ·rename_i hg
    have hb:b.length=512:=J.len _ (gU hq)
    obtain ⟨w1,w2⟩:=h.bK (n:=k) (b:=cM b (od ρ k)) (hl k bu) hg.2 (nJ hb).2.1
    rw [ah (not_not_intro w1)]
    exact ih I w2
   ·exact ih I h
theorem Lv.iQ {δ:Dk}(h:Lv δ): δ.iQ.1=0∧Lv δ.iQ.2:=by
 rw [Dk.iQ,ah (by rw [h.alive]; decide),ah (by have:=h.aP; omega),j4 h.aP]
 exact ⟨rfl,h.alive,h.aP⟩
theorem Lv.eC {δ:Dk}{base:Nat}{rs dw fP:List bZ}(h:Lv δ)(J:∀r∈fP,r.Ok): (eC δ base rs dw fP).1=0∧Lv (eC δ base rs dw fP).2:=by
 have I:(redoL (base+szB dw) fP gu.none).Ok:=Cj Bj J
 obtain ⟨o1,o2⟩:=h.cH (n:=szB rs)
 unfold Am.eC mu
 rw [ah (not_not_intro o1)]
 obtain ⟨a1,a2⟩:=Lv.again I (l:=bU (redoL (base+szB dw) fP gu.none).ax) (fun k hk=>(I.low k (Cl.1 hk)).1) o2
 rw [ah (not_not_intro a1)]
 split
 ·exact ⟨rfl,a2⟩
 ·exact a2.iQ
theorem LR.cr {base aH:Nat}{mk:List Nat}{rs:List bZ}{x:LD}(h:LR base aH mk rs x)(I:x.2.Ok)(hw:x.2.waiting.length≤268435456)(hm:mk.length≤64): x.2.Cr :=
 ⟨I,h.wait,hw,(fun w J=>by rw [h.eE] at J; cases J),(by rw [h.tail]; have:=I.len; simpa using this),(by rw [h.mark]; exact hm)⟩
theorem SC {δ:Dk}{c:List Nat}: Lv (fC δ c):=⟨rfl,by show (-1:Int)<0; decide⟩
theorem Lp {P:List (Option (List Nat))}{i:Nat}{x:List Nat}(h:∀(j:Nat) (b:List Nat),P[j]?=some (some b)→b.length=512)(J:x.length=512): ∀(j:Nat) (b:List Nat),(P.set i (some x))[j]?=some (some b)→b.length=512:=fun j b I=>by
 rw [qH] at I
 split at I
 ·split at I
  ·injection I with I; injection I with I; rw [←I]; exact J
  ·cases I
 ·exact h j b I
theorem SD {δ:Dk}{c:List Nat}(h:δ.Cr): ow (fC δ c) 65536∧(fC δ c).ax.length=δ.ax.length:=by
 have hl:=h.ok.len
 have hr:=h.ok.room
 have hc:=h.ok.bp
 have hlen:(fC δ c).ax.length=δ.ax.length:=by
  show (tornP c _ _ δ.eE).length=_
  cases δ.eE with
  | none=>exact tI
  | some w=>rw [tornP,bW,tI]
 have J:=Lk (c:=c) (i:=0) (fun w hw=>(h.wait w hw).2) h.ok.ax
 have Dw:∀(j:Nat) (b:List Nat),(fC δ c).ax[j]?=some (some b)→b.length=512:=by
  show ∀(j:Nat) (b:List Nat),(tornP c _ _ δ.eE)[j]?=some (some b)→b.length=512
  cases ht:δ.eE with
  | none=>exact J
  | some w =>
   have hw:=(h.eE w ht).2
   refine Lp J ?_
   have I:((layW c 0 δ.waiting δ.ax).getD w.1 none).getD []=[]∨(((layW c 0 δ.waiting δ.ax).getD w.1 none).getD []).length=512:=by
    rw [dU]
    cases hq:(layW c 0 δ.waiting δ.ax)[w.1]? with
    | none=>exact .inl rfl
    | some o =>
     cases o with
     | none=>exact .inl rfl
     | some b=>exact .inr (J _ _ hq)
   have h2:(aV (List.replicate 512 0) 0 (((layW c 0 δ.waiting δ.ax).getD w.1 none).getD [])).length=512:=by
    rw [cz (by rw [cY]; rcases I with I | I <;> rw [I] <;> decide),cY]
   rw [cz (by rw [h2,dM]; omega),h2]
 refine ⟨⟨⟨by show (-1:Int)<_; decide,?_,hr,fun e he=>(by cases he),Dw,aD _,by rw [hlen]; exact h.ok.many⟩,by show 0+65536≤_; decide,fun e he=>(by cases he)⟩,hlen⟩
 show (r_ δ c).length≤_
 have ht:=h.tail
 rw [r_,bx,dM,dM,bx,vU]
 omega
def jm (c:cq)(σ:Int→List Nat): Int→List Nat:=fun n=>if n=c.aL then (if c.whole=true then c.b else aV (σ n) c.pos.toNat c.b) else σ n
def iS (cs:List cq)(σ:Int→List Nat): Int→List Nat:=cs.foldl (fun σ c=>jm c σ) σ
def fO (rs:List bZ)(σ:Int→List Nat): Int→List Nat:=rs.foldl (fun σ r=>iS r.aM σ) σ
theorem wS {x y:List bZ}{σ:Int→List Nat}: fO (x++y) σ=fO y (fO x σ):=by simp only [fO,List.foldl_append]
theorem I6 {x y:List cq}{σ:Int→List Nat}: iS (x++y) σ=iS y (iS x σ):=by simp only [iS,List.foldl_append]
def Ak (cs:List cq)(n:Int): Prop:=∃c∈cs,c.aL=n∧c.whole=true
def si (rs:List bZ)(n:Int): Prop:=∃r∈rs,Ak r.aM n
structure vq (ρ:gu)(σ:Int→List Nat)(W:Int→Prop): Prop where
 some:∀n b,lookL n ρ.ax=some b→b=σ n∧W n
 none:∀n,lookL n ρ.ax=none→¬W n
theorem vq.nF {ρ:gu}{σ:Int→List Nat}{W:Int→Prop}(h:vq ρ σ W)(k:Nat)(c:cq): vq (chgF k c ρ) (jm c σ) (fun n=>W n∨(c.aL=n∧c.whole=true)):=by
 unfold chgF
 by_cases hw:c.whole=true
 ·rw [aj hw]
  refine ⟨fun n b I => ?_,fun n I => ?_⟩
  ·rw [gS] at I
   by_cases J:c.aL=n
   ·rw [aj J] at I
    injection I with I
    exact ⟨by rw [jm,aj J.symm,aj hw,I],.inr ⟨J,hw⟩⟩
   ·rw [ah J] at I
    have:=h.some n b I
    exact ⟨by rw [jm,ah (fun e=>J e.symm)]; exact this.1,.inl this.2⟩
  ·rw [gS] at I
   by_cases J:c.aL=n
   ·rw [aj J] at I; cases I
   ·rw [ah J] at I
    rintro (q | q)
    ·exact h.none n I q
    ·exact J q.1
 ·rw [ah hw]
  cases hl:lookL c.aL ρ.ax with
  | none =>
   refine ⟨fun n b I => ?_,fun n I => ?_⟩
   ·have:=h.some n b I
    refine ⟨?_,.inl this.2⟩
    rw [jm,ah (fun e=>by rw [e,hl] at I; cases I)]
    exact this.1
   ·rintro (q | q)
    ·exact h.none n I q
    ·exact hw q.2
  | some x =>
   have hx:=h.some _ x hl
   refine ⟨fun n b I => ?_,fun n I => ?_⟩
   ·simp only at I
    rw [gS] at I
    by_cases J:c.aL=n
    ·rw [aj J] at I
     injection I with I
     refine ⟨?_,.inl (by rw [←J]; exact hx.2)⟩
     rw [jm,aj J.symm,ah hw,←J,←hx.1,I]
    ·rw [ah J] at I
     have:=h.some n b I
     exact ⟨by rw [jm,ah (fun e=>J e.symm)]; exact this.1,.inl this.2⟩
   ·simp only at I
    rw [gS] at I
    by_cases J:c.aL=n
    ·rw [aj J] at I; cases I
    ·rw [ah J] at I
     rintro (q | q)
     ·exact h.none n I q
     ·exact hw q.2
theorem vq.iff {ρ:gu}{σ:Int→List Nat}{W J:Int→Prop}(h:vq ρ σ W)(hw:∀n,W n↔J n): vq ρ σ J:=⟨fun n b I=>⟨(h.some n b I).1,(hw n).1 (h.some n b I).2⟩,fun n I q=>h.none n I ((hw n).2 q)⟩
theorem vq.aM {k:Nat}: ∀ {cs:List cq} {ρ:gu} {σ:Int→List Nat} {W:Int→Prop},vq ρ σ W→vq (DM k cs ρ) (iS cs σ) (fun n=>W n∨Ak cs n):=by
 intro cs
 induction cs with
 | nil=>intro ρ σ W h; exact h.iff fun n=>⟨.inl,fun q=>q.elim id fun ⟨c,I,_⟩=>(by cases I)⟩
 | cons c cs J =>
  intro ρ σ W h
  refine (J (h.nF k c)).iff fun n => ?_
  constructor
  ·rintro ((q | q) | ⟨c',I,q⟩)
   ·exact .inl q
   ·exact .inr ⟨c,bu,q⟩
   ·exact .inr ⟨c',bn _ I,q⟩
  ·rintro (q | ⟨c',I,q⟩)
   ·exact .inl (.inl q)
   ·rcases List.mem_cons.1 I with rfl | I
    ·exact .inl (.inr q)
    ·exact .inr ⟨c',I,q⟩
theorem vq.Na : ∀ {rs:List bZ} {k:Nat} {ρ:gu} {σ:Int→List Nat} {W:Int→Prop},vq ρ σ W→vq (redoL k rs ρ) (fO rs σ) (fun n=>W n∨si rs n):=by
 intro rs
 induction rs with
 | nil=>intro k ρ σ W h; exact h.iff fun n=>⟨.inl,fun q=>q.elim id fun ⟨r,I,_⟩=>(by cases I)⟩
 | cons r rs ih =>
  intro k ρ σ W h
  refine (ih (h.aM (k:=k))).iff fun n => ?_
  constructor
  ·rintro ((q | q) | ⟨J,I,q⟩)
   ·exact .inl q
   ·exact .inr ⟨r,bu,q⟩
   ·exact .inr ⟨J,bn _ I,q⟩
  ·rintro (q | ⟨J,I,q⟩)
   ·exact .inl (.inl q)
   ·rcases List.mem_cons.1 I with rfl | I
    ·exact .inl (.inr q)
    ·exact .inr ⟨J,I,q⟩
theorem Vu (rs:List bZ)(k:Nat)(σ:Int→List Nat): vq (redoL k rs gu.none) (fO rs σ) (si rs) :=
 (vq.Na (ρ:=gu.none) (W:=fun _=>False) ⟨fun n b I=>(by cases I),fun n _ q=>q⟩).iff fun n=>⟨fun q=>q.elim False.elim id,.inr⟩
def jU (a b:List Nat): Prop:=a.length=512∧b.length=512∧a.drop 12=b.drop 12
theorem jU.symm {a b:List Nat}(h:jU a b): jU b a:=⟨h.2.1,h.1,h.2.2.symm⟩
theorem jU.trans {a b c:List Nat}(h:jU a b)(g:jU b c): jU a c:=⟨h.1,g.2.1,h.2.2.trans g.2.2⟩
theorem jU.refl {a:List Nat}(h:a.length=512): jU a a:=⟨h,h,rfl⟩
theorem I7 {b:List Nat}{n:Nat}(h:b.length=512): jU (cM b n) b:=⟨(nJ h).2.1,h,(nJ h).1⟩
theorem jU.good {a b:List Nat}(h:jU a b): b7 a=b7 b:=Dv (h.1.trans h.2.1.symm) h.2.2
theorem XZ {pg:Int}{cX now:List Nat}{i:Nat}{l:List cq}(hr:uG pg cX now i l): ∀ {σ:Int→List Nat},now.length=512→(σ pg).length=512→12≤i→(∀j,12≤j→j<i→(σ pg)[j]?=now[j]?)→(∀j,i≤j→(σ pg)[j]?=cX[j]?) →
  (iS l σ pg).length=512∧(∀j,12≤j→(iS l σ pg)[j]?=now[j]?)∧∀n,n≠pg→iS l σ n=σ n:=by
 induction hr with
 | done i h =>
  intro σ hn hs h12 I J
  refine ⟨hs,fun j hj => ?_,fun _ _=>rfl⟩
  by_cases rV:j<i
  ·exact I j hj rV
  ·show (σ pg)[j]?=_
   rw [mU (by omega),mU (by omega)]
 | skip i l h he hr ih =>
  intro σ hn hs h12 I J
  refine ih hn hs (by omega) (fun j hj rV => ?_) (fun j hj=>J j (by omega))
  by_cases e:j=i
  ·subst e; rw [J j (aD _),he]
  ·exact I j hj (by omega)
 | take i e l h1 h2 _ _ hr ih =>
  intro σ hn hs h12 I J
  have hm:((now.take e).drop i).length=e-i:=by rw [vU,dM]; omega
  have hg:∀j,(aV (σ pg) i ((now.take e).drop i))[j]?=if i≤j∧j<e then now[j]? else (σ pg)[j]?:=fun j=>by
   rw [xO (by omega),hm]
   by_cases hj:i≤j∧j<e
   ·rw [aj (by omega),aj hj,iU,jM,aj (by omega)]
    congr 1; omega
   ·rw [ah (by omega),ah hj]
  have hc:jm ⟨pg,i,false,(now.take e).drop i⟩ σ pg=aV (σ pg) i ((now.take e).drop i):=by rw [jm,aj rfl,ah (by simp)]; rfl
  obtain ⟨k1,k2,k3⟩:=ih (σ:=jm ⟨pg,i,false,(now.take e).drop i⟩ σ) hn (by rw [hc,cz (by omega)]; exact hs) (by omega) (fun j hj hje=>by
   rw [hc,hg]
   by_cases rV:i≤j
   ·rw [aj ⟨rV,hje⟩]
   ·rw [ah (by omega)]; exact I j hj (by omega)) (fun j hj=>by rw [hc,hg,ah (by omega)]; exact J j (by omega))
  refine ⟨k1,k2,fun n TB => ?_⟩
  have:=k3 n TB
  rw [show iS (⟨pg,i,false,(now.take e).drop i⟩::l) σ=iS l (jm ⟨pg,i,false,(now.take e).drop i⟩ σ) from rfl,this,jm,ah TB]
theorem Lq {a b:List Nat}(I:a.length=512)(J:b.length=512)(h:∀j,12≤j→a[j]?=b[j]?): jU a b :=
 ⟨I,J,qF fun i=>by rw [iU,iU]; exact h _ (by omega)⟩
theorem X0 {pg:Int}{cX now:List Nat}{c:List cq}{σ:Int→List Nat}(hr:FP pg cX now c)(I:now.length=512)(hs:jU (σ pg) cX): jU (iS c σ pg) now∧∀n,n≠pg→iS c σ n=σ n:=by
 obtain ⟨l,hl,rfl⟩:=hr
 have hd:∀j,12≤j→(σ pg)[j]?=cX[j]?:=fun j hj=>by
  have:=gy (fun l:List Nat=>l[j-12]?) hs.2.2
  simp only [iU] at this
  rwa [show 12+(j-12)=j by omega] at this
 obtain ⟨k1,k2,k3⟩:=XZ hl I hs.1 (aD _) (fun j h1 h2=>by omega) hd
 by_cases J:l=[]
 ·rw [aj J]
  subst J
  have e:∀n,iS [⟨pg,0,false,[]⟩] σ n=σ n:=fun n=>by
   show jm ⟨pg,0,false,[]⟩ σ n=σ n
   rw [jm]
   by_cases I:n=pg
   ·rw [aj I,ah (by simp)]
    simp [aV]
   ·rw [ah I]
  exact ⟨Lq (by rw [e]; exact hs.1) I (fun j hj=>by rw [e]; exact k2 j hj),fun n _=>e n⟩
 ·rw [ah J]
  exact ⟨Lq k1 I k2,k3⟩
def imgOf (δ:Dk)(n:Int): List Nat:=match δ.ax[n.toNat]? with
 | some (some b)=>b
 | _=>List.replicate 512 0
def yc (δ:Dk)(n:Int)(w:List Nat): Prop:=w=imgOf δ n∨∃wr∈δ.waiting,((wr.1:Nat):Int)=n∧w=wr.2
def Lr (δ:Dk)(n:Int): Prop:=0≤n∧n<(δ.ax.length:Int)
def vF (r:bZ)(n:Int): Prop:=∃c∈r.aM,c.aL=n
structure RI (ba:Nat)(mw:Int→Prop)(B0:Int→List Nat)(rs:List bZ)(g:Int→Option Nat)(C:Int→List Nat→Prop)(d:List (Int×(Nat×Bool)))(x:LD): Prop where
 base:x.1.base=ba
 b:x.1.b=logB ba rs
 log:x.2.log=logB ba rs
 alive:x.2.dead=false
 aP:x.2.aP<0
 forced:∃u v,rs=u++v∧x.1.forced=szB u
 cert:x.1.forced≤x.2.bp
 oz:∀n w t t',Lr x.2 n→rs=t++t'→x.1.forced≤szB t→(∀rec,g n=some rec→ba+szB t≤rec)→yc x.2 n w→jU (fO t B0 n) w
 bI:∀n rec,g n=some rec→∃t r t',rs=t++r::t'∧rec=ba+szB t∧Ak r.aM n
 clean:∀n,g n=none→∀wr∈x.2.waiting,((wr.1:Nat):Int)≠n
 P_:∀n b,C n b→∃rec t r t',lookL n d=some (rec,true)∧rs=t++r::t'∧dn b 4 8=ba+szB t∧rec≤ba+szB t∧(¬mw n→∀t1 r1 t2,rs=t1++r1::t2→vF r1 n→szB t1≤szB t)
 flag:∀n rec,lookL n d=some (rec,false)→rec<ba+x.1.forced∧(¬mw n→∀t r t',rs=t++r::t'→vF r n→szB t<x.1.forced)
 ft:∀n rec,lookL n d=some (rec,true)→∃b,C n b
 now:∀n b,lookL n x.2.now=some b→∃wr∈x.2.waiting,((wr.1:Nat):Int)=n∧wr.2=b
 I8:∀n rec fl,lookL n d=some (rec,fl)→g n=some rec
 Qa:∀n rec,g n=some rec→mw n∨∃fl,lookL n d=some (rec,fl)
 ck:∀n w,0≤n→yc x.2 n w→gr w=0
 TS:∀n,mw n→lookL n d=none→∃t r,rs=t++[r]∧g n=some (ba+szB t)
theorem SE {δ:Dk}{n:Int}{b:List Nat}(I:δ.dead=false)(J:δ.aP<0)(h0:0≤n)(h1:n<δ.ax.length)(hb:b.length=512): δ.bK n b=(0,{ δ with waiting:=δ.waiting++[(n.toNat,b)],now:=cB n b δ.now,aP:=δ.aP }):=by
 rw [Dk.bK,ah (by rw [I]; decide),ah (not_not_intro ⟨h0,h1,hb⟩),ah (by omega),Dk.wr,j4 J]
theorem qu {u v:List bZ}: szB u≤szB (u++v):=by rw [pP]; omega
theorem rM (r:bZ): 8≤r.len:=by simp only [bZ.len]; omega
theorem Bl {t t':List bZ}{r:bZ}: szB t<szB (t++r::t'):=by
 have:=rM r
 rw [pP,szB]; omega
section
variable {ba:Nat} {mw:Int→Prop} {B0:Int→List Nat} {rs:List bZ} {g:Int→Option Nat} {C:Int→List Nat→Prop} {d:List (Int×(Nat×Bool))} {x:LD}
theorem RI.len (h:RI ba mw B0 rs g C d x): x.1.b.length=szB rs:=by rw [h.b,f_]
theorem RI.le (h:RI ba mw B0 rs g C d x): x.1.forced≤szB rs:=by
 obtain ⟨u,v,hu,I⟩:=h.forced
 rw [I,hu]; exact qu
theorem RI.all (h:RI ba mw B0 rs g C d x): RI ba mw B0 rs g C d ({ x.1 with forced:=x.1.b.length },{ x.2 with bp:=x.2.log.length }):=by
 have J:=h.len
 have hle:x.1.forced≤x.1.b.length:=by rw [J]; exact h.le
 refine ⟨h.base,h.b,h.log,h.alive,h.aP,⟨rs,[],by rw [bR],J⟩,by show x.1.b.length≤x.2.log.length; rw [h.b,h.log]; exact aD _,
  fun n w t t' h0 ht I hr hc=>h.oz n w t t' h0 ht (cC hle I) hr hc,h.bI,h.clean,h.P_,fun n rec hn=>⟨gX (h.flag n rec hn).1 (vM hle _),fun hp t r t' e q=>gX ((h.flag n rec hn).2 hp t r t' e q) hle⟩,h.ft,h.now,h.I8,h.Qa,h.ck,h.TS⟩
theorem RI.force (h:RI ba mw B0 rs g C d x)(n:Nat)(hn:n<ba+szB rs): ∃I,bE x n=(0,I)∧RI ba mw B0 rs g C d I∧n<ba+I.1.forced∧I.2.waiting=x.2.waiting∧I.2.ax=x.2.ax∧I.2.now=x.2.now:=by
 unfold bE
 by_cases J:n<x.1.base+x.1.forced
 ·rw [aj J]; exact ⟨x,rfl,h,by rw [←h.base]; exact J,rfl,rfl,rfl⟩
 ·have e:x.2.cK=(0,{ x.2 with bp:=x.2.log.length }):=by
   rw [Dk.cK,ah (by rw [h.alive]; decide),ah (by have:=h.aP; omega),j4 h.aP]
  rw [ah J,e,ah (by simp)]
  exact ⟨_,rfl,h.all,by show n<ba+x.1.b.length; rw [h.len]; exact hn,rfl,rfl,rfl⟩
theorem RI.vC (N:Nat): oo N (RI ba mw B0 rs g):=by
 refine ⟨fun ε i f he hf h0 hc h => ?_⟩
 have h:RI ba mw B0 rs g (kH ε.1) ε.1.bI ε.2:=h
 obtain ⟨rec,t0,r0,t0',g1,g2,g3,g4,g5⟩:=h.P_ f.aL f.b ⟨i,f,hf,rfl,h0,hc,rfl⟩
 have OP:=(he.back i f hf).resolve_left (by omega)
 have hg:=OP.nF hc
 have hi:=(List.getElem?_eq_some_iff.1 hf).1
 obtain ⟨x',jA,h',bF,w1,w2,w3⟩:=h.force (dn f.b 4 8) (by rw [g3,g2]; have:=Bl (t:=t0) (r:=r0) (t':=t0'); omega)
 have J:=SE (δ:=x'.2) (n:=f.aL) (b:=f.b) h'.alive h'.aP h0 (by rw [w2,he.dk.ax]; exact OP.lt) (eX hg)
 have e:outF ε i=(0,({ ε.1 with ak:=ε.1.ak.set i { f with changed:=false },bI:=cB f.aL (mh ε.1 f.aL,false) ε.1.bI },(x'.1,{ x'.2 with waiting:=x'.2.waiting++[(f.aL.toNat,f.b)],now:=cB f.aL f.b x'.2.now,aP:=x'.2.aP }))):=by
  unfold outF
  rw [hf]
  simp only
  rw [ah (by rintro (q | q); omega; rw [hc] at q; cases q),ah (by rw [hg]; decide),jA]
  simp only [mY,not_true_eq_false,bN]
  rw [J]
  simp only [mY,not_true_eq_false,bN]
 have IG:mh ε.1 f.aL=rec:=by simp only [mh,g1]
 have hC:∀n b,kH { ε.1 with ak:=ε.1.ak.set i { f with changed:=false },bI:=cB f.aL (mh ε.1 f.aL,false) ε.1.bI } n b→kH ε.1 n b∧n≠f.aL:=by
  rintro n b ⟨j,y,hy,k1,k0,k2,k3⟩
  rcases pN hf hy with ⟨rfl,rfl⟩ | ⟨tQ,hy⟩
  ·cases k2
  ·refine ⟨⟨j,y,hy,k1,k0,k2,k3⟩,fun I=>tQ ?_⟩
   have h1:=((he.back j y hy).resolve_left (by omega)).here
   rw [k1,I,OP.here] at h1
   have:=bk h1
   omega
 have TT:∀n b,kH ε.1 n b→n≠f.aL→kH { ε.1 with ak:=ε.1.ak.set i { f with changed:=false },bI:=cB f.aL (mh ε.1 f.aL,false) ε.1.bI } n b:=by
  rintro n b ⟨j,y,hy,k1,k0,k2,k3⟩ I
  refine ⟨j,y,?_,k1,k0,k2,k3⟩
  show (ε.1.ak.set i _)[j]?=some y
  rw [ff]
  ·exact hy
  ·rintro rfl
   rw [hf] at hy
   exact I (by rw [←k1,bk hy])
 have hd:∀m,lookL m (cB f.aL (rec,false) ε.1.bI)=if f.aL=m then some (rec,false) else lookL m ε.1.bI:=fun m=>gS _
 show RI ba mw B0 rs g (kH (outF ε i).2.1) (outF ε i).2.1.bI (outF ε i).2.2
 rw [e]
 simp only [IG] at hC TT ⊢
 have Fq:g f.aL=some rec:=h.I8 _ _ _ g1
 refine ⟨h'.base,h'.b,h'.log,h'.alive,h'.aP,h'.forced,h'.cert,fun n w t t' rO ht Al hr qa => ?_,h'.bI,fun n I wr J => ?_,fun n b hb => ?_,fun n vG I => ?_,fun n vG I => ?_,fun n b hb => ?_,fun n vG fl I => ?_,fun n vG I => ?_,fun n w rO qa => ?_,fun n hp I => ?_⟩
 ·by_cases I:f.aL=n
  ·exfalso
   have:=hr rec (by rw [←I]; exact Fq)
   have Al:x'.1.forced≤szB t:=Al
   omega
  ·have abk:yc x'.2 n w:=by
    rcases qa with hq | ⟨wr,J,q1,q2⟩
    ·exact .inl hq
    ·rcases List.mem_append.1 J with J | J
     ·exact .inr ⟨wr,J,q1,q2⟩
     ·rw [List.mem_singleton.1 J] at q1
      simp only at q1
      omega
   exact h'.oz n w t t' rO ht Al hr abk
 ·rcases List.mem_append.1 J with J | J
  ·exact h'.clean n I wr J
  ·rw [List.mem_singleton.1 J]
   intro q
   simp only at q
   rw [show n=f.aL by omega,Fq] at I
   cases I
 ·obtain ⟨k1,k2⟩:=hC n b hb
  obtain ⟨r',t,r,t',m1,m2⟩:=h.P_ n b k1
  exact ⟨r',t,r,t',by rw [hd,ah (fun q=>k2 q.symm)]; exact m1,m2⟩
 ·rw [hd] at I
  by_cases hq:f.aL=n
  ·rw [aj hq] at I
   injection I with I
   injection I with I _
   refine ⟨by show vG<ba+x'.1.forced; omega,fun hp t r t' ht jT => ?_⟩
   have:=g5 (by rw [hq]; exact hp) t r t' ht (by rw [hq]; exact jT)
   show szB t<x'.1.forced
   omega
  ·rw [ah hq] at I
   exact h'.flag n vG I
 ·rw [hd] at I
  by_cases hq:f.aL=n
  ·rw [aj hq] at I; cases I
  ·rw [ah hq] at I
   obtain ⟨b,hb⟩:=h.ft n vG I
   exact ⟨b,TT n b hb (fun q=>hq q.symm)⟩
 ·rw [gS] at hb
  by_cases hq:f.aL=n
  ·rw [aj hq] at hb
   injection hb with hb
   exact ⟨(f.aL.toNat,f.b),List.mem_append.2 (.inr bu),by simp only; omega,hb⟩
  ·rw [ah hq] at hb
   obtain ⟨wr,k1,k2⟩:=h'.now n b hb
   exact ⟨wr,List.mem_append.2 (.inl k1),k2⟩
 ·rw [hd] at I
  by_cases hq:f.aL=n
  ·rw [aj hq] at I
   injection I with I
   injection I with I _
   rw [←hq,Fq,I]
  ·rw [ah hq] at I
   exact h.I8 n vG fl I
 ·rcases h.Qa n vG I with q | ⟨fl,q⟩
  ·exact .inl q
  ·refine .inr ?_
   by_cases hq:f.aL=n
   ·exact ⟨false,by rw [hd,aj hq]; rw [←hq,Fq] at I; rw [bk I]⟩
   ·exact ⟨fl,by rw [hd,ah hq]; exact q⟩
 ·rcases qa with hq | ⟨wr,J,q1,q2⟩
  ·exact h'.ck n w rO (.inl hq)
  ·rcases List.mem_append.1 J with J | J
   ·exact h'.ck n w rO (.inr ⟨wr,J,q1,q2⟩)
   ·rw [q2,List.mem_singleton.1 J]; exact OP.aH
 ·rw [hd] at I
  by_cases hq:f.aL=n
  ·rw [aj hq] at I; cases I
  ·rw [ah hq] at I
   exact h.TS n hp I
theorem RI.app (h:RI ba (fun _=>False) B0 rs g C d x){r:bZ}(hw:∀n,g n=none→vF r n→Ak r.aM n){μ:Lg}{δ:Dk}(m1:μ.base=x.1.base)(m2:μ.b=logB ba (rs++[r]))(m3:μ.forced=x.1.forced)
 (e1:δ.log=logB ba (rs++[r]))(e2:δ.dead=x.2.dead)(e3:δ.aP=x.2.aP)(e4:δ.bp=x.2.bp)(e5:δ.waiting=x.2.waiting)(e6:δ.ax=x.2.ax)(e7:δ.now=x.2.now){p:Int→Prop}[DecidablePred p](hp:∀n,p n↔vF r n):
  RI ba p B0 (rs++[r]) (fun n=>match g n with | some rec=>some rec | none=>if p n then some (ba+szB rs) else none) C d (μ,δ):=by
 have DO:∀n w,yc δ n w→yc x.2 n w:=fun n w hc=>by
  simp only [yc,imgOf,e5,e6] at hc
  exact hc
 have Nb:∀ {n rec},g n=some rec→(match g n with | some rec=>some rec | none=>if p n then some (ba+szB rs) else none)=some rec:=fun I=>by rw [I]
 have Zi:∀ {n},(match g n with | some rec=>some rec | none=>if p n then some (ba+szB rs) else none)=none→g n=none∧¬p n:=fun {n} I=>by
  cases hq:g n with
  | some rec=>rw [hq] at I; cases I
  | none =>
   rw [hq] at I
   simp only at I
   split at I
   ·cases I
   ·exact ⟨rfl,by assumption⟩
 have TU:∀ {n rec},(match g n with | some rec=>some rec | none=>if p n then some (ba+szB rs) else none)=some rec→g n=some rec∨(g n=none∧p n∧rec=ba+szB rs):=fun {n rec} I=>by
  cases hq:g n with
  | some vG=>rw [hq] at I; exact .inl I
  | none =>
   rw [hq] at I
   simp only at I
   split at I
   ·exact .inr ⟨rfl,by assumption,(bk I).symm⟩
   ·cases I
 have GP:∀ {n t r1 t'},rs++[r]=t++r1::t'→vF r1 n→¬p n→∃BS,rs=t++r1::BS:=fun {n t r1 t'} ht hc I=>by
  rcases qC t' with rfl | ⟨BS,z,rfl⟩
  ·have FY:rs++[r]=t++[r1]:=ht
   obtain ⟨_,e⟩:=mW FY rfl
   injection e with e
   rw [←e] at hc
   exact absurd ((hp n).2 hc) I
  ·have FY:rs++[r]=(t++r1::BS)++[z]:=by rw [ht]; simp
   exact ⟨BS,(mW FY rfl).1⟩
 refine ⟨m1.trans h.base,m2,e1,e2.trans h.alive,by show δ.aP<0; rw [e3]; exact h.aP,?_,by show μ.forced≤δ.bp; rw [m3,e4]; exact h.cert,fun n w t t' h0 ht Al hr hc => ?_,fun n rec I => ?_,fun n I => ?_,fun n b hb => ?_,fun n rec I => ?_,h.ft,fun n b hb => ?_,fun n rec fl I => ?_,fun n rec I => ?_,fun n w h0 hc=>h.ck n w h0 (DO n w hc),fun n J I=>⟨rs,r,rfl,?_⟩⟩
 ·obtain ⟨u,v,hu,hf⟩:=h.forced
  exact ⟨u,v++[r],by rw [hu,bS],by show μ.forced=_; rw [m3]; exact hf⟩
 ·have Al:x.1.forced≤szB t:=by have:μ.forced≤szB t:=Al; omega
  rcases qC t' with rfl | ⟨BS,z,rfl⟩
  ·-- all of it
   rw [bR] at ht
   subst ht
   have hg:g n=none∧¬p n:=by
    cases hq:g n with
    | some rec =>
     obtain ⟨a,b,c,k1,k2,_⟩:=h.bI n rec hq
     have:=hr rec (Nb hq)
     have:=Bl (t:=a) (r:=b) (t':=c)
     rw [←k1] at this
     have:=qu (u:=rs) (v:=[r])
     omega
    | none =>
     refine ⟨rfl,fun J => ?_⟩
     have:=hr (ba+szB rs) (by rw [hq]; simp only; rw [aj J])
     have:=Bl (t:=rs) (r:=r) (t':=[])
     omega
   have hs:fO (rs++[r]) B0 n=fO rs B0 n:=by
    rw [wS]
    show iS r.aM (fO rs B0) n=_
    have:∀(l:List cq) (σ:Int→List Nat),(∀c∈l,c.aL≠n)→iS l σ n=σ n:=by
     intro l
     induction l with
     | nil=>intro σ _; rfl
     | cons c l ih =>
      intro σ hl
      show iS l (jm c σ) n=σ n
      rw [ih _ (fun c hc=>hl c (bn _ hc)),jm,ah (fun q=>hl c bu q.symm)]
    exact this _ _ fun c hc q=>hg.2 ((hp n).2 ⟨c,hc,q⟩)
   rw [hs]
   exact h.oz n w rs [] (by rw [Lr,←e6]; exact h0) (by rw [bR]) h.le (fun rec q=>by rw [hg.1] at q; cases q) (DO n w hc)
  ·have FY:rs++[r]=(t++BS)++[z]:=by rw [ht]; simp
   have ht3:=(mW FY rfl).1
   exact h.oz n w t BS (by rw [Lr,←e6]; exact h0) ht3 Al (fun rec q=>hr rec (Nb q)) (DO n w hc)
 ·rcases TU I with hq | ⟨hq,J,rfl⟩
  ·obtain ⟨a,b,c,k1,k2,k3⟩:=h.bI n rec hq
   exact ⟨a,b,c++[r],by rw [k1]; simp,k2,k3⟩
  ·exact ⟨rs,r,[],rfl,rfl,hw n hq ((hp n).1 J)⟩
 ·show ∀wr∈δ.waiting,_
  rw [e5]
  exact h.clean n (Zi I).1
 ·obtain ⟨rec,t,r1,t',k1,k2,k3,k4,k5⟩:=h.P_ n b hb
  refine ⟨rec,t,r1,t'++[r],k1,by rw [k2]; simp,k3,k4,fun J t1 r2 t2 e q => ?_⟩
  obtain ⟨t3,e3⟩:=GP e q J
  exact k5 (fun q=>q) t1 r2 t3 e3 q
 ·obtain ⟨k1,k2⟩:=h.flag n rec I
  refine ⟨by show rec<ba+μ.forced; rw [m3]; exact k1,fun J t r1 t' e q => ?_⟩
  obtain ⟨t3,e3⟩:=GP e q J
  show szB t<μ.forced
  rw [m3]
  exact k2 (fun q=>q) t r1 t3 e3 q
 ·obtain ⟨wr,k1,k2⟩:=h.now n b (by rw [←e7]; exact hb)
  exact ⟨wr,by show wr∈δ.waiting; rw [e5]; exact k1,k2⟩
 ·exact Nb (h.I8 n rec fl I)
 ·rcases TU I with hq | ⟨hq,J,rfl⟩
  ·rcases h.Qa n rec hq with q | q
   ·exact q.elim
   ·exact .inr q
  ·exact .inl J
 ·cases hq:g n with
  | none=>simp only; rw [aj J]
  | some rec =>
   rcases h.Qa n rec hq with q | ⟨fl,q⟩
   ·exact q.elim
   ·rw [I] at q; cases q
end
theorem SF {b:List Nat}{n:Nat}(I:b.length=512)(J:n<18446744073709551616): dn (cM b n) 4 8=n:=by
 have h3:=(nJ (n:=n) I).2.2.1
 have e1:dn (cM b n) 4 8=leN (((cM b n).drop 4).take 8):=by rw [dn,qL]
 have h4:(b.take 4).length=4:=by rw [dM]; omega
 have e2:(nf b n).drop 4=le 8 n++b.drop (4+(le 8 n).length):=by
  rw [nf,aV,DR (by omega),vJ (by omega),cZ]
 rw [e1,h3,e2,nO (by rw [cy]; omega),dO (by rw [cy]; omega),r7]
 exact gY J
section
variable {N ba:Nat} {mw:Int→Prop} {B0:Int→List Nat} {rs:List bZ} {g:Int→Option Nat} {ε ε':aI}
theorem uR {p:Int→Prop}: vw (RI ba p B0 rs g) ε↔RI ba p B0 rs g (kH ε.1) ε.1.bI ε.2:=Iff.rfl
theorem RI.put (h:vw (RI ba mw B0 rs g) ε)(he:EC N ε){n:Int}{i:Nat}{f:Fm}{b:List Nat}{aK:Nat}(hl:lookL n ε.1.bM=some (i:Int))(hf:ε.1.ak[i]?=some f)(hb:b.length=512)(h0:0≤n)(hp:mw n)
 (GP:∃t r,rs=t++[r]∧aK=ba+szB t)(bF:aK<18446744073709551616): vw (RI ba (fun m=>mw m∧m≠n) B0 rs g) (uK ε.1 n i f b aK,ε.2):=by
 have h:=uR.1 h
 have hi:=(List.getElem?_eq_some_iff.1 hf).1
 obtain ⟨t0,r0,e0,e1⟩:=GP
 have kG:f.aL=n:=by
  obtain ⟨_,j,x,tQ,hx,wP⟩:=he.mI n i hl
  have:i=j:=by omega
  subst this
  rw [hf] at hx
  rw [bk hx]; exact wP
 have J:∀m,lookL m (cB n (fQ ε.1 n aK,true) ε.1.bI)=if n=m then some (fQ ε.1 n aK,true) else lookL m ε.1.bI:=fun m=>gS _
 have hg:g n=some (fQ ε.1 n aK)∧fQ ε.1 n aK≤aK:=by
  cases I:lookL n ε.1.bI with
  | some x =>
   obtain ⟨rec,fl⟩:=x
   have:=h.I8 n rec fl I
   have e:fQ ε.1 n aK=rec:=by simp only [fQ,I]
   rw [e]
   refine ⟨this,?_⟩
   obtain ⟨a,c,a',k1,k2,_⟩:=h.bI n rec this
   rw [k2,e1]
   have:szB a≤szB t0:=by
    rcases qC a' with rfl | ⟨rT,z,rfl⟩
    ·have:t0++[r0]=a++[c]:=by rw [←e0,k1]
     rw [(mW this rfl).1]; exact aD _
    ·have:t0++[r0]=(a++c::rT)++[z]:=by rw [←e0,k1]; simp
     rw [(mW this rfl).1]; exact qu
   omega
  | none =>
   have e:fQ ε.1 n aK=aK:=by simp only [fQ,I]
   obtain ⟨t,r,k1,k2⟩:=h.TS n hp I
   rw [e,k2]
   have:t0++[r0]=t++[r]:=by rw [←e0,k1]
   rw [e1,(mW this rfl).1]
   exact ⟨rfl,aD _⟩
 have hC:∀m c,kH (uK ε.1 n i f b aK) m c→(m=n∧c=cM b aK)∨(m≠n∧kH ε.1 m c):=by
  rintro m c ⟨j,y,hy,k1,k0,k2,k3⟩
  rcases pN hf hy with ⟨rfl,rfl⟩ | ⟨tQ,hy⟩
  ·exact .inl ⟨by rw [←k1]; exact kG,k3.symm⟩
  ·refine .inr ⟨fun hmn=>tQ ?_,j,y,hy,k1,k0,k2,k3⟩
   have h1:=((he.back j y hy).resolve_left (by omega)).here
   rw [k1,hmn,hl] at h1
   have:=bk h1
   omega
 have TT:kH (uK ε.1 n i f b aK) n (cM b aK):=⟨i,{ f with b:=cM b aK,changed:=true,pins:=0 },by show (ε.1.ak.set i _)[i]?=_; exact gw hi,kG,h0,rfl,rfl⟩
 have hC3:∀m c,m≠n→kH ε.1 m c→kH (uK ε.1 n i f b aK) m c:=by
  rintro m c hm ⟨j,y,hy,k1,k0,k2,k3⟩
  refine ⟨j,y,?_,k1,k0,k2,k3⟩
  show (ε.1.ak.set i _)[j]?=some y
  rw [ff]
  ·exact hy
  ·rintro rfl
   rw [hf] at hy
   exact hm (by rw [←k1,←bk hy]; exact kG)
 have hpn:∀ {m},m≠n→¬(mw m∧m≠n)→¬mw m:=fun hm I iF=>I ⟨iF,hm⟩
 refine ⟨h.base,h.b,h.log,h.alive,h.aP,h.forced,h.cert,h.oz,h.bI,h.clean,fun m c hc => ?_,fun m rec hm => ?_,fun m rec hm => ?_,h.now,fun m rec fl hm => ?_,fun m rec hm => ?_,h.ck,fun m hm I => ?_⟩
 ·rcases hC m c hc with ⟨rfl,rfl⟩ | ⟨hm,hc⟩
  ·refine ⟨fQ ε.1 m aK,t0,r0,[],?_,e0,?_,?_,fun _ t1 r1 t2 q _ => ?_⟩
   ·show lookL m (cB m _ _)=_; rw [J,aj rfl]
   ·rw [SF hb bF,e1]
   ·rw [←e1]; exact hg.2
   ·rcases qC t2 with rfl | ⟨t3,z,rfl⟩
    ·have:t0++[r0]=t1++[r1]:=by rw [←e0,q]
     rw [(mW this rfl).1]; exact aD _
    ·have:t0++[r0]=(t1++r1::t3)++[z]:=by rw [←e0,q]; simp
     rw [(mW this rfl).1]; exact qu
  ·obtain ⟨rec,t,r,t',k1,k2,k3,k4,k5⟩:=h.P_ m c hc
   exact ⟨rec,t,r,t',by show lookL m (cB n _ _)=_; rw [J,ah (fun q=>hm q.symm)]; exact k1,k2,k3,k4,fun q=>k5 (hpn hm q)⟩
 ·have hm:lookL m (cB n (fQ ε.1 n aK,true) ε.1.bI)=some (rec,false):=hm
  rw [J] at hm
  by_cases I:n=m
  ·rw [aj I] at hm; cases hm
  ·rw [ah I] at hm
   obtain ⟨k1,k2⟩:=h.flag m rec hm
   exact ⟨k1,fun q=>k2 (hpn (fun q=>I q.symm) q)⟩
 ·have hm:lookL m (cB n (fQ ε.1 n aK,true) ε.1.bI)=some (rec,true):=hm
  rw [J] at hm
  by_cases I:n=m
  ·subst I; exact ⟨_,TT⟩
  ·rw [ah I] at hm
   obtain ⟨c,hc⟩:=h.ft m rec hm
   exact ⟨c,hC3 m c (fun q=>I q.symm) hc⟩
 ·have hm:lookL m (cB n (fQ ε.1 n aK,true) ε.1.bI)=some (rec,fl):=hm
  rw [J] at hm
  by_cases I:n=m
  ·rw [aj I] at hm
   injection hm with hm
   injection hm with hm _
   rw [←I,hg.1,hm]
  ·rw [ah I] at hm
   exact h.I8 m rec fl hm
 ·by_cases I:n=m
  ·subst I
   rw [hg.1] at hm
   exact .inr ⟨true,by show lookL n (cB n _ _)=_; rw [J,aj rfl,bk hm]⟩
  ·rcases h.Qa m rec hm with q | ⟨fl,q⟩
   ·exact .inl ⟨q,fun q=>I q.symm⟩
   ·exact .inr ⟨fl,by show lookL m (cB n _ _)=_; rw [J,ah I]; exact q⟩
 ·have I:lookL m (cB n (fQ ε.1 n aK,true) ε.1.bI)=none:=I
  rw [J,ah (fun q=>hm.2 q.symm)] at I
  exact h.TS m hm.1 I
theorem qm.ri {now:List (Int×List Nat)}{aK:Nat}{l:List Int}{e:Int}(J:qm now aK l ε e ε'): ∀ {p:Int→Prop},EC N ε→jk ε→NW N now→(∀n∈l,0≤n∧n<N)→l.Nodup→(∀n∈l,p n)→(∃t r,rs=t++[r]∧aK=ba+szB t)→aK<18446744073709551616 →
  vw (RI ba p B0 rs g) ε→vw (RI ba (fun m=>p m∧m∉l) B0 rs g) ε':=by
 induction J with
 | nil ε =>
  intro p _ _ _ _ _ _ _ _ hv
  have:(fun m=>p m∧m∉([]:List Int))=p:=funext fun m=>propext ⟨fun q=>q.1,fun q=>⟨q,by simp⟩⟩
  rw [this]; exact hv
 | iP n l ε e b ε' J he =>
  intro p h h3 hn hl
  have:=hl n bu
  exact absurd ((J.ec h).2.2.1 this.1 this.2).1 he
 | bad n l ε b0 b ε' J hb he =>
  intro p h h3 hn hl
  exact absurd ((J.put (b:=b) (aK:=aK) h3).2.2 (hn.look hb).1) he
 | put n l ε b0 b ε' e kE J hb he ht ih =>
  intro p h h3 hn hl ni hp I bF hv
  have lW:=hl n bu
  obtain ⟨k1,k2,k3,k4⟩:=J.ec h
  obtain ⟨i,f,p1,p2,p3,p4,p5⟩:=J.at h3.pins
  have hg:=hn.look hb
  have e1:=xL (aK:=aK) p1 p2 p3 hg.1
  obtain ⟨q1,q2⟩:=k1.put (aK:=aK) p1 p2 hg.1 hg.2 lW.1 lW.2
  have GX:=(J.put (b:=b) (aK:=aK) h3).1
  have zP:vw (RI ba p B0 rs g) ε':=(RI.vC N).iP J h hv
  have um:=RI.put zP k1 p1 p2 (eX hg.1) lW.1 (hp n bu) I bF
  rw [e1] at ih GX
  obtain ⟨d1,d2⟩:=List.nodup_cons.1 ni
  have:=ih q1 GX hn (fun m hm=>hl m (bn _ hm)) d2 (p:=fun m=>p m∧m≠n) (fun m hm=>⟨hp m (bn _ hm),fun q=>d1 (by rw [←q]; exact hm)⟩) I bF um
  have e:(fun m=>(p m∧m≠n)∧m∉l)=(fun m=>p m∧m∉n::l):=funext fun m=>propext ⟨fun q=>⟨q.1.1,by simp only [fq,qU]; exact ⟨q.1.2,q.2⟩⟩,fun q=>by
   have:=q.2
   simp only [fq,qU] at this
   exact ⟨⟨q.1,this.1⟩,this.2⟩⟩
  rw [←e]; exact this
end
end Go.Proofs.YtefepnnfphdkpaaGreat.Am
