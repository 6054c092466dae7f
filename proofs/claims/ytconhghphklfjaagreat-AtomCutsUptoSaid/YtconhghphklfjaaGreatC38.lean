/- AtomCuts: a part of its proof; conditions: its statement's. -/
import Derived.Test.YtconhghphklfjaaGreatC37
namespace Go.Proofs.YtconhghphklfjaaGreat.Am
open Go
structure LR (B0 aC:Nat)(mk:List Nat)(rs:List bW)(x:LD): Prop where
 base:x.1.base=B0
 b:x.1.b=logB B0 rs
 bq:x.1.bq=jL 0 rs
 check:x.1.check=aC
 log:x.2.log=logB B0 rs
 alive:x.2.dead=false
 aF:x.2.aF<0
 mark:x.2.mark=mk
 eG:x.2.eG=none
 tail:x.2.tail=[]
 wait:∀w∈x.2.waiting,w.1<x.2.aq.length∧w.2.length=512
 rs:∀r∈rs,r.Ok
theorem rH (base aC:Nat)(mk:List Nat)(rs:List bW): kM (LR base aC mk rs):=by
 refine ⟨fun x n h => ?_,fun x n b h => ?_⟩
 ·unfold bC
  split
  ·exact h
  ·have e:x.2.cE=(0,{ x.2 with aL:=x.2.log.length }):=by
    rw [Dk.cE,af (by rw [h.alive]; decide),af (by have:=h.aF; omega),fU h.aF]
   rw [e,af (by simp)]
   exact ⟨h.base,h.b,h.bq,h.check,h.log,h.alive,h.aF,h.mark,h.eG,h.tail,h.wait,h.rs⟩
 ·unfold Dk.bI
  rw [af (by rw [h.alive]; decide)]
  split
  ·exact h
  ·rename_i I
   rw [af (by have:=h.aF; omega)]
   refine ⟨h.base,h.b,h.bq,h.check,h.log,h.alive,?_,h.mark,h.eG,h.tail,fun w hw => ?_,h.rs⟩
   ·show x.2.c_.aF<0
    rw [fU h.aF]; exact h.aF
   ·rcases List.mem_append.1 hw with hw | hw
    ·exact h.wait w hw
    ·rw [List.mem_singleton.1 hw]
     have I:=Classical.not_not.1 I
     exact ⟨by show n.toNat<x.2.aq.length; omega,I.2.2⟩
theorem Mi {kd:Int}{tx pv nx:Nat}{data:List Nat}{aR:List cj}: data.length≤(cY kd tx pv nx data aR).length∧aR.length≤(cY kd tx pv nx data aR).length:=by
 have:=H_ aR
 simp only [cY,bA,bj,bY]
 omega
theorem LR.app {base aC kd tx:Nat}{mk:List Nat}{rs:List bW}{x:LD}{data:List Nat}{c:List cj}(h:LR base aC mk rs x)(hk:1≤kd)(hg:dK kd c=true)(ht:tx<65536)
 (ha:(bp x kd tx 0 0 data c).1.2=0): ∃r:bW,r.Ok∧r.kd=kd∧r.tx=tx∧r.pv=0∧r.nx=0∧r.data=data∧r.aR=c∧(bp x kd tx 0 0 data c).1.1=base+szB rs∧LR base aC mk (rs++[r]) (bp x kd tx 0 0 data c).2∧logB base (rs++[r])=logB base rs++cN x.1 kd tx 0 0 data c∧(logB base rs).length+(cN x.1 kd tx 0 0 data c).length≤x.2.room:=by
 rcases iD x kd tx 0 0 data c with ⟨e,he,_,U⟩ | ⟨_,hf,_⟩ | ⟨_,hb,hd,iH,hf,U⟩
 ·rw [U] at ha; exact absurd ha he
 ·have:=h.aF; omega
 ·rw [fU h.aF] at U
  have abu:=Mi (kd:=kd) (tx:=tx) (pv:=0) (nx:=0) (data:=data) (aR:=c)
  have hr:(bW.mk kd tx 0 0 data c).Ok:=⟨hg,⟨by show tx<_; omega,by show 0<_; decide,by show 0<_; decide,by show data.length≤_; omega,by show c.length≤_; omega⟩,hb⟩
  have hl:(logB base rs).length=szB rs:=fO
  have hn:cN x.1 kd tx 0 0 data c=iq (base+szB rs) (bW.mk kd tx 0 0 data c).bd:=by rw [cN,h.base,h.b,hl]; rfl
  have I:logB base (rs++[bW.mk kd tx 0 0 data c])=logB base rs++cN x.1 kd tx 0 0 data c:=by rw [uU,hn]; simp only [logB,bR]
  have hof:jL 0 (rs++[bW.mk kd tx 0 0 data c])=jL 0 rs++[szB rs]:=by rw [xK,dU]; rfl
  refine ⟨bW.mk kd tx 0 0 data c,hr,rfl,rfl,rfl,rfl,rfl,rfl,?_,?_,I,by rw [←h.log]; exact iH⟩
  ·rw [U]; show x.1.base+x.1.b.length=_; rw [h.base,h.b,hl]
  ·rw [U]
   refine ⟨h.base,?_,?_,h.check,?_,h.alive,h.aF,h.mark,h.eG,h.tail,h.wait,fun r J => ?_⟩
   ·show x.1.b++_=_; rw [h.b,I]
   ·show x.1.bq++[x.1.b.length]=_; rw [h.bq,h.b,hl,hof]
   ·show x.2.log++_=_; rw [h.log,I]
   ·rcases List.mem_append.1 J with J | J
    ·exact h.rs r J
    ·rw [List.mem_singleton.1 J]; exact hr
section
variable {told:dH} {h:H} {S:List ax} {r q p a aC N B:Nat} {pv wv dv:V} {data:List Nat} {ε:aM} {ps:List (List Nat)}
theorem Rl (hT:W2 told){D:jb}(ha:¬(3≤D.act∧D.act≤7))(hB:B≤900)(U:EI N B ε)(hN:ps.length=N)(hp:lP ε ps)(qu:data.length≤1048576)(hD:D.data.length≤1048576∧D.w.length≤1048576∧∀x∈D.w,x.2.length≤1048576)
 (s:Sat h (cu a p q r .cF data aC::b8 r p q ε.1::bf q p ε.2.1::aD p ε.2.2::.arr 1 pv (eH ps)::oa wv dv D::S)):
  Call ⟨Tryz.prog,told⟩ 28 [.ptr a 0,pv,.agg [.int .i64 D.act,.int .i64 D.cG,wv,dv]] h fun v h'=>∃(e:Int) (I:List (List Nat)) (J:V) (aI:Nat) (ε':aM),
   vp N D ε ps e I aI ε'∧EI N (B+2) ε'∧I.length=N∧lP ε' I∧v=.bD [J,.int .u64 (aI:Int),.bool true,.int .i64 e] ∧
   Sat h' (cu a p q r .cF data aC::b8 r p q ε'.1::bf q p ε'.2.1::aD p ε'.2.2::.arr 1 J (eH I)::S) :=
 (Uk hT hB U hN hp qu hD s).mono fun v h' ⟨e,I,J,aI,ε',iN,j_,h0,h1,h2,h3,h4,h5,hv,s'⟩=>by
  cases h0 with
  | SH _ _ _ _ _ ho=>exact ⟨e,I,J,aI,ε',ho,h2,h3,h4,hv,s'⟩
  | ck _ _ _ _ _ h=>omega
  | all h=>omega
  | sync h=>omega
  | clean h=>omega
  | force h=>omega
end
theorem Up : ∀(rs:List bW) (n K:Nat),(∀r∈rs,r.Ok)→∃dm fQ j,rs=dm++fQ∧(logB n rs).take K=logB n dm++j∧rF j:=by
 intro rs
 induction rs with
 | nil=>intro n K _; exact ⟨[],[],[],rfl,by simp [logB],.inl (by decide)⟩
 | cons r rs U =>
  intro n K I
  have hr:=I r bn
  by_cases hK:r.len≤K
  ·obtain ⟨dm,fQ,j,h1,h2,h3⟩:=U (n+r.len) (K-r.len) (fun x hx=>I x (bl _ hx))
   refine ⟨r::dm,fQ,j,by rw [h1]; rfl,?_,h3⟩
   have J:(iq n r.bd).length=r.len:=by rw [sx]; rfl
   rw [logB,tH,fL (by omega),J,h2,logB,bN]
  ·refine ⟨[],r::rs,(iq n r.bd).take K,rfl,?_,?_⟩
   ·have J:(iq n r.bd).length=r.len:=by rw [sx]; rfl
    show List.take K (iq n r.bd++logB (n+r.len) rs)=[]++_
    rw [oU (by omega),cW]
   ·by_cases h8:K<8
    ·exact .inl (by rw [dI]; omega)
    ·right
     have J:(iq n r.bd).length=r.len:=by rw [sx]; rfl
     have h4:((iq n r.bd).take K).take 4=le 4 r.bd.length:=by
      rw [tJ,pq (by omega),iq,bN,oU (by rw [cX]; omega),fL (by rw [cX]; omega)]
     have hb:=hr.len
     have hlen:r.len=8+r.bd.length:=rfl
     rw [h4,sr,dI,gT (by simp; omega)]
     omega
structure Lv (δ:Dk): Prop where
 alive:δ.dead=false
 aF:δ.aF<0
theorem Lv.dB {δ:Dk}{n:Nat}(h:Lv δ): (δ.dB n).1=0∧Lv (δ.dB n).2:=by
 unfold Dk.dB
 split
 ·rename_i I
  unfold Dk.qD
  rw [af (by rw [h.alive]; decide),af (by omega),af (by have:=h.aF; omega),fU h.aF]
  exact ⟨rfl,h.alive,h.aF⟩
 ·exact ⟨rfl,h⟩
theorem Lv.cE {δ:Dk}(h:Lv δ): δ.cE.1=0∧Lv δ.cE.2:=by
 unfold Dk.cE
 rw [af (by rw [h.alive]; decide),af (by have:=h.aF; omega),fU h.aF]
 exact ⟨rfl,h.alive,h.aF⟩
theorem Lv.cA {δ:Dk}{n:Nat}(h:Lv δ): (δ.cA n).1=0∧Lv (δ.cA n).2:=by
 obtain ⟨J,I⟩:=h.dB (n:=n)
 unfold Dk.cA
 rw [af (not_not_intro J)]
 split
 ·exact I.cE
 ·exact ⟨rfl,I⟩
theorem Lv.bI {δ:Dk}{n:Int}{b:List Nat}(h:Lv δ)(I:0≤n)(J:n<δ.aq.length)(U:b.length=512): (δ.bI n b).1=0∧Lv (δ.bI n b).2:=by
 unfold Dk.bI
 rw [af (by rw [h.alive]; decide),af (not_not_intro ⟨I,J,U⟩),af (by have:=h.aF; omega)]
 refine ⟨rfl,h.alive,?_⟩
 show δ.c_.aF<0
 rw [fU h.aF]; exact h.aF
theorem Lv.again {ρ:gh}(J:ρ.Ok): ∀ {l:List Int} {δ:Dk},(∀k∈l,0≤k)→Lv δ→(againW ρ l δ).1=0∧Lv (againW ρ l δ).2:=by
 intro l
 induction l with
 | nil=>intro δ _ h; exact ⟨rfl,h⟩
 | cons k l U =>
  intro δ hl h
  have I:∀k∈l,0≤k:=fun x hx=>hl x (bl _ hx)
  rw [againW]
  cases hq:lookL k ρ.aq with
  | none=>exact U I h
  | some b =>
   simp only
   split
   ·rename_i hg
    have hb:b.length=512:=J.len _ (fh hq)
    obtain ⟨w1,w2⟩:=h.bI (n:=k) (b:=cO b (ob ρ k)) (hl k bn) hg.2 (pX hb).2.1
    rw [af (not_not_intro w1)]
    exact U I w2
   ·exact U I h
theorem Lv.dL {δ:Dk}(h:Lv δ): δ.dL.1=0∧Lv δ.dL.2:=by
 rw [Dk.dL,af (by rw [h.alive]; decide),af (by have:=h.aF; omega),fU h.aF]
 exact ⟨rfl,h.alive,h.aF⟩
theorem Lv.eP {δ:Dk}{base:Nat}{rs dm fQ:List bW}(h:Lv δ)(J:∀r∈fQ,r.Ok): (eP δ base rs dm fQ).1=0∧Lv (eP δ base rs dm fQ).2:=by
 have I:(redoL (base+szB dm) fQ gh.none).Ok:=BV AS J
 obtain ⟨o1,o2⟩:=h.cA (n:=szB rs)
 unfold Am.eP mh
 rw [af (not_not_intro o1)]
 obtain ⟨a1,U⟩:=Lv.again I (l:=aJ (redoL (base+szB dm) fQ gh.none).aq) (fun k hk=>(I.low k (BW.1 hk)).1) o2
 rw [af (not_not_intro a1)]
 split
 ·exact ⟨rfl,U⟩
 ·exact U.dL
theorem LR.cr {base aC:Nat}{mk:List Nat}{rs:List bW}{x:LD}(h:LR base aC mk rs x)(I:x.2.Ok)(hw:x.2.waiting.length≤268435456)(hm:mk.length≤64): x.2.Cr :=
 ⟨I,h.wait,hw,(fun w J=>by rw [h.eG] at J; cases J),(by rw [h.tail]; have:=I.len; simpa using this),(by rw [h.mark]; exact hm)⟩
theorem Rm {δ:Dk}{c:List Nat}: Lv (fE δ c):=⟨rfl,by show (-1:Int)<0; decide⟩
theorem KM {P:List (Option (List Nat))}{i:Nat}{x:List Nat}(h:∀(j:Nat) (b:List Nat),P[j]?=some (some b)→b.length=512)(J:x.length=512): ∀(j:Nat) (b:List Nat),(P.set i (some x))[j]?=some (some b)→b.length=512:=fun j b I=>by
 rw [tC] at I
 split at I
 ·split at I
  ·injection I with I; injection I with I; rw [←I]; exact J
  ·cases I
 ·exact h j b I
theorem Iq {δ:Dk}{c:List Nat}(h:δ.Cr): oT (fE δ c) 65536∧(fE δ c).aq.length=δ.aq.length:=by
 have hl:=h.ok.len
 have hr:=h.ok.room
 have hc:=h.ok.aL
 have hlen:(fE δ c).aq.length=δ.aq.length:=by
  show (tornP c _ _ δ.eG).length=_
  cases δ.eG with
  | none=>exact ua
  | some w=>rw [tornP,dw,ua]
 have J:=KH (c:=c) (i:=0) (fun w hw=>(h.wait w hw).2) h.ok.aq
 have U:∀(j:Nat) (b:List Nat),(fE δ c).aq[j]?=some (some b)→b.length=512:=by
  show ∀(j:Nat) (b:List Nat),(tornP c _ _ δ.eG)[j]?=some (some b)→b.length=512
  cases ht:δ.eG with
  | none=>exact J
  | some w =>
   have hw:=(h.eG w ht).2
   refine KM J ?_
   have I:((layW c 0 δ.waiting δ.aq).getD w.1 none).getD []=[]∨(((layW c 0 δ.waiting δ.aq).getD w.1 none).getD []).length=512:=by
    rw [ki]
    cases hq:(layW c 0 δ.waiting δ.aq)[w.1]? with
    | none=>exact .inl rfl
    | some o =>
     cases o with
     | none=>exact .inl rfl
     | some b=>exact .inr (J _ _ hq)
   have h2:(c9 (List.replicate 512 0) 0 (((layW c 0 δ.waiting δ.aq).getD w.1 none).getD [])).length=512:=by
    rw [iJ (by rw [fo]; rcases I with I | I <;> rw [I] <;> decide),fo]
   rw [iJ (by rw [h2,dI]; omega),h2]
 refine ⟨⟨⟨by show (-1:Int)<_; decide,?_,hr,fun e he=>(by cases he),U,aK _,by rw [hlen]; exact h.ok.many⟩,by show 0+65536≤_; decide,fun e he=>(by cases he)⟩,hlen⟩
 show (su δ c).length≤_
 have ht:=h.tail
 rw [su,bA,dI,dI,bA,nL]
 omega
def jq (c:cj)(σ:Int→List Nat): Int→List Nat:=fun n=>if n=c.aO then (if c.whole=true then c.b else c9 (σ n) c.pos.toNat c.b) else σ n
def ir (cs:List cj)(σ:Int→List Nat): Int→List Nat:=cs.foldl (fun σ c=>jq c σ) σ
def d_ (rs:List bW)(σ:Int→List Nat): Int→List Nat:=rs.foldl (fun σ r=>ir r.aR σ) σ
theorem pY {x y:List bW}{σ:Int→List Nat}: d_ (x++y) σ=d_ y (d_ x σ):=by simp only [d_,List.foldl_append]
theorem Ir {x y:List cj}{σ:Int→List Nat}: ir (x++y) σ=ir y (ir x σ):=by simp only [ir,List.foldl_append]
def zX (cs:List cj)(n:Int): Prop:=∃c∈cs,c.aO=n∧c.whole=true
def sy (rs:List bW)(n:Int): Prop:=∃r∈rs,zX r.aR n
structure vr (ρ:gh)(σ:Int→List Nat)(W:Int→Prop): Prop where
 some:∀n b,lookL n ρ.aq=some b→b=σ n∧W n
 none:∀n,lookL n ρ.aq=none→¬W n
theorem vr.mB {ρ:gh}{σ:Int→List Nat}{W:Int→Prop}(h:vr ρ σ W)(k:Nat)(c:cj): vr (chgF k c ρ) (jq c σ) (fun n=>W n∨(c.aO=n∧c.whole=true)):=by
 unfold chgF
 by_cases hw:c.whole=true
 ·rw [aj hw]
  refine ⟨fun n b I => ?_,fun n I => ?_⟩
  ·rw [gQ] at I
   by_cases J:c.aO=n
   ·rw [aj J] at I
    injection I with I
    exact ⟨by rw [jq,aj J.symm,aj hw,I],.inr ⟨J,hw⟩⟩
   ·rw [af J] at I
    have:=h.some n b I
    exact ⟨by rw [jq,af (fun e=>J e.symm)]; exact this.1,.inl this.2⟩
  ·rw [gQ] at I
   by_cases J:c.aO=n
   ·rw [aj J] at I; cases I
   ·rw [af J] at I
    rintro (q | q)
    ·exact h.none n I q
    ·exact J q.1
 ·rw [af hw]
  cases U:lookL c.aO ρ.aq with
  | none =>
   refine ⟨fun n b I => ?_,fun n I => ?_⟩
   ·have:=h.some n b I
    refine ⟨?_,.inl this.2⟩
    rw [jq,af (fun e=>by rw [e,U] at I; cases I)]
    exact this.1
   ·rintro (q | q)
    ·exact h.none n I q
    ·exact hw q.2
  | some x =>
   have hx:=h.some _ x U
   refine ⟨fun n b I => ?_,fun n I => ?_⟩
   ·simp only at I
    rw [gQ] at I
    by_cases J:c.aO=n
    ·rw [aj J] at I
     injection I with I
     refine ⟨?_,.inl (by rw [←J]; exact hx.2)⟩
     rw [jq,aj J.symm,af hw,←J,←hx.1,I]
    ·rw [af J] at I
     have:=h.some n b I
     exact ⟨by rw [jq,af (fun e=>J e.symm)]; exact this.1,.inl this.2⟩
   ·simp only at I
    rw [gQ] at I
    by_cases J:c.aO=n
    ·rw [aj J] at I; cases I
    ·rw [af J] at I
     rintro (q | q)
     ·exact h.none n I q
     ·exact hw q.2
theorem vr.iff {ρ:gh}{σ:Int→List Nat}{W J:Int→Prop}(h:vr ρ σ W)(hw:∀n,W n↔J n): vr ρ σ J:=⟨fun n b I=>⟨(h.some n b I).1,(hw n).1 (h.some n b I).2⟩,fun n I q=>h.none n I ((hw n).2 q)⟩
theorem vr.aR {k:Nat}: ∀ {cs:List cj} {ρ:gh} {σ:Int→List Nat} {W:Int→Prop},vr ρ σ W→vr (Dn k cs ρ) (ir cs σ) (fun n=>W n∨zX cs n):=by
 intro cs
 induction cs with
 | nil=>intro ρ σ W h; exact h.iff fun n=>⟨.inl,fun q=>q.elim id fun ⟨c,I,_⟩=>(by cases I)⟩
 | cons c cs U =>
  intro ρ σ W h
  refine (U (h.mB k c)).iff fun n => ?_
  constructor
  ·rintro ((q | q) | ⟨J,I,q⟩)
   ·exact .inl q
   ·exact .inr ⟨c,bn,q⟩
   ·exact .inr ⟨J,bl _ I,q⟩
  ·rintro (q | ⟨J,I,q⟩)
   ·exact .inl (.inl q)
   ·rcases List.mem_cons.1 I with rfl | I
    ·exact .inl (.inr q)
    ·exact .inr ⟨J,I,q⟩
theorem vr.Mj : ∀ {rs:List bW} {k:Nat} {ρ:gh} {σ:Int→List Nat} {W:Int→Prop},vr ρ σ W→vr (redoL k rs ρ) (d_ rs σ) (fun n=>W n∨sy rs n):=by
 intro rs
 induction rs with
 | nil=>intro k ρ σ W h; exact h.iff fun n=>⟨.inl,fun q=>q.elim id fun ⟨r,I,_⟩=>(by cases I)⟩
 | cons r rs U =>
  intro k ρ σ W h
  refine (U (h.aR (k:=k))).iff fun n => ?_
  constructor
  ·rintro ((q | q) | ⟨J,I,q⟩)
   ·exact .inl q
   ·exact .inr ⟨r,bn,q⟩
   ·exact .inr ⟨J,bl _ I,q⟩
  ·rintro (q | ⟨J,I,q⟩)
   ·exact .inl (.inl q)
   ·rcases List.mem_cons.1 I with rfl | I
    ·exact .inl (.inr q)
    ·exact .inr ⟨J,I,q⟩
theorem Uq (rs:List bW)(k:Nat)(σ:Int→List Nat): vr (redoL k rs gh.none) (d_ rs σ) (sy rs) :=
 (vr.Mj (ρ:=gh.none) (W:=fun _=>False) ⟨fun n b I=>(by cases I),fun n _ q=>q⟩).iff fun n=>⟨fun q=>q.elim False.elim id,.inr⟩
def js (a b:List Nat): Prop:=a.length=512∧b.length=512∧a.drop 12=b.drop 12
theorem js.symm {a b:List Nat}(h:js a b): js b a:=⟨h.2.1,h.1,h.2.2.symm⟩
theorem js.trans {a b c:List Nat}(h:js a b)(g:js b c): js a c:=⟨h.1,g.2.1,h.2.2.trans g.2.2⟩
theorem js.refl {a:List Nat}(h:a.length=512): js a a:=⟨h,h,rfl⟩
theorem Is {b:List Nat}{n:Nat}(h:b.length=512): js (cO b n) b:=⟨(pX h).2.1,h,(pX h).1⟩
theorem js.good {a b:List Nat}(h:js a b): bU a=bU b:=Dg (h.1.trans h.2.1.symm) h.2.2
theorem Mk {l m:List Nat}{a i:Nat}(h:a+m.length≤l.length): (c9 l a m)[i]?=if a≤i∧i<a+m.length then m[i-a]? else l[i]?:=by
 have I:(l.take a).length=a:=by rw [dI]; omega
 rw [c9]
 by_cases J:i<a
 ·rw [kj (by omega),af (by omega),lU,aj J]
 ·rw [nI (by omega),I]
  by_cases U:i-a<m.length
  ·rw [kj U,aj (by omega)]
  ·rw [nI (by omega),af (by omega),jO]
   congr 1; omega
theorem WW {pg:Int}{cR now:List Nat}{i:Nat}{l:List cj}(hr:uP pg cR now i l): ∀ {σ:Int→List Nat},now.length=512→(σ pg).length=512→12≤i→(∀j,12≤j→j<i→(σ pg)[j]?=now[j]?)→(∀j,i≤j→(σ pg)[j]?=cR[j]?) →
  (ir l σ pg).length=512∧(∀j,12≤j→(ir l σ pg)[j]?=now[j]?)∧∀n,n≠pg→ir l σ n=σ n:=by
 induction hr with
 | done i h =>
  intro σ hn hs ZE I J
  refine ⟨hs,fun j U => ?_,fun _ _=>rfl⟩
  by_cases Cl:j<i
  ·exact I j U Cl
  ·show (σ pg)[j]?=_
   rw [oW (by omega),oW (by omega)]
 | skip i l h he hr ih =>
  intro σ hn hs ZE I J
  refine ih hn hs (by omega) (fun j U Cl => ?_) (fun j U=>J j (by omega))
  by_cases e:j=i
  ·subst e; rw [J j (aK _),he]
  ·exact I j U (by omega)
 | take i e l h1 h2 _ _ hr ih =>
  intro σ hn hs ZE I J
  have hm:((now.take e).drop i).length=e-i:=by rw [nL,dI]; omega
  have hg:∀j,(c9 (σ pg) i ((now.take e).drop i))[j]?=if i≤j∧j<e then now[j]? else (σ pg)[j]?:=fun j=>by
   rw [Mk (by omega),hm]
   by_cases U:i≤j∧j<e
   ·rw [aj (by omega),aj U,jO,lU,aj (by omega)]
    congr 1; omega
   ·rw [af (by omega),af U]
  have hc:jq ⟨pg,i,false,(now.take e).drop i⟩ σ pg=c9 (σ pg) i ((now.take e).drop i):=by rw [jq,aj rfl,af (by simp)]; rfl
  obtain ⟨k1,k2,k3⟩:=ih (σ:=jq ⟨pg,i,false,(now.take e).drop i⟩ σ) hn (by rw [hc,iJ (by omega)]; exact hs) (by omega) (fun j U hje=>by
   rw [hc,hg]
   by_cases Cl:i≤j
   ·rw [aj ⟨Cl,hje⟩]
   ·rw [af (by omega)]; exact I j U (by omega)) (fun j U=>by rw [hc,hg,af (by omega)]; exact J j (by omega))
  refine ⟨k1,k2,fun n Su => ?_⟩
  have:=k3 n Su
  rw [show ir (⟨pg,i,false,(now.take e).drop i⟩::l) σ=ir l (jq ⟨pg,i,false,(now.take e).drop i⟩ σ) from rfl,this,jq,af Su]
theorem KN {a b:List Nat}(I:a.length=512)(J:b.length=512)(h:∀j,12≤j→a[j]?=b[j]?): js a b :=
 ⟨I,J,Ac fun i=>by rw [jO,jO]; exact h _ (by omega)⟩
theorem WX {pg:Int}{cR now:List Nat}{c:List cj}{σ:Int→List Nat}(hr:Fs pg cR now c)(I:now.length=512)(hs:js (σ pg) cR): js (ir c σ pg) now∧∀n,n≠pg→ir c σ n=σ n:=by
 obtain ⟨l,hl,rfl⟩:=hr
 have hd:∀j,12≤j→(σ pg)[j]?=cR[j]?:=fun j U=>by
  have:=jh (fun l:List Nat=>l[j-12]?) hs.2.2
  simp only [jO] at this
  rwa [show 12+(j-12)=j by omega] at this
 obtain ⟨k1,k2,k3⟩:=WW hl I hs.1 (aK _) (fun j h1 h2=>by omega) hd
 by_cases J:l=[]
 ·rw [aj J]
  subst J
  have e:∀n,ir [⟨pg,0,false,[]⟩] σ n=σ n:=fun n=>by
   show jq ⟨pg,0,false,[]⟩ σ n=σ n
   rw [jq]
   by_cases I:n=pg
   ·rw [aj I,af (by simp)]
    simp [c9]
   ·rw [af I]
  exact ⟨KN (by rw [e]; exact hs.1) I (fun j U=>by rw [e]; exact k2 j U),fun n _=>e n⟩
 ·rw [af J]
  exact ⟨KN k1 I k2,k3⟩
def imgOf (δ:Dk)(n:Int): List Nat:=match δ.aq[n.toNat]? with
 | some (some b)=>b
 | _=>List.replicate 512 0
def sF (δ:Dk)(n:Int)(w:List Nat): Prop:=w=imgOf δ n∨∃wr∈δ.waiting,((wr.1:Nat):Int)=n∧w=wr.2
def Bw (δ:Dk)(n:Int): Prop:=0≤n∧n<(δ.aq.length:Int)
def sG (r:bW)(n:Int): Prop:=∃c∈r.aR,c.aO=n
structure RI (ba:Nat)(mj:Int→Prop)(B0:Int→List Nat)(rs:List bW)(g:Int→Option Nat)(C:Int→List Nat→Prop)(d:List (Int×(Nat×Bool)))(x:LD): Prop where
 base:x.1.base=ba
 b:x.1.b=logB ba rs
 log:x.2.log=logB ba rs
 alive:x.2.dead=false
 aF:x.2.aF<0
 forced:∃u v,rs=u++v∧x.1.forced=szB u
 cert:x.1.forced≤x.2.aL
 mo:∀n w t t',Bw x.2 n→rs=t++t'→x.1.forced≤szB t→(∀rec,g n=some rec→ba+szB t≤rec)→sF x.2 n w→js (d_ t B0 n) w
 aN:∀n rec,g n=some rec→∃t r t',rs=t++r::t'∧rec=ba+szB t∧zX r.aR n
 clean:∀n,g n=none→∀wr∈x.2.waiting,((wr.1:Nat):Int)≠n
 FE:∀n b,C n b→∃rec t r t',lookL n d=some (rec,true)∧rs=t++r::t'∧eR b 4 8=ba+szB t∧rec≤ba+szB t∧(¬mj n→∀t1 r1 t2,rs=t1++r1::t2→sG r1 n→szB t1≤szB t)
 flag:∀n rec,lookL n d=some (rec,false)→rec<ba+x.1.forced∧(¬mj n→∀t r t',rs=t++r::t'→sG r n→szB t<x.1.forced)
 ft:∀n rec,lookL n d=some (rec,true)→∃b,C n b
 now:∀n b,lookL n x.2.now=some b→∃wr∈x.2.waiting,((wr.1:Nat):Int)=n∧wr.2=b
 Bx:∀n rec fl,lookL n d=some (rec,fl)→g n=some rec
 KO:∀n rec,g n=some rec→mj n∨∃fl,lookL n d=some (rec,fl)
 ck:∀n w,0≤n→sF x.2 n w→dA w=0
 SN:∀n,mj n→lookL n d=none→∃t r,rs=t++[r]∧g n=some (ba+szB t)
theorem Rn {δ:Dk}{n:Int}{b:List Nat}(I:δ.dead=false)(J:δ.aF<0)(U:0≤n)(h1:n<δ.aq.length)(hb:b.length=512): δ.bI n b=(0,{ δ with waiting:=δ.waiting++[(n.toNat,b)],now:=cM n b δ.now,aF:=δ.aF }):=by
 rw [Dk.bI,af (by rw [I]; decide),af (not_not_intro ⟨U,h1,hb⟩),af (by omega),Dk.wr,fU J]
theorem sA {u v:List bW}: szB u≤szB (u++v):=by rw [rG]; omega
theorem rV (r:bW): 8≤r.len:=by simp only [bW.len]; omega
theorem AT {t t':List bW}{r:bW}: szB t<szB (t++r::t'):=by
 have:=rV r
 rw [rG,szB]; omega
section
variable {ba:Nat} {mj:Int→Prop} {B0:Int→List Nat} {rs:List bW} {g:Int→Option Nat} {C:Int→List Nat→Prop} {d:List (Int×(Nat×Bool))} {x:LD}
theorem RI.len (h:RI ba mj B0 rs g C d x): x.1.b.length=szB rs:=by rw [h.b,fO]
theorem RI.le (h:RI ba mj B0 rs g C d x): x.1.forced≤szB rs:=by
 obtain ⟨u,v,hu,I⟩:=h.forced
 rw [I,hu]; exact sA
theorem RI.all (h:RI ba mj B0 rs g C d x): RI ba mj B0 rs g C d ({ x.1 with forced:=x.1.b.length },{ x.2 with aL:=x.2.log.length }):=by
 have J:=h.len
 have hle:x.1.forced≤x.1.b.length:=by rw [J]; exact h.le
 refine ⟨h.base,h.b,h.log,h.alive,h.aF,⟨rs,[],by rw [bR],J⟩,by show x.1.b.length≤x.2.log.length; rw [h.b,h.log]; exact aK _,
  fun n w t t' h0 ht I hr hc=>h.mo n w t t' h0 ht (cL hle I) hr hc,h.aN,h.clean,h.FE,fun n rec U=>⟨gA (h.flag n rec U).1 (vK hle _),fun hp t r t' e q=>gA ((h.flag n rec U).2 hp t r t' e q) hle⟩,h.ft,h.now,h.Bx,h.KO,h.ck,h.SN⟩
theorem RI.force (h:RI ba mj B0 rs g C d x)(n:Nat)(U:n<ba+szB rs): ∃I,bC x n=(0,I)∧RI ba mj B0 rs g C d I∧n<ba+I.1.forced∧I.2.waiting=x.2.waiting∧I.2.aq=x.2.aq∧I.2.now=x.2.now:=by
 unfold bC
 by_cases J:n<x.1.base+x.1.forced
 ·rw [aj J]; exact ⟨x,rfl,h,by rw [←h.base]; exact J,rfl,rfl,rfl⟩
 ·have e:x.2.cE=(0,{ x.2 with aL:=x.2.log.length }):=by
   rw [Dk.cE,af (by rw [h.alive]; decide),af (by have:=h.aF; omega),fU h.aF]
  rw [af J,e,af (by simp)]
  exact ⟨_,rfl,h.all,by show n<ba+x.1.b.length; rw [h.len]; exact U,rfl,rfl,rfl⟩
theorem RI.od (N:Nat): jS N (RI ba mj B0 rs g):=by
 refine ⟨fun ε i f he hf h0 hc h => ?_⟩
 have h:RI ba mj B0 rs g (hO ε.1) ε.1.aN ε.2:=h
 obtain ⟨rec,t0,r0,t0',g1,g2,g3,g4,g5⟩:=h.FE f.aO f.b ⟨i,f,hf,rfl,h0,hc,rfl⟩
 have Bg:=(he.back i f hf).resolve_left (by omega)
 have hg:=Bg.mB hc
 have hi:=(List.getElem?_eq_some_iff.1 hf).1
 obtain ⟨x',kP,h',bS,w1,w2,w3⟩:=h.force (eR f.b 4 8) (by rw [g3,g2]; have:=AT (t:=t0) (r:=r0) (t':=t0'); omega)
 have J:=Rn (δ:=x'.2) (n:=f.aO) (b:=f.b) h'.alive h'.aF h0 (by rw [w2,he.dk.aq]; exact Bg.lt) (fA hg)
 have e:outF ε i=(0,({ ε.1 with ak:=ε.1.ak.set i { f with changed:=false },aN:=cM f.aO (me ε.1 f.aO,false) ε.1.aN },(x'.1,{ x'.2 with waiting:=x'.2.waiting++[(f.aO.toNat,f.b)],now:=cM f.aO f.b x'.2.now,aF:=x'.2.aF }))):=by
  unfold outF
  rw [hf]
  simp only
  rw [af (by rintro (q | q); omega; rw [hc] at q; cases q),af (by rw [hg]; decide),kP]
  simp only [jP,not_true_eq_false,bK]
  rw [J]
  simp only [jP,not_true_eq_false,bK]
 have hdr:me ε.1 f.aO=rec:=by simp only [me,g1]
 have hC:∀n b,hO { ε.1 with ak:=ε.1.ak.set i { f with changed:=false },aN:=cM f.aO (me ε.1 f.aO,false) ε.1.aN } n b→hO ε.1 n b∧n≠f.aO:=by
  rintro n b ⟨j,y,hy,k1,k0,k2,k3⟩
  rcases nE hf hy with ⟨rfl,rfl⟩ | ⟨uj,hy⟩
  ·cases k2
  ·refine ⟨⟨j,y,hy,k1,k0,k2,k3⟩,fun I=>uj ?_⟩
   have h1:=((he.back j y hy).resolve_left (by omega)).here
   rw [k1,I,Bg.here] at h1
   have:=bw h1
   omega
 have SO:∀n b,hO ε.1 n b→n≠f.aO→hO { ε.1 with ak:=ε.1.ak.set i { f with changed:=false },aN:=cM f.aO (me ε.1 f.aO,false) ε.1.aN } n b:=by
  rintro n b ⟨j,y,hy,k1,k0,k2,k3⟩ I
  refine ⟨j,y,?_,k1,k0,k2,k3⟩
  show (ε.1.ak.set i _)[j]?=some y
  rw [iP]
  ·exact hy
  ·rintro rfl
   rw [hf] at hy
   exact I (by rw [←k1,bw hy])
 have hd:∀m,lookL m (cM f.aO (rec,false) ε.1.aN)=if f.aO=m then some (rec,false) else lookL m ε.1.aN:=fun m=>gQ _
 show RI ba mj B0 rs g (hO (outF ε i).2.1) (outF ε i).2.1.aN (outF ε i).2.2
 rw [e]
 simp only [hdr] at hC SO ⊢
 have EZ:g f.aO=some rec:=h.Bx _ _ _ g1
 refine ⟨h'.base,h'.b,h'.log,h'.alive,h'.aF,h'.forced,h'.cert,fun n w t t' sL ht qK hr ql => ?_,h'.aN,fun n I wr J => ?_,fun n b hb => ?_,fun n U I => ?_,fun n U I => ?_,fun n b hb => ?_,fun n U fl I => ?_,fun n U I => ?_,fun n w sL ql => ?_,fun n hp I => ?_⟩
 ·by_cases I:f.aO=n
  ·exfalso
   have:=hr rec (by rw [←I]; exact EZ)
   have qK:x'.1.forced≤szB t:=qK
   omega
  ·have aaT:sF x'.2 n w:=by
    rcases ql with hq | ⟨wr,J,q1,q2⟩
    ·exact .inl hq
    ·rcases List.mem_append.1 J with J | J
     ·exact .inr ⟨wr,J,q1,q2⟩
     ·rw [List.mem_singleton.1 J] at q1
      simp only at q1
      omega
   exact h'.mo n w t t' sL ht qK hr aaT
 ·rcases List.mem_append.1 J with J | J
  ·exact h'.clean n I wr J
  ·rw [List.mem_singleton.1 J]
   intro q
   simp only at q
   rw [show n=f.aO by omega,EZ] at I
   cases I
 ·obtain ⟨k1,k2⟩:=hC n b hb
  obtain ⟨r',t,r,t',m1,m2⟩:=h.FE n b k1
  exact ⟨r',t,r,t',by rw [hd,af (fun q=>k2 q.symm)]; exact m1,m2⟩
 ·rw [hd] at I
  by_cases hq:f.aO=n
  ·rw [aj hq] at I
   injection I with I
   injection I with I _
   refine ⟨by show U<ba+x'.1.forced; omega,fun hp t r t' ht jZ => ?_⟩
   have:=g5 (by rw [hq]; exact hp) t r t' ht (by rw [hq]; exact jZ)
   show szB t<x'.1.forced
   omega
  ·rw [af hq] at I
   exact h'.flag n U I
 ·rw [hd] at I
  by_cases hq:f.aO=n
  ·rw [aj hq] at I; cases I
  ·rw [af hq] at I
   obtain ⟨b,hb⟩:=h.ft n U I
   exact ⟨b,SO n b hb (fun q=>hq q.symm)⟩
 ·rw [gQ] at hb
  by_cases hq:f.aO=n
  ·rw [aj hq] at hb
   injection hb with hb
   exact ⟨(f.aO.toNat,f.b),List.mem_append.2 (.inr bn),by simp only; omega,hb⟩
  ·rw [af hq] at hb
   obtain ⟨wr,k1,k2⟩:=h'.now n b hb
   exact ⟨wr,List.mem_append.2 (.inl k1),k2⟩
 ·rw [hd] at I
  by_cases hq:f.aO=n
  ·rw [aj hq] at I
   injection I with I
   injection I with I _
   rw [←hq,EZ,I]
  ·rw [af hq] at I
   exact h.Bx n U fl I
 ·rcases h.KO n U I with q | ⟨fl,q⟩
  ·exact .inl q
  ·refine .inr ?_
   by_cases hq:f.aO=n
   ·exact ⟨false,by rw [hd,aj hq]; rw [←hq,EZ] at I; rw [bw I]⟩
   ·exact ⟨fl,by rw [hd,af hq]; exact q⟩
 ·rcases ql with hq | ⟨wr,J,q1,q2⟩
  ·exact h'.ck n w sL (.inl hq)
  ·rcases List.mem_append.1 J with J | J
   ·exact h'.ck n w sL (.inr ⟨wr,J,q1,q2⟩)
   ·rw [q2,List.mem_singleton.1 J]; exact Bg.aC
 ·rw [hd] at I
  by_cases hq:f.aO=n
  ·rw [aj hq] at I; cases I
  ·rw [af hq] at I
   exact h.SN n hp I
theorem RI.app (h:RI ba (fun _=>False) B0 rs g C d x){r:bW}(hw:∀n,g n=none→sG r n→zX r.aR n){μ:Lg}{δ:Dk}(m1:μ.base=x.1.base)(m2:μ.b=logB ba (rs++[r]))(m3:μ.forced=x.1.forced)
 (e1:δ.log=logB ba (rs++[r]))(e2:δ.dead=x.2.dead)(e3:δ.aF=x.2.aF)(e4:δ.aL=x.2.aL)(e5:δ.waiting=x.2.waiting)(e6:δ.aq=x.2.aq)(e7:δ.now=x.2.now){p:Int→Prop}[DecidablePred p](hp:∀n,p n↔sG r n):
  RI ba p B0 (rs++[r]) (fun n=>match g n with | some rec=>some rec | none=>if p n then some (ba+szB rs) else none) C d (μ,δ):=by
 have rW:∀n w,sF δ n w→sF x.2 n w:=fun n w hc=>by
  simp only [sF,imgOf,e5,e6] at hc
  exact hc
 have Ml:∀ {n rec},g n=some rec→(match g n with | some rec=>some rec | none=>if p n then some (ba+szB rs) else none)=some rec:=fun I=>by rw [I]
 have Yg:∀ {n},(match g n with | some rec=>some rec | none=>if p n then some (ba+szB rs) else none)=none→g n=none∧¬p n:=fun {n} I=>by
  cases U:g n with
  | some rec=>rw [U] at I; cases I
  | none =>
   rw [U] at I
   simp only at I
   split at I
   ·cases I
   ·exact ⟨rfl,by assumption⟩
 have SP:∀ {n rec},(match g n with | some rec=>some rec | none=>if p n then some (ba+szB rs) else none)=some rec→g n=some rec∨(g n=none∧p n∧rec=ba+szB rs):=fun {n rec} I=>by
  cases U:g n with
  | some Mm=>rw [U] at I; exact .inl I
  | none =>
   rw [U] at I
   simp only at I
   split at I
   ·exact .inr ⟨rfl,by assumption,(bw I).symm⟩
   ·cases I
 have Gc:∀ {n t r1 t'},rs++[r]=t++r1::t'→sG r1 n→¬p n→∃It,rs=t++r1::It:=fun {n t r1 t'} ht hc I=>by
  rcases tv t' with rfl | ⟨It,z,rfl⟩
  ·have Dq:rs++[r]=t++[r1]:=ht
   obtain ⟨_,e⟩:=mW Dq rfl
   injection e with e
   rw [←e] at hc
   exact absurd ((hp n).2 hc) I
  ·have Dq:rs++[r]=(t++r1::It)++[z]:=by rw [ht]; simp
   exact ⟨It,(mW Dq rfl).1⟩
 refine ⟨m1.trans h.base,m2,e1,e2.trans h.alive,by show δ.aF<0; rw [e3]; exact h.aF,?_,by show μ.forced≤δ.aL; rw [m3,e4]; exact h.cert,fun n w t t' h0 ht qK hr hc => ?_,fun n rec I => ?_,fun n I => ?_,fun n b hb => ?_,fun n rec I => ?_,h.ft,fun n b hb => ?_,fun n rec fl I => ?_,fun n rec I => ?_,fun n w h0 hc=>h.ck n w h0 (rW n w hc),fun n J I=>⟨rs,r,rfl,?_⟩⟩
 ·obtain ⟨u,v,hu,hf⟩:=h.forced
  exact ⟨u,v++[r],by rw [hu,bN],by show μ.forced=_; rw [m3]; exact hf⟩
 ·have qK:x.1.forced≤szB t:=by have:μ.forced≤szB t:=qK; omega
  rcases tv t' with rfl | ⟨It,z,rfl⟩
  ·-- all of it
   rw [bR] at ht
   subst ht
   have hg:g n=none∧¬p n:=by
    cases U:g n with
    | some rec =>
     obtain ⟨a,b,c,k1,k2,_⟩:=h.aN n rec U
     have:=hr rec (Ml U)
     have:=AT (t:=a) (r:=b) (t':=c)
     rw [←k1] at this
     have:=sA (u:=rs) (v:=[r])
     omega
    | none =>
     refine ⟨rfl,fun J => ?_⟩
     have:=hr (ba+szB rs) (by rw [U]; simp only; rw [aj J])
     have:=AT (t:=rs) (r:=r) (t':=[])
     omega
   have hs:d_ (rs++[r]) B0 n=d_ rs B0 n:=by
    rw [pY]
    show ir r.aR (d_ rs B0) n=_
    have:∀(l:List cj) (σ:Int→List Nat),(∀c∈l,c.aO≠n)→ir l σ n=σ n:=by
     intro l
     induction l with
     | nil=>intro σ _; rfl
     | cons c l ih =>
      intro σ hl
      show ir l (jq c σ) n=σ n
      rw [ih _ (fun c hc=>hl c (bl _ hc)),jq,af (fun q=>hl c bn q.symm)]
    exact this _ _ fun c hc q=>hg.2 ((hp n).2 ⟨c,hc,q⟩)
   rw [hs]
   exact h.mo n w rs [] (by rw [Bw,←e6]; exact h0) (by rw [bR]) h.le (fun rec q=>by rw [hg.1] at q; cases q) (rW n w hc)
  ·have Dq:rs++[r]=(t++It)++[z]:=by rw [ht]; simp
   have ht3:=(mW Dq rfl).1
   exact h.mo n w t It (by rw [Bw,←e6]; exact h0) ht3 qK (fun rec q=>hr rec (Ml q)) (rW n w hc)
 ·rcases SP I with U | ⟨U,J,rfl⟩
  ·obtain ⟨a,b,c,k1,k2,k3⟩:=h.aN n rec U
   exact ⟨a,b,c++[r],by rw [k1]; simp,k2,k3⟩
  ·exact ⟨rs,r,[],rfl,rfl,hw n U ((hp n).1 J)⟩
 ·show ∀wr∈δ.waiting,_
  rw [e5]
  exact h.clean n (Yg I).1
 ·obtain ⟨rec,t,r1,t',k1,k2,k3,k4,k5⟩:=h.FE n b hb
  refine ⟨rec,t,r1,t'++[r],k1,by rw [k2]; simp,k3,k4,fun J t1 r2 t2 e q => ?_⟩
  obtain ⟨t3,e3⟩:=Gc e q J
  exact k5 (fun q=>q) t1 r2 t3 e3 q
 ·obtain ⟨k1,k2⟩:=h.flag n rec I
  refine ⟨by show rec<ba+μ.forced; rw [m3]; exact k1,fun J t r1 t' e q => ?_⟩
  obtain ⟨t3,e3⟩:=Gc e q J
  show szB t<μ.forced
  rw [m3]
  exact k2 (fun q=>q) t r1 t3 e3 q
 ·obtain ⟨wr,k1,k2⟩:=h.now n b (by rw [←e7]; exact hb)
  exact ⟨wr,by show wr∈δ.waiting; rw [e5]; exact k1,k2⟩
 ·exact Ml (h.Bx n rec fl I)
 ·rcases SP I with U | ⟨U,J,rfl⟩
  ·rcases h.KO n rec U with q | q
   ·exact q.elim
   ·exact .inr q
  ·exact .inl J
 ·cases U:g n with
  | none=>simp only; rw [aj J]
  | some rec =>
   rcases h.KO n rec U with q | ⟨fl,q⟩
   ·exact q.elim
   ·rw [I] at q; cases q
end
theorem Ro {b:List Nat}{n:Nat}(I:b.length=512)(J:n<18446744073709551616): eR (cO b n) 4 8=n:=by
 have U:=(pX (n:=n) I).2.2.1
 have e1:eR (cO b n) 4 8=leN (((cO b n).drop 4).take 8):=by rw [eR,tI]
 have h4:(b.take 4).length=4:=by rw [dI]; omega
 have e2:(m_ b n).drop 4=le 8 n++b.drop (4+(le 8 n).length):=by
  rw [m_,c9,Dw (by omega),tu (by omega),cW]
 rw [e1,U,e2,oU (by rw [cX]; omega),fL (by rw [cX]; omega),sr]
 exact gT J
theorem lookL_filter {n:Int}: ∀ {d:List (Int×(Nat×Bool))},(d.map (·.1)).Nodup→lookL n (d.filter fun e=>e.2.2)=match lookL n d with | some (rec,true)=>some (rec,true) | _=>none:=by
 intro d
 induction d with
 | nil=>intro _; rfl
 | cons e d J =>
  intro U
  obtain ⟨h1,h2⟩:=List.nodup_cons.1 U
  obtain ⟨k,rec,fl⟩:=e
  have J:=J h2
  cases fl with
  | true =>
   rw [List.filter_cons_of_pos (by rfl)]
   simp only [lookL]
   by_cases I:k=n
   ·rw [aj I,aj I]
   ·rw [af I,af I,J]
  | false =>
   rw [List.filter_cons_of_neg (by simp),J]
   simp only [lookL]
   by_cases I:k=n
   ·rw [aj I,f_.2 (by rw [←I]; exact h1)]
   ·rw [af I]
section
variable {N ba:Nat} {mj:Int→Prop} {B0:Int→List Nat} {rs:List bW} {g:Int→Option Nat} {ε ε':aM}
theorem uV {p:Int→Prop}: vw (RI ba p B0 rs g) ε↔RI ba p B0 rs g (hO ε.1) ε.1.aN ε.2:=Iff.rfl
theorem RI.put (h:vw (RI ba mj B0 rs g) ε)(he:EC N ε){n:Int}{i:Nat}{f:Fm}{b:List Nat}{aI:Nat}(hl:lookL n ε.1.aH=some (i:Int))(hf:ε.1.ak[i]?=some f)(hb:b.length=512)(h0:0≤n)(hp:mj n)
 (Gc:∃t r,rs=t++[r]∧aI=ba+szB t)(bS:aI<18446744073709551616): vw (RI ba (fun m=>mj m∧m≠n) B0 rs g) (uR ε.1 n i f b aI,ε.2):=by
 have h:=uV.1 h
 have hi:=(List.getElem?_eq_some_iff.1 hf).1
 obtain ⟨t0,r0,e0,e1⟩:=Gc
 have mC:f.aO=n:=by
  obtain ⟨_,j,x,uj,hx,wE⟩:=he.j9 n i hl
  have:i=j:=by omega
  subst this
  rw [hf] at hx
  rw [bw hx]; exact wE
 have J:∀m,lookL m (cM n (dW ε.1 n aI,true) ε.1.aN)=if n=m then some (dW ε.1 n aI,true) else lookL m ε.1.aN:=fun m=>gQ _
 have hg:g n=some (dW ε.1 n aI)∧dW ε.1 n aI≤aI:=by
  cases I:lookL n ε.1.aN with
  | some x =>
   obtain ⟨rec,fl⟩:=x
   have:=h.Bx n rec fl I
   have e:dW ε.1 n aI=rec:=by simp only [dW,I]
   rw [e]
   refine ⟨this,?_⟩
   obtain ⟨a,c,a',k1,k2,_⟩:=h.aN n rec this
   rw [k2,e1]
   have:szB a≤szB t0:=by
    rcases tv a' with rfl | ⟨yy,z,rfl⟩
    ·have:t0++[r0]=a++[c]:=by rw [←e0,k1]
     rw [(mW this rfl).1]; exact aK _
    ·have:t0++[r0]=(a++c::yy)++[z]:=by rw [←e0,k1]; simp
     rw [(mW this rfl).1]; exact sA
   omega
  | none =>
   have e:dW ε.1 n aI=aI:=by simp only [dW,I]
   obtain ⟨t,r,k1,k2⟩:=h.SN n hp I
   rw [e,k2]
   have:t0++[r0]=t++[r]:=by rw [←e0,k1]
   rw [e1,(mW this rfl).1]
   exact ⟨rfl,aK _⟩
 have hC:∀m c,hO (uR ε.1 n i f b aI) m c→(m=n∧c=cO b aI)∨(m≠n∧hO ε.1 m c):=by
  rintro m c ⟨j,y,U,k1,k0,k2,k3⟩
  rcases nE hf U with ⟨rfl,rfl⟩ | ⟨uj,U⟩
  ·exact .inl ⟨by rw [←k1]; exact mC,k3.symm⟩
  ·refine .inr ⟨fun Wu=>uj ?_,j,y,U,k1,k0,k2,k3⟩
   have h1:=((he.back j y U).resolve_left (by omega)).here
   rw [k1,Wu,hl] at h1
   have:=bw h1
   omega
 have SO:hO (uR ε.1 n i f b aI) n (cO b aI):=⟨i,{ f with b:=cO b aI,changed:=true,pins:=0 },by show (ε.1.ak.set i _)[i]?=_; exact iO hi,mC,h0,rfl,rfl⟩
 have hC3:∀m c,m≠n→hO ε.1 m c→hO (uR ε.1 n i f b aI) m c:=by
  rintro m c hm ⟨j,y,U,k1,k0,k2,k3⟩
  refine ⟨j,y,?_,k1,k0,k2,k3⟩
  show (ε.1.ak.set i _)[j]?=some y
  rw [iP]
  ·exact U
  ·rintro rfl
   rw [hf] at U
   exact hm (by rw [←k1,←bw U]; exact mC)
 have ZF:∀ {m},m≠n→¬(mj m∧m≠n)→¬mj m:=fun hm I iB=>I ⟨iB,hm⟩
 refine ⟨h.base,h.b,h.log,h.alive,h.aF,h.forced,h.cert,h.mo,h.aN,h.clean,fun m c hc => ?_,fun m rec hm => ?_,fun m rec hm => ?_,h.now,fun m rec fl hm => ?_,fun m rec hm => ?_,h.ck,fun m hm I => ?_⟩
 ·rcases hC m c hc with ⟨rfl,rfl⟩ | ⟨hm,hc⟩
  ·refine ⟨dW ε.1 m aI,t0,r0,[],?_,e0,?_,?_,fun _ t1 r1 t2 q _ => ?_⟩
   ·show lookL m (cM m _ _)=_; rw [J,aj rfl]
   ·rw [Ro hb bS,e1]
   ·rw [←e1]; exact hg.2
   ·rcases tv t2 with rfl | ⟨t3,z,rfl⟩
    ·have:t0++[r0]=t1++[r1]:=by rw [←e0,q]
     rw [(mW this rfl).1]; exact aK _
    ·have:t0++[r0]=(t1++r1::t3)++[z]:=by rw [←e0,q]; simp
     rw [(mW this rfl).1]; exact sA
  ·obtain ⟨rec,t,r,t',k1,k2,k3,k4,k5⟩:=h.FE m c hc
   exact ⟨rec,t,r,t',by show lookL m (cM n _ _)=_; rw [J,af (fun q=>hm q.symm)]; exact k1,k2,k3,k4,fun q=>k5 (ZF hm q)⟩
 ·have hm:lookL m (cM n (dW ε.1 n aI,true) ε.1.aN)=some (rec,false):=hm
  rw [J] at hm
  by_cases I:n=m
  ·rw [aj I] at hm; cases hm
  ·rw [af I] at hm
   obtain ⟨k1,k2⟩:=h.flag m rec hm
   exact ⟨k1,fun q=>k2 (ZF (fun q=>I q.symm) q)⟩
 ·have hm:lookL m (cM n (dW ε.1 n aI,true) ε.1.aN)=some (rec,true):=hm
  rw [J] at hm
  by_cases I:n=m
  ·subst I; exact ⟨_,SO⟩
  ·rw [af I] at hm
   obtain ⟨c,hc⟩:=h.ft m rec hm
   exact ⟨c,hC3 m c (fun q=>I q.symm) hc⟩
 ·have hm:lookL m (cM n (dW ε.1 n aI,true) ε.1.aN)=some (rec,fl):=hm
  rw [J] at hm
  by_cases I:n=m
  ·rw [aj I] at hm
   injection hm with hm
   injection hm with hm _
   rw [←I,hg.1,hm]
  ·rw [af I] at hm
   exact h.Bx m rec fl hm
 ·by_cases I:n=m
  ·subst I
   rw [hg.1] at hm
   exact .inr ⟨true,by show lookL n (cM n _ _)=_; rw [J,aj rfl,bw hm]⟩
  ·rcases h.KO m rec hm with q | ⟨fl,q⟩
   ·exact .inl ⟨q,fun q=>I q.symm⟩
   ·exact .inr ⟨fl,by show lookL m (cM n _ _)=_; rw [J,af I]; exact q⟩
 ·have I:lookL m (cM n (dW ε.1 n aI,true) ε.1.aN)=none:=I
  rw [J,af (fun q=>hm.2 q.symm)] at I
  exact h.SN m hm.1 I
theorem qz.ri {now:List (Int×List Nat)}{aI:Nat}{l:List Int}{e:Int}(J:qz now aI l ε e ε'): ∀ {p:Int→Prop},EC N ε→hG ε→NW N now→(∀n∈l,0≤n∧n<N)→l.Nodup→(∀n∈l,p n)→(∃t r,rs=t++[r]∧aI=ba+szB t)→aI<18446744073709551616 →
  vw (RI ba p B0 rs g) ε→vw (RI ba (fun m=>p m∧m∉l) B0 rs g) ε':=by
 induction J with
 | nil ε =>
  intro p _ _ _ _ _ _ _ _ hv
  have:(fun m=>p m∧m∉([]:List Int))=p:=funext fun m=>propext ⟨fun q=>q.1,fun q=>⟨q,by simp⟩⟩
  rw [this]; exact hv
 | iZ n l ε e b ε' J he =>
  intro p h h3 hn hl
  have:=hl n bn
  exact absurd ((J.ec h).2.2.1 this.1 this.2).1 he
 | bad n l ε b0 b ε' J hb he =>
  intro p h h3 hn hl
  exact absurd ((J.put (b:=b) (aI:=aI) h3).2.2 (hn.look hb).1) he
 | put n l ε b0 b ε' e pV J hb he ht ih =>
  intro p h h3 hn hl nc hp I bS hv
  have U:=hl n bn
  obtain ⟨k1,k2,k3,k4⟩:=J.ec h
  obtain ⟨i,f,p1,p2,p3,p4,p5⟩:=J.at h3.pins
  have hg:=hn.look hb
  have e1:=xy (aI:=aI) p1 p2 p3 hg.1
  obtain ⟨q1,q2⟩:=k1.put (aI:=aI) p1 p2 hg.1 hg.2 U.1 U.2
  have Gm:=(J.put (b:=b) (aI:=aI) h3).1
  have r_:vw (RI ba p B0 rs g) ε':=(RI.od N).iZ J h hv
  have ng:=RI.put r_ k1 p1 p2 (fA hg.1) U.1 (hp n bn) I bS
  rw [e1] at ih Gm
  obtain ⟨d1,d2⟩:=List.nodup_cons.1 nc
  have:=ih q1 Gm hn (fun m hm=>hl m (bl _ hm)) d2 (p:=fun m=>p m∧m≠n) (fun m hm=>⟨hp m (bl _ hm),fun q=>d1 (by rw [←q]; exact hm)⟩) I bS ng
  have e:(fun m=>(p m∧m≠n)∧m∉l)=(fun m=>p m∧m∉n::l):=funext fun m=>propext ⟨fun q=>⟨q.1.1,by simp only [fb,pG]; exact ⟨q.1.2,q.2⟩⟩,fun q=>by
   have:=q.2
   simp only [fb,pG] at this
   exact ⟨⟨q.1,this.1⟩,this.2⟩⟩
  rw [←e]; exact this
end
end Go.Proofs.YtconhghphklfjaaGreat.Am
