/- SpaceRoots: a part of its proof; conditions: its statement's. -/
import Derived.Test.YtefepnnfphdkpaaGreatF41
namespace Go.Proofs.YtefepnnfphdkpaaGreat.Am
open Go
theorem Qb {n:Int}: ∀ {l:List cq} {σ:Int→List Nat},(∀c∈l,c.aL≠n)→iS l σ n=σ n:=by
 intro l
 induction l with
 | nil=>intro σ _; rfl
 | cons c l J =>
  intro σ I
  show iS l (jm c σ) n=σ n
  rw [J fun c hc=>I c (bn _ hc),jm,ah (fun q=>I c bu q.symm)]
theorem SG {n:Int}: ∀ {l:List bZ} {σ:Int→List Nat},(∀r∈l,¬vF r n)→fO l σ n=σ n:=by
 intro l
 induction l with
 | nil=>intro σ _; rfl
 | cons r l J =>
  intro σ I
  show fO l (iS r.aM σ) n=σ n
  rw [J fun r hr=>I r (bn _ hr),Qb fun c hc q=>I r bu ⟨c,hc,q⟩]
section
variable {N ba:Nat} {B0:Int→List Nat} {rs:List bZ} {g:Int→Option Nat} {ε ε':aI}
end
theorem SH {pg:Int}{cX now:List Nat}{i:Nat}{l:List cq}(J:uG pg cX now i l): ∀c∈l,c.aL=pg:=by
 induction J with
 | done i h=>intro c I; cases I
 | skip i l h he J ih=>exact ih
 | take i e l h1 h2 _ _ J ih =>
  intro c I
  rcases List.mem_cons.1 I with rfl | I
  ·rfl
  ·exact ih c I
theorem SI {pg:Int}{cX now:List Nat}{c:List cq}(J:FP pg cX now c): (∀x∈c,x.aL=pg)∧c≠[]:=by
 obtain ⟨l,hl,rfl⟩:=J
 by_cases I:l=[]
 ·rw [aj I]
  exact ⟨fun x hx=>by rw [List.mem_singleton.1 hx],by simp⟩
 ·rw [ah I]
  exact ⟨SH hl,I⟩
theorem X1 {pg:Int}{cX now:List Nat}{i:Nat}{l:List cq}(J:uG pg cX now i l)(hn:∀x∈now,x<256): ∀c∈l,∀x∈c.b,x<256:=by
 induction J with
 | done i h=>intro c I; cases I
 | skip i l h he J ih=>exact ih
 | take i e l h1 h2 _ _ J ih =>
  intro c I
  rcases List.mem_cons.1 I with rfl | I
  ·exact fun x hx=>hn x (gW (iT hx))
  ·exact ih c I
theorem X2 {pg:Int}{cX now:List Nat}{c:List cq}(hr:FP pg cX now c)(hn:∀x∈now,x<256): ∀x∈c,∀y∈x.b,y<256:=by
 obtain ⟨l,hl,rfl⟩:=hr
 by_cases I:l=[]
 ·rw [aj I]
  intro x hx y J
  rw [List.mem_singleton.1 hx] at J
  cases J
 ·rw [ah I]
  exact X1 hl hn
theorem js.lt {N:Nat}{now:List (Int×List Nat)}{l:List Int}{ε ε':aI}{e:Int}{cs:List cq}(hr:js now l ε e cs ε')(hn:NW N now): ∀c∈cs,∀x∈c.b,x<256:=by
 induction hr with
 | nil ε=>intro c J; cases J
 | err n l ε e b ε' hr he=>intro c J; cases J
 | part n l ε cX b ε' c e cs kE hr hb jr J iG ht ih =>
  intro x I
  rcases List.mem_append.1 I with I | I
  ·exact X2 J (hn.look hb).2 x I
  ·exact ih x I
 | whole n l ε cX b ε' e cs kE hr hb jr ht ih =>
  intro x I
  rcases List.mem_cons.1 I with rfl | I
  ·exact (hn.look hb).2
  ·exact ih x I
structure I9 (rs:List bZ)(B0:Int→List Nat): Prop where
 X3:∀n,∀x∈B0 n,x<256
 lt:∀r∈rs,∀c∈r.aM,∀x∈c.b,x<256
 gd:∀t t' n,rs=t++t'→(∃r∈t,vF r n)→b7 (fO t B0 n)=true
theorem Vv : ∀ {cs:List cq} {σ:Int→List Nat},(∀c∈cs,∀x∈c.b,x<256)→(∀n,∀x∈σ n,x<256)→∀n,∀x∈iS cs σ n,x<256:=by
 intro cs
 induction cs with
 | nil=>intro σ _ h; exact h
 | cons c cs J =>
  intro σ I h
  refine J (σ:=jm c σ) (fun x hx=>I x (bn _ hx)) fun n => ?_
  rw [jm]
  split
  ·split
   ·exact I c bu
   ·exact zu (h n) (I c bu)
  ·exact h n
theorem X4 : ∀ {rs:List bZ} {σ:Int→List Nat},(∀r∈rs,∀c∈r.aM,∀x∈c.b,x<256)→(∀n,∀x∈σ n,x<256)→∀n,∀x∈fO rs σ n,x<256:=by
 intro rs
 induction rs with
 | nil=>intro σ _ h; exact h
 | cons r rs J=>intro σ I h; exact J (σ:=iS r.aM σ) (fun x hx=>I x (bn _ hx)) (Vv (I r bu) h)
theorem I9.app {rs:List bZ}{B0:Int→List Nat}{r:bZ}(h:I9 rs B0)(h1:∀c∈r.aM,∀x∈c.b,x<256)(h2:∀n,vF r n→b7 (fO (rs++[r]) B0 n)=true): I9 (rs++[r]) B0:=by
 refine ⟨h.X3,fun x I => ?_,fun t t' n ht hc => ?_⟩
 ·rcases List.mem_append.1 I with I | I
  ·exact h.lt x I
  ·rw [List.mem_singleton.1 I]; exact h1
 ·rcases qC t' with rfl | ⟨BS,z,rfl⟩
  ·rw [bR] at ht
   subst ht
   by_cases hq:vF r n
   ·exact h2 n hq
   ·obtain ⟨x,I,J⟩:=hc
    rcases List.mem_append.1 I with I | I
    ·rw [wS]
     have:fO [r] (fO rs B0) n=fO rs B0 n:=SG fun y hy=>by rw [List.mem_singleton.1 hy]; exact hq
     rw [this]
     exact h.gd rs [] n (by rw [bR]) ⟨x,I,J⟩
    ·rw [List.mem_singleton.1 I] at J; exact absurd J hq
  ·have FY:rs++[r]=(t++BS)++[z]:=by rw [ht]; simp
   exact h.gd t BS n (mW FY rfl).1 hc
def X5 (N:Nat)(rs:List bZ)(B0:Int→List Nat)(ε:aI): Prop:=∀n,0≤n→n<(N:Int)→jU (fO rs B0 n) (pgA ε n)
abbrev Ge : Int→Prop:=fun _=>False
section
variable {N ba:Nat} {B0:Int→List Nat} {rs:List bZ} {g:Int→Option Nat} {ε ε':aI} {now:List (Int×List Nat)}
theorem js.st {l:List Int}{e:Int}{cs:List cq}(hr:js now l ε e cs ε'): ∀ {σ:Int→List Nat},EC N ε→jk ε→NW N now→l.Nodup→(∀n∈l,0≤n∧n<N)→vw (RI ba Ge B0 rs g) ε→(∀n∈l,jU (σ n) (pgA ε n)) →
  (∀n∈l,∀b,lookL n now=some b→jU (iS cs σ n) b)∧(∀n,n∉l→iS cs σ n=σ n)∧(∀n,(∃c∈cs,c.aL=n)↔n∈l)∧∀n∈l,g n=none→Ak cs n:=by
 induction hr with
 | nil ε=>intro σ _ _ _ _ _ _ _; exact ⟨fun n hn=>(by cases hn),fun _ _=>rfl,fun n=>⟨fun ⟨c,hc,_⟩=>(by cases hc),fun hn=>(by cases hn)⟩,fun n hn=>(by cases hn)⟩
 | err n l ε e b ε' hr he =>
  intro σ h h3 hn hd hl
  have:=hl n bu
  exact absurd ((hr.ec h h3.pins).2.2.1 this.1 this.2).1 he
 | part n l ε cX b ε' c e cs kE hr hb jr hc iG ht ih =>
  intro σ h h3 hn hd hl hv Jr
  obtain ⟨d1,d2⟩:=List.nodup_cons.1 hd
  have lW:=hl n bu
  obtain ⟨k1,k2,k3,_⟩:=hr.ec h h3.pins
  have hw:=(k3 lW.1 lW.2).2
  have tN:vw (RI ba Ge B0 rs g) ε':=(RI.vC N).rd hr h hv
  obtain ⟨q1,q2⟩:=X0 hc (eX (hn.look hb).1) (σ:=σ) (by rw [hw]; exact Jr n bu)
  obtain ⟨p1,p2⟩:=SI hc
  obtain ⟨i1,i2,i3,i4⟩:=ih (σ:=iS c σ) k1 (hr.mj h3) hn d2 (fun m hm=>hl m (bn _ hm)) tN (fun m hm=>by
   rw [q2 m (fun q=>d1 (by rw [←q]; exact hm)),k2]
   exact Jr m (bn _ hm))
  refine ⟨fun m hm b' J => ?_,fun m hm => ?_,fun m => ?_,fun m hm hg => ?_⟩
  ·rw [I6]
   rcases List.mem_cons.1 hm with rfl | hm
   ·rw [hb] at J
    rw [←bk J,i2 m d1]; exact q1
   ·exact i1 m hm b' J
  ·simp only [fq,qU] at hm
   rw [I6,i2 m hm.2,q2 m hm.1]
  ·constructor
   ·rintro ⟨x,I,rfl⟩
    rcases List.mem_append.1 I with I | I
    ·rw [p1 x I]; exact bu
    ·exact bn _ ((i3 _).1 ⟨x,I,rfl⟩)
   ·intro hm
    rcases List.mem_cons.1 hm with rfl | hm
    ·obtain ⟨x,I⟩:=List.exists_mem_of_ne_nil _ p2
     exact ⟨x,List.mem_append.2 (.inl I),p1 x I⟩
    ·obtain ⟨x,I,e⟩:=(i3 m).2 hm
     exact ⟨x,List.mem_append.2 (.inr I),e⟩
  ·rcases List.mem_cons.1 hm with rfl | hm
   ·exfalso
    cases hq:lookL m ε'.1.bI with
    | none=>rw [hq] at jr; cases jr
    | some y =>
     obtain ⟨rec,fl⟩:=y
     have:=(uR.1 tN).I8 m rec fl hq
     rw [hg] at this
     cases this
   ·obtain ⟨x,I,e⟩:=i4 m hm hg
    exact ⟨x,List.mem_append.2 (.inr I),e⟩
 | whole n l ε cX b ε' e cs kE hr hb jr ht ih =>
  intro σ h h3 hn hd hl hv Jr
  obtain ⟨d1,d2⟩:=List.nodup_cons.1 hd
  have lW:=hl n bu
  obtain ⟨k1,k2,k3,_⟩:=hr.ec h h3.pins
  have tN:vw (RI ba Ge B0 rs g) ε':=(RI.vC N).rd hr h hv
  have q2:∀m,m≠n→jm ⟨n,0,true,b⟩ σ m=σ m:=fun m hm=>by rw [jm,ah hm]
  have q1:jm ⟨n,0,true,b⟩ σ n=b:=by rw [jm,aj rfl,aj rfl]
  obtain ⟨i1,i2,i3,i4⟩:=ih (σ:=jm ⟨n,0,true,b⟩ σ) k1 (hr.mj h3) hn d2 (fun m hm=>hl m (bn _ hm)) tN (fun m hm=>by
   rw [q2 m (fun q=>d1 (by rw [←q]; exact hm)),k2]
   exact Jr m (bn _ hm))
  refine ⟨fun m hm b' J => ?_,fun m hm => ?_,fun m => ?_,fun m hm hg => ?_⟩
  ·show jU (iS cs (jm _ σ) m) b'
   rcases List.mem_cons.1 hm with rfl | hm
   ·rw [hb] at J
    rw [←bk J,i2 m d1,q1]; exact jU.refl (eX (hn.look hb).1)
   ·exact i1 m hm b' J
  ·simp only [fq,qU] at hm
   show iS cs (jm _ σ) m=σ m
   rw [i2 m hm.2,q2 m hm.1]
  ·constructor
   ·rintro ⟨x,I,rfl⟩
    rcases List.mem_cons.1 I with rfl | I
    ·exact bu
    ·exact bn _ ((i3 _).1 ⟨x,I,rfl⟩)
   ·intro hm
    rcases List.mem_cons.1 hm with rfl | hm
    ·exact ⟨_,bu,rfl⟩
    ·obtain ⟨x,I,e⟩:=(i3 m).2 hm
     exact ⟨x,bn _ I,e⟩
  ·rcases List.mem_cons.1 hm with rfl | hm
   ·exact ⟨_,bu,rfl,rfl⟩
   ·obtain ⟨x,I,e⟩:=i4 m hm hg
    exact ⟨x,bn _ I,e⟩
theorem pM.ri {B aH kd tx aK:Nat}{mk:List Nat}{data:List Nat}(hr:pM ε now kd tx 0 0 data 0 aK 0 true ε')(h:EI N B ε)(hB:B≤1000)(hn:NW N now)(hl:LR ba aH mk rs ε.2)(h1:1≤kd)(h2:kd≤7)(ht:tx<65536)
 (hv:vw (RI ba Ge B0 rs g) ε)(fN:X5 N rs B0 ε)(qx:I9 rs B0): ∃(r:bZ) (g':Int→Option Nat),r.Ok∧r.kd=kd∧r.tx=tx∧r.pv=0∧r.nx=0∧r.data=data∧aK=ba+szB rs∧LR ba aH mk (rs++[r]) ε'.2∧vw (RI ba Ge B0 (rs++[r]) g') ε'∧X5 N (rs++[r]) B0 ε'∧I9 (rs++[r]) B0 ∧
   (∀n rec,g' n=some rec→g n=some rec∨rec=ba+szB rs)∧∃I,js now (bU now) ε 0 r.aM I:=by
 have J:∀n∈bU now,0≤n∧n<N:=fun n hq=>hn.keys n (jJ.1 hq)
 have hN:=h.many
 have dZ:∀ {c:List cq} {ε':aI} {e:Int},js now (bU now) ε e c ε'→dD kd c=true:=fun hc=>by
  refine uL ⟨by omega,by omega⟩ (hc.fit (fun x hx=>eX (hn.good x hx).1) fun n hq => ?_)
  have:=J n hq
  omega
 have ni:(bU now).Nodup:=(fc _).nodup_iff.2 hn.nodup
 have Zj:=(h.done hB hn (by omega) (by omega) hr).resolve_left (by rintro ⟨q,_⟩; cases q)
 generalize hz:(0:Int)=e at hr
 generalize iG:true=cl at hr
 cases hr with
 | arg hh=>cases iG
 | dead _ _ _ hd=>cases iG
 | nF e c ε' _ _ _ _ hc he=>cases iG
 | app c I _ _ _ _ hc he=>cases iG
 | put c I e qo _ _ _ _ hc ha hp =>
  subst hz
  obtain ⟨c1,c2,c3⟩:=hc.ec h.ec h.ok J
  have hi:EI N B I:=⟨hc.mj h.ok,c1,hc.el h.el,cC hc.cn h.cn⟩
  have wM:=(Bk ba aH mk rs).ch hc hl
  obtain ⟨r,k1,k2,k3,k4,k5,k6,k7,k8,k9,k10,_⟩:=wM.app h1 (dZ hc) ht ha
  obtain ⟨a1,a2,a3⟩:=hi.app (kd:=kd) (tx:=tx) (pv:=0) (nx:=0) (data:=data) (c:=c) hB (dZ hc)
  have a3:=a3.resolve_right (by rw [ha]; rintro (q | ⟨q,_⟩) <;> cases q)
  obtain ⟨_,a4⟩:=a3
  have zP:vw (RI ba Ge B0 rs g) I:=(RI.vC N).ch hc h.ec h.ok hv
  obtain ⟨s1,s2,s3,s4⟩:=hc.st (σ:=fO rs B0) h.ec h.ok hn ni J hv (fun n hm=>by have:=J n hm; exact fN n this.1 this.2)
  subst k7
  have acq:(bA I.2 kd tx 0 0 data r.aM).1.1=ba+szB rs:=k8
  have eZ:=hi.el.size
  have pR:=wM.b
  have hba:=wM.base
  have bF:ba+szB rs<18446744073709551616:=by
   have:(logB ba rs).length=szB rs:=f_
   rw [pR,hba,this] at eZ
   omega
  have jT:∀n,n∈bU now↔vF r n:=fun n=>(s3 n).symm
  have um:=RI.app (uR.1 zP) (r:=r) (fun n hg hq=>s4 n ((jT n).2 hq) hg) (μ:=(bA I.2 kd tx 0 0 data r.aM).2.1) (δ:=(bA I.2 kd tx 0 0 data r.aM).2.2)
   (by rw [k9.base,hba]) k9.b (by rw [a4]; rfl) k9.log (by rw [a4]) (by rw [a4]) (by rw [a4]) (by rw [a4]) (by rw [a4]) (by rw [a4]) jT
  have PT:vw (RI ba (fun n=>n∈bU now) B0 (rs++[r]) (fun n=>match g n with | some rec=>some rec | none=>if n∈bU now then some (ba+szB rs) else none)) (I.1,(bA I.2 kd tx 0 0 data r.aM).2):=um
  have hv4:=hp.ri a1.ec a1.ok hn J ni (fun n hm=>hm) ⟨rs,r,rfl,k8⟩ (by rw [k8]; exact bF) PT
  have e0:(fun m:Int=>m∈bU now∧m∉bU now)=Ge:=funext fun m=>propext ⟨fun q=>q.2 q.1,fun q=>q.elim⟩
  rw [e0] at hv4
  refine ⟨r,_,k1,k2,k3,k4,k5,k6,by rw [aj rfl]; exact k8,(Bk ba aH mk _).pt hp k9,hv4,fun n h0 ux => ?_,qx.app (hc.lt hn) (fun n hq => ?_),fun n rec hq => ?_,I,hc⟩
  ·rw [Zj.2.2.2 n,wS]
   show jU (iS r.aM (fO rs B0) n) _
   cases hq:lookL n now with
   | some b =>
    have hm:n∈bU now:=jJ.2 ((gU hq) |> sS (f:=(·.1)))
    exact (s1 n hm b hq).trans (I7 (eX (hn.look hq).1)).symm
   | none =>
    have hm:n∉bU now:=fun q=>j8.1 hq (jJ.1 q)
    rw [s2 n hm]
    exact fN n h0 ux
  ·have hm:=(jT n).2 hq
   cases hb:lookL n now with
   | none=>exact absurd (jJ.1 hm) (j8.1 hb)
   | some b =>
    rw [wS]
    show b7 (iS r.aM (fO rs B0) n)=true
    rw [(s1 n hm b hb).good]; exact (hn.look hb).1
  ·cases hg:g n with
   | some vG=>rw [hg] at hq; exact .inl hq
   | none =>
    rw [hg] at hq
    simp only at hq
    split at hq
    ·exact .inr (bk hq).symm
    ·cases hq
end
structure RS (N ba aH:Nat)(mk:List Nat)(rs:List bZ)(B0:Int→List Nat)(g:Int→Option Nat)(ε:aI): Prop where
 lr:LR ba aH mk rs ε.2
 ri:vw (RI ba Ge B0 rs g) ε
 st:X5 N rs B0 ε
 gd:I9 rs B0
theorem RS.pre {N ba aH:Nat}{mk:List Nat}{rs:List bZ}{B0:Int→List Nat}{g:Int→Option Nat}{ε ε':aI}(h:RS N ba aH mk rs B0 g ε)(I:∀P:VP,oo N P→vw P ε→vw P ε')(J:∀m,pgA ε' m=pgA ε m): RS N ba aH mk rs B0 g ε' :=
 ⟨I _ ((Bk ba aH mk rs).vC N) h.lr,I _ (RI.vC N) h.ri,fun n a b=>by rw [J]; exact h.st n a b,h.gd⟩
theorem DP {a b u v:List bZ}(h:a++b=u++v)(hs:szB a≤szB u): ∃w,u=a++w∧b=w++v:=by
 rcases List.append_eq_append_iff.1 h with ⟨w,I,J⟩ | ⟨w,I,J⟩
 ·exact ⟨w,I,J⟩
 ·cases w with
  | nil=>rw [bR] at I; subst I; exact ⟨[],by rw [bR],by rw [J]; rfl⟩
  | cons x w =>
   have:=Bl (t:=u) (r:=x) (t':=w)
   rw [←I] at this
   omega
structure TV (ba aH:Nat)(data:List Nat)(rs r1:List bZ)(F:Nat)(g:Int→Option Nat): Prop where
 low:∀n rec,g n=some rec→ba+szB r1≤rec
 pt:(aH=0∧data=[]∧r1=[])∨∃A1 rc B,rs=(r1++A1)++rc::B∧aH=ba+szB (r1++A1)∧aH≠0∧rc.kd=8∧8≤rc.data.length∧data=rc.data.drop 8∧max ba (leN (rc.data.take 8))=ba+szB r1∧szB (r1++A1)+rc.len≤F
section
variable {ba aH F:Nat} {data:List Nat} {rs r1:List bZ} {g:Int→Option Nat}
theorem TV.at (h:TV ba aH data rs r1 F g){u v:List bZ}(hu:rs=u++v)(hF:F≤szB u): ∃r2,Sz ba aH u data r1 r2:=by
 rcases h.pt with ⟨k1,k2,I⟩ | ⟨J,rc,B,k1,k2,I,k4,k5,k6,k7,k8⟩
 ·exact ⟨u,by rw [I]; rfl,.inl ⟨k1,k2,I⟩⟩
 ·obtain ⟨w,hw,_⟩:=DP (a:=(r1++J)++[rc]) (b:=B) (u:=u) (v:=v) (by rw [←hu,k1]; simp) (by rw [pP]; simp only [szB]; omega)
  exact ⟨J++rc::w,by rw [hw]; simp,.inr ⟨r1++J,rc,w,by rw [hw]; simp,k2,I,k4,k5,k6,k7⟩⟩
end
structure I_ (ba:Nat)(B0:Int→List Nat)(u v r1 r2:List bZ)(δ:Dk): Prop where
 split:u=r1++r2
 rs:∀r∈u++v,r.Ok
 log:∃j,δ.log++δ.tail=logB ba (u++v)++j∧rD j
 cert:szB u≤δ.bp
 len:δ.bp≤δ.log.length
 gd:I9 (u++v) B0
 oz:∀n w t t',Lr δ n→v=t++t'→¬si (r2++t) n→yc δ n w→jU (fO (u++t) B0 n) w∧gr w=0
 eE:∀w,δ.eE=some w→si r2 w.1
theorem RS.cr {N ba aH:Nat}{mk data:List Nat}{rs r1:List bZ}{B0:Int→List Nat}{g:Int→Option Nat}{ε:aI}(h:RS N ba aH mk rs B0 g ε)(hc:TV ba aH data rs r1 ε.2.1.forced g)(me:ε.2.2.Ok):
  ∃u v r2,rs=u++v∧ε.2.1.forced=szB u∧Sz ba aH u data r1 r2∧I_ ba B0 u v r1 r2 ε.2.2:=by
 have hv:=uR.1 h.ri
 obtain ⟨u,v,hu,hf⟩:=hv.forced
 obtain ⟨r2,J⟩:=hc.at hu (by rw [hf]; exact aD _)
 refine ⟨u,v,r2,hu,hf,J,J.1,by rw [←hu]; exact h.lr.rs,⟨[],by rw [h.lr.tail,h.lr.log,hu],.inl (by decide)⟩,by rw [←hf]; exact hv.cert,me.bp,by rw [←hu]; exact h.gd,fun n w t t' h0 ht hw qa => ?_,fun w hq=>by rw [h.lr.eE] at hq; cases hq⟩
 refine ⟨hv.oz n w (u++t) t' h0 (by rw [hu,ht,bS]) (by rw [hf]; exact qu) (fun rec I => ?_) qa,hv.ck n w h0.1 qa⟩
 refine DU fun bF => ?_
 obtain ⟨a,r,b,k1,k2,k3⟩:=hv.bI n rec I
 have uz:=hc.low n rec I
 have eZ:szB a<szB (u++t):=by omega
 obtain ⟨w1,e1,e2⟩:=DP (a:=a) (b:=r::b) (u:=u++t) (v:=t') (by rw [←k1,hu,ht,bS]) (Nat.le_of_lt eZ)
 cases w1 with
 | nil=>rw [bR] at e1; rw [e1] at eZ; omega
 | cons y w1 =>
  injection e2 with e2 e3
  subst e2
  obtain ⟨w2,e4,e5⟩:=DP (a:=r1) (b:=r2++t) (u:=a) (v:=r::w1) (by rw [←e1,J.1,bS]) (by omega)
  exact hw ⟨r,by rw [e5]; simp,k3⟩
def vH (P:List (Option (List Nat)))(n:Int): List Nat:=match P[n.toNat]? with
 | some (some b)=>b
 | _=>List.replicate 512 0
theorem Ja {P:List (Option (List Nat))}{k:Nat}{b:List Nat}{n:Int}(h0:0≤n): vH (P.set k (some b)) n=vH P n∨(((k:Nat):Int)=n∧vH (P.set k (some b)) n=b):=by
 unfold vH
 rw [qH]
 by_cases I:k=n.toNat
 ·rw [aj I]
  by_cases J:k<P.length
  ·rw [aj J]; exact .inr ⟨by omega,rfl⟩
  ·rw [ah J,←I,mU (by omega)]; exact .inl rfl
 ·rw [ah I]; exact .inl rfl
theorem SJ {c:List Nat}{n:Int}(I:0≤n): ∀ {W:List Wr} {i:Nat} {P:List (Option (List Nat))},vH (layW c i W P) n=vH P n∨∃wr∈W,((wr.1:Nat):Int)=n∧vH (layW c i W P) n=wr.2:=by
 intro W
 induction W with
 | nil=>intro i P; exact .inl rfl
 | cons w W J =>
  intro i P
  rw [layW]
  rcases J (i:=i+1) (P:=if c.getD i 0%2=0 then P.set w.1 (some w.2) else P) with h | ⟨wr,h1,h2,h3⟩
  ·rw [h]
   split
   ·rcases Ja (P:=P) (k:=w.1) (b:=w.2) I with q | ⟨q1,q2⟩
    ·exact .inl q
    ·exact .inr ⟨w,bu,q1,q2⟩
   ·exact .inl rfl
  ·exact .inr ⟨wr,bn _ h1,h2,h3⟩
theorem Qc {c:List Nat}{n:Int}{k:Nat}(I:0≤n){P:List (Option (List Nat))}{o:Option Wr}: vH (tornP c k P o) n=vH P n∨∃w,o=some w∧((w.1:Nat):Int)=n:=by
 cases o with
 | none=>exact .inl rfl
 | some w =>
  rw [tornP]
  rcases Ja (P:=P) (k:=w.1) (b:=aV (aV (List.replicate 512 0) 0 ((P.getD w.1 none).getD [])) 0 (w.2.take (c.getD k 0/2%5*128))) I with q | ⟨J,_⟩
  ·exact .inl q
  ·exact .inr ⟨w,rfl,J⟩
theorem Qd {j:List Nat}{k:Nat}(h:rD j): rD (j.take k):=by
 by_cases J:k<8
 ·left; rw [dM]; omega
 ·rcases h with h | h
  ·left; rw [dM]; omega
  ·by_cases I:(j.take k).length<8
   ·exact .inl I
   ·right
    rw [qM,nQ (by omega),dM]
    omega
theorem SK {rs:List bZ}{n K:Nat}{j:List Nat}(I:∀r∈rs,r.Ok)(hj:rD j): ∃dw fP J,rs=dw++fP∧(logB n rs++j).take K=logB n dw++J∧rD J:=by
 by_cases hK:K≤(logB n rs).length
 ·rw [nO hK]
  exact Vt rs n K I
 ·refine ⟨rs,[],j.take (K-(logB n rs).length),by rw [bR],?_,Qd hj⟩
  rw [sX,dO (by omega)]
theorem Nc {a b t:List Nat}{c K:Nat}(h:c≤a.length): a.take c++(a.drop c++t).take K=(a++t).take (c+K):=by
 rw [sX,sX,List.take_add,vU,bS]
 congr 3; omega
section
variable {ba:Nat} {B0:Int→List Nat} {u v r1 r2:List bZ} {δ:Dk}
theorem I_.Zk (h:I_ ba B0 u v r1 r2 δ)(c:List Nat): ∃t t',v=t++t'∧I_ ba B0 (u++t) [] r1 (r2++t) (fC δ c):=by
 obtain ⟨j,hl,hj⟩:=h.log
 have EZ:(fC δ c).log=(δ.log++δ.tail).take (δ.bp+kF δ c):=Nc (b:=[]) h.len
 have hlu:(logB ba u).length=szB u:=f_
 have hcu:=h.cert
 obtain ⟨t,t',j',e1,e2,e3⟩:=SK (rs:=v) (n:=ba+szB u) (K:=δ.bp+kF δ c-szB u) (j:=j) (fun r I=>h.rs r (List.mem_append.2 (.inr I))) hj
 have J:(fC δ c).log=logB ba (u++t)++j':=by
  rw [EZ,hl,yb,bS,sX,dO (by omega),hlu,e2,yb,bS]
 refine ⟨t,t',e1,by rw [h.split,bS],fun r I => ?_,⟨j',by rw [bR]; show (fC δ c).log++[]=_; rw [bR,J],e3⟩,?_,aD _,?_,fun n w a b h0 mL hw qa => ?_,fun w hq=>(by cases hq)⟩
 ·rw [bR] at I
  refine h.rs r ?_
  rw [e1]
  rcases List.mem_append.1 I with I | I
  ·exact List.mem_append.2 (.inl I)
  ·exact List.mem_append.2 (.inr (List.mem_append.2 (.inl I)))
 ·show szB (u++t)≤(fC δ c).log.length
  rw [J,bx,f_]; omega
 ·refine ⟨h.gd.X3,fun r I => ?_,fun a b n mL jT=>h.gd.gd a (b++t') n ?_ jT⟩
  ·rw [bR] at I
   refine h.gd.lt r ?_
   rw [e1,←bS]
   exact List.mem_append.2 (.inl I)
  ·rw [bR] at mL
   rw [e1,←bS,mL,bS]
 ·have hlen:(fC δ c).ax.length=δ.ax.length:=by
   show (tornP c _ _ δ.eE).length=_
   cases δ.eE with
   | none=>exact tI
   | some w=>rw [tornP,bW,tI]
  have Dr:Lr δ n:=⟨h0.1,by rw [←hlen]; exact h0.2⟩
  have h0:=h0.1
  obtain ⟨rfl,rfl⟩:=List.append_eq_nil_iff.1 mL.symm
  rw [bR] at hw ⊢
  have vl:w=vH (tornP c δ.waiting.length (layW c 0 δ.waiting δ.ax) δ.eE) n:=by
   rcases qa with qa | ⟨wr,zy,_⟩
   ·exact qa
   ·cases zy
  have DO:yc δ n w:=by
   rcases Qc (c:=c) (k:=δ.waiting.length) h0 (P:=layW c 0 δ.waiting δ.ax) (o:=δ.eE) with q | ⟨wt,q1,q2⟩
   ·rw [q] at vl
    rcases SJ (c:=c) h0 (W:=δ.waiting) (i:=0) (P:=δ.ax) with q | ⟨wr,k1,k2,k3⟩
    ·exact .inl (vl.trans q)
    ·exact .inr ⟨wr,k1,k2,vl.trans k3⟩
   ·exfalso
    obtain ⟨r,I,hc⟩:=h.eE wt q1
    rw [q2] at hc
    exact hw ⟨r,List.mem_append.2 (.inl I),hc⟩
  exact h.oz n w t t' Dr e1 hw DO
end
structure jK (ba:Nat)(B0:Int→List Nat)(u r1 r2:List bZ)(N:Nat)(δ:Dk): Prop where
 cr:I_ ba B0 u [] r1 r2 δ
 tail:δ.tail=[]
 ax:δ.ax.length=N
 keys:∀k:Int,k∈δ.now.map (·.1)→0≤k∧k<N
 nodup:(δ.now.map (·.1)).Nodup
 nw:∀n b,lookL n δ.now=some b→si r2 n
section
variable {ba N:Nat} {B0:Int→List Nat} {u r1 r2:List bZ} {δ:Dk}
theorem jK.die (h:jK ba B0 u r1 r2 N δ): jK ba B0 u r1 r2 N δ.die :=
 ⟨⟨h.cr.split,h.cr.rs,h.cr.log,h.cr.cert,h.cr.len,h.cr.gd,h.cr.oz,h.cr.eE⟩,h.tail,h.ax,h.keys,h.nodup,h.nw⟩
theorem jK.c8 (h:jK ba B0 u r1 r2 N δ): jK ba B0 u r1 r2 N δ.c8 :=
 ⟨⟨h.cr.split,h.cr.rs,h.cr.log,h.cr.cert,h.cr.len,h.cr.gd,h.cr.oz,h.cr.eE⟩,h.tail,h.ax,h.keys,h.nodup,h.nw⟩
theorem jK.X6 (h:jK ba B0 u r1 r2 N δ): ∃j,δ.log=logB ba u++j∧rD j:=by
 obtain ⟨j,I,J⟩:=h.cr.log
 rw [h.tail,bR,bR] at I
 exact ⟨j,I,J⟩
theorem jK.dG (h:jK ba B0 u r1 r2 N δ): jK ba B0 u r1 r2 N (δ.dG (szB u)).2∧((δ.dG (szB u)).1=0→(δ.dG (szB u)).2.log=logB ba u):=by
 obtain ⟨j,I,h2⟩:=h.X6
 have J:(logB ba u).length=szB u:=f_
 have hlen:δ.log.length=szB u+j.length:=by rw [I,bx,J]
 unfold Dk.dG
 split
 ·unfold Dk.qq
  split
  ·exact ⟨h,fun q=>(by cases q)⟩
  ·rw [ah (by omega)]
   split
   ·exact ⟨h.die,fun q=>(by cases q)⟩
   ·have e:δ.log.take (szB u)=logB ba u:=by rw [I,←J,ke rfl]
    refine ⟨⟨⟨h.cr.split,h.cr.rs,⟨[],?_,.inl (by decide)⟩,aD _,?_,h.cr.gd,h.cr.oz,h.cr.eE⟩,h.tail,h.ax,h.keys,h.nodup,h.nw⟩,fun _=>e⟩
    ·show δ.log.take (szB u)++δ.tail=_
     rw [e,h.tail,bR,bR,bR]
    ·show szB u≤(δ.log.take (szB u)).length
     rw [e,J]; exact aD _
 ·refine ⟨h,fun _ => ?_⟩
  have:j=[]:=List.length_eq_zero_iff.1 (by omega)
  rw [I,this,bR]
theorem jK.cK (h:jK ba B0 u r1 r2 N δ): jK ba B0 u r1 r2 N δ.cK.2:=by
 unfold Dk.cK
 split
 ·exact h
 ·split
  ·exact h.die
  ·have:=h.cr.len
   have:=h.cr.cert
   exact ⟨⟨h.cr.split,h.cr.rs,h.cr.log,by show szB u≤δ.log.length; omega,aD _,h.cr.gd,h.cr.oz,h.cr.eE⟩,h.tail,h.ax,h.keys,h.nodup,h.nw⟩
theorem jK.cH (h:jK ba B0 u r1 r2 N δ): jK ba B0 u r1 r2 N (δ.cH (szB u)).2∧((δ.cH (szB u)).1=0→(δ.cH (szB u)).2.log=logB ba u):=by
 obtain ⟨t1,t2⟩:=h.dG
 unfold Dk.cH
 split
 ·exact ⟨t1,fun q=>absurd q (by assumption)⟩
 ·rename_i I
  have t2:=t2 (Classical.not_not.1 I)
  split
  ·refine ⟨t1.cK,fun _ => ?_⟩
   have:(δ.dG (szB u)).2.cK.2.log=(δ.dG (szB u)).2.log:=by
    unfold Dk.cK
    split
    ·rfl
    ·split <;> rfl
   rw [this,t2]
  ·exact ⟨t1,fun _=>t2⟩
theorem jK.bK (h:jK ba B0 u r1 r2 N δ){k:Int}{b:List Nat}(hk:si r2 k): jK ba B0 u r1 r2 N (δ.bK k b).2∧((δ.bK k b).1=0→0≤k∧k<N∧∀n,lookL n (δ.bK k b).2.now=if k=n then some b else lookL n δ.now):=by
 unfold Dk.bK
 split
 ·exact ⟨h,fun q=>(by cases q)⟩
 ·split
  ·exact ⟨h,fun q=>(by cases q)⟩
  ·rename_i hr
   have hr:=Classical.not_not.1 hr
   have hN:=h.ax
   split
   ·refine ⟨⟨⟨h.cr.split,h.cr.rs,h.cr.log,h.cr.cert,h.cr.len,h.cr.gd,h.cr.oz,fun w hw => ?_⟩,h.tail,h.ax,h.keys,h.nodup,h.nw⟩,fun q=>(by cases q)⟩
    have:w=(k.toNat,b):=(bk hw).symm
    subst this
    rw [show ((k.toNat:Nat):Int)=k by omega]; exact hk
   ·refine ⟨⟨⟨h.cr.split,h.cr.rs,h.cr.log,h.cr.cert,h.cr.len,h.cr.gd,fun n w t t' h0 ht hw qa => ?_,h.cr.eE⟩,h.tail,h.ax,fun x hx => ?_,iL h.nodup,fun n c J => ?_⟩,fun _=>⟨hr.1,by omega,fun n=>gS _⟩⟩
    ·refine h.cr.oz n w t t' h0 ht hw ?_
     rcases qa with hq | ⟨wr,I,q1,q2⟩
     ·exact .inl hq
     ·rcases List.mem_append.1 I with I | I
      ·exact .inr ⟨wr,I,q1,q2⟩
      ·exfalso
       rw [List.mem_singleton.1 I] at q1
       obtain ⟨r,lW,NZ⟩:=hk
       simp only at q1
       exact hw ⟨r,List.mem_append.2 (.inl lW),by rw [←q1,show ((k.toNat:Nat):Int)=k by omega]; exact NZ⟩
    ·rcases oQ.1 hx with rfl | hx
     ·exact ⟨hr.1,by omega⟩
     ·exact h.keys x hx
    ·have J:lookL n (cB k b δ.now)=some c:=J
     rw [gS] at J
     by_cases hq:k=n
     ·rw [←hq]; exact hk
     ·rw [ah hq] at J; exact h.nw n c J
theorem jK.img (h:jK ba B0 u r1 r2 N δ){n:Int}(I:0≤n): imgOf δ.sync n=match lookL n δ.now with | some b=>b | none=>imgOf δ n:=by
 rw [imgOf,show δ.sync.ax=laidP δ.now δ.ax from rfl,laidP_get h.ax h.nodup h.keys I]
 cases J:lookL n δ.now with
 | some b=>rfl
 | none=>rfl
theorem jK.iQ (h:jK ba B0 u r1 r2 N δ): jK ba B0 u r1 r2 N δ.iQ.2:=by
 unfold Dk.iQ
 split
 ·exact h
 ·split
  ·exact h.die
  ·refine ⟨⟨h.cr.split,h.cr.rs,h.cr.log,h.cr.cert,h.cr.len,h.cr.gd,fun n w t t' I ht hw J => ?_,h.cr.eE⟩,h.tail,?_,fun k hk=>(by cases hk),kL,fun n b hb=>(by cases hb)⟩
   ·have Dr:Lr δ n:=⟨I.1,by have:=I.2; rw [show δ.c8.sync.ax=laidP δ.now δ.ax from rfl,ve] at this; exact this⟩
    have I:=I.1
    refine h.cr.oz n w t t' Dr ht hw (.inl ?_)
    have hq:w=imgOf δ.c8.sync n:=by
     rcases J with hq | ⟨wr,zy,_⟩
     ·exact hq
     ·cases zy
    rw [hq,h.c8.img I]
    cases hl:lookL n δ.c8.now with
    | none=>rfl
    | some b =>
     obtain ⟨r,lW,NZ⟩:=h.nw n b hl
     exact absurd ⟨r,List.mem_append.2 (.inl lW),NZ⟩ hw
   ·show (laidP δ.now δ.ax).length=N
    rw [ve]; exact h.ax
theorem jK.again {ρ:gu}: ∀ {l:List Int} {δ:Dk},l.Nodup→(∀k∈l,∀b,lookL k ρ.ax=some b→si r2 k)→jK ba B0 u r1 r2 N δ→jK ba B0 u r1 r2 N (againW ρ l δ).2 ∧
  ((againW ρ l δ).1=0→(∀n,n∈l→∀b,lookL n ρ.ax=some b→b7 b=true→n<N→lookL n (againW ρ l δ).2.now=some (cM b (od ρ n)))∧(∀n,n∉l→lookL n (againW ρ l δ).2.now=lookL n δ.now)):=by
 intro l
 induction l with
 | nil=>intro δ _ _ h; exact ⟨h,fun _=>⟨fun n I=>(by cases I),fun _ _=>rfl⟩⟩
 | cons k l ih =>
  intro δ ni hl h
  obtain ⟨d1,d2⟩:=List.nodup_cons.1 ni
  have rS:∀x∈l,∀b,lookL x ρ.ax=some b→si r2 x:=fun x hx=>hl x (bn _ hx)
  rw [againW]
  cases hq:lookL k ρ.ax with
  | none =>
   obtain ⟨i1,i2⟩:=ih d2 rS h
   refine ⟨i1,fun h0 => ?_⟩
   obtain ⟨j1,j2⟩:=i2 h0
   refine ⟨fun n I b J hg bF => ?_,fun n I=>j2 n (fun q=>I (bn _ q))⟩
   rcases List.mem_cons.1 I with rfl | I
   ·rw [hq] at J; cases J
   ·exact j1 n I b J hg bF
  | some b =>
   simp only
   have hN:=h.ax
   split
   ·rename_i hg
    obtain ⟨w1,w2⟩:=h.bK (k:=k) (b:=cM b (od ρ k)) (hl k bu b hq)
    split
    ·exact ⟨w1,fun q=>absurd q (by assumption)⟩
    ·rename_i dS
     obtain ⟨x1,x2,x3⟩:=w2 (Classical.not_not.1 dS)
     obtain ⟨i1,i2⟩:=ih d2 rS w1
     refine ⟨i1,fun h0 => ?_⟩
     obtain ⟨j1,j2⟩:=i2 h0
     refine ⟨fun n I b' J Qe bF => ?_,fun n I => ?_⟩
     ·rcases List.mem_cons.1 I with rfl | I
      ·rw [hq] at J
       rw [j2 n d1,x3,aj rfl,bk J]
      ·exact j1 n I b' J Qe bF
     ·simp only [fq,qU] at I
      rw [j2 n I.2,x3,ah (fun q=>I.1 q.symm)]
   ·rename_i hg
    obtain ⟨i1,i2⟩:=ih d2 rS h
    refine ⟨i1,fun h0 => ?_⟩
    obtain ⟨j1,j2⟩:=i2 h0
    refine ⟨fun n I b' J Qe bF => ?_,fun n I=>j2 n (fun q=>I (bn _ q))⟩
    rcases List.mem_cons.1 I with rfl | I
    ·rw [hq] at J
     rw [←bk J] at Qe
     exact absurd ⟨Qe,by omega⟩ hg
    ·exact j1 n I b' J Qe bF
theorem jK.eC (h:jK ba B0 u r1 r2 N δ)(hn:δ.now=[])(hw:δ.waiting=[]): jK ba B0 u r1 r2 N (eC δ ba u r1 r2).2∧((eC δ ba u r1 r2).1=0 →
  (eC δ ba u r1 r2).2.log=logB ba u∧(eC δ ba u r1 r2).2.now=[]∧(eC δ ba u r1 r2).2.waiting=[] ∧
  ∀n,0≤n→n<(N:Int)→jU (fO u B0 n) (imgOf (eC δ ba u r1 r2).2 n)∧gr (imgOf (eC δ ba u r1 r2).2 n)=0):=by
 have I:=Vu r2 (ba+szB r1) (fO r1 B0)
 have hS:fO r2 (fO r1 B0)=fO u B0:=by rw [h.cr.split,wS]
 rw [hS] at I
 have SL:∀r∈r2,r.Ok:=fun r hr=>h.cr.rs r (by rw [bR,h.cr.split]; exact List.mem_append.2 (.inr hr))
 have me:(redoL (ba+szB r1) r2 gu.none).Ok:=Cj Bj SL
 obtain ⟨o1,o2⟩:=h.cH
 obtain ⟨f1,f2,f3⟩:=DN (δ:=δ) (n:=szB u)
 unfold Am.eC
 split
 ·exact ⟨o1,fun q=>absurd q (by assumption)⟩
 ·rename_i h0
  have o2:=o2 (Classical.not_not.1 h0)
  generalize hρ:redoL (ba+szB r1) r2 gu.none=ρ at I me ⊢
  have ni:(bU ρ.ax).Nodup:=(fc _).nodup_iff.2 me.dup
  obtain ⟨a1,a2⟩:=o1.again (ρ:=ρ) ni (fun k _ b hb=>(I.some k b hb).2)
  have J:∀ {l:List Int} {δ:Dk},(againW ρ l δ).2.log=δ.log:=by
   intro l
   induction l with
   | nil=>intro δ; rfl
   | cons k l ih =>
    intro δ
    have Ot:∀b,(δ.bK k b).2.log=δ.log:=fun b=>by
     unfold Dk.bK
     split
     ·rfl
     ·split
      ·rfl
      ·split <;> rfl
    rw [againW]
    cases lookL k ρ.ax with
    | none=>exact ih
    | some b =>
     simp only
     split
     ·split
      ·exact Ot _
      ·rw [ih,Ot]
     ·exact ih
  have fin:∀uC,jK ba B0 u r1 r2 N uC→(againW ρ (bU ρ.ax) (δ.cH (szB u)).2).1=0→(∀n,0≤n→imgOf uC n=match lookL n (againW ρ (bU ρ.ax) (δ.cH (szB u)).2).2.now with | some b=>b | none=>imgOf (againW ρ (bU ρ.ax) (δ.cH (szB u)).2).2 n) →
    ∀n,0≤n→n<(N:Int)→jU (fO u B0 n) (imgOf uC n)∧gr (imgOf uC n)=0:=fun uC h1 hz hi n rO ux=>by
   obtain ⟨b1,b2⟩:=a2 hz
   rw [hi n rO]
   cases hl:lookL n ρ.ax with
   | some b =>
    obtain ⟨e1,e2⟩:=I.some n b hl
    obtain ⟨r,lW,c,yI,rQ,_⟩:=e2
    have hg:b7 b=true:=by
     rw [e1]
     exact h.cr.gd.gd u [] n (by simp) ⟨r,by rw [h.cr.split]; exact List.mem_append.2 (.inr lW),c,yI,rQ⟩
    have hb:∀x∈b,x<256:=by
     rw [e1]
     exact X4 (fun r hr=>h.cr.gd.lt r (by rw [bR]; exact hr)) h.cr.gd.X3 n
    have xh:n∈bU ρ.ax:=jJ.2 ((gU hl) |> sS (f:=(·.1)))
    rw [b1 n xh b hl hg ux]
    simp only
    rw [←e1]
    exact ⟨(I7 (eX hg)).symm,(FT hg hb).1⟩
   | none =>
    have hnw:=I.none n hl
    have uE:lookL n (againW ρ (bU ρ.ax) (δ.cH (szB u)).2).2.now=none:=by
     cases hq:lookL n (againW ρ (bU ρ.ax) (δ.cH (szB u)).2).2.now with
     | none=>rfl
     | some b=>exact absurd (a1.nw n b hq) hnw
    rw [uE]
    simp only
    have:=a1.cr.oz n _ [] [] ⟨rO,by rw [a1.ax]; exact ux⟩ rfl (by rw [bR]; exact hnw) (.inl rfl)
    rw [bR] at this
    exact this
  unfold mu
  split
  ·exact ⟨a1,fun q=>absurd q (by assumption)⟩
  ·rename_i hz
   have hz:=Classical.not_not.1 hz
   split
   ·rename_i hp
    have ek:bU ρ.ax=[]:=by rw [hp]; rfl
    have e:againW ρ (bU ρ.ax) (δ.cH (szB u)).2=(0,(δ.cH (szB u)).2):=by rw [ek]; rfl
    refine ⟨a1,fun _=>⟨by rw [J,o2],by rw [e]; show (δ.cH (szB u)).2.now=[]; rw [f2,hn],by rw [e]; show (δ.cH (szB u)).2.waiting=[]; rw [f1,hw],fin _ a1 hz fun n rO => ?_⟩⟩
    rw [e]
    show _=match lookL n (δ.cH (szB u)).2.now with | some b=>b | none=>_
    rw [f2,hn]
    rfl
   ·refine ⟨a1.iQ,fun hs => ?_⟩
    have es:(againW ρ (bU ρ.ax) (δ.cH (szB u)).2).2.iQ=(0,(againW ρ (bU ρ.ax) (δ.cH (szB u)).2).2.c8.sync):=by
     unfold Dk.iQ at hs ⊢
     split
     ·rename_i hd; rw [aj hd] at hs; cases hs
     ·rename_i hd
      rw [ah hd] at hs
      split
      ·rename_i hf; rw [aj hf] at hs; cases hs
      ·rfl
    have hsy:=a1.iQ
    rw [es] at hsy ⊢
    refine ⟨by show (againW ρ (bU ρ.ax) (δ.cH (szB u)).2).2.log=_; rw [J,o2],rfl,rfl,fin _ hsy hz fun n rO => ?_⟩
    rw [a1.c8.img rO]
    rfl
end
theorem Nd {ρ:gu}{R:Dk→Prop}(J:∀δ k b,R δ→R (δ.bK k b).2): ∀ {l:List Int} {δ:Dk},R δ→R (againW ρ l δ).2:=by
 intro l
 induction l with
 | nil=>intro δ h; exact h
 | cons k l I =>
  intro δ h
  rw [againW]
  cases lookL k ρ.ax with
  | none=>exact I h
  | some b =>
   simp only
   split
   ·split
    ·exact J _ _ _ h
    ·exact I (J _ _ _ h)
   ·exact I h
theorem An {R:Dk→Prop}{ba:Nat}{u r1 r2:List bZ}(I:∀δ n,R δ→R (δ.cH n).2)(J:∀δ k b,R δ→R (δ.bK k b).2)(h3:∀δ,R δ→R δ.iQ.2){δ:Dk}(h:R δ): R (eC δ ba u r1 r2).2:=by
 unfold eC mu
 split
 ·exact I _ _ h
 ·have:=Nd (ρ:=redoL (ba+szB r1) r2 gu.none) (l:=bU (redoL (ba+szB r1) r2 gu.none).ax) J (I δ (szB u) h)
  split
  ·exact this
  ·split
   ·exact this
   ·exact h3 _ this
theorem Dk.Ok.syn {δ:Dk}(h:δ.Ok): δ.iQ.2.Ok:=by
 unfold Dk.iQ
 split
 ·exact h
 ·split
  ·exact h.die
  ·have I:=h.c8
   refine ⟨I.aP,I.len,I.room,fun e he=>(by cases he),fun i b hb => ?_,I.bp,by show (laidP δ.now δ.ax).length≤_; rw [ve]; exact I.many⟩
   have key:∀ {l:List (Int×List Nat)} {m:List (Option (List Nat))},(∀e∈l,e.2.length=512)→(∀(i:Nat) (b:List Nat),m[i]?=some (some b)→b.length=512)→∀(i:Nat) (b:List Nat),(laidP l m)[i]?=some (some b)→b.length=512:=by
    intro l
    induction l with
    | nil=>intro m _ hm; exact hm
    | cons e l ih =>
     intro m J hm
     exact ih (fun x hx=>J x (bn _ hx)) (Lp hm (J e bu))
   exact key h.now h.ax i b hb
theorem Gf {δ:Dk}{n:Nat}: (δ.cH n).2.eE=δ.eE∧(δ.cH n).2.mark=δ.mark:=by
 have I:(δ.dG n).2.eE=δ.eE∧(δ.dG n).2.mark=δ.mark:=by
  unfold Dk.dG Dk.qq
  split
  ·split
   ·exact ⟨rfl,rfl⟩
   ·split
    ·exact ⟨rfl,rfl⟩
    ·split <;> exact ⟨rfl,rfl⟩
  ·exact ⟨rfl,rfl⟩
 unfold Dk.cH
 split
 ·exact I
 ·split
  ·unfold Dk.cK
   split
   ·exact I
   ·split <;> exact I
  ·exact I
theorem Qf {ba:Nat}{u r1 r2:List bZ}{δ:Dk}: (eC δ ba u r1 r2).2.mark=δ.mark:=by
 refine An (R:=fun x=>x.mark=δ.mark) (fun x n h=>Gf.2.trans h) (fun x k b h => ?_) (fun x h => ?_) rfl
 ·unfold Dk.bK
  split
  ·exact h
  ·split
   ·exact h
   ·split <;> exact h
 ·unfold Dk.iQ
  split
  ·exact h
  ·split <;> exact h
theorem SM {ba:Nat}{u r1 r2:List bZ}{δ:Dk}(h:δ.Ok): (eC δ ba u r1 r2).2.Ok :=
 An (R:=Dk.Ok) (fun _ _ h=>h.cH) (fun _ _ _ h=>h.bK) (fun _ h=>h.syn) h
theorem Qg {ba:Nat}{u r1 r2:List bZ}{δ:Dk}(ha:δ.aP<0)(I:δ.eE=none): (eC δ ba u r1 r2).2.eE=none:=by
 have J:∀ {x:Dk} {n:Nat},x.aP<0→(x.cH n).2.aP<0:=fun {x n} h=>by
  have I:(x.dG n).2.aP<0:=by
   unfold Dk.dG Dk.qq
   split
   ·split
    ·exact h
    ·split
     ·exact h
     ·split
      ·exact h
      ·show x.c8.aP<0; rw [j4 h]; exact h
   ·exact h
  unfold Dk.cH
  split
  ·exact I
  ·split
   ·unfold Dk.cK
    split
    ·exact I
    ·split
     ·exact I
     ·show (x.dG n).2.c8.aP<0; rw [j4 I]; exact I
   ·exact I
 refine (An (R:=fun x=>x.aP<0∧x.eE=none) (fun x n h=>⟨J h.1,Gf.1.trans h.2⟩) (fun x k b h => ?_) (fun x h => ?_) ⟨ha,I⟩).2
 ·unfold Dk.bK
  split
  ·exact h
  ·split
   ·exact h
   ·rw [ah (by have:=h.1; omega)]
    exact ⟨by show x.c8.aP<0; rw [j4 h.1]; exact h.1,h.2⟩
 ·unfold Dk.iQ
  split
  ·exact h
  ·rw [ah (by have:=h.1; omega)]
   exact ⟨by show x.c8.aP<0; rw [j4 h.1]; exact h.1,h.2⟩
theorem E9 {δ:Dk}{n:Int}(I:δ.now=[]): δ.at n=imgOf δ n:=by
 rw [Dk.at,I]; rfl
theorem jK.eng {ba aH N B f:Nat}{B0:Int→List Nat}{u r1 r2:List bZ}{δ:Dk}(h:jK ba B0 u r1 r2 N δ)(hn:δ.now=[])(hw:δ.waiting=[])(ht:δ.eE=none)(hl:Lv δ)(me:δ.Ok)(hf:1≤f)(Ld:f≤1024)(hB1:1≤B)(hB:B≤1000)(eZ:ba+szB u≤B*1048600)(M8:aH≤1099511627776):
  (Am.eC δ ba u r1 r2).1=0∧EI N B (Pl.fresh f,(iE ba aH u,(Am.eC δ ba u r1 r2).2))∧RS N ba aH δ.mark u B0 (fun _=>none) (Pl.fresh f,(iE ba aH u,(Am.eC δ ba u r1 r2).2)):=by
 have SL:∀r∈r2,r.Ok:=fun r hr=>h.cr.rs r (by rw [bR,h.cr.split]; exact List.mem_append.2 (.inr hr))
 obtain ⟨v1,v2⟩:=hl.eC (base:=ba) (rs:=u) (dw:=r1) SL
 obtain ⟨o1,o2⟩:=h.eC hn hw
 obtain ⟨p1,p2,p3,p4⟩:=o2 v1
 have q1:=SM (ba:=ba) (u:=u) (r1:=r1) (r2:=r2) me
 have q2:=Qf (ba:=ba) (u:=u) (r1:=r1) (r2:=r2) (δ:=δ)
 have q3:=Qg (ba:=ba) (u:=u) (r1:=r1) (r2:=r2) hl.aP ht
 refine ⟨v1,?_⟩
 generalize (Am.eC δ ba u r1 r2).2=I at *
 have F:=EI.fresh (n:=N) (m:=0) (f:=f) (by have:=q1.many; rw [o1.ax] at this; exact this) (by decide) hf Ld
 have hlen:(logB ba u).length=szB u:=f_
 have abl:szB u≤16777216:=by have:=q1.len; rw [p1,hlen] at this; exact this
 have ab0:szB u≤I.bp:=o1.cr.cert
 have hC:∀n b,¬kH (Pl.fresh f) n b:=fun n b ⟨i,x,hx,_,_,k2,_⟩=>by rw [qp hx] at k2; cases k2
 have z_:fJ (Pl.fresh f).ak≤1*65536:=by
  have:=F.cn
  simp only [Am.cn,Am.fresh] at this
  omega
 have kG:∀n,pgA (Pl.fresh f,(iE ba aH u,I)) n=imgOf I n:=fun n=>by rw [mJ (by rfl)]; exact E9 p2
 constructor
 ·refine ⟨⟨⟨F.ok.ok.pl,Ln (by omega) abl M8,q1⟩,F.ok.pins,F.ok.full⟩,⟨⟨v2.alive,v2.aP,o1.ax,fun k hk => ?_,?_,fun n h0 h1 => ?_⟩,F.ec.nodup,F.ec.mI,fun i x hx=>.inl ?_,F.ec.Ab,F.ec.FU⟩,⟨p1.symm,?_,?_⟩,?_⟩
  ·rw [p2] at hk; cases hk
  ·rw [p2]; exact kL
  ·show gr (I.at n)=0
   rw [E9 p2]; exact (p4 n h0 h1).2
  ·rw [qp hx]; decide
  ·show (logB ba u).length≤I.bp; omega
  ·show ba+(logB ba u).length≤_; omega
  ·show I.waiting.length+fJ (Pl.fresh f).ak≤_
   rw [p3]
   simp only [bT]
   omega
 ·refine ⟨⟨rfl,rfl,rfl,rfl,p1,v2.alive,v2.aP,q2,q3,o1.tail,fun w hw=>(by rw [p3] at hw; cases hw),fun r hr=>h.cr.rs r (by rw [bR]; exact hr)⟩,?_,fun n h0 h1 => ?_,?_⟩
  ·refine ⟨rfl,rfl,p1,v2.alive,v2.aP,⟨u,[],by rw [bR],hlen⟩,by show (logB ba u).length≤I.bp; omega,fun n w t t' h0 hu Al hr hc => ?_,fun n rec q=>(by cases q),fun n _ wr J=>(by rw [p3] at J; cases J),fun n b hb=>absurd hb (hC n b),fun n rec q=>(by cases q),fun n rec q=>(by cases q),fun n b hb=>(by rw [p2] at hb; cases hb),fun n rec fl q=>(by cases q),fun n rec q=>(by cases q),fun n w h0 hc => ?_,fun n q=>q.elim⟩
   ·have Al:(logB ba u).length≤szB t:=Al
    obtain ⟨w',e1,e2⟩:=DP (a:=u) (b:=[]) (u:=t) (v:=t') (by rw [bR]; exact hu) (by omega)
    obtain ⟨e3,_⟩:=List.append_eq_nil_iff.1 e2.symm
    rw [e3,bR] at e1
    subst e1
    have vl:w=imgOf I n:=by
     rcases hc with hc | ⟨wr,J,_⟩
     ·exact hc
     ·rw [p3] at J; cases J
    rw [vl]
    exact (p4 n h0.1 (by have:=h0.2; rw [o1.ax] at this; exact this)).1
   ·have vl:w=imgOf I n:=by
     rcases hc with hc | ⟨wr,J,_⟩
     ·exact hc
     ·rw [p3] at J; cases J
    rw [vl]
    by_cases hN:n<(N:Int)
    ·exact (p4 n h0 hN).2
    ·have:imgOf I n=List.replicate 512 0:=by
      have Cn:=o1.ax
      rw [imgOf,mU (by omega)]
     rw [this]; exact xT
  ·rw [kG]; exact (p4 n h0 h1).1
  ·have:=h.cr.gd
   rw [bR] at this
   exact this
end Go.Proofs.YtefepnnfphdkpaaGreat.Am
